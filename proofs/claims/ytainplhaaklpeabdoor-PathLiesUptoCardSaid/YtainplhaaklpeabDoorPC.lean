/-
  The order of paths: what the functions come to (plain Lean). Own work of this seat.
-/
import Derived.Test.YtainplhaaklpeabDoorGenC
import Derived.Test.YtainplhaaklpeabDoorP0
namespace Go.Proofs.YtainplhaaklpeabDoor
open Go.Abs

theorem p_isNaN (s : Bytes) : g.cmp_isNaN_string s = some false := by simp [g.cmp_isNaN_string]
theorem p_cmp (a b : Bytes) : g.cmp_Compare_string a b = some (cmpB a b) := by
  simp only [g.cmp_Compare_string, p_isNaN, Option.bind_some, cmpB]
  simp only [Bool.false_eq_true, if_false]
  split
  · rfl
  · split <;> rfl
theorem p_slCmp_l (k0 : Option Int) (m : List Bytes) : ∀ (rest : List Bytes) (k : Nat), (rest.length + k ≤ m.length → k0 = some (cmpL [] (m.drop (rest.length + k)))) → k ≤ m.length →
    L.slices_Compare_Lstring_string_l1 m k0 rest k = some (cmpL rest (m.drop k))
  | [], k, hk, hkm => by
    rw [L.slices_Compare_Lstring_string_l1, hk (by simpa using hkm)]; simp
  | a :: rest, k, hk, hkm => by
    rw [L.slices_Compare_Lstring_string_l1]
    by_cases h : m.length ≤ k
    · have hd : m.drop k = [] := List.drop_eq_nil_of_le h
      rw [if_pos (by omega), hd]; rfl
    · rw [if_neg (by omega), at?_some (by omega), Option.bind_some, p_cmp, Option.bind_some, drop_eq (show k < m.length by omega), cmpL]
      by_cases h0 : cmpB a (m[k]'(by omega)) = 0
      · rw [if_pos h0, if_pos h0]
        refine p_slCmp_l k0 m rest (k + 1) (fun h2 => ?_) (by omega)
        rw [hk (by simp; omega)]; congr 3; simp; omega
      · rw [if_neg h0, if_neg h0]
theorem p_slCmp (a b : List Bytes) (h : a.length ≤ Lim) : g.slices_Compare_Lstring_string a b = some (cmpL a b) := by
  rw [g.slices_Compare_Lstring_string, if_pos h]
  refine Eq.trans (p_slCmp_l _ b a 0 (fun h2 => ?_) (Nat.zero_le _)) (by simp)
  simp only [Nat.add_zero] at h2 ⊢
  by_cases hl : a.length < b.length
  · rw [if_pos (by omega), drop_eq hl]; rfl
  · rw [if_neg (by omega), List.drop_eq_nil_of_le (by omega)]; rfl
theorem p_psplit (s : Bytes) (h : s.length < 4294967281) : g.path_Split s = some (psplit s) := by
  unfold g.path_Split psplit
  split
  · rfl
  · simp [g.strings_Split, h]
theorem p_pcmp (a b : Bytes) (ha : a.length ≤ 100000000) (hb : b.length ≤ 100000000) : g.path_Compare a b = some (pcmp a b) := by
  have h1 := psplit_length a
  unfold g.path_Compare pcmp
  rw [p_psplit a (by omega), Option.bind_some, p_psplit b (by omega), Option.bind_some, p_slCmp _ _ (by unfold Lim; omega)]; rfl

/-! ## the document's -/
def addHead (cur : Bytes) : List Bytes → List Bytes
  | [] => [cur]
  | x :: xs => (cur ++ x) :: xs
theorem splitOn_cons_eq (c : UInt8) (r : Bytes) (cur : Bytes) : addHead cur (splitOn c (c :: r)) = cur :: splitOn c r := by simp [splitOn, addHead]
theorem splitOn_cons_ne {c b : UInt8} (h : b ≠ c) (r : Bytes) (cur : Bytes) : addHead cur (splitOn c (b :: r)) = addHead (cur ++ [b]) (splitOn c r) := by
  simp only [splitOn, if_neg h]
  cases h' : splitOn c r with
  | nil => exact absurd h' (splitOn_ne _ _)
  | cons x xs => simp [addHead]
theorem addHead_nil (l : List Bytes) (h : l ≠ []) : addHead [] l = l := by
  cases l with
  | nil => exact absurd rfl h
  | cons x xs => rfl
theorem take_snoc {α : Type} {l : List α} {i f : Nat} (h : i < l.length) (hf : f ≤ i) : (l.take (i + 1)).drop f = (l.take i).drop f ++ [l[i]] := by
  rw [List.take_add_one, List.getElem?_eq_getElem h, Option.toList_some, List.drop_append_of_le_length (by simp; omega)]

theorem p_parts_l (p : Bytes) (hp : p.length ≤ 1000000000) (k0 : List Bytes → Option (List Bytes)) : ∀ (n i f : Nat) (acc : List Bytes), p.length + 1 < n + i → i ≤ p.length + 1 → f ≤ i → acc.length ≤ i →
    (i ≤ p.length → L.seicheref06_Parts_l1 p k0 n acc f i = k0 (acc ++ addHead ((p.take i).drop f) (splitOn 47 (p.drop i)))) ∧ (i = p.length + 1 → L.seicheref06_Parts_l1 p k0 n acc f i = k0 acc)
  | 0, i, f, acc, hn, hi, _, _ => by omega
  | n + 1, i, f, acc, hn, hi, hf, ha => by
    have hw : wi ((i : Int) + 1) = ((i + 1 : Nat) : Int) := wi_succ (by omega)
    have hLim : acc.length + 1 ≤ Lim := by unfold Lim; omega
    refine ⟨fun hil => ?_, fun he => ?_⟩
    · have ih := fun f' acc' h1 h2 => p_parts_l p hp k0 n (i + 1) f' acc' (by omega) (by omega) h1 h2
      rw [L.seicheref06_Parts_l1, if_pos (by omega)]
      by_cases he : i = p.length
      · rw [if_pos (by omega)]
        simp only [L.seicheref06_Parts_j1]
        rw [cut_nat hf hil, Option.bind_some, appL_some (by simpa using hLim), Option.bind_some]
        simp only [hw]
        rw [(ih (i + 1) _ (Nat.le_refl _) (by simp; omega)).2 (by omega)]
        congr 2
        rw [List.drop_eq_nil_of_le (by omega : p.length ≤ i)]
        simp [splitOn, addHead]
      · have hlt : i < p.length := by omega
        rw [if_neg (by omega), at?_some hlt, Option.bind_some]
        by_cases hc : p[i] = 47
        · rw [if_pos hc]
          simp only [L.seicheref06_Parts_j1]
          rw [cut_nat hf hil, Option.bind_some, appL_some (by simpa using hLim), Option.bind_some]
          simp only [hw]
          rw [(ih (i + 1) _ (Nat.le_refl _) (by simp; omega)).1 (by omega)]
          congr 1
          rw [drop_eq hlt, hc, splitOn_cons_eq, List.append_assoc]
          congr 1
          rw [show (p.take (i + 1)).drop (i + 1) = [] from List.drop_eq_nil_of_le (by simp; omega), addHead_nil _ (splitOn_ne _ _)]; rfl
        · rw [if_neg hc, hw, (ih f acc (by omega) (by omega)).1 (by omega)]
          congr 2
          rw [drop_eq hlt, splitOn_cons_ne hc, take_snoc hlt hf]
    · rw [L.seicheref06_Parts_l1, if_neg (by omega)]
theorem p_parts (p : Bytes) (hp : p.length ≤ 1000000000) : g.seicheref06_Parts p = some (splitOn 47 p) := by
  unfold g.seicheref06_Parts
  have := (p_parts_l p hp (fun t => some t) fuel 0 0 [] (by unfold fuel; omega) (by omega) (Nat.le_refl _) (Nat.le_refl _)).1 (Nat.zero_le _)
  refine Eq.trans this ?_
  simp [addHead_nil _ (splitOn_ne _ _)]
theorem p_rsplit (p : Bytes) (hp : p.length ≤ 1000000000) : g.seicheref06_Split p = some (psplit p) := by
  unfold g.seicheref06_Split psplit
  split
  · rfl
  · rw [p_parts p hp]; rfl
theorem p_rcmp_l (a b : List Bytes) (k0 : Option Int) : ∀ (n k : Nat), a.length < n + k → k ≤ a.length → k ≤ b.length → a.length ≤ 1000000000 →
    (∀ j, (a.length ≤ j ∨ b.length ≤ j) → j ≤ a.length → j ≤ b.length → k0 = some (cmpL (a.drop j) (b.drop j))) → L.seicheref06_Compare_l1 a b k0 n k = some (cmpL (a.drop k) (b.drop k))
  | 0, k, hn, h1, h2, _, _ => by omega
  | n + 1, k, hn, h1, h2, hl, hk => by
    rw [L.seicheref06_Compare_l1]
    by_cases ha : k < a.length
    · rw [if_pos (by omega)]
      by_cases hb : k < b.length
      · rw [if_pos (by omega), at?_some ha, Option.bind_some, at?_some hb, Option.bind_some, drop_eq ha, drop_eq hb, cmpL]
        unfold cmpB
        cases hl1 : Op.bytesLess a[k] b[k]
        · cases hl2 : Op.bytesLess b[k] a[k]
          · simp only [Bool.false_eq_true, if_false, if_true]
            rw [wi_succ (by omega)]
            exact p_rcmp_l a b k0 n (k + 1) (by omega) (by omega) (by omega) hl hk
          · simp
        · simp
      · rw [if_neg (by omega)]; exact hk k (.inr (by omega)) h1 h2
    · rw [if_neg (by omega)]; exact hk k (.inl (by omega)) h1 h2
theorem p_rcmp (a b : Bytes) (ha : a.length ≤ 100000000) (hb : b.length ≤ 100000000) : g.seicheref06_Compare a b = some (pcmp a b) := by
  have h1 := psplit_length a
  unfold g.seicheref06_Compare
  rw [p_rsplit a (by omega), Option.bind_some, p_rsplit b (by omega), Option.bind_some]
  refine p_rcmp_l (psplit a) (psplit b) _ fuel 0 (by unfold fuel; omega) (Nat.zero_le _) (Nat.zero_le _) (by omega) fun j hj h2 h3 => ?_
  by_cases hlt : (psplit a).length < (psplit b).length
  · have hja : j = (psplit a).length := by omega
    rw [if_pos (by omega), List.drop_eq_nil_of_le (by omega : (psplit a).length ≤ j), drop_eq (show j < (psplit b).length by omega)]; rfl
  · rw [if_neg (by omega)]
    by_cases hgt : (psplit b).length < (psplit a).length
    · rw [if_pos (by omega), List.drop_eq_nil_of_le (by omega : (psplit b).length ≤ j), drop_eq (show j < (psplit a).length by omega)]; rfl
    · rw [if_neg (by omega), List.drop_eq_nil_of_le (by omega : (psplit a).length ≤ j), List.drop_eq_nil_of_le (by omega : (psplit b).length ≤ j)]; rfl
end Go.Proofs.YtainplhaaklpeabDoor
