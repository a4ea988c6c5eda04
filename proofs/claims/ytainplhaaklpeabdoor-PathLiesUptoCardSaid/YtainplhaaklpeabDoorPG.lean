/-
  What a path is; its directory: what the functions come to (plain Lean). Own work of this seat.
-/
import Derived.Test.YtainplhaaklpeabDoorGenG
import Derived.Test.YtainplhaaklpeabDoorPC
namespace Go.Proofs.YtainplhaaklpeabDoor
open Go.Abs

/-! ## good paths -/
def partB (s : Bytes) : Bool := !decide (s = []) && !decide (s = [46]) && !decide (s = [46, 46]) && !decide ((0 : UInt8) ∈ s) && !decide ((47 : UInt8) ∈ s)
def goodP (p : Bytes) : Bool := decide (p.length ≤ 128) && decide ((splitOn 47 p).length ≤ 16) && (splitOn 47 p).all partB
theorem p_part (s : Bytes) (h : s.length < 4294967281) : g.path_part s = some (partB s) := by
  have h0 : g.strings_Contains s [0] = some (decide ((0 : UInt8) ∈ s)) := by simp [g.strings_Contains, h]
  have h1 : g.strings_Contains s [47] = some (decide ((47 : UInt8) ∈ s)) := by simp [g.strings_Contains, h]
  unfold g.path_part partB
  rw [h0, h1]
  by_cases c1 : s = [] <;> by_cases c2 : s = [46] <;> by_cases c3 : s = [46, 46] <;> by_cases c4 : (0 : UInt8) ∈ s <;> simp [c1, c2, c3, c4]
theorem splitOn_mem_length (c : UInt8) : ∀ {s x : Bytes}, x ∈ splitOn c s → x.length ≤ s.length
  | [], x, h => by simp [splitOn] at h; simp [h]
  | b :: r, x, h => by
    simp only [splitOn] at h
    split at h
    · rcases List.mem_cons.1 h with rfl | h
      · simp
      · have := splitOn_mem_length c h; simp; omega
    · split at h
      · rename_i h'; exact absurd h' (splitOn_ne _ _)
      · rename_i y ys h'
        rcases List.mem_cons.1 h with rfl | h
        · have := splitOn_mem_length c (x := y) (s := r) (by rw [h']; simp); simp; omega
        · have := splitOn_mem_length c (x := x) (s := r) (by rw [h']; simp [h]); simp; omega
theorem p_idxF (l : List Bytes) (hs : ∀ x ∈ l, x.length < 4294967281) : ∀ (k : Nat), ∃ z, L.slices_IndexFunc_Lstring_string_path_Good_1_l1 (some (-1)) l k = some z ∧ (0 ≤ z ↔ l.all partB = false) := by
  induction l with
  | nil => intro k; exact ⟨-1, rfl, by simp⟩
  | cons a r ih =>
    intro k
    rw [L.slices_IndexFunc_Lstring_string_path_Good_1_l1, g.path_Good_1, p_part a (hs a (by simp))]
    cases h : partB a
    · exact ⟨k, rfl, by simp [h]⟩
    · obtain ⟨z, h1, h2⟩ := ih (fun x hx => hs x (by simp [hx])) (k + 1)
      exact ⟨z, by simpa using h1, by simp [h, h2]⟩
theorem p_good (p : Bytes) (h : p.length < 4294967281) : g.path_Good p = some (goodP p) := by
  unfold g.path_Good goodP
  by_cases h1 : 128 < p.length
  · rw [if_pos (by omega)]; simp; omega
  · rw [if_neg (by omega)]
    have hS : g.strings_Split p [47] = some (splitOn 47 p) := by simp [g.strings_Split, h]
    rw [hS, Option.bind_some]
    by_cases h2 : (splitOn 47 p).length ≤ 16
    · rw [if_pos (by omega), g.slices_ContainsFunc_Lstring_string_path_Good_1, g.slices_IndexFunc_Lstring_string_path_Good_1, if_pos (by unfold Lim; omega)]
      obtain ⟨z, h3, h4⟩ := p_idxF (splitOn 47 p) (fun x hx => by have := splitOn_mem_length 47 hx; omega) 0
      rw [h3]
      simp only [Option.bind_some]
      have : decide (p.length ≤ 128) = true := by simp; omega
      rw [this, decide_eq_true h2]
      cases ha : (splitOn 47 p).all partB
      · rw [decide_eq_true (h4.2 ha)]; rfl
      · rw [decide_eq_false (by rw [h4, ha]; simp)]; rfl
    · rw [if_neg (by omega), decide_eq_false h2]; simp

theorem p_rpart_l (s : Bytes) (hs : s.length ≤ 1000000000) (k0 : Option Bool) : ∀ (n k : Nat), s.length < n + k → k ≤ s.length →
    L.seicheref06_Part_l1 s k0 n k = if (s.drop k).all (fun b => !decide (b = 0) && !decide (b = 47)) then k0 else some false
  | 0, k, hn, hk => by omega
  | n + 1, k, hn, hk => by
    rw [L.seicheref06_Part_l1]
    by_cases h : k < s.length
    · rw [if_pos (by omega), at?_some h, Option.bind_some, drop_eq h, wi_succ (by omega)]
      by_cases h0 : s[k] = 0
      · rw [if_pos h0]; simp [h0]
      · by_cases h1 : s[k] = 47
        · rw [if_neg h0, if_pos h1]; simp [h1]
        · rw [if_neg h0, if_neg h1, p_rpart_l s hs k0 n (k + 1) (by omega) (by omega), List.all_cons, decide_eq_false h0, decide_eq_false h1]; rfl
    · rw [if_neg (by omega), List.drop_eq_nil_of_le (by omega)]; rfl
theorem p_rpart (s : Bytes) (hs : s.length ≤ 1000000000) : g.seicheref06_Part s = some (partB s) := by
  unfold g.seicheref06_Part
  refine Eq.trans (p_rpart_l s hs _ fuel 0 (by unfold fuel; omega) (Nat.zero_le _)) ?_
  rw [List.drop_zero]
  have e : (s.all fun b => !decide (b = 0) && !decide (b = 47)) = (!decide ((0 : UInt8) ∈ s) && !decide ((47 : UInt8) ∈ s)) := by
    rw [Bool.eq_iff_iff]
    simp only [List.all_eq_true, Bool.and_eq_true, Bool.not_eq_true', decide_eq_false_iff_not]
    exact ⟨fun h => ⟨fun h0 => (h _ h0).1 rfl, fun h1 => (h _ h1).2 rfl⟩, fun h b hb => ⟨fun e => h.1 (e ▸ hb), fun e => h.2 (e ▸ hb)⟩⟩
  rw [e]
  unfold partB
  by_cases c1 : s = [] <;> by_cases c2 : s = [46] <;> by_cases c3 : s = [46, 46] <;> by_cases c4 : (0 : UInt8) ∈ s <;> by_cases c5 : (47 : UInt8) ∈ s <;> simp [c1, c2, c3, c4, c5]
theorem p_rgood_l (k0 : Option Bool) : ∀ (l : List Bytes), (∀ x ∈ l, x.length ≤ 1000000000) → L.seicheref06_Good_l1 k0 l = if l.all partB then k0 else some false
  | [], _ => rfl
  | a :: r, h => by
    rw [L.seicheref06_Good_l1, p_rpart a (h a (by simp)), Option.bind_some, p_rgood_l k0 r fun x hx => h x (by simp [hx]), List.all_cons]
    cases partB a <;> rfl
theorem p_rgood (p : Bytes) (h : p.length ≤ 1000000000) : g.seicheref06_Good p = some (goodP p) := by
  have hl := splitOn_length 47 p
  unfold g.seicheref06_Good goodP
  rw [p_parts p h, Option.bind_some, if_pos (by unfold Lim; omega), p_rgood_l _ _ fun x hx => by have := splitOn_mem_length 47 hx; omega]
  cases (splitOn 47 p).all partB
  · simp
  · by_cases h1 : p.length ≤ 128
    · rw [if_pos rfl, if_pos (by omega)]
      by_cases h2 : (splitOn 47 p).length ≤ 16
      · simp [h1, h2]; omega
      · simp [h1, h2]; omega
    · rw [if_pos rfl, if_neg (by omega)]; simp [h1]

/-! ## the last one of a byte -/
/-- the number of bytes ahead of the last c; none: there is no c -/
def lastI (c : UInt8) : Bytes → Option Nat
  | [] => none
  | b :: r => match lastI c r with
    | some i => some (i + 1)
    | none => if b = c then some 0 else none
theorem lastI_lt {c : UInt8} : ∀ {s : Bytes} {i : Nat}, lastI c s = some i → i < s.length ∧ s[i]? = some c
  | [], i, h => by simp [lastI] at h
  | b :: r, i, h => by
    simp only [lastI] at h
    split at h
    · rename_i j hj
      cases h
      obtain ⟨h1, h2⟩ := lastI_lt hj
      exact ⟨by simp; omega, by simpa using h2⟩
    · split at h
      · cases h; rename_i hb; exact ⟨by simp, by simp [hb]⟩
      · cases h
theorem lastI_none {c : UInt8} : ∀ {s : Bytes}, lastI c s = none ↔ c ∉ s
  | [] => by simp [lastI]
  | b :: r => by
    have ih := lastI_none (c := c) (s := r)
    simp only [lastI]
    split
    · rename_i i hi
      have : c ∈ r := Classical.not_not.1 fun h => by rw [ih.2 h] at hi; cases hi
      simp [this]
    · rename_i hn
      have hr := ih.1 hn
      split
      · rename_i hb; simp [hb]
      · rename_i hb; simp [hr, Ne.symm hb]
theorem lastI_snoc (c : UInt8) (b : UInt8) : ∀ s : Bytes, lastI c (s ++ [b]) = if b = c then some s.length else lastI c s
  | [] => by simp [lastI]
  | x :: r => by
    simp only [List.cons_append, lastI, lastI_snoc c b r]
    by_cases h : b = c
    · simp [h]
    · simp [h]
theorem take_lastI (c : UInt8) (s : Bytes) {k : Nat} (h : k < s.length) : lastI c (s.take (k + 1)) = if s[k] = c then some k else lastI c (s.take k) := by
  rw [List.take_add_one, List.getElem?_eq_getElem h, Option.toList_some, lastI_snoc]
  simp [Nat.min_eq_left (Nat.le_of_lt h)]
def lastZ (c : UInt8) (s : Bytes) : Int := match lastI c s with | some i => i | none => -1
theorem p_last_l (s : Bytes) (c : UInt8) (hs : s.length ≤ 1000000000) : ∀ (n k : Nat), k < n → k ≤ s.length → L.internal_bytealg_LastIndexByteString_l1 s c (some (-1)) n ((k : Int) - 1) = some (lastZ c (s.take k))
  | 0, k, hn, _ => by omega
  | n + 1, 0, _, _ => by
    rw [L.internal_bytealg_LastIndexByteString_l1, if_neg (by omega)]; rfl
  | n + 1, k + 1, hn, hk => by
    have e : ((k + 1 : Nat) : Int) - 1 = k := by omega
    have hlt : k < s.length := by omega
    rw [e, L.internal_bytealg_LastIndexByteString_l1, if_pos (by omega), at?_some hlt, Option.bind_some, wi_of (by omega) (by omega), p_last_l s c hs n k (by omega) (by omega)]
    unfold lastZ
    rw [take_lastI c s hlt]
    by_cases h : s[k] = c
    · rw [if_pos h, if_pos h]
    · rw [if_neg h, if_neg h]
theorem p_last (s : Bytes) (c : UInt8) (hs : s.length ≤ 1000000000) : g.strings_LastIndexByte s c = some (lastZ c s) := by
  unfold g.strings_LastIndexByte g.internal_bytealg_LastIndexByteString
  rw [wi_of (by omega) (by omega), p_last_l s c hs fuel s.length (by unfold fuel; omega) (Nat.le_refl _), List.take_length]; rfl
def dirP (s : Bytes) : Bytes := match lastI 47 s with | some i => s.take i | none => []
theorem p_dir (s : Bytes) (hs : s.length ≤ 1000000000) : g.path_Dir s = some (dirP s) := by
  unfold g.path_Dir dirP
  rw [p_last s 47 hs, Option.bind_some]
  unfold lastZ imax
  cases h : lastI 47 s with
  | none =>
    rw [if_pos (by decide), show (0 : Int) = ((0 : Nat) : Int) from rfl, cut_nat (Nat.le_refl _) (Nat.zero_le _)]; simp
  | some i =>
    have := (lastI_lt h).1
    simp only
    rw [if_neg (by omega), show (0 : Int) = ((0 : Nat) : Int) from rfl, cut_nat (Nat.zero_le _) (by omega)]; simp
/-- a path of one part -/
theorem splitOn_one {c : UInt8} : ∀ {s : Bytes}, (splitOn c s).length = 1 ↔ c ∉ s
  | [] => by simp [splitOn]
  | b :: r => by
    have ih := splitOn_one (c := c) (s := r)
    simp only [splitOn]
    split
    · rename_i h
      have := splitOn_ne c r
      simp [h]
      exact this
    · rename_i h
      split
      · rename_i h'; exact absurd h' (splitOn_ne _ _)
      · rename_i x xs h'
        rw [h'] at ih
        simp only [List.length_cons] at ih ⊢
        rw [ih]; simp [Ne.symm h]
theorem good_head {p : Bytes} (h : goodP p = true) : p[0]? ≠ some 47 := by
  intro h0
  cases p with
  | nil => simp at h0
  | cons b r =>
    simp at h0; subst h0
    simp [goodP, splitOn, partB] at h
theorem dir_one {p : Bytes} (h : goodP p = true) : dirP p = [] ↔ (splitOn 47 p).length = 1 := by
  rw [splitOn_one]
  unfold dirP
  cases hl : lastI 47 p with
  | none => simp [lastI_none.1 hl]
  | some i =>
    obtain ⟨h1, h2⟩ := lastI_lt hl
    have hm : (47 : UInt8) ∈ p := List.mem_of_getElem? h2
    have hi : i ≠ 0 := by rintro rfl; exact good_head h h2
    have hne : p ≠ [] := by rintro rfl; simp at hm
    simp [hm, hi, hne]
end Go.Proofs.YtainplhaaklpeabDoor
