/-
  Layer 06: what the functions on paths come to (plain Lean). Own work of this seat.
-/
import Derived.Test.YtainplhaaklpeabDoorGenP
import Derived.Test.YtainplhaaklpeabDoorPG
namespace Go.Proofs.YtainplhaaklpeabDoor
open Go.Abs

/-! ## parts and joins -/
theorem splitOn_app (c : UInt8) (b : Bytes) : ∀ a : Bytes, splitOn c (a ++ c :: b) = splitOn c a ++ splitOn c b
  | [] => by simp [splitOn]
  | x :: a => by
    have ih := splitOn_app c b a
    simp only [List.cons_append, splitOn]
    split
    · rw [ih]; rfl
    · rw [ih]
      cases h : splitOn c a with
      | nil => exact absurd h (splitOn_ne _ _)
      | cons y ys => rfl
def ne (l : List Bytes) : List Bytes := l.filter fun x => !x.isEmpty
theorem lib_join : ∀ l : List Bytes, Lib.join l [47] = joinOn 47 l
  | [] => rfl
  | [x] => by simp [Lib.join, List.intercalate, joinOn]
  | x :: y :: r => by
    have ih := lib_join (y :: r)
    simp only [Lib.join, List.intercalate] at ih ⊢
    rw [joinOn, ← ih]; simp [List.intersperse]
def sumL : List Bytes → Nat
  | [] => 0
  | x :: r => x.length + 1 + sumL r
theorem joinOn_length (c : UInt8) : ∀ l : List Bytes, (joinOn c l).length ≤ sumL l
  | [] => by simp [joinOn, sumL]
  | [x] => by simp [joinOn, sumL]
  | x :: y :: r => by
    have := joinOn_length c (y :: r)
    simp [joinOn, sumL] at this ⊢; omega
theorem sumL_filter (f : Bytes → Bool) : ∀ l : List Bytes, sumL (l.filter f) ≤ sumL l
  | [] => by simp
  | x :: r => by
    have := sumL_filter f r
    simp only [List.filter_cons]
    split <;> simp [sumL] <;> omega
theorem sumL_length : ∀ l : List Bytes, l.length ≤ sumL l
  | [] => by simp [sumL]
  | x :: r => by have := sumL_length r; simp [sumL]; omega
theorem sumL_app : ∀ a b : List Bytes, sumL (a ++ b) = sumL a + sumL b
  | [], b => by simp [sumL]
  | x :: r, b => by simp [sumL, sumL_app r b]; omega
theorem sumL_splitOn (c : UInt8) : ∀ s : Bytes, sumL (splitOn c s) = s.length + 1
  | [] => by simp [splitOn, sumL]
  | b :: r => by
    have ih := sumL_splitOn c r
    simp only [splitOn]
    split
    · simp [sumL, ih]; omega
    · split
      · rename_i h; exact absurd h (splitOn_ne _ _)
      · rename_i x xs h; rw [h] at ih; simp [sumL] at ih ⊢; omega
theorem sumL_psplit (s : Bytes) : sumL (psplit s) ≤ s.length + 1 := by
  unfold psplit; split
  · simp [sumL]
  · rw [sumL_splitOn]; omega
def joinP (l : List Bytes) : Bytes := joinOn 47 (ne l)
theorem joinP_length (l : List Bytes) : (joinP l).length ≤ sumL l := Nat.le_trans (joinOn_length _ _) (sumL_filter _ l)
theorem p_join (l : List Bytes) (h : sumL l ≤ 1000000000) : g.path_Join l = some (joinP l) := by
  have h1 := sumL_length l
  unfold g.path_Join joinP ne
  rw [lib_join]
  exact if_pos ⟨by omega, Nat.le_trans (joinP_length l) (by omega)⟩

theorem isEmpty_iff {x : Bytes} : x.isEmpty = true ↔ x = [] := by simp
theorem ne_cons_nil (r : List Bytes) : ne ([] :: r) = ne r := rfl
theorem ne_cons {x : Bytes} (h : x ≠ []) (r : List Bytes) : ne (x :: r) = x :: ne r := by
  unfold ne; rw [List.filter_cons_of_pos]; cases x <;> simp at h ⊢
theorem ne_all {l : List Bytes} (h : ∀ x ∈ l, x ≠ []) : ne l = l := by
  unfold ne; rw [List.filter_eq_self]; intro x hx; have := h x hx; cases x <;> simp at this ⊢
theorem joinOn_cons (c : UInt8) (x : Bytes) : ∀ l : List Bytes, l ≠ [] → joinOn c (x :: l) = x ++ c :: joinOn c l
  | [], h => absurd rfl h
  | y :: r, _ => rfl
/-! ## directories -/
def baseP (s : Bytes) : Bytes := match lastI 47 s with | some i => s.drop (i + 1) | none => s
theorem last_splitOn (c : UInt8) : ∀ s : Bytes, (splitOn c s).getLast? = some (match lastI c s with | some i => s.drop (i + 1) | none => s)
  | [] => rfl
  | b :: r => by
    have ih := last_splitOn c r
    have hne := splitOn_ne c r
    simp only [splitOn, lastI]
    split
    · rename_i h
      rw [List.getLast?_cons]
      cases hl : lastI c r with
      | none => rw [hl] at ih; simp [ih, h]
      | some i => rw [hl] at ih; simp [ih]
    · rename_i h
      split
      · rename_i h'; exact absurd h' hne
      · rename_i x xs h'
        cases hl : lastI c r with
        | none =>
          have h1 : (splitOn c r).length = 1 := splitOn_one.2 (lastI_none.1 hl)
          rw [h'] at h1 ih
          have hx : xs = [] := by simpa using h1
          subst hx
          rw [hl] at ih
          simp at ih
          simp [ih, h]
        | some i =>
          have hx : xs ≠ [] := by
            rintro rfl
            have h1 : (splitOn c r).length = 1 := by rw [h']; rfl
            have := splitOn_one.1 h1
            exact this (List.mem_of_getElem? (lastI_lt hl).2)
          rw [h', hl] at ih
          obtain ⟨y, ys, rfl⟩ := List.exists_cons_of_ne_nil hx
          rw [List.getLast?_cons_cons] at ih ⊢
          simpa using ih
/-! ## what lies under a directory -/
def underP (d p : Bytes) : Option Bytes := if d = [] then (if p = [] then none else some p) else if p.take (d.length + 1) = d ++ [47] ∧ p.drop (d.length + 1) ≠ [] then some (p.drop (d.length + 1)) else none
theorem p_cut (s q : Bytes) : g.strings_CutPrefix s q = some (if s.take q.length = q then (s.drop q.length, true) else (s, false)) := by
  unfold g.strings_CutPrefix g.internal_stringslite_CutPrefix g.internal_stringslite_HasPrefix
  by_cases h : q.length ≤ s.length
  · rw [if_pos (by omega), show (0 : Int) = ((0 : Nat) : Int) from rfl, cut_nat (Nat.zero_le _) h]
    simp only [Option.bind_some, List.drop_zero, decide_eq_true_eq]
    by_cases h1 : s.take q.length = q
    · rw [if_pos h1, if_pos h1, cut_nat h (Nat.le_refl _)]; simp
    · rw [if_neg h1, if_neg h1]; rfl
  · rw [if_neg (by omega)]
    have : ¬ s.take q.length = q := fun h1 => by have := congrArg List.length h1; simp at this; omega
    simp [this]
theorem p_under (d p : Bytes) (hd : d.length ≤ 1000000000) : ∃ x, g.path_Under d p = some (x, (underP d p).isSome) ∧ ∀ y, underP d p = some y → x = y := by
  unfold g.path_Under underP
  by_cases h : d = []
  · rw [if_pos h, if_pos h]
    by_cases hp : p = []
    · exact ⟨p, by simp [hp], by simp [hp]⟩
    · exact ⟨p, by simp [hp], by simp [hp]⟩
  · rw [if_neg h, if_neg h, cat_some (by simp; omega), Option.bind_some, p_cut, Option.bind_some]
    have hl : (d ++ [47]).length = d.length + 1 := by simp
    rw [hl]
    by_cases h1 : p.take (d.length + 1) = d ++ [47]
    · rw [if_pos h1, if_pos rfl]
      by_cases h2 : p.drop (d.length + 1) = []
      · exact ⟨p.drop (d.length + 1), by simp [h2], by simp [h2]⟩
      · refine ⟨p.drop (d.length + 1), by rw [if_pos ⟨h1, h2⟩]; simp only [Option.isSome_some, h2, decide_false, Bool.not_false], fun y hy => ?_⟩
        rw [if_pos ⟨h1, h2⟩] at hy; exact Option.some.inj hy
    · rw [if_neg h1]
      simp only [Bool.false_eq_true, if_false]
      exact ⟨p, by rw [if_neg (fun h => h1 h.1)]; rfl, fun y hy => by rw [if_neg (fun h => h1 h.1)] at hy; cases hy⟩
/-! ## where a way leads -/
def stepsP : List Bytes → List Bytes → Option (List Bytes)
  | [], at_ => some at_
  | s :: r, at_ => if s = [] then stepsP r at_ else if s = [46] then stepsP r at_ else if s = [46, 46] then (if at_ = [] then none else stepsP r at_.dropLast) else if partB s then stepsP r (at_ ++ [s]) else none
def fromP (dir way : Bytes) : Bytes × Bool :=
  match stepsP (splitOn 47 way) (psplit dir) with
  | none => ([], false)
  | some l => (joinP l, if joinP l = [] then true else goodP (joinP l))
theorem sumL_dropLast : ∀ l : List Bytes, sumL l.dropLast ≤ sumL l
  | [] => by simp
  | [x] => by simp [sumL]
  | x :: y :: r => by have := sumL_dropLast (y :: r); simp only [List.dropLast_cons_cons, sumL] at this ⊢; omega
theorem cut_dropLast {l : List Bytes} (h : l ≠ []) (hl : l.length ≤ 1000000000) : cut l 0 (wi (((l.length : Nat) : Int) - 1)) = some l.dropLast := by
  have h0 : 0 < l.length := List.length_pos_iff.2 h
  rw [wi_of (by omega) (by omega), show ((l.length : Nat) : Int) - 1 = ((l.length - 1 : Nat) : Int) by omega, show (0 : Int) = ((0 : Nat) : Int) from rfl, cut_nat (Nat.zero_le _) (by omega), List.drop_zero, List.dropLast_eq_take]
theorem p_from_l {k0 : List Bytes → Option (Bytes × Bool)} {F : List Bytes → Bytes × Bool} : ∀ (r at_ : List Bytes), (∀ l, sumL l ≤ sumL at_ + sumL r → k0 l = some (F l)) → sumL at_ + sumL r ≤ 1000000000 →
    L.path_From_l1 k0 r at_ = some (match stepsP r at_ with | none => ([], false) | some l => F l)
  | [], at_, hk, _ => by rw [L.path_From_l1, hk _ (by simp [sumL])]; rfl
  | s :: r, at_, hk, h => by
    simp only [sumL] at h
    have hl := sumL_length at_
    rw [L.path_From_l1, stepsP]
    have hk' : ∀ at' : List Bytes, sumL at' ≤ sumL at_ + s.length + 1 → ∀ l, sumL l ≤ sumL at' + sumL r → k0 l = some (F l) := fun at' h1 l h2 => hk l (by simp only [sumL]; omega)
    by_cases h0 : s = []
    · rw [if_pos h0, if_pos h0]; exact p_from_l r at_ (hk' at_ (by omega)) (by omega)
    · rw [if_neg h0, if_neg h0]
      by_cases h1 : s = [46]
      · rw [if_pos h1, if_pos h1]; exact p_from_l r at_ (hk' at_ (by omega)) (by omega)
      · rw [if_neg h1, if_neg h1]
        by_cases h2 : s = [46, 46]
        · rw [if_pos h2, if_pos h2]
          by_cases h3 : at_ = []
          · rw [if_pos (by simp [h3]), if_pos h3]
          · have h4 := sumL_dropLast at_
            rw [if_neg (by have := List.length_pos_iff.2 h3; omega), if_neg h3, cut_dropLast h3 (by omega), Option.bind_some]
            exact p_from_l r _ (hk' _ (by omega)) (by omega)
        · rw [if_neg h2, if_neg h2, p_part s (by omega), Option.bind_some]
          cases hp : partB s
          · rfl
          · have h5 : sumL (at_ ++ [s]) = sumL at_ + s.length + 1 := by rw [sumL_app]; simp [sumL]; omega
            rw [if_pos rfl, if_pos rfl, show (0 : Int) = ((0 : Nat) : Int) from rfl, cut_nat (Nat.zero_le _) (Nat.le_refl _), Option.bind_some, List.drop_zero, List.take_length, appL_some (by unfold Lim; simp; omega), Option.bind_some]
            exact p_from_l r _ (hk' _ (by omega)) (by omega)
theorem p_from (dir way : Bytes) (h : dir.length + way.length ≤ 100000000) : g.path_From dir way = some (fromP dir way) := by
  have h1 := sumL_psplit dir
  have h2 := sumL_splitOn 47 way
  have h3 := sumL_length (splitOn 47 way)
  unfold g.path_From fromP
  have hS : g.strings_Split way [47] = some (splitOn 47 way) := by simp [g.strings_Split]; omega
  rw [p_psplit dir (by omega), Option.bind_some, hS, Option.bind_some, if_pos (by unfold Lim; omega),
    p_from_l (F := fun l => (joinP l, if joinP l = [] then true else goodP (joinP l))) _ _ (fun l hl => ?_) (by omega)]
  have h4 := joinP_length l
  rw [p_join l (by omega), Option.bind_some]
  split
  · rfl
  · rw [p_good _ (by omega)]; rfl
theorem p_alive06 : g.seichelaw06_alive = some true := by
  unfold g.seichelaw06_alive
  rw [p_from _ _ (by decide), Option.bind_some, p_from _ _ (by decide), Option.bind_some, p_good _ (by decide), p_good _ (by decide)]
  decide

/-! ## good paths -/
theorem good_parts {p : Bytes} (h : goodP p = true) : ∀ x ∈ splitOn 47 p, partB x = true := by
  simp only [goodP, Bool.and_eq_true] at h
  exact fun x hx => List.all_eq_true.1 h.2 x hx
theorem part_ne {s : Bytes} (h : partB s = true) : s ≠ [] := by rintro rfl; simp [partB] at h
theorem good_ne {p : Bytes} (h : goodP p = true) : p ≠ [] := by rintro rfl; simp [goodP, splitOn, partB] at h
theorem ne_split {p : Bytes} (h : goodP p = true) : ne (splitOn 47 p) = splitOn 47 p := ne_all fun x hx => part_ne (good_parts h x hx)
theorem good_psplit {p : Bytes} (h : p = [] ∨ goodP p = true) : ∀ x ∈ psplit p, partB x = true := by
  rcases h with rfl | h
  · intro x hx; simp [psplit] at hx
  · rw [psplit_nonempty (good_ne h)]; exact good_parts h
theorem steps_good : ∀ (l at_ : List Bytes), (∀ x ∈ l, partB x = true) → stepsP l at_ = some (at_ ++ l)
  | [], at_, _ => by simp [stepsP]
  | s :: r, at_, h => by
    have hs := h s (by simp)
    have h0 : s ≠ [] := part_ne hs
    have h1 : s ≠ [46] := by rintro rfl; simp [partB] at hs
    have h2 : s ≠ [46, 46] := by rintro rfl; simp [partB] at hs
    rw [stepsP, if_neg h0, if_neg h1, if_neg h2, if_pos hs, steps_good r _ fun x hx => h x (by simp [hx])]; simp
theorem joinOn_app (c : UInt8) : ∀ a b : List Bytes, a ≠ [] → b ≠ [] → joinOn c (a ++ b) = joinOn c a ++ c :: joinOn c b
  | [], _, h, _ => absurd rfl h
  | [x], b, _, hb => by rw [List.singleton_append, joinOn_cons _ _ _ hb]; rfl
  | x :: y :: r, b, _, hb => by
    have := joinOn_app c (y :: r) b (by simp) hb
    rw [List.cons_append, joinOn_cons _ _ _ (by simp), this]
    simp [joinOn]
/-- two that are joined -/
theorem joinP_two (d w : Bytes) (hw : w ≠ []) : joinP [d, w] = if d = [] then w else d ++ 47 :: w := by
  unfold joinP
  split
  · rename_i h; subst h; rw [ne_cons_nil, ne_cons hw]; rfl
  · rename_i h; rw [ne_cons h, ne_cons hw]; rfl
theorem from_good {d w : Bytes} (hd : d = [] ∨ goodP d = true) (hw : goodP w = true) : fromP d w = (joinP [d, w], goodP (joinP [d, w])) := by
  have hwn := good_ne hw
  unfold fromP
  rw [steps_good _ _ (good_parts hw)]
  have hp := good_psplit hd
  have e : joinP (psplit d ++ splitOn 47 w) = joinP [d, w] := by
    rw [joinP_two d w hwn]
    unfold joinP
    rw [ne_all fun x hx => by rcases List.mem_append.1 hx with h | h
                              · exact part_ne (hp x h)
                              · exact part_ne (good_parts hw x h)]
    split
    · rename_i h; subst h; simp [psplit, join_splitOn]
    · rename_i h
      rw [psplit_nonempty h, joinOn_app _ _ _ (splitOn_ne _ _) (splitOn_ne _ _), join_splitOn, join_splitOn]
  have hne : joinP [d, w] ≠ [] := by
    rw [joinP_two d w hwn]; split
    · exact hwn
    · simp
  simp only [e, if_neg hne]
/-- a path is its directory and its last part -/
theorem dir_base {p : Bytes} (h : goodP p = true) : joinP [dirP p, baseP p] = p ∧ underP (dirP p) p = some (baseP p) := by
  have hpn := good_ne h
  unfold dirP baseP
  cases hl : lastI 47 p with
  | none =>
    simp only
    exact ⟨by rw [joinP_two _ _ hpn, if_pos rfl], by simp [underP, hpn]⟩
  | some i =>
    obtain ⟨h1, h2⟩ := lastI_lt hl
    have hi : i ≠ 0 := by rintro rfl; exact good_head h h2
    have h3 : p[i] = 47 := (List.getElem?_eq_some_iff.1 h2).2
    have hsplit : p = p.take i ++ 47 :: p.drop (i + 1) := by
      have := List.take_append_drop i p
      rw [List.drop_eq_getElem_cons h1, h3] at this; exact this.symm
    have hb : p.drop (i + 1) ≠ [] := by
      have := last_splitOn 47 p
      rw [hl] at this
      have hm := List.mem_of_getLast? this
      exact part_ne (good_parts h _ hm)
    have ht : p.take i ≠ [] := fun e => by have := congrArg List.length e; rw [List.length_take, List.length_nil] at this; omega
    have hlen : (p.take i).length = i := by simp; omega
    simp only
    refine ⟨by rw [joinP_two _ _ hb, if_neg ht]; exact hsplit.symm, ?_⟩
    unfold underP
    rw [if_neg ht, hlen, if_pos ⟨by rw [List.take_add_one, List.getElem?_eq_getElem h1, h3, Option.toList_some], hb⟩]
theorem join_under {d p x : Bytes} (h : underP d p = some x) : joinP [d, x] = p ∧ x ≠ [] := by
  unfold underP at h
  split at h
  · rename_i hd
    split at h
    · cases h
    · rename_i hp; cases h
      exact ⟨by rw [joinP_two _ _ hp, if_pos hd], hp⟩
  · rename_i hd
    split at h
    · rename_i hc; cases h
      refine ⟨?_, hc.2⟩
      rw [joinP_two _ _ hc.2, if_neg hd]
      have := List.take_append_drop (d.length + 1) p
      rw [hc.1] at this
      simpa using this
    · cases h
theorem under_join {d w : Bytes} (hd : d ≠ []) (hw : w ≠ []) : underP d (d ++ 47 :: w) = some w := by
  unfold underP
  have e1 : (d ++ 47 :: w).take (d.length + 1) = d ++ [47] := by
    rw [show d ++ 47 :: w = (d ++ [47]) ++ w by simp, List.take_left' (by simp)]
  have e2 : (d ++ 47 :: w).drop (d.length + 1) = w := by
    rw [show d ++ 47 :: w = (d ++ [47]) ++ w by simp, List.drop_left' (by simp)]
  rw [if_neg hd, if_pos ⟨e1, by rw [e2]; exact hw⟩, e2]
end Go.Proofs.YtainplhaaklpeabDoor
