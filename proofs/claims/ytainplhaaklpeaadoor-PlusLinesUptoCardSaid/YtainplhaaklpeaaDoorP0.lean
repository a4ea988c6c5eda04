/-
  Texts, paths and their order: plain Lean, no program. Own work of this seat.
-/
import Derived.Test.YtainplhaaklpeaaDoorL1
namespace Go.Proofs.YtainplhaaklpeaaDoor
open Go.Abs

/-! ## texts in their order -/
def cmpB (a b : Bytes) : Int := if Op.bytesLess a b then -1 else if Op.bytesLess b a then 1 else 0
theorem cmpB_zero {a b : Bytes} : cmpB a b = 0 ↔ a = b := by
  unfold cmpB
  cases h : Op.bytesLess a b
  · cases h' : Op.bytesLess b a
    · simp [less_tri h h']
    · simp; rintro rfl; rw [less_irrefl] at h'; cases h'
  · simp; rintro rfl; rw [less_irrefl] at h; cases h
theorem cmpB_swap (a b : Bytes) : cmpB b a = - cmpB a b := by
  unfold cmpB
  cases h : Op.bytesLess a b
  · cases h' : Op.bytesLess b a <;> simp
  · simp [less_asymm h]
theorem cmpB_neg {a b : Bytes} : cmpB a b < 0 ↔ Op.bytesLess a b = true := by
  unfold cmpB
  cases h : Op.bytesLess a b
  · cases h' : Op.bytesLess b a <;> simp
  · simp
theorem cmpB_trans {a b c : Bytes} (h1 : cmpB a b < 0) (h2 : cmpB b c < 0) : cmpB a c < 0 := cmpB_neg.2 (less_trans (cmpB_neg.1 h1) (cmpB_neg.1 h2))
theorem cmpB_range (a b : Bytes) : cmpB a b = -1 ∨ cmpB a b = 0 ∨ cmpB a b = 1 := by
  unfold cmpB; split
  · exact .inl rfl
  · split
    · exact .inr (.inr rfl)
    · exact .inr (.inl rfl)

def cmpL : List Bytes → List Bytes → Int
  | [], [] => 0
  | [], _ :: _ => -1
  | _ :: _, [] => 1
  | a :: r, b :: s => if cmpB a b = 0 then cmpL r s else cmpB a b
theorem cmpL_zero : ∀ {a b : List Bytes}, cmpL a b = 0 ↔ a = b
  | [], [] => by simp [cmpL]
  | [], _ :: _ => by simp [cmpL]
  | _ :: _, [] => by simp [cmpL]
  | a :: r, b :: s => by
    simp only [cmpL]
    split
    · rename_i h; rw [cmpL_zero, List.cons.injEq, cmpB_zero.1 h]; simp
    · rename_i h
      simp only [h, false_iff]
      intro he
      simp only [List.cons.injEq] at he
      exact h (cmpB_zero.2 he.1)
theorem cmpL_swap : ∀ (a b : List Bytes), cmpL b a = - cmpL a b
  | [], [] => rfl
  | [], _ :: _ => rfl
  | _ :: _, [] => rfl
  | a :: r, b :: s => by
    simp only [cmpL]
    rw [cmpB_swap a b, cmpL_swap r s]
    by_cases h : cmpB a b = 0
    · simp [h]
    · simp [h]
theorem cmpL_trans : ∀ {a b c : List Bytes}, cmpL a b < 0 → cmpL b c < 0 → cmpL a c < 0
  | [], [], _, h, _ => by simp [cmpL] at h
  | _ :: _, [], _, h, _ => by simp [cmpL] at h
  | _, _ :: _, [], _, h => by simp [cmpL] at h
  | [], _ :: _, _ :: _, _, _ => by simp [cmpL]
  | a :: r, b :: s, c :: t, h1, h2 => by
    simp only [cmpL] at h1 h2 ⊢
    by_cases e1 : cmpB a b = 0
    · have := cmpB_zero.1 e1; subst this
      rw [if_pos e1] at h1
      by_cases e2 : cmpB a c = 0
      · rw [if_pos e2] at h2 ⊢; exact cmpL_trans h1 h2
      · rw [if_neg e2] at h2 ⊢; exact h2
    · rw [if_neg e1] at h1
      by_cases e2 : cmpB b c = 0
      · have := cmpB_zero.1 e2; subst this
        rw [if_neg e1]; exact h1
      · rw [if_neg e2] at h2
        have := cmpB_trans h1 h2
        rw [if_neg (by omega)]; exact this
theorem cmpL_range : ∀ (a b : List Bytes), cmpL a b = -1 ∨ cmpL a b = 0 ∨ cmpL a b = 1
  | [], [] => by simp [cmpL]
  | [], _ :: _ => by simp [cmpL]
  | _ :: _, [] => by simp [cmpL]
  | a :: r, b :: s => by
    simp only [cmpL]
    split
    · exact cmpL_range r s
    · exact cmpB_range a b

/-! ## parts of paths -/
def joinOn (c : UInt8) : List Bytes → Bytes
  | [] => []
  | [x] => x
  | x :: y :: r => x ++ c :: joinOn c (y :: r)
theorem splitOn_ne (c : UInt8) (s : Bytes) : splitOn c s ≠ [] := by
  cases s with
  | nil => simp [splitOn]
  | cons b r => simp only [splitOn]; split <;> (try split) <;> simp
theorem join_splitOn (c : UInt8) : ∀ s : Bytes, joinOn c (splitOn c s) = s
  | [] => rfl
  | b :: r => by
    simp only [splitOn]
    have ih := join_splitOn c r
    split
    · rename_i h
      subst h
      cases h' : splitOn b r with
      | nil => exact absurd h' (splitOn_ne _ _)
      | cons x xs => rw [h'] at ih; simp [joinOn, ih]
    · cases h' : splitOn c r with
      | nil => exact absurd h' (splitOn_ne _ _)
      | cons x xs =>
        rw [h'] at ih
        cases xs with
        | nil => simp [joinOn] at ih ⊢; exact ih
        | cons y ys => simp only [joinOn] at ih ⊢; rw [← ih]; rfl
def psplit (p : Bytes) : List Bytes := if p = [] then [] else splitOn 47 p
theorem psplit_inj {p q : Bytes} (h : psplit p = psplit q) : p = q := by
  unfold psplit at h
  split at h
  · rename_i h1
    split at h
    · rename_i h2; rw [h1, h2]
    · exact absurd h.symm (splitOn_ne _ _)
  · split at h
    · exact absurd h (splitOn_ne _ _)
    · have := congrArg (joinOn 47) h; rwa [join_splitOn, join_splitOn] at this
def pcmp (p q : Bytes) : Int := cmpL (psplit p) (psplit q)
theorem pcmp_zero {p q : Bytes} : pcmp p q = 0 ↔ p = q := cmpL_zero.trans ⟨psplit_inj, fun h => by rw [h]⟩
theorem pcmp_swap (p q : Bytes) : pcmp q p = - pcmp p q := cmpL_swap _ _
theorem pcmp_trans {p q r : Bytes} (h1 : pcmp p q < 0) (h2 : pcmp q r < 0) : pcmp p r < 0 := cmpL_trans h1 h2
theorem pcmp_range (p q : Bytes) : pcmp p q = -1 ∨ pcmp p q = 0 ∨ pcmp p q = 1 := cmpL_range _ _

theorem splitOn_length (c : UInt8) : ∀ s : Bytes, (splitOn c s).length ≤ s.length + 1
  | [] => by simp [splitOn]
  | b :: r => by
    have := splitOn_length c r
    simp only [splitOn]
    split
    · simp; omega
    · split
      · simp
      · rename_i x xs h; rw [h] at this; simp at this ⊢; omega
theorem psplit_length (s : Bytes) : (psplit s).length ≤ s.length + 1 := by
  unfold psplit; split
  · simp
  · exact splitOn_length 47 s
theorem psplit_nonempty {s : Bytes} (h : s ≠ []) : psplit s = splitOn 47 s := if_neg h

/-! ## small words on rows -/
theorem at?_some {α : Type} {l : List α} {n : Nat} (h : n < l.length) : at? l (n : Int) = some l[n] := by rw [at?_nat, List.getElem?_eq_getElem h]
theorem at?_int {α : Type} {l : List α} {i : Int} {n : Nat} (hi : i = n) (h : n < l.length) : at? l i = some l[n] := by rw [hi]; exact at?_some h
theorem cut_nat {α : Type} {l : List α} {a b : Nat} (h1 : a ≤ b) (h2 : b ≤ l.length) : cut l (a : Int) (b : Int) = some ((l.take b).drop a) := by
  unfold cut; rw [if_pos ⟨by omega, by omega, by omega⟩]; simp
theorem cut_tail {α : Type} (x : α) (l : List α) : cut (x :: l) 1 ((x :: l).length : Nat) = some l := by
  unfold cut; rw [if_pos ⟨by omega, by simp, by omega⟩]; simp
theorem appL_some {α : Type} {l m : List α} (h : l.length + m.length ≤ Lim) : appL l m = some (l ++ m) := if_pos h
theorem cat_some {s t : Bytes} (h : s.length + t.length ≤ 4611686018427387904) : cat s t = some (s ++ t) := if_pos h
theorem drop_eq {α : Type} {l : List α} {k : Nat} (h : k < l.length) : l.drop k = l[k] :: l.drop (k + 1) := List.drop_eq_getElem_cons h
end Go.Proofs.YtainplhaaklpeaaDoor
