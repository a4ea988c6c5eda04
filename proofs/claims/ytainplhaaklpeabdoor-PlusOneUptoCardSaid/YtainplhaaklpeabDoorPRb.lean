/-
  PlusOne: what it comes to is true (plain Lean). Own work of this seat.
-/
import Derived.Test.YtainplhaaklpeabDoorPR
import Derived.Test.YtainplhaaklpeabDoorCD
namespace Go.Proofs.YtainplhaaklpeabDoor
open Go.Abs

theorem wt_tot : ∀ l : List Bytes, wtL (l.map V.str) = tot 1 l
  | [] => rfl
  | x :: r => by simp only [List.map_cons, wtL, V.wt, tot, wt_tot r]
theorem tot_of {l : List Bytes} {n : Nat} (h : (V.sl false 1 (l.map V.str)).wt ≤ n) : tot 1 l ≤ n := by
  simp only [V.wt, wt_tot] at h; omega
theorem res_ok (o : Option Bytes) : decide ((res o).2 = 0) = o.isSome := by cases o <;> rfl
theorem p_one_l (k0 : Bool → Option Bool) : ∀ (l : List Bytes) (b : Bool), tot 1 l ≤ 1000000 → L.seichelaw14_PlusOne_l1 k0 l b = k0 (b && l.all fun s => (lineO s).isSome)
  | [], b, _ => by rw [L.seichelaw14_PlusOne_l1]; simp
  | x :: r, b, h => by
    have hx : x.length ≤ 1000000 ∧ tot 1 r ≤ 1000000 := by simp only [tot] at h; omega
    rw [L.seichelaw14_PlusOne_l1, p_line x hx.1, Option.bind_some]
    cases b
    · rw [if_neg (by simp), p_one_l k0 r _ hx.2]; simp
    · rw [if_pos rfl, p_one_l k0 r _ hx.2, res_ok]; simp
theorem sign_not {b : UInt8} (h : signB b = true) : blankB b = false ∧ b ≠ 44 ∧ b ≠ 33 := by
  refine ⟨?_, ?_, ?_⟩
  · cases hb : blankB b
    · rfl
    · simp only [blankB, Bool.or_eq_true, decide_eq_true_eq] at hb
      rcases hb with rfl | rfl
      · exact absurd h (by decide)
      · exact absurd h (by decide)
  · rintro rfl; exact absurd h (by decide)
  · rintro rfl; exact absurd h (by decide)
theorem lines_some (l : List Bytes) : (decide (0 < ((l.length : Nat) : Int)) && l.all fun s => (lineO s).isSome) = (linesO l).isSome := by
  unfold linesO
  cases l with
  | nil => rfl
  | cons x r => rw [if_neg (by simp), Option.isSome_map, allO_some]; simp
theorem line_word (w : Bytes) (a b : Bytes) (ha : ∀ x ∈ a, blankB x = true) (hb : ∀ x ∈ b, blankB x = true) (hw : w ≠ []) (hs : ∀ x ∈ w, blankB x = false ∧ x ≠ 44) (ht : termO w = some w) : lineO (a ++ w ++ b) = some w := by
  have h1 : ∀ a : Bytes, (∀ x ∈ a, blankB x = true) → ∀ r, fldB blankB (a ++ r) [] = fldB blankB r [] := by
    intro a
    induction a with
    | nil => intro _ r; rfl
    | cons x a ih => intro h r; rw [List.cons_append, fldB, if_pos (h x (by simp)), if_pos rfl]; exact ih (fun y hy => h y (by simp [hy])) r
  have h2 : ∀ b : Bytes, (∀ x ∈ b, blankB x = true) → fldB blankB b w = [w] := by
    intro b h
    cases b with
    | nil => simp [fldB, hw]
    | cons x b =>
      rw [fldB, if_pos (h x (by simp)), if_neg hw]
      have := h1 b (fun y hy => h y (by simp [hy])) []
      rw [List.append_nil] at this
      rw [this]; rfl
  have h3 : fldB blankB (a ++ w ++ b) [] = [w] := by
    rw [List.append_assoc, h1 a ha, fld_run fun x hx => (hs x hx).1, List.nil_append]; exact h2 b hb
  have h4 : splitOn 44 w = [w] := splitOn_none fun h => (hs 44 h).2 rfl
  unfold lineO
  rw [h3, if_neg (by simp)]
  have h5 : optionO w = some w := by unfold optionO; rw [h4]; simp [allO, ht, wrapB, joinS]
  simp [allO, h5, wrapB, joinS]
theorem p_plusOne (p : Bytes) (l : List Bytes) (hp : (V.str p).wt ≤ 1048576) (hl : (V.sl false 1 (l.map V.str)).wt ≤ 1048576) : g.seichelaw14_PlusOne p l = some true := by
  have h1 := tot_of hl
  unfold g.seichelaw14_PlusOne
  rw [p_alive14, Option.bind_some, if_pos rfl]
  rcases p_great14 l (by omega) with h2 | ⟨h2, h3⟩
  · rw [h2, Option.bind_some, if_pos rfl]
  · rw [h2, Option.bind_some, if_neg (by simp)]
    by_cases h4 : p.length ≤ 512
    · have h5 := tot_length 1 l
      rw [if_neg (by omega), if_pos (by unfold Lim; omega), p_one_l _ l _ (by omega), lines_some, p_lines l (by omega), Option.bind_some, res_ok, if_pos (by simp), p_tag p (by omega), Option.bind_some]
      cases ht : tagB p
      · rfl
      · have ht' := ht
        simp only [tagB, Bool.and_eq_true, Bool.not_eq_true', decide_eq_false_iff_not, List.all_eq_true] at ht'
        obtain ⟨hne, hall⟩ := ht'
        have hh : p.headD 0 ≠ 33 := by
          cases p with
          | nil => exact absurd rfl hne
          | cons x r => exact (sign_not (hall x (by simp))).2.2
        have t1 : termO p = some p := by unfold termO nameB; rw [if_neg hh, if_pos ht]
        have t2 : termO (33 :: p) = some (33 :: p) := by unfold termO nameB; simp [ht]
        have e1 : lineO p = some p := by
          have := line_word p [] [] (by simp) (by simp) hne (fun x hx => ⟨(sign_not (hall x hx)).1, (sign_not (hall x hx)).2.1⟩) t1
          simpa using this
        have e2 : lineO ([32, 33] ++ p ++ [9]) = some (33 :: p) := by
          have := line_word (33 :: p) [32] [9] (by simp [blankB]) (by simp [blankB]) (by simp) (fun x hx => by
            rcases List.mem_cons.1 hx with rfl | hx
            · exact ⟨by decide, by decide⟩
            · exact ⟨(sign_not (hall x hx)).1, (sign_not (hall x hx)).2.1⟩) t2
          simpa using this
        rw [if_pos rfl, p_line p (by omega), Option.bind_some, cat_some (by simp; omega), Option.bind_some, cat_some (by simp; omega), Option.bind_some, p_line _ (by simp; omega), Option.bind_some, e1, e2]
        simp only [res, if_true]
        rw [cat_some (by simp; omega)]; simp
    · rw [if_pos (by omega)]
end Go.Proofs.YtainplhaaklpeabDoor
