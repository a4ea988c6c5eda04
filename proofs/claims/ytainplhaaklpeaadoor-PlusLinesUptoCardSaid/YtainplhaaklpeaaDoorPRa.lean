/-
  PlusLines: what it comes to is true (plain Lean). Own work of this seat.
-/
import Derived.Test.YtainplhaaklpeaaDoorPR
import Derived.Test.YtainplhaaklpeaaDoorCD
namespace Go.Proofs.YtainplhaaklpeaaDoor
open Go.Abs

theorem wt_tot : ∀ l : List Bytes, wtL (l.map V.str) = tot 1 l
  | [] => rfl
  | x :: r => by simp only [List.map_cons, wtL, V.wt, tot, wt_tot r]
theorem tot_of {l : List Bytes} {n : Nat} (h : (V.sl false 1 (l.map V.str)).wt ≤ n) : tot 1 l ≤ n := by
  simp only [V.wt, wt_tot] at h; omega
theorem p_lines_j (l : List Bytes) (t : Option Bytes) (ht : linesO l = t) : L.seichelaw14_PlusLines_j1 (res t).1 (res t).2 (pair (linesO l)).1 (pair (linesO l)).2 = some true := by
  unfold L.seichelaw14_PlusLines_j1
  rw [ht]
  cases t <;> simp [res, pair]
theorem p_plusLines (s : Bytes) (l : List Bytes) (_ : (V.str s).wt ≤ 1048576) (hl : (V.sl false 1 (l.map V.str)).wt ≤ 1048576) : g.seichelaw14_PlusLines s l = some true := by
  have h1 := tot_of hl
  unfold g.seichelaw14_PlusLines
  rw [p_alive14, Option.bind_some, if_pos rfl]
  rcases p_great14 l (by omega) with h2 | ⟨h2, h3⟩
  · rw [h2, Option.bind_some, if_pos rfl]
  · rw [h2, Option.bind_some, if_neg (by simp)]
    by_cases h4 : s.length ≤ 1024
    · rw [if_neg (by omega), p_line s (by omega), Option.bind_some, p_lines l (by omega), Option.bind_some, p_rlines l (by omega), Option.bind_some, p_rgood14 s (by omega), Option.bind_some]
      cases h : lineO s with
      | none =>
        rw [if_pos (by simp [res]), if_neg (by simp), if_pos (show (res none).2 = 4 from rfl), if_pos (show (res none).1 = [] from rfl)]
        exact p_lines_j l _ rfl
      | some t =>
        have h0 : fldB blankB s [] ≠ [] := by
          intro e; unfold lineO at h; rw [if_pos e] at h; cases h
        rw [if_pos (by simp [res]), if_pos (by simp), p_rline14 s (by omega) h0, Option.bind_some, if_pos (show (res (some t)).1 = lineT s from lineO_eq h)]
        exact p_lines_j l _ rfl
    · rw [if_pos (by omega)]
end Go.Proofs.YtainplhaaklpeaaDoor
