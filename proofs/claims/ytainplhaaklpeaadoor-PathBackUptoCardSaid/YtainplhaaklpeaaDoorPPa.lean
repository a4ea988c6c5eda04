/-
  PathParts, PathJoins, PathBack, PathGoes: what they come to is true (plain Lean). Own work of this seat.
-/
import Derived.Test.YtainplhaaklpeaaDoorPP
import Derived.Test.YtainplhaaklpeaaDoorCD
namespace Go.Proofs.YtainplhaaklpeaaDoor
open Go.Abs

theorem p_pathParts (p : Bytes) (_ : (V.str p).wt ≤ 1048576) : g.seichelaw06_PathParts p = some true := by
  unfold g.seichelaw06_PathParts
  rw [p_alive06, Option.bind_some, if_pos rfl]
  by_cases h : p.length ≤ 1024
  · have hl := splitOn_length 47 p
    have hq : (psplit p).length ≤ 1000000000 := by have := psplit_length p; omega
    rw [if_neg (by omega), p_good p (by omega), Option.bind_some, p_rgood p (by omega), Option.bind_some, if_pos (by simp), p_psplit p (by omega), Option.bind_some, p_rsplit p (by omega), Option.bind_some, p_same01 _ _ hq, Option.bind_some, if_pos (by simp),
      p_dir p (by omega), Option.bind_some, p_rdir p (by omega), Option.bind_some, if_pos rfl, p_base p (by omega), Option.bind_some, p_rbase p (by omega), Option.bind_some]
    simp
  · rw [if_pos (by omega)]

theorem p_joins_l (l0 : List Bytes) (k0 : Int → Option Bool) (hk : ∀ m, k0 m = some true) : ∀ (l : List Bytes) (n : Int), L.seichelaw06_PathJoins_l1 l0 k0 l n = some true
  | [], n => by rw [L.seichelaw06_PathJoins_l1]; exact hk n
  | a :: r, n => by
    rw [L.seichelaw06_PathJoins_l1]
    split
    · rfl
    · split
      · rfl
      · exact p_joins_l l0 k0 hk r _
theorem wt_sumL : ∀ l : List Bytes, wtL (l.map V.str) = sumL l
  | [] => rfl
  | x :: r => by simp only [List.map_cons, wtL, V.wt, sumL, wt_sumL r]
theorem sumL_of {l : List Bytes} {n : Nat} (h : (V.sl false 1 (l.map V.str)).wt ≤ n) : sumL l ≤ n := by
  simp only [V.wt, wt_sumL] at h; omega
theorem p_pathJoins (l : List Bytes) (d p : Bytes) (hl : (V.sl false 1 (l.map V.str)).wt ≤ 1048576) (hd : (V.str d).wt ≤ 1048576) (_ : (V.str p).wt ≤ 1048576) : g.seichelaw06_PathJoins l d p = some true := by
  have h1 := sumL_of hl
  have h2 := wt_str hd
  have h3 := sumL_length l
  unfold g.seichelaw06_PathJoins
  rw [p_alive06, Option.bind_some, if_pos rfl, if_pos (by unfold Lim; omega)]
  refine p_joins_l _ _ (fun m => ?_) _ _
  split
  · rfl
  · obtain ⟨x, hx, hx2⟩ := p_under d p (by omega)
    obtain ⟨y, hy, hy2⟩ := p_runder d p (by omega)
    rw [hx, Option.bind_some, hy, Option.bind_some, p_join l (by omega), Option.bind_some, p_rjoin l (by omega), Option.bind_some, if_pos rfl, if_pos (by simp)]
    split
    · rename_i hs
      obtain ⟨z, hz⟩ := Option.isSome_iff_exists.1 hs
      rw [hx2 z hz, hy2 z hz]; simp
    · rfl
theorem p_pathBack (p d : Bytes) (hp : (V.str p).wt ≤ 1048576) (hd : (V.str d).wt ≤ 1048576) : g.seichelaw06_PathBack p d = some true := by
  have h1 := wt_str hp
  have h2 := wt_str hd
  unfold g.seichelaw06_PathBack
  rw [p_alive06, Option.bind_some, if_pos rfl]
  split
  · rfl
  · rw [p_rgood p (by omega), Option.bind_some]
    cases hg : goodP p
    · rfl
    · have hs := sumL_psplit p
      have hdl : (dirP p).length ≤ p.length ∧ (baseP p).length ≤ p.length := by
        unfold dirP baseP
        cases lastI 47 p with
        | some i => simp; omega
        | none => simp
      have e1 : joinP (psplit p) = p := by
        unfold joinP
        rw [psplit_nonempty (good_ne hg), ne_split hg, join_splitOn]
      obtain ⟨e2, e3⟩ := dir_base hg
      rw [if_pos rfl, p_psplit p (by omega), Option.bind_some, p_join _ (by omega), Option.bind_some, e1, if_pos rfl, p_dir p (by omega), Option.bind_some, p_base p (by omega), Option.bind_some, p_join _ (by simp [sumL]; omega), Option.bind_some, e2, if_pos rfl]
      obtain ⟨x, hx, hx2⟩ := p_under d p (by omega)
      obtain ⟨y, hy, hy2⟩ := p_under (dirP p) p (by omega)
      have hy3 := hy2 _ e3
      subst hy3
      rw [hx, Option.bind_some, hy, Option.bind_some, e3]
      simp only [Option.isSome_some, if_true, decide_true]
      cases hu : underP d p with
      | none => rfl
      | some z =>
        have hz := hx2 z hu
        subst hz
        obtain ⟨j1, j2⟩ := join_under hu
        have hxl : x.length ≤ p.length := by
          unfold underP at hu
          split at hu
          · split at hu
            · cases hu
            · cases hu; exact Nat.le_refl _
          · split at hu
            · cases hu; simp
            · cases hu
        rw [p_join _ (by simp [sumL]; omega), Option.bind_some, j1]
        simp
theorem p_pathGoes (d w : Bytes) (hd : (V.str d).wt ≤ 1048576) (hw : (V.str w).wt ≤ 1048576) : g.seichelaw06_PathGoes d w = some true := by
  have h1 := wt_str hd
  have h2 := wt_str hw
  have key : (d = [] ∨ goodP d = true) → L.seichelaw06_PathGoes_j1 d w = some true := by
    intro hdg
    have hj : ∀ x b, (x, b) = fromP d w → L.seichelaw06_PathGoes_j2 d w x b = some true := by
      intro x b hxb
      unfold L.seichelaw06_PathGoes_j2
      rw [p_rgood w (by omega), Option.bind_some]
      cases hg : goodP w
      · rfl
      · rw [from_good hdg hg] at hxb
        obtain ⟨rfl, rfl⟩ := Prod.mk.inj hxb
        have hjl := joinP_length [d, w]
        simp only [sumL] at hjl
        rw [if_pos rfl, p_join _ (by simp [sumL]; omega), Option.bind_some, p_rgood _ (by omega), Option.bind_some, if_pos (by simp)]
        split <;> simp
    unfold L.seichelaw06_PathGoes_j1
    rw [p_from d w (by omega), Option.bind_some, p_rfrom d w (by omega), Option.bind_some, if_pos (by simp)]
    split
    · rw [if_pos rfl]; exact hj _ _ rfl
    · exact hj _ _ rfl
  unfold g.seichelaw06_PathGoes
  rw [p_alive06, Option.bind_some, if_pos rfl]
  split
  · rfl
  · split
    · rfl
    · split
      · rename_i h0; exact key (.inl h0)
      · rw [p_rgood d (by omega), Option.bind_some]
        cases hg : goodP d
        · rfl
        · rw [if_pos rfl]; exact key (.inr hg)
end Go.Proofs.YtainplhaaklpeaaDoor
