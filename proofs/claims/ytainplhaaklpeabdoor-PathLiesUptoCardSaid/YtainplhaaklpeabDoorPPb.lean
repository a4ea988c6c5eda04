/-
  PathOrders, PathLies: what they come to is true (plain Lean). Own work of this seat.
-/
import Derived.Test.YtainplhaaklpeabDoorPPo
import Derived.Test.YtainplhaaklpeabDoorCD
namespace Go.Proofs.YtainplhaaklpeabDoor
open Go.Abs

theorem wi_small {n : Int} (h : -10 ≤ n) (k : n ≤ 10) : wi n = n := wi_of (by omega) (by omega)
theorem cmpL_app (m : List Bytes) (hm : m ≠ []) : ∀ l : List Bytes, cmpL l (l ++ m) = -1
  | [] => by cases m with
    | nil => exact absurd rfl hm
    | cons x r => rfl
  | x :: l => by rw [List.cons_append, cmpL, if_pos (cmpB_zero.2 rfl)]; exact cmpL_app m hm l
theorem pcmp_below {a b : Bytes} (ha : a ≠ []) (hb : b ≠ []) : pcmp a (a ++ 47 :: b) = -1 := by
  unfold pcmp
  rw [psplit_nonempty ha, psplit_nonempty (by simp), splitOn_app]
  exact cmpL_app _ (splitOn_ne _ _) _
theorem wt_str' {p : Bytes} {n : Nat} (h : (V.str p).wt ≤ n) : p.length ≤ n := by simp only [V.wt] at h; omega
theorem p_pathOrders (a b c : Bytes) (ha : (V.str a).wt ≤ 1048576) (hb : (V.str b).wt ≤ 1048576) (hc : (V.str c).wt ≤ 1048576) : g.seichelaw06_PathOrders a b c = some true := by
  have h1 := wt_str' ha
  have h2 := wt_str' hb
  have h3 := wt_str' hc
  unfold g.seichelaw06_PathOrders
  rw [p_alive06, Option.bind_some, if_pos rfl]
  by_cases l1 : 512 < ((a.length : Nat) : Int)
  · rw [if_pos l1]
  by_cases l2 : 512 < ((b.length : Nat) : Int)
  · rw [if_neg l1, if_pos l2]
  by_cases l3 : 512 < ((c.length : Nat) : Int)
  · rw [if_neg l1, if_neg l2, if_pos l3]
  rw [if_neg l1, if_neg l2, if_neg l3]
  · · · rw [p_pcmp a b (by omega) (by omega), Option.bind_some, p_pcmp b c (by omega) (by omega), Option.bind_some, p_pcmp a c (by omega) (by omega), Option.bind_some, p_rcmp a b (by omega) (by omega), Option.bind_some, if_pos rfl,
          p_pcmp b a (by omega) (by omega), Option.bind_some]
        have r1 := pcmp_range a b
        have r2 := pcmp_range b c
        have r3 := pcmp_range a c
        rw [if_pos (by rw [pcmp_swap a b, wi_small (by omega) (by omega)]; omega), if_pos (by
          rw [beq_iff_eq, decide_eq_decide]; exact pcmp_zero)]
        have neg : ∀ {x y z : Bytes}, ¬ 0 < pcmp x y → ¬ 0 < pcmp y z → ¬ 0 < pcmp x z := by
          intro x y z k1 k2 k3
          have s1 := pcmp_range x y
          have s2 := pcmp_range y z
          rcases s1 with s1 | s1 | s1
          · rcases s2 with s2 | s2 | s2
            · have := pcmp_trans (p := x) (q := y) (r := z) (by omega) (by omega); omega
            · rw [pcmp_zero.1 s2] at s1; omega
            · omega
          · rw [pcmp_zero.1 s1] at k3; omega
          · omega
        have pos : ¬ pcmp a b < 0 → ¬ pcmp b c < 0 → ¬ pcmp a c < 0 := by
          intro k1 k2 k3
          have := neg (x := c) (y := b) (z := a) (by rw [pcmp_swap b c]; omega) (by rw [pcmp_swap a b]; omega)
          rw [pcmp_swap a c] at this; omega
        have neg' := neg (x := a) (y := b) (z := c)
        generalize pcmp a b = x at *
        generalize pcmp b c = y at *
        generalize pcmp a c = z at *
        clear h1 h2 h3 ha hb hc l1 l2 l3 neg
        repeat' split
        all_goals first | rfl | (congr 1; exact decide_eq_true (by omega)) | (exfalso; omega)
theorem p_pathLies (a b c : Bytes) (ha : (V.str a).wt ≤ 1048576) (hb : (V.str b).wt ≤ 1048576) (hc : (V.str c).wt ≤ 1048576) : g.seichelaw06_PathLies a b c = some true := by
  have h1 := wt_str' ha
  have h2 := wt_str' hb
  have h3 := wt_str' hc
  unfold g.seichelaw06_PathLies
  rw [p_alive06, Option.bind_some, if_pos rfl]
  by_cases l1 : 512 < ((a.length : Nat) : Int)
  · rw [if_pos l1]
  by_cases l2 : 512 < ((b.length : Nat) : Int)
  · rw [if_neg l1, if_pos l2]
  by_cases l3 : 512 < ((c.length : Nat) : Int)
  · rw [if_neg l1, if_neg l2, if_pos l3]
  rw [if_neg l1, if_neg l2, if_neg l3]
  · · · rw [p_rgood a (by omega), Option.bind_some]
        cases hga : goodP a
        · rfl
        rw [if_pos rfl, p_rgood b (by omega), Option.bind_some]
        cases hgb : goodP b
        · rfl
        rw [if_pos rfl, p_rgood c (by omega), Option.bind_some]
        cases hgc : goodP c
        · rfl
        have na := good_ne hga
        have nb := good_ne hgb
        have nc := good_ne hgc
        have ex : joinP [a, b] = a ++ 47 :: b := by rw [joinP_two _ _ nb, if_neg na]
        have ey : joinP [a ++ 47 :: b, c] = (a ++ 47 :: b) ++ 47 :: c := by rw [joinP_two _ _ nc, if_neg (by simp)]
        have ez : joinP [b, c] = b ++ 47 :: c := by rw [joinP_two _ _ nc, if_neg nb]
        have u1 : underP a (a ++ 47 :: b) = some b := under_join na nb
        have u2 : underP a ((a ++ 47 :: b) ++ 47 :: c) = some (b ++ 47 :: c) := by
          rw [show (a ++ 47 :: b) ++ 47 :: c = a ++ 47 :: (b ++ 47 :: c) by simp]; exact under_join na (by simp)
        have u3 : underP (a ++ 47 :: b) ((a ++ 47 :: b) ++ 47 :: c) = some c := under_join (by simp) nc
        have u4 : underP a a = none := by
          unfold underP
          rw [if_neg na, if_neg]
          rintro ⟨k1, _⟩
          have := congrArg List.length k1
          simp at this
        obtain ⟨x1, v1, w1⟩ := p_under a (a ++ 47 :: b) (by omega)
        obtain ⟨x2, v2, w2⟩ := p_under a ((a ++ 47 :: b) ++ 47 :: c) (by omega)
        obtain ⟨x3, v3, w3⟩ := p_under (a ++ 47 :: b) ((a ++ 47 :: b) ++ 47 :: c) (by simp; omega)
        obtain ⟨x4, v4, _⟩ := p_under a a (by omega)
        rw [if_pos rfl, p_join _ (by simp [sumL]; omega), Option.bind_some, ex, p_join _ (by simp [sumL]; omega), Option.bind_some, ey, v1, Option.bind_some, v2, Option.bind_some, v3, Option.bind_some, v4, Option.bind_some]
        rw [w1 _ u1, w2 _ u2, w3 _ u3, u1, u2, u3, u4]
        simp only [Option.isSome_some, Option.isSome_none, if_true]
        rw [p_join _ (by simp [sumL]; omega), Option.bind_some, ez]
        simp only [if_true, Bool.false_eq_true, if_false]
        rw [p_pcmp _ _ (by omega) (by simp; omega), Option.bind_some, pcmp_below na nb]
        rw [p_pcmp _ _ (by simp; omega) (by simp; omega), pcmp_below (by simp) nc]
        simp
end Go.Proofs.YtainplhaaklpeabDoor
