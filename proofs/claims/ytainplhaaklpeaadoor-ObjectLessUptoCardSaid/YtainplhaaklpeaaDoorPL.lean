/-
  Entries that can be a tree still can without any of them: the law (plain Lean). Own work of this seat.
-/
import Derived.Test.YtainplhaaklpeaaDoorPO
namespace Go.Proofs.YtainplhaaklpeaaDoor
open Go.Abs

theorem goodFrom_less {q : Option Bytes} {e : Ent} {b : List Ent} (h : goodFrom q (e :: b) = true) : goodFrom q b = true := by
  cases b with
  | nil => rfl
  | cons f r =>
    simp only [goodFrom, Bool.and_eq_true, decide_eq_true_eq] at h ⊢
    obtain ⟨⟨⟨h1, h2⟩, h3⟩, ⟨⟨h4, h5⟩, h6⟩, h7⟩ := h
    refine ⟨⟨⟨h4, h5⟩, ?_⟩, h7⟩
    cases q with
    | none => rfl
    | some n => exact less_trans h3 h6
theorem goodFrom_del : ∀ {a : List Ent} {q : Option Bytes} {e : Ent} {b : List Ent}, goodFrom q (a ++ e :: b) = true → goodFrom q (a ++ b) = true
  | [], q, e, b, h => goodFrom_less h
  | x :: a, q, e, b, h => by
    simp only [List.cons_append, goodFrom, Bool.and_eq_true] at h ⊢
    exact ⟨h.1, goodFrom_del h.2⟩
theorem goodT_del {a : List Ent} {e : Ent} {b : List Ent} (h : goodT (a ++ e :: b) = true) : goodT (a ++ b) = true := by
  simp only [goodT, Bool.and_eq_true, decide_eq_true_eq] at h ⊢
  refine ⟨goodFrom_del h.1, ?_⟩
  have := h.2
  simp at this ⊢; omega
theorem sumN_app (a b : List Ent) : sumN (a ++ b) = sumN a + sumN b := by simp [sumN]
theorem joinS_length (l : List Bytes) : (joinS l).length = 8 + lenT l := by simp [joinS, joinT_length]
theorem p_objectLessF (l : List Ent) (i : Int) (hs : shortE l) (hl : l.length ≤ 100000000) (h1 : -9223372036854775808 ≤ i) (h2 : i ≤ 9223372036854775807) : g.seichelaw07_ObjectLess l i = some true := by
  unfold g.seichelaw07_ObjectLess
  rw [p_alive07, Option.bind_some, if_pos rfl, p_great l hs (by omega), Option.bind_some]
  by_cases hg : (decide (4096 < sumN l) || decide (60 < l.length)) = true
  · rw [if_pos hg]
  · rw [if_neg hg]
    simp only [Bool.or_eq_true, decide_eq_true_eq, not_or] at hg
    by_cases hn : i < 0
    · rw [if_pos hn]
    · rw [if_neg hn]
      by_cases hge : ((l.length : Nat) : Int) ≤ i
      · rw [if_pos hge]
      · rw [if_neg hge, p_rgoodT l hs (by omega), Option.bind_some]
        cases hgt : goodT l
        · rfl
        · obtain ⟨k, rfl⟩ := Int.eq_ofNat_of_zero_le (by omega : 0 ≤ i)
          have hk : k < l.length := by omega
          have hd : l = l.take k ++ l[k] :: l.drop (k + 1) := by rw [← drop_eq hk, List.take_append_drop]
          have hsum : sumN l = sumN (l.take k) + (l[k].Name.length + sumN (l.drop (k + 1))) := by
            have hc : sumN (l[k] :: l.drop (k + 1)) = l[k].Name.length + sumN (l.drop (k + 1)) := by simp only [sumN, List.map_cons, List.sum_cons]
            rw [← hc, ← sumN_app, ← hd]
          have hm : ∀ e ∈ l.take k ++ l.drop (k + 1), e ∈ l := fun e he => by
            rcases List.mem_append.1 he with h | h
            · exact List.mem_of_mem_take h
            · exact List.mem_of_mem_drop h
          have hs' : shortE (l.take k ++ l.drop (k + 1)) := fun e he => hs e (hm e he)
          have hlen' : (l.take k ++ l.drop (k + 1)).length = l.length - 1 := by simp; omega
          have hg' : goodT (l.take k ++ l.drop (k + 1)) = true := goodT_del (e := l[k]) (by rw [← hd]; exact hgt)
          have hL : lenT (partsOf l) = 60 * l.length + sumN l := lenT_parts l
          have hL' : lenT (partsOf (l.take k ++ l.drop (k + 1))) = 60 * (l.length - 1) + (sumN (l.take k) + sumN (l.drop (k + 1))) := by rw [lenT_parts, hlen', sumN_app]
          rw [if_pos rfl, p_put l hs (by omega), Option.bind_some, show (0 : Int) = ((0 : Nat) : Int) from rfl, cut_nat (Nat.zero_le _) (by omega), Option.bind_some, List.drop_zero, appL_some (by simp; unfold Lim; omega), Option.bind_some, List.nil_append,
            wi_succ (by omega), cut_nat (by omega) (Nat.le_refl _), List.take_length, Option.bind_some, appL_some (by simp; unfold Lim; omega), Option.bind_some, p_put _ hs' (by omega), Option.bind_some]
          simp only [putT, hgt, hg', if_true]
          have hlt : (joinS (partsOf (l.take k ++ l.drop (k + 1)))).length < (joinS (partsOf l)).length := by rw [joinS_length, joinS_length, hL, hL', hsum]; omega
          rw [if_pos (by decide), if_pos (by decide), if_neg (fun h => by rw [h] at hlt; omega), decide_eq_true (by omega)]
theorem p_objectLess (l : List Ent) (i : Int) (hl : (V.sl false 34 (List.map E.Entry l)).wt ≤ 1048576) (h1 : -9223372036854775808 ≤ i) (h2 : i ≤ 9223372036854775807) : g.seichelaw07_ObjectLess l i = some true :=
  p_objectLessF l i (shortE_of hl).1 (shortE_of hl).2 h1 h2
end Go.Proofs.YtainplhaaklpeaaDoor
