/-
  Walks: the changes between two lists. Own work of this seat.
-/
import Derived.Test.YtainplhaaklpeaaDoorDiffR
namespace Go.Proofs.YtainplhaaklpeaaDoor
open Go.Abs
variable {Γ : Abs.Spec} {gl : Glob}

def lists : List Inp → List Inp → List Chg
  | [], [] => []
  | f :: a, [] => (f.path, 2) :: lists a []
  | [], g :: b => (g.path, 1) :: lists [] b
  | f :: a, g :: b => if pcmp f.path g.path < 0 then (f.path, 2) :: lists a (g :: b) else if 0 < pcmp f.path g.path then (g.path, 1) :: lists (f :: a) b else (if f.id = g.id then [] else [(f.path, 3)]) ++ lists a b
  termination_by a b => a.length + b.length

theorem isEmpty_false {α : Type} {l : List α} (h : l ≠ []) : l.isEmpty = false := by cases l <;> simp at h ⊢

theorem lists_loop (L : List Chg) (hC : ∀ a b : Bytes, a.length ≤ 100000000 → b.length ≤ 100000000 → Γ F.path_Compare [.str a, .str b] = some (.int .i64 (pcmp a b), false)) {Q : Ex → St → Prop}
    (hex : ∀ s, s.tm 5 = chgs L.isEmpty L → (L ≠ [] → s.own (.slot 5) = true) → Q (.exit 0) s) :
    ∀ (n : Nat) (n1 n2 : Bool) (a b : List Inp) (acc : List Chg) (s : St), a.length + b.length ≤ n → (a ≠ [] → n1 = false) → (b ≠ [] → n2 = false) → short a → short b → acc.length + n ≤ 1000000000 →
      s.tm 0 = inps n1 a → s.tm 1 = inps n2 b → s.tm 5 = chgs acc.isEmpty acc → (acc ≠ [] → s.own (.slot 5) = true) → L = acc ++ lists a b → awp Γ gl (.loop c_diff_Lists_0) Q s := by
  intro n
  induction n with
  | zero =>
    intro n1 n2 a b acc s hn h1 h2 hs1 hs2 hl t0 t1 t5 hw hL
    have ha : a = [] := List.length_eq_zero_iff.1 (by omega)
    have hb : b = [] := List.length_eq_zero_iff.1 (by omega)
    subst ha; subst hb
    refine awp_roundK fun K hK => ?_
    simp [c_diff_Lists_0, t0, t1, inps]
    have : L = acc := by rw [hL]; simp [lists]
    subst this
    exact hex _ (by simp [t5]) (fun h => by simp [hw h])
  | succ n ih =>
    intro n1 n2 a b acc s hn h1 h2 hs1 hs2 hl t0 t1 t5 hw hL
    have hw' : acc.isEmpty = false → s.own (.slot 5) = true := fun h => hw (by rintro rfl; simp at h)
    have hn' : acc.isEmpty = true → acc.map chgV = [] := by simp
    have hLim : acc.length + 1 ≤ Lim := by unfold Lim; omega
    refine awp_roundK fun K hK => ?_
    match a, b with
    | [], [] =>
      simp [c_diff_Lists_0, t0, t1, inps]
      have : L = acc := by rw [hL]; simp [lists]
      subst this
      exact hex _ (by simp [t5]) (fun h => by simp [hw h])
    | f :: a, [] =>
      have e1 := h1 (by simp)
      subst e1
      simp [c_diff_Lists_0, t0, t1, t5, inps, chgs, vApp_gen _ _ _ hn' hw', hLim, setAt]
      refine hK _ ?_
      refine ih false n2 a [] (acc ++ [(f.path, 2)]) _ (by simp at hn ⊢; omega) (fun _ => rfl) h2 (fun x hx => hs1 x (by simp [hx])) hs2 (by simp; omega) (by simp [inps]) (by simp [inps, t1]) ?_ (fun _ => ?_) ?_
      · simp [chgs, chgV]
      · simp
      · rw [hL, lists]; simp
    | [], g :: b =>
      have e2 := h2 (by simp)
      subst e2
      simp [c_diff_Lists_0, t0, t1, t5, inps, chgs, vApp_gen _ _ _ hn' hw', hLim, setAt]
      refine hK _ ?_
      refine ih n1 false [] b (acc ++ [(g.path, 1)]) _ (by simp at hn ⊢; omega) h1 (fun _ => rfl) hs1 (fun x hx => hs2 x (by simp [hx])) (by simp; omega) (by simp [inps, t0]) (by simp [inps]) ?_ (fun _ => ?_) ?_
      · simp [chgs, chgV]
      · simp
      · rw [hL, lists]; simp
    | f :: a, g :: b =>
      have e1 := h1 (by simp)
      have e2 := h2 (by simp)
      subst e1; subst e2
      have hc := hC f.path g.path (hs1 f (by simp)) (hs2 g (by simp))
      have hids : flatEq (repl 32 (some IntKind.u8, true)) (encB f.id) (encB g.id) = some (decide (f.id = g.id)) := flatEq_bytes true f.h g.h
      rcases pcmp_range f.path g.path with h | h | h
      · rw [h] at hc
        simp [c_diff_Lists_0, t0, t1, t5, inps, chgs, vApp_gen _ _ _ hn' hw', hLim, setAt, hc]
        refine hK _ ?_
        refine ih false false a (g :: b) (acc ++ [(f.path, 2)]) _ (by simp at hn ⊢; omega) (fun _ => rfl) (fun _ => rfl) (fun x hx => hs1 x (by simp [hx])) hs2 (by simp; omega) (by simp [inps]) (by simp [inps, t1]) ?_ (fun _ => ?_) ?_
        · simp [chgs, chgV]
        · simp
        · rw [hL, lists]; simp [h]
      · rw [h] at hc
        by_cases hid : f.id = g.id
        · have hid2 : flatEq (repl 32 (some IntKind.u8, true)) (encB g.id) (encB g.id) = some true := by rw [flatEq_bytes true g.h g.h]; simp
          simp [c_diff_Lists_0, t0, t1, t5, inps, chgs, hc, hid, hid2]
          refine hK _ ?_
          refine ih false false a b acc _ (by simp at hn ⊢; omega) (fun _ => rfl) (fun _ => rfl) (fun x hx => hs1 x (by simp [hx])) (fun x hx => hs2 x (by simp [hx])) (by omega) (by simp [inps]) (by simp [inps]) (by simp [t5]) (fun h => by simp [hw h]) ?_
          rw [hL, lists]; simp [h, hid]
        · simp [c_diff_Lists_0, t0, t1, t5, inps, chgs, vApp_gen _ _ _ hn' hw', hLim, setAt, hc, hids, hid]
          refine hK _ ?_
          refine ih false false a b (acc ++ [(f.path, 3)]) _ (by simp at hn ⊢; omega) (fun _ => rfl) (fun _ => rfl) (fun x hx => hs1 x (by simp [hx])) (fun x hx => hs2 x (by simp [hx])) (by simp; omega) (by simp [inps]) (by simp [inps]) ?_ (fun _ => ?_) ?_
          · simp [chgs, chgV]
          · simp
          · rw [hL, lists]; simp [h, hid]
      · rw [h] at hc
        simp [c_diff_Lists_0, t0, t1, t5, inps, chgs, vApp_gen _ _ _ hn' hw', hLim, setAt, hc]
        refine hK _ ?_
        refine ih false false (f :: a) b (acc ++ [(g.path, 1)]) _ (by simp at hn ⊢; omega) (fun _ => rfl) (fun _ => rfl) hs1 (fun x hx => hs2 x (by simp [hx])) (by simp; omega) (by simp [inps, t0]) (by simp [inps]) ?_ (fun _ => ?_) ?_
        · simp [chgs, chgV]
        · simp
        · rw [hL, lists]; simp [h]
theorem lists_awp (n1 n2 : Bool) (a b : List Inp) (h1 : a ≠ [] → n1 = false) (h2 : b ≠ [] → n2 = false) (hs1 : short a) (hs2 : short b) (hl : a.length + b.length ≤ 1000000000) (hC : ∀ a b : Bytes, a.length ≤ 100000000 → b.length ≤ 100000000 → Γ F.path_Compare [.str a, .str b] = some (.int .i64 (pcmp a b), false)) :
    awp Γ gl c_diff_Lists (retQ [4] (chgs (lists a b).isEmpty (lists a b), !(lists a b).isEmpty)) (St.init [inps n1 a, inps n2 b]) := by
  unfold c_diff_Lists
  simp
  refine lists_loop (lists a b) hC (fun s h5 hw => ?_) _ n1 n2 a b [] _ (Nat.le_refl _) h1 h2 hs1 hs2 (by simpa using hl) (by simp) (by simp) (by simp [chgs]) (fun h => absurd rfl h) (by simp)
  simp [h5]
  exact hw
def K_lists : Ctr := ⟨(Bool × List Inp) × (Bool × List Inp), fun a => [inps a.1.1 a.1.2, inps a.2.1 a.2.2], fun a => (chgs (lists a.1.2 a.2.2).isEmpty (lists a.1.2 a.2.2), !(lists a.1.2 a.2.2).isEmpty), fun a => (a.1.2 ≠ [] → a.1.1 = false) ∧ (a.2.2 ≠ [] → a.2.1 = false) ∧ short a.1.2 ∧ short a.2.2 ∧ a.1.2.length + a.2.2.length ≤ 1000000000, fun a b h => by
  simp only [List.cons.injEq, and_true] at h
  rw [(inps_inj h.1).2, (inps_inj h.2).2]⟩
theorem lists_pc (w : World) (hw : HasMax w) : K_lists.Holds (cxD w) F.diff_Lists :=
  holds_of w (cs := [(_, K_pcmp)]) (by simpa using pcmp_pc w hw) cf_diff_Lists (fun _ => Nat.le_of_ble_eq_true rfl) (fun a => by simp [K_lists]) (fun a => chgs_clean _ _) fun a ha =>
    lists_awp a.1.1 a.2.1 a.1.2 a.2.2 ha.1 ha.2.1 ha.2.2.1 ha.2.2.2.1 ha.2.2.2.2 fun p q hp hq => ofC_eq (c := K_pcmp) rfl (p, q) ⟨hp, hq⟩
end Go.Proofs.YtainplhaaklpeaaDoor
