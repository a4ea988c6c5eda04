/-
  Abs, part K: each loaded operation does what its plain one comes to. Own work of this seat.
-/
import Derived.Test.YtainplhaaklpeaaDoorAbsJ
namespace Go.Abs
open Go.RowKit

variable {cx : Cx} {w : World} {B : Nat → Prop} {GB : Nat → Nat} {g : Gh} {st : St} {a : Act} {W : World} {Γ : Spec}

theorem resV_some {v : Option V} {r : Res} (h : resV v = some r) : ∃ u, v = some u ∧ r = ⟨u, false, none⟩ := by
  simp only [resV, Option.map_eq_some_iff] at h
  obtain ⟨u, h1, h2⟩ := h
  exact ⟨u, h1, h2.symm⟩

theorem hCells_some {H : Hp} {id : Nat} {cs : List V} (h : hCells H id = some cs) : H id = some (.cells cs) := by
  unfold hCells at h
  split at h
  · rename_i cs' hc; simp only [Option.some.injEq] at h; subst h; exact hc
  · simp at h

theorem SR.row (h : SR w B GB g st a W) {id : Nat} {cs : List V} (hc : hCells st.H id = some cs) : ∃ b, g.φ id = some b ∧ Row W g.G g.φ cs b 0 := by
  obtain ⟨b, xs, t, h1, h2, h3, h4, _⟩ := h.ob id cs (hCells_some hc)
  refine ⟨b, h1, h4, fun k c hk => ?_⟩
  have hlt : k < xs.size := by rw [← h3.1]; exact (List.getElem?_eq_some_iff.1 hk).1
  exact ⟨xs[k], by rw [Nat.zero_add, cell_of_row _ b k xs t (0, 0) h2]; exact Array.getElem?_eq_getElem hlt, h3.2 k c _ hk (Array.getElem?_eq_getElem hlt)⟩

theorem d_load (hs : Scope cx w B GB) (h : SR w B GB g st a W) {n : Option Nat} {t : TypeId} {u v : V} {x : Value} (hn : ldN cx.P t = some n) (hr : Rep W g.G g.φ u x) (hv : vLoad cx.gl st.H n u = some v) :
    ∃ y, (Instr.loadAt t x).run cx.P W = .ok y W ∧ Rep W g.G g.φ v y := by
  cases hr <;> simp only [vLoad, reduceCtorEq] at hv
  · rename_i cs off b base rd hG hsc hrd hh
    have hrow : Row W g.G g.φ cs b base := ⟨hsc, fun k c hk => ⟨rd k, hrd k (List.getElem?_eq_some_iff.1 hk).1, hh k c hk⟩⟩
    obtain ⟨y, h1, h2⟩ := hrow.load (P := cx.P) hn hv
    exact ⟨y, by simp only [Instr.loadAt, Instr.sureAddr, Sem.run_bind, Sem.run_pure, Result.andThen_ok]; exact h1, h2⟩
  · rename_i gn off
    simp only [Option.bind_eq_some_iff] at hv
    obtain ⟨cs, hcs, hv⟩ := hv
    obtain ⟨y, h1, h2⟩ := (hs.gl.row (φ := g.φ) (h.okw hs) hcs).load (P := cx.P) hn hv
    rw [Nat.zero_add] at h1
    exact ⟨y, by simp only [Instr.loadAt, Instr.sureAddr, Sem.run_bind, Sem.run_pure, Result.andThen_ok]; exact h1, h2⟩
  · rename_i id off b hφ
    simp only [Option.bind_eq_some_iff] at hv
    obtain ⟨cs, hcs, hv⟩ := hv
    obtain ⟨b', hb', hrow⟩ := h.row hcs
    rw [hφ] at hb'; cases hb'
    obtain ⟨y, h1, h2⟩ := hrow.load (P := cx.P) hn hv
    rw [Nat.zero_add] at h1
    exact ⟨y, by simp only [Instr.loadAt, Instr.sureAddr, Sem.run_bind, Sem.run_pure, Result.andThen_ok]; exact h1, h2⟩

section
variable {P : Program}
theorem eqIn_slice1 (d : Nat) {t e : TypeId} (ht : P.underlying t = some (.slice e)) (b : Option Addr) (l c l2 c2 : Nat) : (Op.equalIn (d + 1) t (.slice none l c) (.slice b l2 c2)).run P W = .ok b.isNone W := by
  simp only [Op.equalIn, Sem.run_bind, run_underlying ht, Result.andThen_ok]; rfl
theorem eqIn_slice2 (d : Nat) {t e : TypeId} (ht : P.underlying t = some (.slice e)) (a : Addr) (l c l2 c2 : Nat) : (Op.equalIn (d + 1) t (.slice (some a) l c) (.slice none l2 c2)).run P W = .ok false W := by
  simp only [Op.equalIn, Sem.run_bind, run_underlying ht, Result.andThen_ok]; rfl
theorem eqIn_ptr1 (d : Nat) {t e : TypeId} (ht : P.underlying t = some (.pointer e)) (b : Option Addr) : (Op.equalIn (d + 1) t (.pointer none) (.pointer b)).run P W = .ok b.isNone W := by
  simp only [Op.equalIn, Sem.run_bind, run_underlying ht, Result.andThen_ok]; rfl
theorem eqIn_ptr2 (d : Nat) {t e : TypeId} (ht : P.underlying t = some (.pointer e)) (a : Addr) : (Op.equalIn (d + 1) t (.pointer (some a)) (.pointer none)).run P W = .ok false W := by
  simp only [Op.equalIn, Sem.run_bind, run_underlying ht, Result.andThen_ok]; rfl
theorem eqIn_if0 (d : Nat) {t : TypeId} {ms} (ht : P.underlying t = some (.interface ms)) : (Op.equalIn (d + 1) t .nilIface .nilIface).run P W = .ok true W := by
  simp only [Op.equalIn, Sem.run_bind, run_underlying ht, Result.andThen_ok]; rfl
theorem eqIn_if1 (d : Nat) {t u : TypeId} {ms} {v : Value} (ht : P.underlying t = some (.interface ms)) : (Op.equalIn (d + 1) t .nilIface (.iface u v)).run P W = .ok false W := by
  simp only [Op.equalIn, Sem.run_bind, run_underlying ht, Result.andThen_ok]; rfl
theorem eqIn_if2 (d : Nat) {t u : TypeId} {ms} {v : Value} (ht : P.underlying t = some (.interface ms)) : (Op.equalIn (d + 1) t (.iface u v) .nilIface).run P W = .ok false W := by
  simp only [Op.equalIn, Sem.run_bind, run_underlying ht, Result.andThen_ok]; rfl
end

theorem eq_fin {P : Program} {t : TypeId} {x y : Operand} {xu xv : Value} {r : Bool} (hg : ∀ op, (eqGuard op t x y xu xv).run P W = .ok () W) (he : (Op.equal t xu xv).run P W = .ok r W)
    (h1 : binOp .eql t xu xv = (Op.equal t xu xv >>= fun b => pure (.bool b))) (h2 : binOp .neq t xu xv = (Op.equal t xu xv >>= fun b => pure (.bool !b))) :
    ((do eqGuard .eql t x y xu xv; binOp .eql t xu xv : Sem Value).run P W = .ok (.bool r) W) ∧ ((do eqGuard .neq t x y xu xv; binOp .neq t xu xv : Sem Value).run P W = .ok (.bool !r) W) := by
  constructor
  · simp only [Sem.run_bind, hg, Result.andThen_ok, h1, he, Sem.run_pure]
  · simp only [Sem.run_bind, hg, Result.andThen_ok, h2, he, Sem.run_pure]

theorem d_aeq {P : Program} {t : TypeId} {x y : Operand} {u v : V} {xu xv : Value} {G φ} {r : Bool} (hu : Rep W G φ u xu) (hv : Rep W G φ v xv) (hr : aeq (eqKOf P t x y) u v = some r) :
    ((do eqGuard .eql t x y xu xv; binOp .eql t xu xv : Sem Value).run P W = .ok (.bool r) W) ∧ ((do eqGuard .neq t x y xu xv; binOp .neq t xu xv : Sem Value).run P W = .ok (.bool !r) W) := by
  have agg : ∀ (ks : List Kd) (ht : (∃ fs, P.underlying t = some (.struct fs)) ∨ ∃ m e, P.underlying t = some (.array m e)), P.eqGuardType P.depth t = false → flatK P 60 t = some ks → ∀ cs ds X Y, u = .agg cs → v = .agg ds → xu = .agg X → xv = .agg Y →
      flatEq ks cs ds = some r → ((do eqGuard .eql t x y xu xv; binOp .eql t xu xv : Sem Value).run P W = .ok (.bool r) W) ∧ ((do eqGuard .neq t x y xu xv; binOp .neq t xu xv : Sem Value).run P W = .ok (.bool !r) W) := by
    intro ks ht hgt hk cs ds X Y e1 e2 e3 e4 hf
    subst e1; subst e2; subst e3; subst e4
    have hX : RepL W G φ cs X := by cases hu; exact ⟨by assumption, by assumption⟩
    have hY : RepL W G φ ds Y := by cases hv; exact ⟨by assumption, by assumption⟩
    obtain ⟨hl1, hl2⟩ := flatEq_length hf
    have hcs : (cs.drop 0).take ks.length = cs := by simp [← hl1]
    have hds : (ds.drop 0).take ks.length = ds := by simp [← hl2]
    obtain ⟨p, q, h1, h2, h3⟩ := eq_flat (P := P) 60 t ks hk 10000 (by omega) cs ds X Y 0 r hX hY (by rw [hcs, hds]; exact hf)
    have hsz : ∃ i, P.info? t = some i ∧ i.size = ks.length := by
      have hk' := hk
      unfold flatK at hk'
      rcases ht with ⟨fs, ht⟩ | ⟨m, e, ht⟩
      · rw [ht] at hk'
        simp only [] at hk'
        split at hk'
        · rename_i hc
          simp only [Option.bind_eq_some_iff] at hk'
          obtain ⟨k', _, hk'⟩ := hk'
          split at hk'
          · rename_i hc2
            simp only [Option.some.injEq] at hk'; subst hk'
            obtain ⟨i, hi, his⟩ := info_of_some hc.2
            exact ⟨i, hi, by rw [his, hc2]⟩
          · simp at hk'
        · simp at hk'
      · rw [ht] at hk'
        simp only [Option.bind_eq_some_iff] at hk'
        obtain ⟨k', _, hk'⟩ := hk'
        split at hk'
        · rename_i hc
          simp only [Option.some.injEq] at hk'; subst hk'
          obtain ⟨i, hi, his⟩ := info_of_some hc.2.2.1
          exact ⟨i, hi, by rw [his, hc.2.2.2]; simp⟩
        · simp at hk'
    obtain ⟨i, hi, his⟩ := hsz
    have hagg : (isAgg t).run P W = .ok true W := by
      rcases ht with ⟨fs, ht⟩ | ⟨m, e, ht⟩ <;> (simp only [isAgg, Sem.run_bind, run_underlying ht, Result.andThen_ok]; rfl)
    have e1 : p = .agg X := by
      have : (part t X 0).run P W = .ok (.agg X) W := by
        simp only [part, Sem.run_bind, hagg, Result.andThen_ok, if_true, run_sizeOf' hi, Nat.zero_add, Sem.run_pure]
        congr 2
        have : X.size = i.size := by rw [← hX.1, hl1, his]
        rw [← this]; simp
      rw [this] at h1; cases h1; rfl
    have e2 : q = .agg Y := by
      have : (part t Y 0).run P W = .ok (.agg Y) W := by
        simp only [part, Sem.run_bind, hagg, Result.andThen_ok, if_true, run_sizeOf' hi, Nat.zero_add, Sem.run_pure]
        congr 2
        have : Y.size = i.size := by rw [← hY.1, hl2, his]
        rw [← this]; simp
      rw [this] at h2; cases h2; rfl
    subst e1; subst e2
    exact eq_fin (fun op => run_eqGuard_agg W op t x y X Y hgt) h3 rfl rfl
  unfold eqKOf at hr
  split at hr
  · rename_i ht
    cases hu <;> simp only [aeq, reduceCtorEq] at hr
    cases hv <;> simp only [reduceCtorEq, Option.some.injEq] at hr
    subst hr
    exact eq_fin (fun op => by unfold eqGuard; split <;> simp) (run_equalIn_bool' W 9999 t _ _ ht) rfl rfl
  · rename_i fs ht
    split at hr
    · rename_i hgt
      split at hr
      · rename_i ks hk
        cases hu <;> simp only [aeq, reduceCtorEq] at hr
        cases hv <;> simp only [reduceCtorEq] at hr
        exact agg ks (.inl ⟨fs, ht⟩) hgt hk _ _ _ _ rfl rfl rfl rfl hr
      · simp [aeq] at hr
    · simp [aeq] at hr
  · rename_i m e ht
    split at hr
    · rename_i hgt
      split at hr
      · rename_i ks hk
        cases hu <;> simp only [aeq, reduceCtorEq] at hr
        cases hv <;> simp only [reduceCtorEq] at hr
        exact agg ks (.inr ⟨m, e, ht⟩) hgt hk _ _ _ _ rfl rfl rfl rfl hr
      · simp [aeq] at hr
    · simp [aeq] at hr
  · rename_i e ht
    have hguard : ∀ (a1 a2 : Option Addr) (l1 c1 l2 c2 : Nat) op, (eqGuard op t x y (.slice a1 l1 c1) (.slice a2 l2 c2)).run P W = .ok () W := by intro a1 a2 l1 c1 l2 c2 op; unfold eqGuard; split <;> simp
    cases hu <;> cases hv <;> simp only [aeq, reduceCtorEq] at hr
    all_goals (first | (split at hr <;> simp only [Option.some.injEq, reduceCtorEq] at hr) | (simp only [Option.some.injEq] at hr))
    all_goals (subst hr; refine eq_fin (hguard _ _ _ _ _ _) ?_ rfl rfl; first | exact eqIn_slice1 9999 ht _ _ _ _ _ | exact eqIn_slice2 9999 ht _ _ _ _ _)
  · rename_i e ht
    have hguard : ∀ (a1 a2 : Option Addr) op, (eqGuard op t x y (.pointer a1) (.pointer a2)).run P W = .ok () W := by intro a1 a2 op; unfold eqGuard; split <;> simp
    cases hu <;> cases hv <;> simp only [aeq, reduceCtorEq, Option.some.injEq] at hr
    all_goals (subst hr; refine eq_fin (hguard _ _) ?_ rfl rfl; first | exact eqIn_ptr1 9999 ht _ | exact eqIn_ptr2 9999 ht _)
  · rename_i ms ht
    have hg1 : ∀ (t1 : TypeId) (y1 : Value) op, (eqGuard op t x y (.iface t1 y1) .nilIface).run P W = .ok () W := by intro t1 y1 op; unfold eqGuard; split <;> simp
    have hg2 : ∀ (t1 : TypeId) (y1 : Value) op, (eqGuard op t x y .nilIface (.iface t1 y1)).run P W = .ok () W := by intro t1 y1 op; unfold eqGuard; split <;> simp
    have main : aeq .iface u v = some r → (∃ c, x = .const c ∨ y = .const c) → ((do eqGuard .eql t x y xu xv; binOp .eql t xu xv : Sem Value).run P W = .ok (.bool r) W) ∧ ((do eqGuard .neq t x y xu xv; binOp .neq t xu xv : Sem Value).run P W = .ok (.bool !r) W) := by
      intro hr hc
      cases hu <;> cases hv <;> simp only [aeq, reduceCtorEq, Option.some.injEq] at hr
      · subst hr; exact eq_fin (hg1 _ _) (eqIn_if2 9999 ht) rfl rfl
      · subst hr; exact eq_fin (hg2 _ _) (eqIn_if1 9999 ht) rfl rfl
      · subst hr
        refine eq_fin (fun op => ?_) ?_ rfl rfl
        · unfold eqGuard
          rcases hc with ⟨c, rfl | rfl⟩ <;> (split <;> simp)
        · exact eqIn_if0 9999 ht
    split at hr
    · exact main hr ⟨_, .inl rfl⟩
    · exact main hr ⟨_, .inr rfl⟩
    · simp [aeq] at hr
  · simp [aeq] at hr

theorem d_bin {P : Program} {t : TypeId} {x y : Operand} {op : BinOp} {u v r : V} {xu xv : Value} {G φ} (hu : Rep W G φ u xu) (hv : Rep W G φ v xv) (hr : abin op (eqKOf P t x y) u v = some r) :
    ∃ z, (do eqGuard op t x y xu xv; binOp op t xu xv : Sem Value).run P W = .ok z W ∧ Rep W G φ r z := by
  by_cases h1 : ∃ k a k' b, u = .int k a ∧ v = .int k' b
  · obtain ⟨k, a, k', b, rfl, rfl⟩ := h1
    cases hu; cases hv
    obtain ⟨z, h2, h3⟩ := d_bin_int (P := P) (W := W) (G := G) (φ := φ) (t := t) hr
    have hg : (eqGuard op t x y (.int k a) (.int k' b)).run P W = .ok () W := by unfold eqGuard; split <;> simp
    exact ⟨z, by simp only [Sem.run_bind, hg, Result.andThen_ok, h2], h3⟩
  by_cases h2 : ∃ a b, u = .str a ∧ v = .str b
  · obtain ⟨a, b, rfl, rfl⟩ := h2
    cases hu with
    | str _ s hs =>
      cases hv with
      | str _ s' hs' =>
        subst hs; subst hs'
        obtain ⟨z, h2, h3⟩ := d_bin_str (P := P) (W := W) (G := G) (φ := φ) (t := t) hr
        have hg : (eqGuard op t x y (.string s) (.string s')).run P W = .ok () W := by unfold eqGuard; split <;> simp
        exact ⟨z, by simp only [Sem.run_bind, hg, Result.andThen_ok, h2], h3⟩
  have hr' : vEq op (aeq (eqKOf P t x y) u v) = some r := by
    unfold abin at hr
    split at hr
    · exact absurd ⟨_, _, _, _, rfl, rfl⟩ h1
    · exact absurd ⟨_, _, rfl, rfl⟩ h2
    · exact hr
  unfold vEq at hr'
  split at hr'
  · simp only [Option.map_eq_some_iff] at hr'
    obtain ⟨b, hb, rfl⟩ := hr'
    exact ⟨_, (d_aeq hu hv hb).1, .bool _⟩
  · simp only [Option.map_eq_some_iff] at hr'
    obtain ⟨b, hb, rfl⟩ := hr'
    exact ⟨_, (d_aeq hu hv hb).2, .bool _⟩
  · simp at hr'

end Go.Abs
