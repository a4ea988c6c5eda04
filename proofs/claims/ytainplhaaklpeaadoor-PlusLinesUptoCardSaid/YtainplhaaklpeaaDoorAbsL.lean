/-
  Abs, part L: every pure operation, in one theorem. Own work of this seat.
-/
import Derived.Test.YtainplhaaklpeaaDoorAbsK
namespace Go.Abs
open Go.RowKit

variable {cx : Cx} {w : World} {B : Nat → Prop} {GB : Nat → Nat} {g : Gh} {st : St} {a : Act} {W : World} {Γ : Spec}

theorem cParts_rep {n : Nat} {P : Program} {pl : Nat → Option (Nat × Nat)} (h : SR w B GB g st a W) (hn : a.tmps.size = n) : ∀ {ps : List (Nat × Operand)} {qs : List (Nat × Nat × Opd)}, cParts P n pl ps = some qs →
    qs.length = ps.length ∧ ∀ (k : Nat) (p : Nat × Nat × V) (q : Nat × Value), (qs.map fun p => (p.1, p.2.1, evO st.tm p.2.2))[k]? = some p → (ps.map fun q => (q.1, a.eval q.2))[k]? = some q → pl q.1 = some (p.1, p.2.1) ∧ Rep W g.G g.φ p.2.2 q.2
  | [], qs, hc => by simp [cParts] at hc; subst hc; exact ⟨rfl, fun k p q hp => by simp at hp⟩
  | (i, x) :: ps, qs, hc => by
    simp only [cParts, Option.bind_eq_some_iff, Option.map_eq_some_iff] at hc
    obtain ⟨p0, h1, y, h2, qs', h3, rfl⟩ := hc
    obtain ⟨h4, h5⟩ := cParts_rep h hn h3
    refine ⟨by simp [h4], fun k p q hp hq => ?_⟩
    cases k with
    | zero => simp at hp hq; subst hp; subst hq; exact ⟨h1, cOpd_rep h hn h2⟩
    | succ k => exact h5 k p q (by simpa using hp) (by simpa using hq)

theorem call_sound (hs : Scope cx w B GB) (h : SR w B GB g st a W) {f : FuncId} {args : List V} {xs : Array Value} {r : V × Bool} (hpc : PC cx f args r) (hr : RepL W g.G g.φ args xs) (d : Option Nat) :
    (callFunc f xs).run cx.P W = .ok (.enter f xs) W ∧ Calls cx.P f xs W fun e W' => ∃ y, e = .returned y ∧ After B g W ⟨r.1, r.2, none⟩ d y W' := by
  obtain ⟨⟨fn, hf, hname, hbody⟩, hcalls⟩ := hpc
  have hnm : (fn.name == "runtime.NumGoroutine") = false := by simpa using hname
  refine ⟨by simp only [callFunc, Sem.run_bind, run_program, Result.andThen_ok, hf, hnm, hbody, Bool.false_eq_true, if_false, Sem.run_pure], (hcalls W g.G g.φ xs (h.okw hs) hr).mono fun e W' => ?_⟩
  rintro ⟨G', y, rfl, hb, hG, hGz, hrep, hown⟩
  have hB : B W.heap.size := h.hB _ h.below.size
  refine ⟨y, rfl, ⟨G', g.φ, fun b => if b < W.heap.size then g.ow b else some (.slot (d.getD 0))⟩, ?_, hrep, fun t ht ho => ?_⟩
  · refine ⟨⟨fun b i hi => ?_, fun b => ?_, fun _ _ h => h⟩, rfl, .of hb (fun b hb => h.hB b (Nat.le_trans h.below.size hb)), fun b hb' => hG b (Nat.lt_of_not_le fun e => hb' (h.hB b (Nat.le_trans h.below.size e))), fun b id h1 h2 h3 h4 => ?_, fun b q h1 h2 _ => ?_, hGz⟩
    · have : b < W.heap.size := by
        rcases Nat.lt_or_ge b W.heap.size with h' | h'
        · exact h'
        · have := h.Gz b h'; omega
      exact hb.cell (p := ⟨b, i, none⟩) this
    · rcases Nat.lt_or_ge b W.heap.size with h' | h'
      · show g.G b ≤ G' b
        rw [hG b h']; exact Nat.le_refl _
      · show g.G b ≤ G' b
        rw [h.Gz b h']; exact Nat.zero_le _
    · dsimp only; rw [if_pos h2]; exact ⟨hb.block _ h2, by rw [hG b h2]; exact h3, h4⟩
    · dsimp only; rw [if_pos h1]; exact ⟨hb.block _ h1, hG b h1, h2⟩
  · subst ht
    have := hown ho (fun b => if b < W.heap.size then g.ow b else some (.slot t)) (.slot t) (fun b hb => by show (if b < W.heap.size then g.ow b else some (Pos.slot t)) = _; rw [if_neg (by omega)])
    intro sz xs b off len cap sp hv hx
    rcases this sz xs b off len cap sp hv hx with h1 | ⟨h1, h2, h3, h4⟩
    · exact .inl h1
    · exact .inr ⟨h.hB b (Nat.le_trans h.below.size h1), h2, h3, h4⟩

theorem After.of {r : Res} {d : Option Nat} {y : Value} {W' : World} {g' : Gh} (h1 : Adv B g g' W W' r.tk) (h2 : Rep W' g'.G g'.φ r.v y) (h3 : r.o = true → OwnAt W' B g' (.slot (d.getD 0)) r.v y) : After B g W r d y W' :=
  ⟨g', h1, h2, fun t ht ho => by subst ht; exact h3 ho⟩

theorem wp_call {P : Program} {o : Oper} {next : Act → World → Prop} {Q : Exit → Act → World → Prop} {f : FuncId} {xs : Array Value} (he : (execOp a.eval o).run P W = .ok (.enter f xs) W) {R : Value → World → Prop}
    (hc : Calls P f xs W fun e W' => ∃ y, e = .returned y ∧ R y W') (h : ∀ y W', R y W' → next (a.put o.dst y) W') : o.wp P a W next Q := by
  unfold Oper.wp
  rw [he]
  refine hc.mono fun e W' => ?_
  rintro ⟨y, rfl, hR⟩
  exact h y W' hR

theorem wp_value' {P : Program} {o : Oper} {next : Act → World → Prop} {Q : Exit → Act → World → Prop} {y : Value} {W' : World} (he : (execOp a.eval o).run P W = .ok (.value y) W')
    (h : next (a.put o.dst y) W') : o.wp P a W next Q := by
  unfold Oper.wp
  rw [he]
  exact h

theorem RepO.map {x : Option Operand} {y : Option Opd} (h : RepO W g.G g.φ (y.map (evO st.tm)) (x.map a.eval)) : RepO W g.G g.φ (y.map (evO st.tm)) (x.map a.eval) := h

theorem cOpd_tmp {n : Nat} {P : Program} {t : TypeId} {x : Operand} {k : Nat} (hc : cOpd P n t x = some (.tmp k)) : x = .tmp k ∧ k < n := by
  unfold cOpd at hc
  split at hc
  · split at hc
    · rename_i j hj
      simp only [Option.some.injEq, Opd.tmp.injEq] at hc
      subst hc; exact ⟨rfl, hj⟩
    · simp at hc
  · simp at hc
  · simp at hc
  · simp at hc

theorem own_of_slot (h : SR w B GB g st a W) {k : Nat} (hk : k < a.tmps.size) (ho : st.own (.slot k) = true) : OwnAt W B g (.slot k) (st.tm k) (a.eval (.tmp k)) := by
  have := h.own k a.tmps[k] (Array.getElem?_eq_getElem hk) ho
  simpa [Act.eval, Array.getD, hk] using this

theorem mvo_sound (h : SR w B GB g st a W) {n : Nat} (hn : a.tmps.size = n) {k : Nat} (hk : k < n) (d : Option Nat) : After B g W ⟨st.tm k, st.own (.slot k), some (.slot k)⟩ d (a.eval (.tmp k)) W :=
  .of (Adv.move h _ (.slot (d.getD 0))) (h.get (by rw [hn]; exact hk)) fun ho => (own_of_slot h (by rw [hn]; exact hk) ho).move

theorem zipIdx_ops : ∀ (k : Nat) (ps : List (Nat × Operand)), inOrder k ps = true → (ps.map fun p => (p.1, a.eval p.2)) = ((ps.map fun p => a.eval p.2).zipIdx k).map fun p => (p.2, p.1)
  | _, [], _ => rfl
  | k, (i, x) :: r, h => by
    simp only [inOrder, Bool.and_eq_true, beq_iff_eq] at h
    obtain ⟨rfl, h⟩ := h
    simp [zipIdx_ops _ r h]

set_option maxHeartbeats 1000000 in
theorem peval_sound (hs : Scope cx w B GB) (hΓ : Sound cx Γ) (h : SR w B GB g st a W) {n : Nat} (hn : a.tmps.size = n) {ops : Array Oper} {o : Oper} {ao : AOp} (hc : cOp cx.P n ops o = some ao) {r : Res}
    (hv : peval Γ cx.gl st.H st.own st.tm ao = some r) {next : Act → World → Prop} {Q : Exit → Act → World → Prop} (hnext : ∀ y W', After B g W r o.dst y W' → next (a.put o.dst y) W') : o.wp cx.P a W next Q := by
  obtain ⟨dst, op, ty, pos, after, guard⟩ := o
  simp only [] at hnext
  have mvc : ∀ {x : Operand} {y : Opd} {t : TypeId}, cOpd cx.P n t x = some y → ∀ {v}, r = ⟨v, false, none⟩ → v = evO st.tm y → After B g W r dst (a.eval x) W := fun hx _ hr he => by
    rw [hr, he]; exact .same h (cOpd_rep h hn hx)
  cases op with
  | move x =>
    have fin : ∀ {y : Opd}, cOpd cx.P n ty x = some y → ao = .mv y → (⟨dst, .move x, ty, pos, after, guard⟩ : Oper).wp cx.P a W next Q := fun hx he => by
      subst he
      simp only [peval, Option.some.injEq] at hv
      exact wp_value' rfl (hnext _ _ (mvc hx hv.symm rfl))
    simp only [cOp] at hc
    split at hc
    · split at hc
      · split at hc
        · rename_i k hk
          simp only [Option.some.injEq] at hc; subst hc
          simp only [peval, Option.some.injEq] at hv; subst hv
          exact wp_value' rfl (hnext _ _ (mvo_sound h hn hk dst))
        · simp at hc
      · simp only [Option.map_eq_some_iff] at hc
        obtain ⟨y, hy, rfl⟩ := hc
        exact fin hy rfl
    · simp only [Option.map_eq_some_iff] at hc
      obtain ⟨y, hy, rfl⟩ := hc
      exact fin hy rfl
  | assign x =>
    have fin : ∀ {y : Opd}, cOpd cx.P n ty x = some y → ao = .mv y → (⟨dst, .assign x, ty, pos, after, guard⟩ : Oper).wp cx.P a W next Q := fun hx he => by
      subst he
      simp only [peval, Option.some.injEq] at hv
      exact wp_value' rfl (hnext _ _ (mvc hx hv.symm rfl))
    simp only [cOp] at hc
    split at hc
    · split at hc
      · split at hc
        · rename_i k hk
          simp only [Option.some.injEq] at hc; subst hc
          simp only [peval, Option.some.injEq] at hv; subst hv
          exact wp_value' rfl (hnext _ _ (mvo_sound h hn hk dst))
        · simp at hc
      · simp only [Option.map_eq_some_iff] at hc
        obtain ⟨y, hy, rfl⟩ := hc
        exact fin hy rfl
    · simp only [Option.map_eq_some_iff] at hc
      obtain ⟨y, hy, rfl⟩ := hc
      exact fin hy rfl
  | pick c x y =>
    simp only [cOp, Option.bind_eq_some_iff, Option.map_eq_some_iff] at hc
    obtain ⟨c', h1, x', h2, y', h3, rfl⟩ := hc
    replace hv := resV_some hv; obtain ⟨v, hv, rfl⟩ := hv
    obtain ⟨t, e, hr⟩ := d_pick (cOpd_rep h hn h1) (cOpd_rep h hn h2) (cOpd_rep h hn h3) hv
    refine wp_value' (y := if t then a.eval x else a.eval y) ?_ (hnext _ _ (.same h hr))
    simp [execOp, e, asBool]
  | extract x i =>
    simp only [cOp, Option.map_eq_some_iff] at hc
    obtain ⟨x', h1, rfl⟩ := hc
    replace hv := resV_some hv; obtain ⟨v, hv, rfl⟩ := hv
    obtain ⟨y, h2, hr⟩ := d_ext (P := cx.P) (cOpd_rep h hn h1) hv
    exact wp_value rfl h2 (hnext _ _ (.same h hr))
  | nilCheck x =>
    simp only [cOp, Option.map_eq_some_iff] at hc
    obtain ⟨x', h1, rfl⟩ := hc
    replace hv := resV_some hv; obtain ⟨v, hv, rfl⟩ := hv
    have hr := cOpd_rep h hn h1
    obtain ⟨rfl, h2⟩ := d_nilck hr hv
    refine wp_value' (y := a.eval x) ?_ (hnext _ _ (.same h hr))
    rcases h2 with ⟨p, h2⟩ | ⟨f, p, c, h2⟩ <;> simp [execOp, h2]
  | binOp bop t x y yt =>
    simp only [cOp, Option.bind_eq_some_iff, Option.map_eq_some_iff] at hc
    obtain ⟨x', h1, y', h2, rfl⟩ := hc
    replace hv := resV_some hv; obtain ⟨v, hv, rfl⟩ := hv
    obtain ⟨z, h3, hr⟩ := d_bin (x := x) (y := y) (cOpd_rep h hn h1) (cOpd_rep h hn h2) hv
    exact wp_value rfl h3 (hnext _ _ (.same h hr))
  | unOp uop t x =>
    simp only [cOp, Option.map_eq_some_iff] at hc
    obtain ⟨x', h1, rfl⟩ := hc
    replace hv := resV_some hv; obtain ⟨v, hv, rfl⟩ := hv
    obtain ⟨y, h2, hr⟩ := d_un (P := cx.P) (W := W) (cOpd_rep h hn h1) hv
    exact wp_value rfl h2 (hnext _ _ (.same h hr))
  | load t x =>
    simp only [cOp, Option.bind_eq_some_iff, Option.map_eq_some_iff] at hc
    obtain ⟨k, hk, x', h1, rfl⟩ := hc
    split at hv
    · rename_i hcond
      simp only [Bool.and_eq_true, Option.isNone_iff_eq_none] at hcond
      obtain ⟨_, rfl⟩ := hcond
      simp only [peval] at hv
      have hr := cOpd_rep h hn h1
      generalize evO st.tm x' = u at hv hr
      generalize hxe : a.eval x = xv at hr
      cases hr <;> simp only [vLdo, reduceCtorEq, Option.bind_eq_some_iff, Option.map_eq_some_iff] at hv
      rename_i id off b hφ
      obtain ⟨cs, hcs, v, hv, rfl⟩ := hv
      obtain ⟨b', xs, t', e1, e2, e3, e4, e5⟩ := h.ob id cs (hCells_some hcs)
      rw [hφ] at e1; cases e1
      have hlt : off < xs.size := by rw [← e3.1]; exact (List.getElem?_eq_some_iff.1 hv).1
      have hrun : (Instr.loadAt t (.pointer (some ⟨b, off, none⟩))).run cx.P W = .ok xs[off] W := by
        have hcell : W.cell? ⟨b, off, none⟩ = some xs[off] := by rw [cell_of_row _ b off xs t' (0, 0) e2]; exact Array.getElem?_eq_getElem hlt
        simp [Instr.loadAt, Instr.sureAddr, loadVar, ldN_none hk, hcell]
      refine wp_value (by simp only [execOp, hxe]) hrun (hnext _ _ ?_)
      exact .of (Adv.move h _ (.slot (dst.getD 0))) (e3.2 off v _ hv (Array.getElem?_eq_getElem hlt)) fun ho => (e5 off v _ hv (Array.getElem?_eq_getElem hlt) ho).move
    · replace hv := resV_some hv; obtain ⟨v, hv, rfl⟩ := hv
      obtain ⟨y, h2, hr⟩ := d_load hs h hk (cOpd_rep h hn h1) hv
      exact wp_value rfl h2 (hnext _ _ (.same h hr))
  | build t parts =>
    simp only [cOp, Option.bind_eq_some_iff, Option.map_eq_some_iff] at hc
    obtain ⟨pl, hpl, z, hz, ps, hps, rfl⟩ := hc
    replace hv := resV_some hv; obtain ⟨v, hv, rfl⟩ := hv
    simp only [Option.map_eq_some_iff] at hv
    obtain ⟨rs, hrs, rfl⟩ := hv
    obtain ⟨zv, hzv, hzr, hzs⟩ := rep_zeroV (W := W) (G := g.G) (φ := g.φ) hz
    obtain ⟨hl, hp⟩ := cParts_rep h hn hps
    obtain ⟨ys, hfill, hrep, hsc⟩ := d_fill (by simpa using hl) hp hzr hzs hrs
    refine wp_value (s := Instr.build t (parts.map fun (i, x) => (i, a.eval x))) rfl (y := .agg ys) ?_ (hnext _ _ (.same h (.agg _ _ hrep.1 hsc hrep.2)))
    have hlist : (parts.map fun (i, x) => (i, a.eval x)).toList = parts.toList.map fun q => (q.1, a.eval q.2) := by simp
    unfold places at hpl
    split at hpl
    · rename_i fs hu
      split at hpl
      · rename_i hall
        simp only [Option.some.injEq] at hpl; subst hpl
        have hmap : (fs.mapM fun f => (do pure (f.offset, ← sizeOf f.type) : Sem (Nat × Nat))).run cx.P W = .ok (fs.map fun f => (f.offset, cx.P.cellsOf f.type)) W := by
          have key : ∀ (l : List Field), (∀ f ∈ l, (cx.P.info? f.type).isSome = true) → (l.mapM fun f => (do pure (f.offset, ← sizeOf f.type) : Sem (Nat × Nat))).run cx.P W = .ok (l.map fun f => (f.offset, cx.P.cellsOf f.type)) W := by
            intro l
            induction l with
            | nil => intro _; rfl
            | cons f l ih =>
              intro hl
              obtain ⟨i, hi, his⟩ := info_of_some (hl f (by simp))
              have := ih fun f hf => hl f (by simp [hf])
              simp only [List.mapM_cons, Sem.run_bind, run_sizeOf' hi, Result.andThen_ok, Sem.run_pure, this, List.map_cons, his]
          have := key fs.toList (fun f hf => List.all_eq_true.1 hall f hf)
          rw [Array.mapM_eq_mapM_toList]
          simp only [Functor.map, Sem.run_bind', this, Result.andThen_ok]
          show Result.ok _ W = _
          congr 1
          apply Array.ext'; simp
        have hfill' : Instr.fill (fun i => (fs.map fun f => (f.offset, cx.P.cellsOf f.type))[i]?) zv.cells (parts.map fun (i, x) => (i, a.eval x)).toList = some ys := by
          rw [hlist, ← hfill]; congr 1; funext i; simp
        simp only [Instr.build, Sem.run_bind, hzv, Result.andThen_ok, run_underlying hu, hmap, hfill', Sem.run_pure]
      · simp at hpl
    · rename_i m e hu
      split at hpl
      · rename_i hie
        simp only [Option.some.injEq] at hpl; subst hpl
        obtain ⟨i, hi, his⟩ := info_of_some hie
        simp only [Instr.build, Sem.run_bind, hzv, Result.andThen_ok, run_underlying hu, run_sizeOf' hi, hlist, his, hfill, Sem.run_pure]
      · simp at hpl
    · simp at hpl
  | buildSlice t len parts =>
    simp only [cOp, Option.bind_eq_some_iff] at hc
    obtain ⟨sz, hsz, hc⟩ := hc
    split at hc
    · rename_i hcond
      obtain ⟨hlen, hord, hbig⟩ := hcond
      simp only [Option.map_eq_some_iff] at hc
      obtain ⟨xs, hxs, rfl⟩ := hc
      simp only [peval] at hv
      split at hv
      · rename_i hf
        simp only [Option.some.injEq] at hv; subst hv
        obtain ⟨e, ie, z, hu, hi, hz, hzs, hby, his⟩ := slE_spec hsz
        obtain ⟨hl, hr⟩ := cOpds_rep h hn hxs
        have hlen' : (xs.map (evO st.tm)).length = len := by simp [hl, hlen]
        obtain ⟨y, W', g', hrun, hadv, hrep, hown⟩ := d_bsl h (sz := sz) (xs := xs.map (evO st.tm)) (ys := (parts.toList.map (·.2)).map a.eval) hu hi hz his (by rw [hzs]; exact his) (by rw [hlen']; exact hbig) (by simp [hl]) hr hf (.slot (dst.getD 0))
        rw [hlen'] at hrun
        have he : (parts.map fun (i, x) => (i, a.eval x)) = ((((parts.toList.map (·.2)).map a.eval).zipIdx 0).map fun p => (p.2, p.1)).toArray := by
          apply Array.ext'
          have := zipIdx_ops (a := a) 0 parts.toList hord
          simp only [Array.toList_map, List.map_map] at this ⊢
          exact this
        exact wp_value (by simp only [execOp, he]) hrun (hnext _ _ (.of hadv hrep fun _ => hown))
      · simp at hv
    · simp at hc
  | makeSlice t l c =>
    simp only [cOp, Option.bind_eq_some_iff, Option.map_eq_some_iff] at hc
    obtain ⟨sz, hsz, l', h1, c', h2, rfl⟩ := hc
    obtain ⟨e, ie, z, hu, hi, hz, hzs, hby, his⟩ := slE_spec hsz
    obtain ⟨y, W', g', hrun, hadv, hrep, hown⟩ := d_mks h hu hi hz his (by rw [hzs]; exact his) hby (cOpd_rep h hn h1) (cOpd_rep h hn h2) hv (.slot (dst.getD 0))
    exact wp_value rfl hrun (hnext _ _ (.of hadv hrep hown))
  | slice t x lo hi mx =>
    simp only [cOp] at hc
    split at hc
    · rename_i hu
      split at hc
      · rename_i hm
        simp only [Option.bind_eq_some_iff, Option.map_eq_some_iff] at hc
        obtain ⟨x', h1, lo', h2, hi', h3, rfl⟩ := hc
        replace hv := resV_some hv; obtain ⟨v, hv, rfl⟩ := hv
        obtain ⟨y, hrun, hr⟩ := d_sls (P := cx.P) hu (cOpd_rep h hn h1) (cOpdO_rep h hn h2) (cOpdO_rep h hn h3) hv
        have : mx = none := by simpa using hm
        subst this
        exact wp_value rfl hrun (hnext _ _ (.same h hr))
      · simp at hc
    · rename_i e hu
      split at hc
      · rename_i i hi'
        simp only [Option.bind_eq_some_iff, Option.map_eq_some_iff] at hc
        obtain ⟨x', h1, lo', h2, hi2, h3, mx', h4, rfl⟩ := hc
        obtain ⟨y, hrun, hr, htk, hown⟩ := d_slc hu hi' rfl (cOpd_rep h hn h1) (cOpdO_rep h hn h2) (cOpdO_rep h hn h3) (cOpdO_rep h hn h4) hv
        refine wp_value rfl hrun (hnext _ _ ⟨g, by rw [htk]; exact Adv.refl h _, hr, fun t _ ho => hown ho _ _ _⟩)
      · simp at hc
    · rename_i m e hu
      split at hc
      · rename_i i hi'
        simp only [Option.bind_eq_some_iff, Option.map_eq_some_iff] at hc
        obtain ⟨x', h1, lo', h2, hi2, h3, mx', h4, rfl⟩ := hc
        replace hv := resV_some hv; obtain ⟨v, hv, rfl⟩ := hv
        obtain ⟨y, hrun, hr⟩ := d_slca hu hi' rfl (cOpd_rep h hn h1) (cOpdO_rep h hn h2) (cOpdO_rep h hn h3) (cOpdO_rep h hn h4) hv
        exact wp_value rfl hrun (hnext _ _ (.same h hr))
      · simp at hc
    · simp at hc
  | fieldAddr t x f =>
    simp only [cOp, Option.bind_eq_some_iff] at hc
    obtain ⟨fd, hfd, hc⟩ := hc
    split at hc
    · rename_i i hi
      split at hc
      · rename_i hz
        simp only [Option.map_eq_some_iff] at hc
        obtain ⟨x', h1, rfl⟩ := hc
        replace hv := resV_some hv; obtain ⟨v, hv, rfl⟩ := hv
        unfold fieldAt at hfd
        split at hfd
        · rename_i fs hu
          obtain ⟨y, hrun, hr⟩ := d_faddr hu hfd hi hz (cOpd_rep h hn h1) hv
          exact wp_value rfl hrun (hnext _ _ (.same h hr))
        · simp at hfd
      · simp at hc
    · simp at hc
  | field t x f =>
    simp only [cOp, Option.bind_eq_some_iff, Option.map_eq_some_iff] at hc
    obtain ⟨fd, hfd, k, hk, x', h1, rfl⟩ := hc
    replace hv := resV_some hv; obtain ⟨v, hv, rfl⟩ := hv
    unfold fieldAt at hfd
    split at hfd
    · rename_i fs hu
      obtain ⟨y, hrun, hr⟩ := d_fld hu hfd hk (cOpd_rep h hn h1) hv
      exact wp_value rfl hrun (hnext _ _ (.same h hr))
    · simp at hfd
  | indexAddr t x i =>
    simp only [cOp] at hc
    split at hc
    · rename_i e hu
      split at hc
      · rename_i ie hie
        simp only [Option.bind_eq_some_iff, Option.map_eq_some_iff] at hc
        obtain ⟨x', h1, i', h2, rfl⟩ := hc
        replace hv := resV_some hv; obtain ⟨v, hv, rfl⟩ := hv
        obtain ⟨y, hrun, hr⟩ := d_iaddr hu hie (cOpd_rep h hn h1) (cOpd_rep h hn h2) hv
        exact wp_value rfl hrun (hnext _ _ (.same h hr))
      · simp at hc
    · rename_i m e hu
      split at hc
      · rename_i ie hie
        simp only [Option.bind_eq_some_iff, Option.map_eq_some_iff] at hc
        obtain ⟨x', h1, i', h2, rfl⟩ := hc
        replace hv := resV_some hv; obtain ⟨v, hv, rfl⟩ := hv
        obtain ⟨y, hrun, hr⟩ := d_iarr hu hie (cOpd_rep h hn h1) (cOpd_rep h hn h2) hv
        exact wp_value rfl hrun (hnext _ _ (.same h hr))
      · simp at hc
    · simp at hc
  | index t x i =>
    simp only [cOp] at hc
    split at hc
    · rename_i hu
      simp only [Option.bind_eq_some_iff, Option.map_eq_some_iff] at hc
      obtain ⟨x', h1, i', h2, rfl⟩ := hc
      replace hv := resV_some hv; obtain ⟨v, hv, rfl⟩ := hv
      obtain ⟨y, hrun, hr⟩ := d_idx hu (cOpd_rep h hn h1) (cOpd_rep h hn h2) hv
      exact wp_value rfl hrun (hnext _ _ (.same h hr))
    · rename_i m e hu
      split at hc
      · rename_i ie hie
        simp only [Option.bind_eq_some_iff, Option.map_eq_some_iff] at hc
        obtain ⟨k, hk, x', h1, i', h2, rfl⟩ := hc
        replace hv := resV_some hv; obtain ⟨v, hv, rfl⟩ := hv
        obtain ⟨y, hrun, hr⟩ := d_idxa hu hie hk (cOpd_rep h hn h1) (cOpd_rep h hn h2) hv
        exact wp_value rfl hrun (hnext _ _ (.same h hr))
      · simp at hc
    · simp at hc
  | convert s d x =>
    simp only [cOp] at hc
    split at hc
    · rename_i hs' hd
      simp only [Option.map_eq_some_iff] at hc
      obtain ⟨x', h1, rfl⟩ := hc
      replace hv := resV_some hv; obtain ⟨v, hv, rfl⟩ := hv
      obtain ⟨y, hrun, hr⟩ := d_s2s hs' hd (cOpd_rep h hn h1) hv
      exact wp_value rfl hrun (hnext _ _ (.same h hr))
    · rename_i e hs' hd
      split at hc
      · rename_i he
        simp only [Option.map_eq_some_iff] at hc
        obtain ⟨x', h1, rfl⟩ := hc
        obtain ⟨y, W', g', hrun, hadv, hrep, hown⟩ := d_s2b h hs' hd he (cOpd_rep h hn h1) hv (.slot (dst.getD 0))
        exact wp_value rfl hrun (hnext _ _ (.of hadv hrep hown))
      · simp at hc
    · rename_i e hs' hd
      split at hc
      · rename_i he
        simp only [Option.map_eq_some_iff] at hc
        obtain ⟨x', h1, rfl⟩ := hc
        replace hv := resV_some hv; obtain ⟨v, hv, rfl⟩ := hv
        have hr0 := cOpd_rep h hn h1
        generalize evO st.tm x' = u at hv hr0
        generalize hxe : a.eval x = xv at hr0
        have goal : ∃ y, (convert s d xv).run cx.P W = .ok y W ∧ Rep W g.G g.φ v y := by
          unfold vB2s at hv
          split at hv
          · exact d_b2s_sl (H := st.H) hs' he hd hr0 (by simpa [vB2s] using hv)
          · simp only [Option.bind_eq_some_iff] at hv
            obtain ⟨cs, hcs, hv⟩ := hv
            split at hv
            · rename_i hle
              simp only [Option.map_eq_some_iff] at hv
              obtain ⟨l, hl, rfl⟩ := hv
              cases hr0
              rename_i b hφ hlc
              obtain ⟨b', hb', hrow⟩ := h.row hcs
              rw [hφ] at hb'; cases hb'
              exact d_b2s_row hs' he hd hrow hle hl
            · simp at hv
          · simp at hv
        obtain ⟨y, hrun, hr⟩ := goal
        exact wp_value (by simp only [execOp, hxe]) hrun (hnext _ _ (.same h hr))
      · simp at hc
    · rename_i hs' hd
      simp only [Option.map_eq_some_iff] at hc
      obtain ⟨x', h1, rfl⟩ := hc
      replace hv := resV_some hv; obtain ⟨v, hv, rfl⟩ := hv
      obtain ⟨y, hrun, hr⟩ := d_i2i hs' hd (cOpd_rep h hn h1) hv
      exact wp_value rfl hrun (hnext _ _ (.same h hr))
    · simp at hc
  | sliceToArrayPointer d x =>
    simp only [cOp] at hc
    split at hc
    · rename_i m e hu
      simp only [Option.map_eq_some_iff] at hc
      obtain ⟨x', h1, rfl⟩ := hc
      replace hv := resV_some hv; obtain ⟨v, hv, rfl⟩ := hv
      obtain ⟨y, hrun, hr⟩ := d_s2a hu (cOpd_rep h hn h1) hv
      exact wp_value rfl hrun (hnext _ _ (.same h hr))
    · simp at hc
  | makeFunc fn first caps =>
    cases fn with
    | func f =>
      simp only [cOp] at hc
      split at hc
      · rename_i hf
        simp only [Option.map_eq_some_iff] at hc
        obtain ⟨xs, hxs, rfl⟩ := hc
        simp only [peval, Option.some.injEq] at hv; subst hv
        obtain ⟨hl, hr⟩ := cOpds_rep h hn hxs
        have hfe : first = #[] := by simpa using hf
        subst hfe
        refine wp_value' (y := .func (.func f) #[] (caps.map a.eval)) (by simp [execOp, Instr.makeFunc]) (hnext _ _ (.same h (.fn f _ _ (by simp [hl]) fun i c x hc hx => hr i c x hc (by simpa using hx))))
      · simp at hc
    | _ => simp [cOp] at hc
  | call c =>
    obtain ⟨callee, args, argTypes⟩ := c
    cases callee with
    | value fo =>
      cases fo with
      | func f =>
        simp only [cOp, Option.map_eq_some_iff] at hc
        obtain ⟨xs, hxs, rfl⟩ := hc
        simp only [peval, Option.map_eq_some_iff] at hv
        obtain ⟨r0, hr0, rfl⟩ := hv
        obtain ⟨hl, hr⟩ := cOpds_rep h hn hxs
        have hL : RepL W g.G g.φ (xs.map (evO st.tm)) (args.map a.eval) := ⟨by simp [hl], fun i c x hc hx => hr i c x hc (by simpa using hx)⟩
        obtain ⟨e1, e2⟩ := call_sound hs h (hΓ _ _ _ hr0) hL dst
        refine wp_call (f := f) (xs := args.map a.eval) ?_ e2 hnext
        simpa [execOp, resolve, Deferred.ofValue, invoke, Act.eval] using e1
      | tmp k =>
        simp only [cOp] at hc
        split at hc
        · rename_i hk
          simp only [Option.map_eq_some_iff] at hc
          obtain ⟨xs, hxs, rfl⟩ := hc
          simp only [peval] at hv
          obtain ⟨hl, hr⟩ := cOpds_rep h hn hxs
          have hf : Rep W g.G g.φ (evO st.tm (.tmp k)) (a.eval (.tmp k)) := h.get (by rw [hn]; exact hk)
          generalize evO st.tm (.tmp k) = u at hv hf
          generalize hxe : a.eval (.tmp k) = xv at hf
          cases hf <;> simp only [vCallv, reduceCtorEq] at hv
          rename_i f cs ys hcl hcr
          simp only [Option.map_eq_some_iff] at hv
          obtain ⟨r0, hr0, rfl⟩ := hv
          have hL : RepL W g.G g.φ (xs.map (evO st.tm) ++ cs) (args.map a.eval ++ ys) := ⟨by simp [hl, hcl], fun i c x hc hx => by
            rw [List.getElem?_append] at hc
            rw [Array.getElem?_append] at hx
            have hle : (xs.map (evO st.tm)).length = (args.map a.eval).size := by simp [hl]
            rw [hle] at hc
            split at hc
            · rename_i hlt
              rw [if_pos hlt] at hx
              exact hr i c x hc (by simpa using hx)
            · rename_i hlt
              rw [if_neg hlt] at hx
              exact hcr _ c x hc hx⟩
          obtain ⟨e1, e2⟩ := call_sound hs h (hΓ _ _ _ hr0) hL dst
          refine wp_call (f := f) (xs := args.map a.eval ++ ys) ?_ e2 hnext
          simpa [execOp, resolve, Deferred.ofValue, invoke, hxe] using e1
        · simp at hc
      | const v => simp [cOp] at hc
      | global v => simp [cOp] at hc
    | invoke rc m => simp [cOp] at hc
    | builtin b =>
      cases b with
      | len =>
        simp only [cOp] at hc
        split at hc
        · rename_i x t ha ht
          have ha' : args = #[x] := Array.ext' (by simpa using ha)
          have ht' : argTypes = #[t] := Array.ext' (by simpa using ht)
          subst ha'; subst ht'
          split at hc
          · rename_i hu
            simp only [Option.map_eq_some_iff] at hc
            obtain ⟨x', h1, rfl⟩ := hc
            replace hv := resV_some hv; obtain ⟨v, hv, rfl⟩ := hv
            obtain ⟨y, hrun, hr⟩ := d_len (ty := ty) (str := true) (by simpa using hu) (cOpd_rep h hn h1) hv
            refine wp_value' ?_ (hnext _ _ (.same h hr))
            simp only [execOp, resolve, invoke, builtin, Sem.run_bind, Sem.run_pure, Result.andThen_ok]
            simp [hrun]
          · rename_i e hu
            simp only [Option.map_eq_some_iff] at hc
            obtain ⟨x', h1, rfl⟩ := hc
            replace hv := resV_some hv; obtain ⟨v, hv, rfl⟩ := hv
            obtain ⟨y, hrun, hr⟩ := d_len (ty := ty) (str := false) (by simpa using ⟨e, hu⟩) (cOpd_rep h hn h1) hv
            refine wp_value' ?_ (hnext _ _ (.same h hr))
            simp only [execOp, resolve, invoke, builtin, Sem.run_bind, Sem.run_pure, Result.andThen_ok]
            simp [hrun]
          · simp at hc
        · simp at hc
      | max =>
        simp only [cOp] at hc
        split at hc
        · rename_i x y ha
          have ha' : args = #[x, y] := Array.ext' (by simpa using ha)
          subst ha'
          simp only [Option.bind_eq_some_iff, Option.map_eq_some_iff] at hc
          obtain ⟨x', h1, y', h2, rfl⟩ := hc
          replace hv := resV_some hv; obtain ⟨v, hv, rfl⟩ := hv
          have hx := cOpd_rep h hn h1
          have hy := cOpd_rep h hn h2
          generalize evO st.tm x' = u1 at hv hx
          generalize evO st.tm y' = u2 at hv hy
          generalize hxe : a.eval x = xv at hx
          generalize hye : a.eval y = yv at hy
          cases hx <;> try (simp [vMnx] at hv; done)
          cases hy <;> try (simp [vMnx] at hv; done)
          rename_i k n k' n'
          simp only [vMnx] at hv
          split at hv
          · rename_i hk
            subst hk
            simp only [Option.some.injEq] at hv
            subst hv
            refine wp_value' (y := .int k (if n' > n then n' else n)) ?_ (hnext _ _ (.same h (.int _ _)))
            simp [execOp, resolve, invoke, builtin, Builtin.max_, Builtin.max2, hxe, hye]
          · cases hv
        · simp at hc
      | min =>
        simp only [cOp] at hc
        split at hc
        · rename_i x y ha
          have ha' : args = #[x, y] := Array.ext' (by simpa using ha)
          subst ha'
          simp only [Option.bind_eq_some_iff, Option.map_eq_some_iff] at hc
          obtain ⟨x', h1, y', h2, rfl⟩ := hc
          replace hv := resV_some hv; obtain ⟨v, hv, rfl⟩ := hv
          have hx := cOpd_rep h hn h1
          have hy := cOpd_rep h hn h2
          generalize evO st.tm x' = u1 at hv hx
          generalize evO st.tm y' = u2 at hv hy
          generalize hxe : a.eval x = xv at hx
          generalize hye : a.eval y = yv at hy
          cases hx <;> try (simp [vMnx] at hv; done)
          cases hy <;> try (simp [vMnx] at hv; done)
          rename_i k n k' n'
          simp only [vMnx] at hv
          split at hv
          · rename_i hk
            subst hk
            simp only [Option.some.injEq] at hv
            subst hv
            refine wp_value' (y := .int k (if n' < n then n' else n)) ?_ (hnext _ _ (.same h (.int _ _)))
            simp [execOp, resolve, invoke, builtin, Builtin.min_, Builtin.min2, hxe, hye]
          · cases hv
        · simp at hc
      | append =>
        simp only [cOp] at hc
        split at hc
        · rename_i s x t tx ha ht
          have ha' : args = #[s, x] := Array.ext' (by simpa using ha)
          have ht' : argTypes = #[t, tx] := Array.ext' (by simpa using ht)
          subst ha'; subst ht'
          simp only [Option.bind_eq_some_iff] at hc
          obtain ⟨sz, hsz, hc⟩ := hc
          split at hc
          · rename_i hk
            simp only [Option.bind_eq_some_iff, Option.map_eq_some_iff] at hc
            obtain ⟨s', h1, x', h2, rfl⟩ := hc
            obtain ⟨e, ie, z, hu, hi, hz, hzs, hby, his⟩ := slE_spec hsz
            have hk' : (∃ e', cx.P.underlying tx = some (.slice e')) ∨ cx.P.underlying tx = some .string := by
              simp only [Bool.or_eq_true] at hk
              rcases hk with hk | hk
              · left; unfold isSl at hk; split at hk
                · rename_i e' he'; exact ⟨e', he'⟩
                · simp at hk
              · right; unfold isStr at hk; split at hk
                · assumption
                · simp at hk
            simp only [peval] at hv
            obtain ⟨y, W', g', hrun, hadv, hrep, hown⟩ := d_app (ty := ty) (e := e) h (.slot (dst.getD 0)) hu hi hz his (by rw [hzs]; exact his) hby hk' (cOpd_rep h hn h1) (cOpd_rep h hn h2) (fun ho => by
              cases s' with
              | const v => simp [ownO] at ho
              | tmp k =>
                obtain ⟨rfl, hkn⟩ := cOpd_tmp h1
                exact ⟨_, rfl, own_of_slot h (by rw [hn]; exact hkn) ho⟩) hv
            refine wp_value' ?_ (hnext _ _ (.of hadv hrep hown))
            simp only [execOp, resolve, invoke, builtin, Sem.run_bind, Sem.run_pure, Result.andThen_ok]
            simp [hrun]
          · simp at hc
        · simp at hc
      | _ => simp [cOp] at hc
  | store t x y =>
    simp only [cOp] at hc
    split at hc
    · simp only [Option.bind_eq_some_iff] at hc
      obtain ⟨a', h1, hc⟩ := hc
      split at hc
      · split at hc
        · split at hc
          · simp only [Option.some.injEq] at hc; subst hc; simp [peval] at hv
          · simp at hc
        · simp only [Option.map_eq_some_iff] at hc
          obtain ⟨_, _, rfl⟩ := hc; simp [peval] at hv
      · simp only [Option.map_eq_some_iff] at hc
        obtain ⟨_, _, rfl⟩ := hc; simp [peval] at hv
    · simp at hc
  | alloc t =>
    simp only [cOp, Option.map_eq_some_iff] at hc
    obtain ⟨_, _, rfl⟩ := hc; simp [peval] at hv
  | box t x =>
    simp only [cOp, Option.map_eq_some_iff] at hc
    obtain ⟨_, _, rfl⟩ := hc; simp [peval] at hv
  | _ => simp [cOp] at hc

end Go.Abs
