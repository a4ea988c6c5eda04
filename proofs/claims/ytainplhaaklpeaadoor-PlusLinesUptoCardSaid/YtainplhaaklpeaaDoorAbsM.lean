/-
  Abs, part M: the operations that touch objects; a row of operations in the text's order. Own work of this seat.
-/
import Derived.Test.YtainplhaaklpeaaDoorAbsL
namespace Go.Abs
open Go.RowKit

variable {cx : Cx} {w : World} {B : Nat → Prop} {GB : Nat → Nat} {g : Gh} {st : St} {a : Act} {W : World} {Γ : Spec}

theorem SR.newOb (h : SR w B GB g st a W) {cs : List V} {xs : Array Value} {t : TypeId} (hr : RepL W g.G g.φ cs xs) (hsc : ∀ c ∈ cs, c.sc = true) :
    ∃ g', SR w B GB g' (st.new cs) a (W.alloc (.cells xs t)) ∧ g'.φ st.nH = some W.heap.size := by
  have hB : B W.heap.size := h.hB _ h.below.size
  have hfr : ∀ id, st.nH ≤ id → g.φ id = none := by
    intro id hid
    cases hφ : g.φ id with
    | none => rfl
    | some b => have := (h.φ id b hφ).2.2.2.2; omega
  have hadv := Adv.new h 0 none none (below_alloc' W (.cells xs t)) (by simp)
  have hG : (fun b => if b = W.heap.size then 0 else g.G b) = g.G := by
    funext b; split
    · rename_i e; rw [e]; exact (h.Gz _ (Nat.le_refl _)).symm
    · rfl
  rw [hG] at hadv
  have h1 := h.adv hadv
  simp only [St.take] at h1
  have hk : Keeps W g.G g.φ (W.alloc (.cells xs t)) g.G (upd g.φ st.nH (some W.heap.size)) := ⟨hadv.keeps.cell, fun _ => Nat.le_refl _, fun id b hφ => by
    have : id ≠ st.nH := fun e => by rw [hfr id (by omega)] at hφ; cases hφ
    simp [upd, this, hφ]⟩
  have hk2 : Keeps (W.alloc (.cells xs t)) g.G g.φ (W.alloc (.cells xs t)) g.G (upd g.φ st.nH (some W.heap.size)) := ⟨fun _ _ _ => rfl, fun _ => Nat.le_refl _, hk.φ⟩
  refine ⟨⟨g.G, upd g.φ st.nH (some W.heap.size), fun b => if b = W.heap.size then none else g.ow b⟩, ⟨h1.defers, fun t x hx => (h1.tm t x hx).keep hk2, fun t x hx ho => h1.own t x hx ho, fun id ds hH => ?_, fun id hid => ?_, fun id b hφ => ?_, fun id id' b e1 e2 => ?_, h1.Gz, h1.Glo, h1.below, h1.hB⟩, by simp [upd]⟩
  · by_cases hid : id = st.nH
    · subst hid
      simp only [St.new, upd, if_true, Option.some.injEq, Ob.cells.injEq] at hH
      subst hH
      exact ⟨W.heap.size, xs, t, by simp [upd], heap_alloc_new _ _, hr.keep hk, hsc, fun j v x _ _ ho => by simp [St.new] at ho⟩
    · simp only [St.new, upd, hid, if_false] at hH
      obtain ⟨b, ys, t', e1, e2, e3, e4, e5⟩ := h1.ob id ds hH
      refine ⟨b, ys, t', by simp [upd, hid]; exact e1, e2, e3.keep hk2, e4, fun j v x hv hx ho => e5 j v x hv hx ?_⟩
      simpa [St.new, hid] using ho
  · simp only [St.new] at hid ⊢
    have : id ≠ st.nH := by omega
    simp only [upd, this, if_false]
    exact h.obn id (by omega)
  · simp only [St.new]
    by_cases hid : id = st.nH
    · subst hid
      simp only [upd, if_true, Option.some.injEq] at hφ
      subst hφ
      exact ⟨hB, by simp, h.Gz _ (Nat.le_refl _), by simp, by omega⟩
    · simp only [upd, hid, if_false] at hφ
      obtain ⟨q1, q2, q3, q4, q5⟩ := h1.φ id b hφ
      exact ⟨q1, q2, q3, q4, by omega⟩
  · have hlt : ∀ id b, g.φ id = some b → b ≠ W.heap.size := fun id b hφ e => by have := (h.φ id b hφ).2.1; omega
    by_cases hid : id = st.nH <;> by_cases hid' : id' = st.nH
    · rw [hid, hid']
    · simp only [upd, hid, if_true, Option.some.injEq] at e1
      simp only [upd, hid', if_false] at e2
      exact absurd e1.symm (hlt _ _ e2)
    · simp only [upd, hid', if_true, Option.some.injEq] at e2
      simp only [upd, hid, if_false] at e1
      exact absurd e2.symm (hlt _ _ e1)
    · simp only [upd, hid, hid', if_false] at e1 e2
      exact h.inj id id' b e1 e2

theorem SR.setObj (h : SR w B GB g st a W) {id b off : Nat} {cs ys : List V} {zs : Array Value} {own' : Pos → Bool} (hH : st.H id = some (.cells cs)) (hφ : g.φ id = some b) (hle : off + ys.length ≤ cs.length)
    (hr : RepL W g.G g.φ ys zs) (hsc : ∀ c ∈ ys, c.sc = true)
    (ho : ∀ p, own' p = true → (∃ j v x, p = .cell id j ∧ off ≤ j ∧ ys[j - off]? = some v ∧ zs[j - off]? = some x ∧ OwnAt W B g p v x) ∨ (st.own p = true ∧ ∀ j, p = .cell id j → j < off ∨ off + ys.length ≤ j)) :
    SR w B GB g { st with H := upd st.H id (some (.cells (setAt cs off ys))), own := own' } a (W.setCells b off zs.toList) := by
  obtain ⟨b', xs, t, e1, e2, e3, e4, e5⟩ := h.ob id cs hH
  rw [hφ] at e1; cases e1
  obtain ⟨q1, q2, q3, q4, q5⟩ := h.φ id b hφ
  obtain ⟨s1, s2, s3, s4⟩ := setCells_same b zs.toList off W
  have hfar : ∀ k, k ≠ b → (W.setCells b off zs.toList).heap[k]? = W.heap[k]? := fun k hk => setCells_far b _ _ _ _ hk
  have hk : Keeps W g.G g.φ (W.setCells b off zs.toList) g.G g.φ := ⟨fun k i hi => World.cell?_of_block (w := W) (hfar k fun e => by subst e; omega), fun _ => Nat.le_refl _, fun _ _ h => h⟩
  have hown : ∀ p v x, OwnAt W B g p v x → OwnAt (W.setCells b off zs.toList) B g p v x := by
    intro p v x hp sz xs' b' off' len cap sp hv hx
    rcases hp sz xs' b' off' len cap sp hv hx with h1 | ⟨h1, h2, h3, cs', t', lo, hi, h4, h5, h6⟩
    · exact .inl h1
    · exact .inr ⟨h1, h2, h3, cs', t', lo, hi, by rw [hfar b' (fun e => by subst e; rw [q4] at h2; cases h2)]; exact h4, h5, h6⟩
  have hsz : xs.size = cs.length := e3.1.symm
  have hzl : zs.size = ys.length := hr.1.symm
  -- the row of the object, written
  have hrow : (W.setCells b off zs.toList).heap[b]? = some (.cells (setL xs.toList off zs.toList).toArray t (0, 0)) := by
    have key : ∀ (vs : List Value) (o : Nat) (u : World) (c : Array Value), u.heap[b]? = some (.cells c t (0, 0)) → o + vs.length ≤ c.size → (u.setCells b o vs).heap[b]? = some (.cells (setL c.toList o vs).toArray t (0, 0)) := by
      intro vs
      induction vs with
      | nil => intro o u c hu _; simp [World.setCells, setL, hu]
      | cons v vs ih =>
        intro o u c hu hlen
        simp only [List.length_cons] at hlen
        have h1 : (u.setCell ⟨b, o, none⟩ v).heap[b]? = some (.cells (c.setIfInBounds o v) t (0, 0)) := by simp [World.setCell, Array.getElem?_modify, hu]
        simp only [World.setCells]
        rw [ih (o + 1) _ _ h1 (by simp; omega)]
        congr 2
        apply Array.ext'
        apply List.ext_getElem?
        intro j
        rw [setL_get _ _ _ (by simp; omega), setL_get _ _ _ (by simp; omega)]
        simp only [Array.toList_setIfInBounds, List.getElem?_set, List.length_cons, Array.length_toList]
        by_cases c1 : o + 1 ≤ j ∧ j < o + 1 + vs.length
        · rw [if_pos c1, if_pos (by omega), show j - o = (j - (o + 1)) + 1 by omega]; simp
        · rw [if_neg c1]
          by_cases c2 : o = j
          · subst c2; rw [if_pos rfl, if_pos (by omega), if_pos (by omega)]; simp
          · rw [if_neg c2, if_neg (by omega)]
    exact key zs.toList off W xs e2 (by simp; omega)
  have hrep : RepL (W.setCells b off zs.toList) g.G g.φ (setAt cs off ys) (setL xs.toList off zs.toList).toArray := (e3.setL hr hle).keep hk
  refine ⟨h.defers, fun t x hx => (h.tm t x hx).keep hk, fun t x hx hp => ?_, fun id' ds hH' => ?_, fun id' hid => ?_, fun id' b' hφ' => ?_, h.inj, fun k hk' => h.Gz k (by omega), h.Glo, h.below.trans ⟨s1, s2, s3, by omega, fun k hk' => hfar k (fun e => hk' (by rw [e]; exact q1))⟩, h.hB⟩
  · rcases ho _ hp with ⟨j, _, _, e, _⟩ | ⟨h1, _⟩
    · cases e
    · exact hown _ _ _ (h.own t x hx h1)
  · by_cases hid : id' = id
    · subst hid
      simp only [upd, if_true, Option.some.injEq, Ob.cells.injEq] at hH'
      subst hH'
      refine ⟨b, _, t, hφ, hrow, hrep, fun c hc => ?_, fun j v x hv hx hp => ?_⟩
      · rcases mem_setAt hc with hc | hc
        · exact e4 c hc
        · exact hsc c hc
      · rw [setAt_eq, setL_get _ _ _ hle] at hv
        simp only [List.getElem?_toArray] at hx
        rw [setL_get _ _ _ (by simp; omega)] at hx
        have hl : zs.toList.length = ys.length := by simp; omega
        rw [hl] at hx
        rcases ho _ hp with ⟨j', v', x', e, hoff, hv', hx', how⟩ | ⟨h1, h2⟩
        · simp only [Pos.cell.injEq, true_and] at e
          subst e
          have hj := (List.getElem?_eq_some_iff.1 hv').1
          rw [if_pos (by omega)] at hv hx
          rw [hv'] at hv; cases hv
          have : x = x' := by rw [← Array.getElem?_toList] at hx'; rw [hx'] at hx; exact (Option.some.inj hx).symm
          subst this
          exact hown _ _ _ how
        · have := h2 j rfl
          rw [if_neg (by omega)] at hv hx
          exact hown _ _ _ (e5 j v x hv (by simpa using hx) h1)
    · simp only [upd, hid, if_false] at hH'
      obtain ⟨b2, xs2, t2, f1, f2, f3, f4, f5⟩ := h.ob id' ds hH'
      have hne : b2 ≠ b := fun e => hid (h.inj id' id b (by rw [← e]; exact f1) hφ)
      refine ⟨b2, xs2, t2, f1, by rw [hfar b2 hne]; exact f2, f3.keep hk, f4, fun j v x hv hx hp => ?_⟩
      rcases ho _ hp with ⟨j', _, _, e, _⟩ | ⟨h1, _⟩
      · simp only [Pos.cell.injEq] at e; exact absurd e.1 hid
      · exact hown _ _ _ (f5 j v x hv hx h1)
  · have hid2 : st.nH ≤ id' := hid
    have : id' ≠ id := fun e => by subst e; omega
    simp only [upd, this, if_false]
    exact h.obn id' hid2
  · obtain ⟨r1, r2, r3, r4, r5⟩ := h.φ id' b' hφ'
    exact ⟨r1, by omega, r3, r4, r5⟩


theorem run_storeAt {P : Program} {t : TypeId} {i : TypeInfo} {b off : Nat} {v : Value} (hi : P.info? t = some i) (hsz : v.cells.size = i.size)
    (hc : ∀ j, j < v.cells.size → (W.cell? ⟨b, off + j, none⟩).isSome = true) (hf : ∀ j, j < v.cells.size → W.frozen? ⟨b, off + j, none⟩ = false) (h1 : ∀ x ∈ v.cells.toList, x.oneCell' = true) :
    (Instr.storeAt t (.pointer (some ⟨b, off, none⟩)) v).run P W = .ok () (W.setCells b off v.cells.toList) := by
  have := run_storeCells_cells (P := P) b off v.cells.toList 0 W (by simpa using hc) (by simpa using hf) h1
  simp [Instr.storeAt, Instr.sureAddr, storeVar, run_sizeOf' hi, hsz, this]

theorem put_size (a : Act) (d : Option Nat) (x : Value) : (a.put d x).tmps.size = a.tmps.size := by cases d <;> simp [Act.put]

theorem wp_skip' {P : Program} {o : Oper} {next : Act → World → Prop} {Q : Exit → Act → World → Prop} {W' : World} (he : (execOp a.eval o).run P W = .ok .skip W')
    (h : next (a.put o.dst undef) W') : o.wp P a W next Q := by
  unfold Oper.wp
  rw [he]
  exact h

theorem rep_nil {G : Nat → Nat} {φ : Nat → Option Nat} : Rep W G φ Nil undef := .tup [] #[] rfl (fun i c x hc => by simp at hc)

theorem SR.putNil (h : SR w B GB g st a W) (d : Option Nat) : SR w B GB g (st.put d Nil false) (a.put d undef) W :=
  h.put d Nil false undef rep_nil (fun _ _ h => by cases h)

theorem store_sound (h : SR w B GB g st a W) {n : Nat} (hn : a.tmps.size = n) {o : Oper} {t : TypeId} {p x : Operand} {i : TypeInfo} (ho : o.op = .store t p x) (hi : cx.P.info? t = some i) {p' : Opd} {u : V} (h1 : cOpd cx.P n 0 p = some p')
    (hu : Rep W g.G g.φ u (a.eval x)) {id off : Nat} {cs : List V} (hp : evO st.tm p' = .ptr id off) (hcs : hCells st.H id = some cs) (hlen : u.cells.length = i.size) (hsc : ∀ c ∈ u.cells, c.sc = true) (hle : off + i.size ≤ cs.length)
    {own' : Pos → Bool} {g2 : Gh} (h2 : ∃ st2, SR w B GB g2 st2 a W ∧ st2.tm = st.tm ∧ st2.H = st.H ∧ st2.nH = st.nH ∧
      ∀ q, own' q = true → (∃ j v x', q = .cell id j ∧ off ≤ j ∧ u.cells[j - off]? = some v ∧ (a.eval x).cells[j - off]? = some x' ∧ OwnAt W B g2 q v x') ∨ (st2.own q = true ∧ ∀ j, q = .cell id j → j < off ∨ off + u.cells.length ≤ j))
    (hg2 : g2.G = g.G ∧ g2.φ = g.φ) {next : Act → World → Prop} {Q : Exit → Act → World → Prop}
    (hnext : ∀ W', SR w B GB g2 ({ st with H := upd st.H id (some (.cells (setAt cs off u.cells))), own := own' }.put o.dst Nil false) (a.put o.dst undef) W' → next (a.put o.dst undef) W') : o.wp cx.P a W next Q := by
  obtain ⟨st2, hs2, e1, e2, e3, hown⟩ := h2
  have hpr := cOpd_rep h hn h1
  rw [hp] at hpr
  generalize hpe : a.eval p = pv at hpr
  cases hpr with
  | ptr _ _ b hφ =>
  obtain ⟨b', xs, t', f1, f2, f3, f4, f5⟩ := h.ob id cs (hCells_some hcs)
  rw [hφ] at f1; cases f1
  have huc := hu.cells
  have hsz : (a.eval x).cells.size = i.size := by rw [← huc.1]; exact hlen
  have hxs : xs.size = cs.length := f3.1.symm
  have hrun := run_storeAt (W := W) (b := b) (off := off) (v := a.eval x) hi hsz
    (fun j hj => by rw [cell_of_row _ b _ xs t' (0, 0) f2]; simp; omega)
    (fun j hj => by simp [World.frozen?, f2])
    (fun y hy => by
      obtain ⟨k, hk⟩ := List.getElem?_of_mem hy
      have hk' : (a.eval x).cells[k]? = some y := by simpa using hk
      have hlt : k < u.cells.length := by rw [huc.1]; exact (Array.getElem?_eq_some_iff.1 hk').1
      exact (huc.2 k _ y (List.getElem?_eq_getElem hlt) hk').one (hsc _ (List.getElem_mem hlt)))
  have hset := SR.setObj (own' := own') hs2 (by rw [e2]; exact hCells_some hcs) (by rw [hg2.2]; exact hφ) (by rw [hlen]; exact hle) (zs := (a.eval x).cells) (by rw [hg2.1, hg2.2]; exact huc) hsc hown
  rw [e2] at hset
  refine wp_skip' (W' := W.setCells b off (a.eval x).cells.toList) ?_ (hnext _ ?_)
  · simp only [execOp, ho, hpe, Sem.run_bind, hrun, Result.andThen_ok, Sem.run_pure]
  · have : ({ st2 with H := upd st.H id (some (.cells (setAt cs off u.cells))), own := own' } : St) = { st with H := upd st.H id (some (.cells (setAt cs off u.cells))), own := own' } := by
      cases st2; cases st; simp at e1 e2 e3 ⊢; exact ⟨e1, e3⟩
    rw [this] at hset
    exact hset.putNil o.dst

theorem exec1_pure {gl : Nat → Option (List V)} {o : AOper} {st' : St} (he : exec1 Γ gl o st = some st') (h : ∀ r, peval Γ gl st.H st.own st.tm o.op = some r → st' = (st.take r.tk).put o.dst r.v r.o → False) :
    (∃ cs, o.op = .new cs) ∨ (∃ x, o.op = .box x) ∨ (∃ n p x, o.op = .store n p x) ∨ ∃ p t, o.op = .sto p t := by
  obtain ⟨d, op, gd, af⟩ := o
  cases op
  case new cs => exact .inl ⟨_, rfl⟩
  case box x => exact .inr (.inl ⟨_, rfl⟩)
  case store n p x => exact .inr (.inr (.inl ⟨_, _, _, rfl⟩))
  case sto p t => exact .inr (.inr (.inr ⟨_, _, rfl⟩))
  all_goals
    exfalso
    simp only [exec1, Option.map_eq_some_iff] at he
    obtain ⟨r, hr, rfl⟩ := he
    exact h r hr rfl

theorem cOp_new {P : Program} {n : Nat} {ops : Array Oper} {o : Oper} {cs : List V} (h : cOp P n ops o = some (.new cs)) : ∃ t, o.op = .alloc t ∧ zeroV P t = some cs := by
  unfold cOp at h
  repeat' split at h
  all_goals try (simp only [Option.bind_eq_some_iff, Option.map_eq_some_iff, Option.some.injEq, reduceCtorEq, and_false, exists_false] at h; done)
  all_goals first
    | (rename_i t heq
       simp only [Option.map_eq_some_iff, AOp.new.injEq] at h
       obtain ⟨z, h1, rfl⟩ := h
       exact ⟨t, heq, h1⟩)
    | (simp only [Option.bind_eq_some_iff, Option.map_eq_some_iff] at h
       obtain ⟨_, _, h⟩ := h
       exfalso
       first
         | (obtain ⟨_, _, h⟩ := h; split at h <;> (simp only [reduceCtorEq] at h; done))
         | (repeat' split at h
            all_goals (simp only [Option.map_eq_some_iff, reduceCtorEq, and_false, exists_false] at h; done)))
theorem cOp_box {P : Program} {n : Nat} {ops : Array Oper} {o : Oper} {x : Opd} (h : cOp P n ops o = some (.box x)) : ∃ t y, o.op = .box t y ∧ cOpd P n t y = some x := by
  unfold cOp at h
  repeat' split at h
  all_goals try (simp only [Option.bind_eq_some_iff, Option.map_eq_some_iff, Option.some.injEq, reduceCtorEq, and_false, exists_false] at h; done)
  all_goals first
    | (rename_i t y heq
       simp only [Option.map_eq_some_iff, AOp.box.injEq] at h
       obtain ⟨z, h1, rfl⟩ := h
       exact ⟨t, y, heq, h1⟩)
    | (simp only [Option.bind_eq_some_iff, Option.map_eq_some_iff] at h
       obtain ⟨_, _, h⟩ := h
       exfalso
       first
         | (obtain ⟨_, _, h⟩ := h; split at h <;> (simp only [reduceCtorEq] at h; done))
         | (repeat' split at h
            all_goals (simp only [Option.map_eq_some_iff, reduceCtorEq, and_false, exists_false] at h; done)))
theorem cOp_store {P : Program} {n : Nat} {ops : Array Oper} {o : Oper} {k : Nat} {p x : Opd} (h : cOp P n ops o = some (.store k p x)) : ∃ t q y i, o.op = .store t q y ∧ P.info? t = some i ∧ i.size = k ∧ cOpd P n 0 q = some p ∧ cOpd P n t y = some x := by
  unfold cOp at h
  repeat' split at h
  all_goals try (simp only [Option.bind_eq_some_iff, Option.map_eq_some_iff, Option.some.injEq, reduceCtorEq, and_false, exists_false] at h; done)
  all_goals first
    | (skip
       simp only [Option.bind_eq_some_iff, Option.map_eq_some_iff, AOp.store.injEq] at h
       obtain ⟨q', h1, z, h2, rfl, rfl, rfl⟩ := h
       exact ⟨_, _, _, _, (by assumption), (by assumption), rfl, h1, h2⟩)
    | (simp only [Option.bind_eq_some_iff, Option.map_eq_some_iff] at h
       obtain ⟨_, _, h⟩ := h
       exfalso
       first
         | (obtain ⟨_, _, h⟩ := h; split at h <;> (simp only [reduceCtorEq] at h; done))
         | (repeat' split at h
            all_goals (simp only [Option.map_eq_some_iff, reduceCtorEq, and_false, exists_false] at h; done)))
theorem cOp_sto {P : Program} {n : Nat} {ops : Array Oper} {o : Oper} {p : Opd} {k : Nat} (h : cOp P n ops o = some (.sto p k)) : ∃ t q i, o.op = .store t q (.tmp k) ∧ P.info? t = some i ∧ i.size = 1 ∧ cOpd P n 0 q = some p ∧ k < n := by
  unfold cOp at h
  repeat' split at h
  all_goals try (simp only [Option.bind_eq_some_iff, Option.map_eq_some_iff, Option.some.injEq, reduceCtorEq, and_false, exists_false] at h; done)
  all_goals first
    | (rename_i hi hc _ _ heq hk
       simp only [Option.bind_eq_some_iff, Option.some.injEq, AOp.sto.injEq] at h
       obtain ⟨q', h1, rfl, rfl⟩ := h
       simp only [Bool.and_eq_true, beq_iff_eq] at hc
       exact ⟨_, _, _, heq, hi, hc.2, h1, hk⟩)
    | (simp only [Option.bind_eq_some_iff, Option.map_eq_some_iff] at h
       obtain ⟨_, _, h⟩ := h
       exfalso
       first
         | (obtain ⟨_, _, h⟩ := h; split at h <;> (simp only [reduceCtorEq] at h; done))
         | (repeat' split at h
            all_goals (simp only [Option.map_eq_some_iff, reduceCtorEq, and_false, exists_false] at h; done)))
/-- ONE OPERATION. -/
theorem exec1_sound (hs : Scope cx w B GB) (hΓ : Sound cx Γ) (h : SR w B GB g st a W) {n : Nat} (hn : a.tmps.size = n) {ops : Array Oper} {o : Oper} {ao : AOper} (hc : cOp cx.P n ops o = some ao.op) (hd : ao.dst = o.dst) {st' : St}
    (he : exec1 Γ cx.gl ao st = some st') {next : Act → World → Prop} {Q : Exit → Act → World → Prop} (hnext : ∀ g' a' W', SR w B GB g' st' a' W' → a'.tmps.size = n → next a' W') : o.wp cx.P a W next Q := by
  by_cases hp : ∃ r, peval Γ cx.gl st.H st.own st.tm ao.op = some r ∧ st' = (st.take r.tk).put ao.dst r.v r.o
  · obtain ⟨r, hr, rfl⟩ := hp
    refine peval_sound hs hΓ h hn hc hr fun y W' ⟨g', h1, h2, h3⟩ => hnext g' _ _ ?_ (by rw [put_size]; exact hn)
    rw [hd]
    exact (h.adv h1).put o.dst r.v r.o y h2 h3
  · obtain ⟨d, op, gd, af⟩ := ao
    simp only at hd hc; subst hd
    rcases exec1_pure he (fun r h1 h2 => hp ⟨r, h1, h2⟩) with ⟨cs, e⟩ | ⟨x, e⟩ | ⟨k, p, x, e⟩ | ⟨p, t, e⟩ <;> simp only at e <;> subst e
    · obtain ⟨t, ho, hz⟩ := cOp_new hc
      obtain ⟨z, hzr, hzrep, hzs⟩ := rep_zeroV (W := W) (G := g.G) (φ := g.φ) hz
      obtain ⟨g', h1, h2⟩ := h.newOb (t := t) hzrep hzs
      simp only [exec1, Option.some.injEq] at he
      subst he
      have hrun : (Instr.alloc t true (.tuple #[])).run cx.P W = .ok (.pointer (some ⟨W.heap.size, 0, none⟩)) (W.alloc (.cells z.cells t)) := by
        simp only [Instr.alloc, Sem.run_bind, hzr, Result.andThen_ok, newVar, newRow]
        rfl
      refine wp_value (by simp only [execOp, ho]) hrun (hnext g' _ _ (h1.put o.dst (.ptr st.nH 0) false _ (.ptr _ _ _ h2) (fun _ _ h => by cases h)) (by rw [put_size]; exact hn))
    · obtain ⟨t, y, ho, hy⟩ := cOp_box hc
      have hr := (cOpd_rep h hn hy).cells
      simp only [exec1] at he
      split at he
      · rename_i hall
        simp only [Option.some.injEq] at he
        subst he
        obtain ⟨g', h1, h2⟩ := h.newOb (t := t) hr (fun c hc => List.all_eq_true.1 hall c hc)
        have hrun : (Instr.box t (a.eval y)).run cx.P W = .ok (.pointer (some ⟨W.heap.size, 0, none⟩)) (W.alloc (.cells (a.eval y).cells t)) := by
          simp only [Instr.box, Sem.run_bind, newVar, newRow]
          rfl
        refine wp_value (by simp only [execOp, ho]) hrun (hnext g' _ _ (h1.put o.dst (.ptr st.nH 0) false _ (.ptr _ _ _ h2) (fun _ _ h => by cases h)) (by rw [put_size]; exact hn))
      · simp at he
    · obtain ⟨t, q, y, i, ho, hi, rfl, hq, hy⟩ := cOp_store hc
      simp only [exec1, St.ev] at he
      split at he
      · rename_i id off hp'
        split at he
        · rename_i cs hcs
          simp only [Option.map_eq_some_iff, St.storeOb] at he
          obtain ⟨s', he, rfl⟩ := he
          split at he
          · rename_i hcond
            obtain ⟨c1, c2, c3⟩ := hcond
            simp only [Option.some.injEq] at he
            subst he
            refine store_sound h hn ho hi hq (cOpd_rep h hn hy) hp' hcs c1 (fun c hc => List.all_eq_true.1 c2 c hc) c3 (own' := (st.setOb id cs off (evO st.tm x).cells).own) (g2 := g) ⟨st, h, rfl, rfl, rfl, fun p hp2 => .inr ?_⟩ ⟨rfl, rfl⟩ (fun W' hsr => hnext g _ _ hsr (by rw [put_size]; exact hn))
            cases p with
            | slot t => exact ⟨hp2, fun j e => by cases e⟩
            | cell i' j =>
              simp only [St.setOb] at hp2
              split at hp2
              · cases hp2
              · rename_i hne
                refine ⟨hp2, fun j' e => ?_⟩
                simp only [Pos.cell.injEq] at e
                obtain ⟨rfl, rfl⟩ := e
                omega
          · simp at he
        · simp at he
      · simp at he
    · obtain ⟨ty, q, i, ho, hi, hsz, hq, hk⟩ := cOp_sto hc
      simp only [exec1, St.ev] at he
      split at he
      · rename_i id off hp'
        split at he
        · rename_i cs hcs
          split at he
          · rename_i hcond
            obtain ⟨c1, c2⟩ := hcond
            simp only [Option.some.injEq] at he
            subst he
            have hrep : Rep W g.G g.φ (st.tm t) (a.eval (.tmp t)) := h.get (by rw [hn]; exact hk)
            have hcl := sc_cells c1
            refine store_sound h hn ho hi hq hrep hp' hcs (by rw [hcl, hsz]; rfl) (by rw [hcl]; intro c hc; simp at hc; subst hc; exact c1) (by omega) (own' := (st.stoOb id cs off t).own) (g2 := g.move (some (.slot t)) (.cell id off))
              ⟨st.take (some (.slot t)), h.adv (Adv.move h _ _), rfl, rfl, rfl, fun p hp2 => ?_⟩ ⟨rfl, rfl⟩ (fun W' hsr => hnext _ _ _ (by rw [hcl] at hsr; exact hsr) (by rw [put_size]; exact hn))
            simp only [St.stoOb, updP] at hp2
            split at hp2
            · cases hp2
            · rename_i hne
              split at hp2
              · rename_i heq
                subst heq
                left
                have hxc := hrep.cells
                rw [hcl] at hxc
                have hx1 : (a.eval (.tmp t)).cells = #[a.eval (.tmp t)] := by
                  have := hrep.one c1
                  generalize a.eval (.tmp t) = z at this
                  cases z <;> first | rfl | (simp [Value.oneCell'] at this)
                refine ⟨off, st.tm t, a.eval (.tmp t), rfl, Nat.le_refl _, by rw [hcl]; simp, by rw [hx1]; simp, ?_⟩
                exact (own_of_slot h (by rw [hn]; exact hk) hp2).move
              · rename_i hne2
                right
                refine ⟨by simp only [St.take, updP, hne, if_false]; exact hp2, fun j e => ?_⟩
                subst e
                rw [hcl]
                have : j ≠ off := fun e => hne2 (by rw [e])
                simp only [List.length_cons, List.length_nil]; omega
          · simp at he
        · simp at he
      · simp at he

end Go.Abs
