/-
  Parts of the proof, one behind the other. Own work of this seat; some printed by its programs.
-/
import Derived.Test.YtpmgdngjbdkdfaaDoorM1
import Derived.IntWalk
import Derived.Test.YtpmgdngjbdkdfaaDoorRows
import Derived.Deep.Slices
import Derived.ReadAgain
import Derived.Carry
import Derived.OpenShut
namespace Go.Abs
open Go.RowKit
def thenQ (K : St -> Prop) (Q : Ex -> St -> Prop) : Ex -> St -> Prop
  | .normal, s => K s
  | e, s => Q e s
def loopN (body : (Ex -> St -> Prop) -> St -> Prop) (Q : Ex -> St -> Prop) : Nat -> St -> Prop
  | 0, _ => False
  | k + 1, st => body (thenQ (loopN body Q k) Q) st
def condP (v : V) (p q : Prop) : Prop := match v with | .bool true => p | .bool false => q | _ => False
def someP (o : Option St) (p : St -> Prop) : Prop := match o with | some s => p s | none => False
def awp (Γ : Spec) (gl : Nat -> Option (List V)) : ACode -> (Ex -> St -> Prop) -> St -> Prop
  | .skip, Q, st => Q .normal st
  | .region ops _, Q, st => someP (execs Γ gl ops st) (Q .normal)
  | .seq a b, Q, st => awp Γ gl a (thenQ (awp Γ gl b Q) Q) st
  | .cond c a b, Q, st => condP (evO st.tm c) (awp Γ gl a Q st) (awp Γ gl b Q st)
  | .block id b, Q, st => awp Γ gl b (fun e s => Q (e.inBlock id) s) st
  | .loop b, Q, st => ∃ k, loopN (awp Γ gl b) Q k st
  | .exit id, Q, st => Q (.exit id) st
  | .ret, Q, st => Q .ret st
  | .fail, _, _ => False
theorem thenQ_mono {K K' : St -> Prop} {Q Q' : Ex -> St -> Prop} (hK : ∀ s, K s -> K' s) (hQ : ∀ e s, Q e s -> Q' e s) : ∀ e s, thenQ K Q e s -> thenQ K' Q' e s
  | .normal, s, h => hK s h
  | .exit _, s, h => hQ _ s h
  | .ret, s, h => hQ _ s h
theorem awp_mono {Γ : Spec} {gl : Nat -> Option (List V)} : ∀ {c : ACode} {Q Q' : Ex -> St -> Prop} {st : St}, (∀ e s, Q e s -> Q' e s) -> awp Γ gl c Q st -> awp Γ gl c Q' st := by
  intro c
  induction c with
  | skip => intro Q Q' st hq h; exact hq _ _ h
  | region ops d =>
    intro Q Q' st hq h
    simp only [awp] at h ⊢
    unfold someP at h ⊢
    split at h
    . exact hq _ _ h
    . exact h.elim
  | seq a b iha ihb => intro Q Q' st hq h; exact iha (thenQ_mono (fun s => ihb hq) hq) h
  | cond c a b iha ihb =>
    intro Q Q' st hq h
    simp only [awp] at h ⊢
    unfold condP at h ⊢
    split at h
    . exact iha hq h
    . exact ihb hq h
    . exact h.elim
  | block id b ih => intro Q Q' st hq h; exact ih (fun e s => hq _ s) h
  | loop b ih =>
    intro Q Q' st hq h
    obtain ⟨k, h⟩ := h
    refine ⟨k, ?_⟩
    induction k generalizing st with
    | zero => exact h.elim
    | succ k ihk => exact ih (thenQ_mono (fun s => ihk) hq) h
  | exit id => intro Q Q' st hq h; exact hq _ _ h
  | ret => intro Q Q' st hq h; exact hq _ _ h
  | fail => intro Q Q' st hq h; exact h.elim
def mOf (aos : List AOper) : Nat :=
  let an := ancs aos []
  let N := aos.length
  N - ((List.range N).reverse.takeWhile fun i => (List.range i).all fun j => (an.getD i []).contains j).length
def AOper.bare (o : AOper) : AOper := ⟨o.dst, o.op, o.guard, []⟩
theorem execs_bare {Γ : Spec} {gl : Nat -> Option (List V)} : ∀ {aos : List AOper} {st : St}, execs Γ gl (aos.map AOper.bare) st = execs Γ gl aos st
  | [], _ => rfl
  | o :: r, st => by
    simp only [List.map_cons, execs]
    have : exec Γ gl o.bare st = exec Γ gl o st := rfl
    rw [this]
    cases exec Γ gl o st with
    | none => rfl
    | some s => exact execs_bare
def earlyOf (n : Nat) (aos : List AOper) : Option (Nat × List AOper) :=
  match (List.range aos.length).find? (fun i => (aos.getD i default).op.isStore) with
  | none => none
  | some k =>
    let an := ancs aos []
    let m := mOf aos
    let aos' := aos.mapIdx fun i x => if (decide (i < k) && (an.getD k []).contains i) || decide (m <= i) then x else x.toP
    if m <= aos.length /\ k < m /\ drawOkE n aos' m k = true then some (k, aos') else none
theorem earlyOf_some {n : Nat} {aos : List AOper} {k : Nat} {aos' : List AOper} (h : earlyOf n aos = some (k, aos')) : aos'.length = aos.length /\ mOf aos <= aos'.length /\ k < mOf aos /\ drawOkE n aos' (mOf aos) k = true /\
    ∀ (i : Nat) (x : AOper), aos'[i]? = some x -> ∃ x0 : AOper, aos[i]? = some x0 /\ (x = x0 \/ x = x0.toP) := by
  unfold earlyOf at h
  split at h
  . cases h
  . rename_i k0 hk0
    simp only at h
    split at h
    . rename_i hc
      simp only [Option.some.injEq, Prod.mk.injEq] at h
      obtain ⟨rfl, rfl⟩ := h
      refine ⟨by simp, by simpa using hc.1, hc.2.1, hc.2.2, fun i x hx => ?_⟩
      rw [List.getElem?_mapIdx] at hx
      simp only [Option.map_eq_some_iff] at hx
      obtain ⟨x0, h0, rfl⟩ := hx
      refine ⟨x0, h0, ?_⟩
      split
      . exact .inl rfl
      . exact .inr rfl
    . cases h
def aboutOf (n : Nat) (aos : List AOper) : Option Nat := (List.range aos.length).find? fun k => (aos.getD k default).op.isStore && drawOkC n aos k
theorem aboutOf_some {n : Nat} {aos : List AOper} {k : Nat} (h : aboutOf n aos = some k) : k < aos.length /\ drawOkC n aos k = true := by
  have h1 := List.find?_some h
  have h2 := List.mem_of_find?_eq_some h
  simp only [Bool.and_eq_true] at h1
  exact ⟨List.mem_range.1 h2, h1.2⟩
def comp (P : Program) (R : TypeId -> Bool) (n : Nat) : Code -> ACode
  | .skip => .skip
  | .region _ ops draw => match cOpers P R n ops ops.toList with
    | some aos => if draw then (if mOf aos <= aos.length /\ drawOk n aos (mOf aos) = true then .region (aos.map AOper.bare) true else match earlyOf n aos with | some (_, aos') => .region (aos'.map AOper.bare) true | none => match aboutOf n aos with | some _ => .region (aos.map AOper.bare) true | none => .fail) else .region (aos.map AOper.bare) false
    | none => .fail
  | .seq a b => .seq (comp P R n a) (comp P R n b)
  | .cond c a b => match cOpd P n 0 c with | some c => .cond c (comp P R n a) (comp P R n b) | none => .fail
  | .block id b => .block id (comp P R n b)
  | .loop b => .loop (comp P R n b)
  | .exit id => .exit id
  | .ret => .ret
  | _ => .fail
def exm : Ex -> Exit
  | .normal => .normal
  | .exit id => .exit id
  | .ret => .ret
theorem SR.drew {w B GB g st a W} (h : SR w B GB g st a W) : SR w B GB g st a W.drew := by
  have := h.adv (Adv.refl h none).drew
  simpa [St.take] using this
variable {cx : Cx} {w : World} {B : Nat -> Prop} {GB : Gh} {Γ : Spec} {RT : TypeId -> Bool}
theorem comp_sound (hs : Scope cx w B GB) (hΓ : Sound cx Γ) (hm : cx.P.follows .mixedOrders = true) {n : Nat} : ∀ (c : Code) (Q : Ex -> St -> Prop) (g : Gh) (st : St) (a : Act) (W : World) (R : Exit -> Act -> World -> Prop),
    SR w B GB g st a W -> a.tmps.size = n -> awp Γ cx.gl (comp cx.P RT n c) Q st -> (∀ e st g a W, Q e st -> SR w B GB g st a W -> a.tmps.size = n -> R (exm e) a W) -> c.wp cx.P R a W := by
  intro c
  induction c with
  | skip => intro Q g st a W R h hn hq hR; exact wp_skip (hR .normal st g a W hq h hn)
  | exit id => intro Q g st a W R h hn hq hR; exact wp_exit (hR (.exit id) st g a W hq h hn)
  | ret => intro Q g st a W R h hn hq hR; exact wp_ret (hR .ret st g a W hq h hn)
  | region id ops draw =>
    intro Q g st a W R h hn hq hR
    simp only [comp] at hq
    split at hq
    . rename_i aos has
      have fin : ∀ (aos : List AOper) d, awp Γ cx.gl (.region (aos.map AOper.bare) d) Q st -> ∃ st', execs Γ cx.gl aos st = some st' /\ Q .normal st' := by
        intro aos d hq
        simp only [awp, execs_bare] at hq
        unfold someP at hq
        split at hq
        . exact ⟨_, by assumption, hq⟩
        . exact hq.elim
      cases draw with
      | false =>
        simp only [Bool.false_eq_true, if_false] at hq
        obtain ⟨st', he, hq⟩ := fin _ _ hq
        refine wp_region ?_
        rw [List.range_eq_range']
        exact execs_wpOps hs hΓ has (fun g' a' W' h' hn' => hR .normal st' g' a' W' hq h' hn') ops.size 0 g st a W (by omega) h hn (by simpa using he)
      | true =>
        simp only [if_true] at hq
        split at hq
        . rename_i hc
          obtain ⟨st', he, hq⟩ := fin _ _ hq
          exact wp_region_any hm (draw_wpAny hs hΓ has hc.1 hc.2 h.drew hn he fun g' a' W' h' hn' => hR .normal st' g' a' W' hq h' hn')
        . split at hq
          . rename_i k aos' hea
            obtain ⟨e1, e2, e3, e4, e5⟩ := earlyOf_some hea
            obtain ⟨st', he, hq⟩ := fin _ _ hq
            exact wp_region_any hm (draw_wpAnyE hs hΓ has e1 e5 e2 e3 e4 h.drew hn he fun g' a' W' h' hn' => hR .normal st' g' a' W' hq h' hn')
          . split at hq
            . rename_i k hab
              obtain ⟨e1, e2⟩ := aboutOf_some hab
              obtain ⟨st', he, hq⟩ := fin _ _ hq
              exact wp_region_any hm (draw_wpAnyC hs hΓ has e1 e2 h.drew hn he fun g' a' W' h' hn' => hR .normal st' g' a' W' hq h' hn')
            . exact hq.elim
    . exact hq.elim
  | seq x y ihx ihy =>
    intro Q g st a W R h hn hq hR
    refine wp_seq (ihx _ g st a W _ h hn hq fun e st g a W hq h hn => ?_)
    cases e with
    | normal => exact ihy Q g st a W R h hn hq hR
    | exit id => exact hR (.exit id) st g a W hq h hn
    | ret => exact hR .ret st g a W hq h hn
  | cond c x y ihx ihy =>
    intro Q g st a W R h hn hq hR
    simp only [comp] at hq
    split at hq
    . rename_i c' hc
      have hr := cOpd_rep h hn hc
      simp only [awp] at hq
      unfold condP at hq
      split at hq
      . rename_i he; rw [he] at hr; cases hr' : a.eval c <;> rw [hr'] at hr <;> cases hr
        exact wp_cond hr' (ihx Q g st a W R h hn hq hR)
      . rename_i he; rw [he] at hr; cases hr' : a.eval c <;> rw [hr'] at hr <;> cases hr
        exact wp_cond hr' (ihy Q g st a W R h hn hq hR)
      . exact hq.elim
    . exact hq.elim
  | block id x ih =>
    intro Q g st a W R h hn hq hR
    refine wp_block (ih _ g st a W _ h hn hq fun e st g a W hq h hn => ?_)
    cases e with
    | normal => exact hR .normal st g a W hq h hn
    | exit i =>
      simp only [exm, Exit.inBlock]
      simp only [Ex.inBlock] at hq
      split
      . rename_i hi; rw [if_pos hi] at hq; exact hR .normal st g a W hq h hn
      . rename_i hi; rw [if_neg hi] at hq; exact hR (.exit i) st g a W hq h hn
    | ret => exact hR .ret st g a W hq h hn
  | loop x ih =>
    intro Q g st a W R h hn hq hR
    obtain ⟨k, hk⟩ := hq
    have key : ∀ (k : Nat) (g : Gh) (st : St) (a : Act) (W : World), SR w B GB g st a W -> a.tmps.size = n -> loopN (awp Γ cx.gl (comp cx.P RT n x)) Q k st -> ∀ b kk cs,
        ∃ e a' w', R e a' w' /\ Arrives cx.P (lone (b.at a (.code x :: .inLoop x :: kk)) cs W) b kk cs e a' w' := by
      intro k
      induction k with
      | zero => intro g st a W _ _ hl; exact hl.elim
      | succ k ihk =>
        intro g st a W h hn hl b kk cs
        have hwp := ih _ g st a W (fun e a' W' => match e with
          | .normal => ∃ g' st', SR w B GB g' st' a' W' /\ a'.tmps.size = n /\ loopN (awp Γ cx.gl (comp cx.P RT n x)) Q k st'
          | e => R e a' W') h hn hl fun e st' g' a' W' hq h' hn' => by
            cases e with
            | normal => exact ⟨g', st', h', hn', hq⟩
            | exit i => exact hR (.exit i) st' g' a' W' hq h' hn'
            | ret => exact hR .ret st' g' a' W' hq h' hn'
        obtain ⟨e, a₁, w₁, hq, harr⟩ := hwp b (.inLoop x :: kk) cs
        cases e with
        | normal =>
          obtain ⟨g', st', h', hn', hl'⟩ := hq
          obtain ⟨e₂, a₂, w₂, hq₂, harr₂⟩ := ihk g' st' a₁ w₁ h' hn' hl' b kk cs
          exact ⟨e₂, a₂, w₂, hq₂, .of_steps (Steps.trans harr (.one step_inLoop)) harr₂⟩
        | exit id => exact ⟨_, a₁, w₁, hq, .pass (x := .inLoop x) rfl (fun _ _ => .inl (by simp)) harr⟩
        | goto l => exact ⟨_, a₁, w₁, hq, .pass (x := .inLoop x) rfl (fun _ _ => .inl (by simp)) harr⟩
        | ret => exact ⟨_, a₁, w₁, hq, .pass (x := .inLoop x) rfl (fun _ _ => .inl (by simp)) harr⟩
        | panic ch => exact ⟨_, a₁, w₁, hq, .pass (x := .inLoop x) rfl (fun _ _ => .inl (by simp)) harr⟩
        | outgrown => exact ⟨_, a₁, w₁, hq, .pass (x := .inLoop x) rfl (fun _ _ => .inl (by simp)) harr⟩
    intro b kk cs
    obtain ⟨e, a', w', hq, harr⟩ := key k g st a W h hn hk b kk cs
    exact ⟨e, a', w', hq, .of_steps (.one step_loop) harr⟩
  | _ => intro Q g st a W R h hn hq hR; exact hq.elim
mutual
def V.clean : V -> Bool
  | .osl _ _ _ _ _ | .ptr _ _ | .map _ => false
  | .agg cs => cleanL cs
  | .sl _ _ cs => cleanL cs
  | .el cs _ => cleanL cs
  | .fn _ cs => cleanL cs
  | .mfn _ cs => cleanL cs
  | .tup cs => cleanL cs
  | .iface _ v => v.clean
  | _ => true
def cleanL : List V -> Bool
  | [] => true
  | v :: r => v.clean && cleanL r
end
theorem cleanL_iff : ∀ {l : List V}, cleanL l = true <-> ∀ v ∈ l, v.clean = true
  | [] => by simp [cleanL]
  | v :: r => by simp [cleanL, cleanL_iff (l := r)]
theorem V.clean_cells {v : V} (h : v.clean = true) : ∀ c ∈ v.cells, c.clean = true := by
  cases v <;> simp only [V.cells, List.mem_singleton, forall_eq] <;> first | exact h | exact cleanL_iff.1 (by simpa [V.clean] using h)
theorem Rep.clean {W G φ φ' v x} (h : Rep W G φ v x) (hc : v.clean = true) : Rep W G φ' v x := by
  induction h with
  | bool b => exact .bool b
  | int k n => exact .int k n
  | str l s h => exact .str l s h
  | agg cs xs hl hs h ih =>
    exact .agg cs xs hl hs fun i c x hi hx => ih i c x hi hx (cleanL_iff.1 (by simpa [V.clean] using hc) c (List.mem_of_getElem? hi))
  | slnil sz => exact .slnil sz
  | sl sz xs b off cap rd hcap hG hx hrd _ ih =>
    exact .sl sz xs b off cap rd hcap hG hx hrd fun i x j c hi hj => ih i x j c hi hj (V.clean_cells (cleanL_iff.1 (by simpa [V.clean] using hc) x (List.mem_of_getElem? hi)) c (List.mem_of_getElem? hj))
  | sl0 sz a => exact .sl0 sz a
  | osl => simp [V.clean] at hc
  | osln => simp [V.clean] at hc
  | el cs off b base rd hG hs hrd _ ih =>
    exact .el cs off b base rd hG hs hrd fun k c hk => ih k c hk (cleanL_iff.1 (by simpa [V.clean] using hc) c (List.mem_of_getElem? hk))
  | gp g off => exact .gp g off
  | ptr => simp [V.clean] at hc
  | nilptr => exact .nilptr
  | map => simp [V.clean] at hc
  | nilmap => exact .nilmap
  | fn f cs xs hl _ ih =>
    exact .fn f cs xs hl fun i c x hi hx => ih i c x hi hx (cleanL_iff.1 (by simpa [V.clean] using hc) c (List.mem_of_getElem? hi))
  | mfn f cs xs hl _ ih =>
    exact .mfn f cs xs hl fun i c x hi hx => ih i c x hi hx (cleanL_iff.1 (by simpa [V.clean] using hc) c (List.mem_of_getElem? hi))
  | nilfn => exact .nilfn
  | iface t v x _ ih => exact .iface t v x (ih (by simpa [V.clean] using hc))
  | nilif => exact .nilif
  | tup cs xs hl _ ih =>
    exact .tup cs xs hl fun i c x hi hx => ih i c x hi hx (cleanL_iff.1 (by simpa [V.clean] using hc) c (List.mem_of_getElem? hi))
inductive RS where
  | t (k : Nat)
  | c (k : Nat) (n : Option Nat)
  deriving Inhabited
structure AFn where
  n : Nat
  body : ACode
  res : List RS
def cRes (P : Program) (n : Nat) : List ResultVar -> Option (List RS)
  | [] => some []
  | .tmp t :: r => if t < n then (cRes P n r).map (.t t :: ·) else none
  | .cell t ty :: r => if t < n then (ldN P ty).bind fun k => (cRes P n r).map (.c t k :: ·) else none
def cFnW (P : Program) (hp : Bool) (f : FuncId) : Option AFn :=
  match P.funcs[f]? with
  | some fn => match fn.body with
    | some c => if fn.name = "runtime.NumGoroutine" then none else (cRes P fn.ntmps fn.results.toList).map fun rs => ⟨fn.ntmps, comp P (fun t => rowT P c t || (hp && (cloneFn P f).any (Nat.beq t))) fn.ntmps c, rs⟩
    | none => none
  | none => none
def cFn (P : Program) (f : FuncId) : Option AFn := cFnW P false f
def St.init (args : List V) : St := ⟨fun t => args.getD t Nil, fun _ => false, fun _ => none, 0⟩
def rv (st : St) : RS -> Option (V × Bool)
  | .t k => some (st.tm k, st.own (.slot k))
  | .c k n => match st.tm k with
    | .ptr id off => ((hCells st.H id).bind fun cs => ldCells n cs off).map fun v => (v, false)
    | _ => none
def rvs (st : St) : List RS -> Option (List V)
  | [] => some []
  | r :: rs => (rv st r).bind fun p => (rvs st rs).map (p.1 :: ·)
def resOf (res : List RS) (st : St) : Option (V × Bool) :=
  match res with
  | [r] => rv st r
  | rs => (rvs st rs).map fun vs => (.tup vs, false)
def retQ (res : List RS) (r : V × Bool) : Ex -> St -> Prop
  | .exit _, _ => False
  | _, st => ∃ p, resOf res st = some p /\ p.1 = r.1 /\ (r.2 = true -> p.2 = true)
def resM (tmps : Array Value) : ResultVar -> Sem Value
  | .tmp t => pure (tmps.getD t undef)
  | .cell a t => do loadVar t (<- asAddr (tmps.getD a undef))
theorem results_eq (fn : Func) (tmps : Array Value) (P : Program) (W : World) {ys : List Value} (h : (fn.results.toList.mapM (resM tmps)).run P W = .ok ys W) :
    (results fn tmps).run P W = .ok (if h : ys.toArray.size = 1 then ys.toArray[0] else .tuple ys.toArray) W := by
  have e : fn.results = fn.results.toList.toArray := rfl
  have key : (fn.results.mapM (resM tmps)).run P W = .ok ys.toArray W := by
    rw [e]
    simp only [List.mapM_toArray] at h ⊢
    simp [h]
  have e2 : results fn tmps = (fn.results.mapM (resM tmps)) >>= fun vs => pure (if h : vs.size = 1 then vs[0] else .tuple vs) := by
    unfold results
    congr 1
  rw [e2, Sem.run_bind, key]
  simp only [Result.andThen_ok, Sem.run_pure]
theorem rv_run {g : Gh} {st : St} {a : Act} {W : World} (hs : Scope cx w B GB) (h : SR w B GB g st a W) {r : ResultVar} {s : RS} (hc : cRes cx.P a.tmps.size [r] = some [s]) {p : V × Bool} (hp : rv st s = some p) :
    ∃ y, (resM a.tmps r).run cx.P W = .ok y W /\ Rep W g.G g.φ p.1 y /\ (p.2 = true -> ∃ t, s = .t t /\ p = (st.tm t, st.own (.slot t)) /\ t < a.tmps.size /\ y = a.tmps.getD t undef) := by
  cases r with
  | tmp t =>
    simp only [cRes] at hc
    split at hc
    . rename_i ht
      simp at hc; subst hc
      simp only [rv, Option.some.injEq] at hp; subst hp
      exact ⟨_, by simp [resM, Act.eval], h.get ht, fun _ => ⟨t, rfl, rfl, ht, rfl⟩⟩
    . simp at hc
  | cell t ty =>
    simp only [cRes] at hc
    split at hc
    . rename_i ht
      simp only [Option.bind_eq_some_iff, Option.map_some, Option.some.injEq, List.cons.injEq, and_true] at hc
      obtain ⟨k, hk, rfl⟩ := hc
      have hr := h.get ht
      simp only [rv] at hp
      split at hp
      . rename_i id off hid
        rw [hid] at hr
        simp only [Option.map_eq_some_iff] at hp
        obtain ⟨v, hv, rfl⟩ := hp
        obtain ⟨y, h1, h2⟩ := d_load hs h (u := .ptr id off) hk hr (by simpa [vLoad] using hv)
        refine ⟨y, ?_, h2, fun h => by cases h⟩
        simp only [Act.eval] at h1 hr
        generalize hxe : a.tmps.getD t undef = xv at hr h1
        cases hr
        simp only [resM, hxe]
        simpa [Instr.loadAt, Instr.sureAddr, asAddr] using h1
      . cases hp
    . simp at hc
theorem rvs_run {g : Gh} {st : St} {a : Act} {W : World} (hs : Scope cx w B GB) (h : SR w B GB g st a W) : ∀ {rs : List ResultVar} {ss : List RS} {vs : List V}, cRes cx.P a.tmps.size rs = some ss -> rvs st ss = some vs ->
    ∃ ys : List Value, (rs.mapM (resM a.tmps)).run cx.P W = .ok ys W /\ vs.length = ys.length /\ ∀ (i : Nat) (c : V) (x : Value), vs[i]? = some c -> ys[i]? = some x -> Rep W g.G g.φ c x
  | [], ss, vs, h1, h2 => by
    simp [cRes] at h1; subst h1
    simp [rvs] at h2; subst h2
    exact ⟨[], by simp, rfl, fun i c x hc => by simp at hc⟩
  | r :: rs, ss, vs, h1, h2 => by
    have hsplit : ∃ s ss', ss = s :: ss' /\ cRes cx.P a.tmps.size [r] = some [s] /\ cRes cx.P a.tmps.size rs = some ss' := by
      cases r with
      | tmp t =>
        simp only [cRes] at h1 ⊢
        split at h1
        . rename_i ht
          simp only [Option.map_eq_some_iff] at h1
          obtain ⟨ss', h3, rfl⟩ := h1
          exact ⟨_, _, rfl, by simp [ht], h3⟩
        . simp at h1
      | cell t ty =>
        simp only [cRes] at h1 ⊢
        split at h1
        . rename_i ht
          simp only [Option.bind_eq_some_iff, Option.map_eq_some_iff] at h1
          obtain ⟨k, hk, ss', h3, rfl⟩ := h1
          exact ⟨_, _, rfl, by simp [ht, hk], h3⟩
        . simp at h1
    obtain ⟨s, ss', rfl, h3, h4⟩ := hsplit
    simp only [rvs, Option.bind_eq_some_iff, Option.map_eq_some_iff] at h2
    obtain ⟨p, hp, vs', hvs, rfl⟩ := h2
    obtain ⟨y, q1, q2, _⟩ := rv_run hs h h3 hp
    obtain ⟨ys, q3, q4, q5⟩ := rvs_run hs h h4 hvs
    refine ⟨y :: ys, by simp [q1, q3], by simp [q4], fun i c x hc hx => ?_⟩
    cases i with
    | zero => simp at hc hx; subst hc; subst hx; exact q2
    | succ i => exact q5 i c x (by simpa using hc) (by simpa using hx)
theorem pc_of_awp (hgl : GlOK cx) (hm : cx.P.follows .mixedOrders = true) (hΓ : Sound cx Γ) {f : FuncId} {F : AFn} (hf : cFn cx.P f = some F) {args : List V} {r : V × Bool} (hl : args.length <= F.n) (hca : cleanL args = true) (hcr : r.1.clean = true)
    (h : awp Γ cx.gl F.body (retQ F.res r) (St.init args)) : PC cx f args r := by
  unfold cFn cFnW at hf
  split at hf
  . rename_i fn hfn
    split at hf
    . rename_i c hc
      split at hf
      . simp at hf
      . rename_i hname
        simp only [Option.map_eq_some_iff] at hf
        obtain ⟨ts, hts, rfl⟩ := hf
        have hl' : args.length <= fn.ntmps := hl
        refine ⟨⟨fn, hfn, hname, by simp [hc]⟩, fun W G φ xs hW hxs => ?_⟩
        have hB0 : cx.w0.heap.size <= W.heap.size := hW.below.size
        have hs : Scope cx W (fun b => W.heap.size <= b) ⟨G, fun _ => none, fun _ => none⟩ := ⟨hW.below, fun b hb => Nat.le_trans hB0 hb, hW.Glo, hgl⟩
        have hargs : ∀ (t : Nat) (x : Value), (xs ++ Array.replicate (fn.ntmps - xs.size) undef)[t]? = some x -> Rep W G (fun _ => none) ((St.init args).tm t) x := by
          intro t x hx
          by_cases ht : t < xs.size
          . rw [Array.getElem?_append_left ht] at hx
            obtain ⟨v, hv⟩ : ∃ v, args[t]? = some v := ⟨_, List.getElem?_eq_getElem (by rw [hxs.1]; exact ht)⟩
            have : (St.init args).tm t = v := by simp [St.init, List.getD, hv]
            rw [this]
            exact (hxs.2 t v x hv hx).clean (cleanL_iff.1 hca v (List.mem_of_getElem? hv))
          . rw [Array.getElem?_append_right (by omega)] at hx
            have hx' : x = undef := by
              rw [Array.getElem?_replicate] at hx
              split at hx <;> simp at hx
              exact hx.symm
            have : (St.init args).tm t = Nil := by simp [St.init, List.getD, List.getElem?_eq_none (show args.length <= t by rw [hxs.1]; omega)]
            rw [this, hx']
            exact .tup [] #[] rfl fun i c x hc => by simp at hc
        have h0 : SR W (fun b => W.heap.size <= b) ⟨G, fun _ => none, fun _ => none⟩ ⟨G, fun _ => none, fun _ => none⟩ (St.init args) { tmps := xs ++ Array.replicate (fn.ntmps - xs.size) undef, defers := [] } W :=
          ⟨rfl, hargs, fun t x hx ho => by simp [St.init] at ho, (fun id cs hc => by simp [St.init] at hc), (fun _ _ => rfl), (fun id b hb => by simp at hb), (fun id b hb => by simp at hb), (fun id id' b hb => by simp at hb), hW.Gz, fun _ _ => rfl, fun _ _ _ => rfl, fun _ => Nat.le_refl _, fun _ _ h => h, fun _ _ _ => rfl, .refl _ _, fun _ h => h⟩
        refine calls_of_wp hfn hc (comp_sound hs hΓ hm (n := fn.ntmps) c _ _ _ _ _ _ h0 (by simp [<- hxs.1]; omega) h fun e st g a W' hq hsr hn => ?_)
        have hts' : cRes cx.P a.tmps.size fn.results.toList = some ts := by rw [hn]; exact hts
        have fin : (∃ p, resOf ts st = some p /\ p.1 = r.1 /\ (r.2 = true -> p.2 = true)) -> a.defers = [] /\ ∃ v, (results fn a.tmps).run cx.P W' = .ok v W' /\ ∃ G' y, Ending.returned v = .returned y /\ Below W.heap.size W W' /\ (∀ b, b < W.heap.size -> G' b = G b) /\ (∀ b, W'.heap.size <= b -> G' b = 0) /\
            Rep W' G' φ r.1 y /\ (r.2 = true -> ∀ ow q, (∀ b, W.heap.size <= b -> ow b = some q) -> OwnAt W' (fun b => W.heap.size <= b) ⟨G', φ, ow⟩ q r.1 y) := by
          rintro ⟨p, hp, hr1, hr2⟩
          obtain ⟨rv0, ro⟩ := r
          simp only at hr1 hr2 hcr
          subst hr1
          by_cases h1 : ∃ s, ts = [s]
          . obtain ⟨s, rfl⟩ := h1
            simp only [resOf] at hp
            have hone : ∃ rr, fn.results.toList = [rr] := by
              cases hL : fn.results.toList with
              | nil => rw [hL] at hts; simp [cRes] at hts
              | cons rr l =>
                cases l with
                | nil => exact ⟨rr, rfl⟩
                | cons rr' l =>
                  rw [hL] at hts
                  exfalso
                  have len : ∀ {l : List ResultVar} {ss : List RS}, cRes cx.P fn.ntmps l = some ss -> l.length = ss.length := by
                    intro l
                    induction l with
                    | nil => intro ss h; simp [cRes] at h; subst h; rfl
                    | cons x l ih =>
                      intro ss h
                      cases x with
                      | tmp t =>
                        simp only [cRes] at h
                        split at h
                        . simp only [Option.map_eq_some_iff] at h
                          obtain ⟨ss', h3, rfl⟩ := h
                          simp [ih h3]
                        . simp at h
                      | cell t ty =>
                        simp only [cRes] at h
                        split at h
                        . simp only [Option.bind_eq_some_iff, Option.map_eq_some_iff] at h
                          obtain ⟨k, hk, ss', h3, rfl⟩ := h
                          simp [ih h3]
                        . simp at h
                  have := len hts
                  simp at this
            obtain ⟨rr, hrr⟩ := hone
            rw [hrr] at hts'
            obtain ⟨y, q1, q2, q3⟩ := rv_run hs hsr hts' hp
            have hm : (fn.results.toList.mapM (resM a.tmps)).run cx.P W' = .ok [y] W' := by rw [hrr]; simp [q1]
            refine ⟨hsr.defers, _, results_eq fn a.tmps cx.P W' hm, g.G, y, by simp, hsr.below.below, (fun b hb => hsr.Glo b (Nat.not_le.2 hb)), hsr.Gz, q2.clean hcr, fun ho ow q hqq sz ys b off len cap sp hv hx => ?_⟩
            obtain ⟨t, rfl, hpe, ht, hy⟩ := q3 (hr2 ho)
            have e : a.tmps[t]? = some (a.tmps.getD t undef) := by rw [Array.getElem?_eq_getElem ht]; simp [Array.getD, ht]
            subst hpe
            simp only at hv hr2
            rcases hsr.own t _ e (hr2 ho) sz ys b off len cap sp hv (by rw [<- hy]; exact hx) with h2 | ⟨h2, h3, h4⟩
            . exact .inl h2
            . exact .inr ⟨h2, hqq b h2, h4⟩
          . have hr' : resOf ts st = (rvs st ts).map fun vs => (.tup vs, false) := by
              unfold resOf
              split
              . exact absurd ⟨_, rfl⟩ h1
              . rfl
            rw [hr', Option.map_eq_some_iff] at hp
            obtain ⟨vs, hvs, rfl⟩ := hp
            obtain ⟨ys, q1, q2, q3⟩ := rvs_run hs hsr hts' hvs
            have hne : ¬ ys.toArray.size = 1 := by
              intro he
              simp at he
              have hl : ∀ {ss : List RS} {vs : List V}, rvs st ss = some vs -> ss.length = vs.length := by
                intro ss
                induction ss with
                | nil => intro vs h; simp [rvs] at h; subst h; rfl
                | cons s ss ih =>
                  intro vs h
                  simp only [rvs, Option.bind_eq_some_iff, Option.map_eq_some_iff] at h
                  obtain ⟨p, _, vs', h3, rfl⟩ := h
                  simp [ih h3]
              have := hl hvs
              exact h1 (List.length_eq_one_iff.1 (by omega))
            refine ⟨hsr.defers, _, results_eq fn a.tmps cx.P W' q1, g.G, .tuple ys.toArray, by rw [dif_neg hne], hsr.below.below, (fun b hb => hsr.Glo b (Nat.not_le.2 hb)), hsr.Gz, ?_, fun ho => absurd (hr2 ho) (by simp)⟩
            exact Rep.clean (φ := g.φ) (.tup _ _ (by simpa using q2) fun i c x hi hx => q3 i c x hi (by simpa using hx)) hcr
        cases e with
        | normal => exact fin hq
        | exit i => exact hq.elim
        | ret => exact fin hq
    . simp at hf
  . simp at hf
def St.initH (args : List V) (hs : HS) : St := ⟨fun t => args.getD t Nil, fun p => match p with | .cell i j => hs.co i j | .slot _ => false, hs.H, hs.nH⟩
def retH (res : List RS) (r : V × Bool) (hs' : HS) : Ex -> St -> Prop
  | .exit _, _ => False
  | _, st => (∃ p, resOf res st = some p /\ p.1 = r.1 /\ (r.2 = true -> p.2 = true)) /\ st.hs = hs'
def Gh.out (g : Gh) (tr : Option Nat) : Gh := ⟨g.G, g.φ, fun b => match g.ow b with | some (.slot t) => if tr = some t then some (.slot 0) else none | q => q⟩
theorem SR.hrelOut {a : Act} {W : World} {g : Gh} {st : St} (h : SR w B GB g st a W) (tr : Option Nat) : HRel B (g.out tr) st.hs W where
  ob id o hH := by
    refine ObOK.keep (h.ob id o hH) (.refl _ _ _) rfl (fun _ _ => rfl) (fun j v x hw => ⟨hw, fun hq => ?_⟩)
    intro sz ys b' off len cap sp e1 e2
    rcases hq sz ys b' off len cap sp e1 e2 with h6 | ⟨h6, h7, h8⟩
    . exact .inl h6
    . exact .inr ⟨h6, by simp only [Gh.out, h7], h8⟩
  obn := h.obn
  φ := h.φ
  live id b hb := by
    obtain ⟨h3, h4⟩ := h.live id b hb
    exact ⟨h3, by simp only [Gh.out, h4]⟩
  inj := h.inj
  Gz := h.Gz
theorem cRes_length {P : Program} {n : Nat} : ∀ {l : List ResultVar} {ss : List RS}, cRes P n l = some ss -> l.length = ss.length
  | [], ss, h => by simp [cRes] at h; subst h; rfl
  | .tmp t :: l, ss, h => by
    simp only [cRes] at h
    split at h
    . simp only [Option.map_eq_some_iff] at h
      obtain ⟨ss', h3, rfl⟩ := h
      simp [cRes_length h3]
    . simp at h
  | .cell t ty :: l, ss, h => by
    simp only [cRes] at h
    split at h
    . simp only [Option.bind_eq_some_iff, Option.map_eq_some_iff] at h
      obtain ⟨k, hk, ss', h3, rfl⟩ := h
      simp [cRes_length h3]
    . simp at h
theorem rvs_length {st : St} : ∀ {ss : List RS} {vs : List V}, rvs st ss = some vs -> ss.length = vs.length
  | [], vs, h => by simp [rvs] at h; subst h; rfl
  | s :: ss, vs, h => by
    simp only [rvs, Option.bind_eq_some_iff, Option.map_eq_some_iff] at h
    obtain ⟨p, _, vs', h3, rfl⟩ := h
    simp [rvs_length h3]
theorem pch_of_awp (hgl : GlOK cx) (hm : cx.P.follows .mixedOrders = true) (hΓ : Sound cx Γ) {f : FuncId} {F : AFn} {hp : Bool} (hf : cFnW cx.P hp f = some F) {args : List V} {hs hs' : HS} {r : V × Bool} (hl : args.length <= F.n)
    (h : awp Γ cx.gl F.body (retH F.res r hs') (St.initH args hs)) : PCH cx f args hs r hs' := by
  unfold cFnW at hf
  split at hf
  . rename_i fn hfn
    split at hf
    . rename_i c hc
      split at hf
      . simp at hf
      . rename_i hname
        simp only [Option.map_eq_some_iff] at hf
        obtain ⟨ts, hts, rfl⟩ := hf
        have hl' : args.length <= fn.ntmps := hl
        refine ⟨⟨fn, hfn, hname, by simp [hc]⟩, fun W M g xs hW hM hrel hsl hxs => ?_⟩
        have hB0 : cx.w0.heap.size <= W.heap.size := hW.below.size
        have hsc : Scope cx W (fun b => W.heap.size <= b \/ M b) g := ⟨hW.below, fun b hb => hb.elim (fun h => Nat.le_trans hB0 h) (hM b), hW.Glo, hgl⟩
        have hargs : ∀ (t : Nat) (x : Value), (xs ++ Array.replicate (fn.ntmps - xs.size) undef)[t]? = some x -> Rep W g.G g.φ ((St.initH args hs).tm t) x := by
          intro t x hx
          by_cases ht : t < xs.size
          . rw [Array.getElem?_append_left ht] at hx
            obtain ⟨v, hv⟩ : ∃ v, args[t]? = some v := ⟨_, List.getElem?_eq_getElem (by rw [hxs.1]; exact ht)⟩
            have : (St.initH args hs).tm t = v := by simp [St.initH, List.getD, hv]
            rw [this]
            exact hxs.2 t v x hv hx
          . rw [Array.getElem?_append_right (by omega)] at hx
            have hx' : x = undef := by
              rw [Array.getElem?_replicate] at hx
              split at hx <;> simp at hx
              exact hx.symm
            have : (St.initH args hs).tm t = Nil := by simp [St.initH, List.getD, List.getElem?_eq_none (show args.length <= t by rw [hxs.1]; omega)]
            rw [this, hx']
            exact .tup [] #[] rfl fun i c x hc => by simp at hc
        have h0 : SR W (fun b => W.heap.size <= b \/ M b) g g (St.initH args hs) { tmps := xs ++ Array.replicate (fn.ntmps - xs.size) undef, defers := [] } W :=
          { defers := rfl
            tm := hargs
            own := fun t x hx ho => by simp [St.initH] at ho
            ob := fun id o hc => by
              refine ObOK.keep (hrel.ob id o hc) (.refl _ _ _) rfl (fun _ _ => rfl) (fun j v x hw => ⟨hw, fun hq => ?_⟩)
              intro sz zs b' off len cap sp e1 e2
              rcases hq sz zs b' off len cap sp e1 e2 with h6 | ⟨h6, h7⟩
              . exact .inl h6
              . exact .inr ⟨.inr h6, h7⟩
            obn := hrel.obn
            φ := fun id b hb => by
              obtain ⟨h1, h2⟩ := hrel.φ id b hb
              exact ⟨.inr h1, h2⟩
            live := hrel.live
            inj := hrel.inj
            Gz := hrel.Gz
            Glo := fun _ _ => rfl
            kp := fun _ _ _ => rfl
            kG := fun _ => Nat.le_refl _
            kφ := fun _ _ h => h
            ksz := fun _ _ _ => rfl
            below := .refl _ _
            hB := fun b hb => .inl hb }
        refine calls_of_wp hfn hc (comp_sound hsc hΓ hm (n := fn.ntmps) c _ _ _ _ _ _ h0 (by simp [<- hxs.1]; omega) h fun e st gf a W' hq hsr hn => ?_)
        have hts' : cRes cx.P a.tmps.size fn.results.toList = some ts := by rw [hn]; exact hts
        have hkeep : Keeps W g.G g.φ W' gf.G gf.φ := ⟨hsr.kp, hsr.kG, hsr.kφ, hsr.ksz⟩
        have fin : ((∃ p, resOf ts st = some p /\ p.1 = r.1 /\ (r.2 = true -> p.2 = true)) /\ st.hs = hs') -> a.defers = [] /\ ∃ v, (results fn a.tmps).run cx.P W' = .ok v W' /\ ∃ g' y, Ending.returned v = .returned y /\ Bel (fun b => W.heap.size <= b \/ M b) W W' /\ (∀ b, b < W.heap.size -> ¬ M b -> g'.G b = g.G b) /\ Keeps W g.G g.φ W' g'.G g'.φ /\
            HRel (fun b => W.heap.size <= b \/ M b) g' hs' W' /\ Rep W' g'.G g'.φ r.1 y /\ (r.2 = true -> OwnAt W' (fun b => W.heap.size <= b \/ M b) g' (.slot 0) r.1 y) := by
          rintro ⟨⟨p, hp, hr1, hr2⟩, rfl⟩
          obtain ⟨rv0, ro⟩ := r
          simp only at hr1 hr2
          subst hr1
          have hGlo : ∀ b, b < W.heap.size -> ¬ M b -> gf.G b = g.G b := fun b h1 h2 => hsr.Glo b fun h3 => h3.elim (fun h => by omega) h2
          by_cases h1 : ∃ s, ts = [s]
          . obtain ⟨s, rfl⟩ := h1
            simp only [resOf] at hp
            obtain ⟨rr, hrr⟩ : ∃ rr, fn.results.toList = [rr] := List.length_eq_one_iff.1 (by have := cRes_length hts; simpa using this)
            rw [hrr] at hts'
            obtain ⟨y, q1, q2, q3⟩ := rv_run hsc hsr hts' hp
            have hm : (fn.results.toList.mapM (resM a.tmps)).run cx.P W' = .ok [y] W' := by rw [hrr]; simp [q1]
            refine ⟨hsr.defers, _, results_eq fn a.tmps cx.P W' hm, gf.out (match s with | .t t => some t | _ => none), y, by simp, hsr.below, hGlo, hkeep, hsr.hrelOut _, q2, fun ho => ?_⟩
            obtain ⟨t, rfl, hpe, ht, hy⟩ := q3 (hr2 ho)
            have e : a.tmps[t]? = some (a.tmps.getD t undef) := by rw [Array.getElem?_eq_getElem ht]; simp [Array.getD, ht]
            subst hpe
            intro sz xs b off len cap sp hv hx
            simp only at hv hr2
            rcases hsr.own t _ e (hr2 ho) sz xs b off len cap sp hv (by rw [<- hy]; exact hx) with h2 | ⟨h2, h3, h4⟩
            . exact .inl h2
            . exact .inr ⟨h2, by simp only [Gh.out, h3, if_true], h4⟩
          . have hr' : resOf ts st = (rvs st ts).map fun vs => (.tup vs, false) := by
              unfold resOf
              split
              . exact absurd ⟨_, rfl⟩ h1
              . rfl
            rw [hr', Option.map_eq_some_iff] at hp
            obtain ⟨vs, hvs, rfl⟩ := hp
            obtain ⟨ys, q1, q2, q3⟩ := rvs_run hsc hsr hts' hvs
            have hne : ¬ ys.toArray.size = 1 := by
              intro he
              simp at he
              have := rvs_length hvs
              exact h1 (List.length_eq_one_iff.1 (by omega))
            refine ⟨hsr.defers, _, results_eq fn a.tmps cx.P W' q1, gf.out none, .tuple ys.toArray, by rw [dif_neg hne], hsr.below, hGlo, hkeep, hsr.hrelOut _, ?_, fun ho => absurd (hr2 ho) (by simp)⟩
            exact .tup _ _ (by simpa using q2) fun i c x hi hx => q3 i c x hi (by simpa using hx)
        cases e with
        | normal => exact fin hq
        | exit i => exact hq.elim
        | ret => exact fin hq
    . simp at hf
  . simp at hf
end Go.Abs
namespace Go.Abs
open Go.RowKit
def repl {α : Type} (n : Nat) (x : α) : List α := List.replicate n x
@[simp] theorem repl_length {α : Type} (n : Nat) (x : α) : (repl n x).length = n := by simp [repl]
@[simp] theorem mem_repl {α : Type} (n : Nat) (x y : α) : (y ∈ repl n x) = (n ≠ 0 /\ y = x) := by simp [repl]
abbrev Glob := Nat -> Option (List V)
def runs (Γ : Abs.Spec) (gl : Glob) : List AOper -> (St -> Prop) -> St -> Prop
  | [], K, st => K st
  | o :: r, K, st => someP (exec Γ gl o st) (runs Γ gl r K)
theorem runs_eq {Γ : Abs.Spec} {gl : Glob} : ∀ {os : List AOper} {st : St} {K : St -> Prop}, someP (execs Γ gl os st) K = runs Γ gl os K st
  | [], _, _ => rfl
  | o :: r, st, K => by
    simp only [execs, runs]
    cases exec Γ gl o st with
    | none => rfl
    | some s => exact runs_eq
def blockQ (i : Nat) (Q : Ex -> St -> Prop) (e : Ex) (s : St) : Prop := Q (e.inBlock i) s
def condA (v : V) (Γ : Abs.Spec) (gl : Glob) (a b : ACode) (Q : Ex -> St -> Prop) (st : St) : Prop := condP v (awp Γ gl a Q st) (awp Γ gl b Q st)
variable {Γ : Abs.Spec} {gl : Glob} {Q : Ex -> St -> Prop} {st : St}
@[simp] theorem someP_some (s : St) (p : St -> Prop) : someP (some s) p = p s := (rfl)
section
variable {a b : ACode}
@[simp] theorem condA_true : condA (.bool true) Γ gl a b Q st = awp Γ gl a Q st := (rfl)
@[simp] theorem condA_false : condA (.bool false) Γ gl a b Q st = awp Γ gl b Q st := (rfl)
end
@[simp] theorem thenQ_normal (K : St -> Prop) (Q : Ex -> St -> Prop) (s : St) : thenQ K Q .normal s = K s := (rfl)
@[simp] theorem thenQ_exit (K : St -> Prop) (Q : Ex -> St -> Prop) (i : Nat) (s : St) : thenQ K Q (.exit i) s = Q (.exit i) s := (rfl)
@[simp] theorem thenQ_ret (K : St -> Prop) (Q : Ex -> St -> Prop) (s : St) : thenQ K Q .ret s = Q .ret s := (rfl)
@[simp] theorem blockQ_normal (i : Nat) (Q : Ex -> St -> Prop) (s : St) : blockQ i Q .normal s = Q .normal s := (rfl)
@[simp] theorem blockQ_ret (i : Nat) (Q : Ex -> St -> Prop) (s : St) : blockQ i Q .ret s = Q .ret s := (rfl)
@[simp] theorem blockQ_exit (i j : Nat) (Q : Ex -> St -> Prop) (s : St) : blockQ i Q (.exit j) s = if j = i then Q .normal s else Q (.exit j) s := by
  simp only [blockQ, Ex.inBlock]; split <;> rfl
@[simp] theorem awp_skip : awp Γ gl .skip Q st = Q .normal st := (rfl)
@[simp] theorem awp_region (os : List AOper) (d : Bool) : awp Γ gl (.region os d) Q st = runs Γ gl os (Q .normal) st := by rw [<- runs_eq]; rfl
@[simp] theorem awp_seq (a b : ACode) : awp Γ gl (.seq a b) Q st = awp Γ gl a (thenQ (awp Γ gl b Q) Q) st := (rfl)
@[simp] theorem awp_cond (c : Opd) (a b : ACode) : awp Γ gl (.cond c a b) Q st = condA (evO st.tm c) Γ gl a b Q st := (rfl)
@[simp] theorem awp_block (i : Nat) (b : ACode) : awp Γ gl (.block i b) Q st = awp Γ gl b (blockQ i Q) st := (rfl)
@[simp] theorem awp_exit (i : Nat) : awp Γ gl (.exit i) Q st = Q (.exit i) st := (rfl)
@[simp] theorem awp_ret : awp Γ gl .ret Q st = Q .ret st := (rfl)
@[simp] theorem runs_nil (K : St -> Prop) : runs Γ gl [] K st = K st := (rfl)
@[simp] theorem runs_cons (o : AOper) (r : List AOper) (K : St -> Prop) : runs Γ gl (o :: r) K st = someP (exec Γ gl o st) (runs Γ gl r K) := (rfl)
@[simp] theorem evO_tmp (tm : Nat -> V) (t : Nat) : evO tm (.tmp t) = tm t := (rfl)
@[simp] theorem evO_const (tm : Nat -> V) (v : V) : evO tm (.const v) = v := (rfl)
@[simp] theorem put_none (v : V) (o : Bool) : st.put none v o = st := (rfl)
@[simp] theorem put_tm (d : Nat) (v : V) (o : Bool) (t : Nat) : (st.put (some d) v o).tm t = if t = d then v else st.tm t := (rfl)
@[simp] theorem put_own (d : Nat) (v : V) (o : Bool) (t : Nat) : (st.put (some d) v o).own (.slot t) = if t = d then o else st.own (.slot t) := by simp [St.put, updP]
@[simp] theorem put_ownc (d : Nat) (v : V) (o : Bool) (i j : Nat) : (st.put (some d) v o).own (.cell i j) = st.own (.cell i j) := by simp [St.put, updP]
@[simp] theorem put_H (d : Nat) (v : V) (o : Bool) : (st.put (some d) v o).H = st.H := (rfl)
@[simp] theorem put_nH (d : Nat) (v : V) (o : Bool) : (st.put (some d) v o).nH = st.nH := (rfl)
@[simp] theorem take_none : st.take none = st := (rfl)
@[simp] theorem take_own (p q : Pos) : (st.take (some p)).own q = if q = p then false else st.own q := (rfl)
@[simp] theorem new_tm (cs : List V) : (st.new cs).tm = st.tm := (rfl)
@[simp] theorem new_own (cs : List V) (t : Nat) : (st.new cs).own (.slot t) = st.own (.slot t) := (rfl)
@[simp] theorem new_ownc (cs : List V) (i j : Nat) : (st.new cs).own (.cell i j) = if i = st.nH then false else st.own (.cell i j) := (rfl)
@[simp] theorem new_H (cs : List V) (i : Nat) : (st.new cs).H i = if i = st.nH then some (.cells cs) else st.H i := (rfl)
@[simp] theorem new_nH (cs : List V) : (st.new cs).nH = st.nH + 1 := (rfl)
@[simp] theorem setOb_tm (id : Nat) (cs : List V) (off : Nat) (ys : List V) : (st.setOb id cs off ys).tm = st.tm := (rfl)
@[simp] theorem setOb_own (id : Nat) (cs : List V) (off : Nat) (ys : List V) (t : Nat) : (st.setOb id cs off ys).own (.slot t) = st.own (.slot t) := (rfl)
@[simp] theorem setOb_ownc (id : Nat) (cs : List V) (off : Nat) (ys : List V) (i j : Nat) : (st.setOb id cs off ys).own (.cell i j) = if i = id /\ off <= j /\ j < off + ys.length then false else st.own (.cell i j) := (rfl)
@[simp] theorem setOb_H (id : Nat) (cs : List V) (off : Nat) (ys : List V) (i : Nat) : (st.setOb id cs off ys).H i = if i = id then some (.cells (setAt cs off ys)) else st.H i := (rfl)
@[simp] theorem setOb_nH (id : Nat) (cs : List V) (off : Nat) (ys : List V) : (st.setOb id cs off ys).nH = st.nH := (rfl)
@[simp] theorem stoOb_tm (id : Nat) (cs : List V) (off t : Nat) : (st.stoOb id cs off t).tm = st.tm := (rfl)
@[simp] theorem stoOb_own (id : Nat) (cs : List V) (off t u : Nat) : (st.stoOb id cs off t).own (.slot u) = if u = t then false else st.own (.slot u) := by simp [St.stoOb, updP]
@[simp] theorem stoOb_ownc (id : Nat) (cs : List V) (off t i j : Nat) : (st.stoOb id cs off t).own (.cell i j) = if i = id /\ j = off then st.own (.slot t) else st.own (.cell i j) := by simp [St.stoOb, updP]
@[simp] theorem stoOb_H (id : Nat) (cs : List V) (off t i : Nat) : (st.stoOb id cs off t).H i = if i = id then some (.cells (setAt cs off [st.tm t])) else st.H i := (rfl)
@[simp] theorem stoOb_nH (id : Nat) (cs : List V) (off t : Nat) : (st.stoOb id cs off t).nH = st.nH := (rfl)
@[simp] theorem init_tm (args : List V) (t : Nat) : (St.init args).tm t = args.getD t Nil := (rfl)
@[simp] theorem init_own (args : List V) (p : Pos) : (St.init args).own p = false := (rfl)
@[simp] theorem init_H (args : List V) (i : Nat) : (St.init args).H i = none := (rfl)
@[simp] theorem init_nH (args : List V) : (St.init args).nH = 0 := (rfl)
def putV (st : St) (d : Option Nat) (v : Option V) : Option St := v.map fun v => st.put d v false
def putR (st : St) (d : Option Nat) (r : Option Res) : Option St := r.map fun r => (st.take r.tk).put d r.v r.o
@[simp] theorem putV_some (d : Option Nat) (v : V) : putV st d (some v) = some (st.put d v false) := (rfl)
@[simp] theorem putR_some (d : Option Nat) (v : V) (o : Bool) (p : Option Pos) : putR st d (some ⟨v, o, p⟩) = some ((st.take p).put d v o) := (rfl)
variable {d : Option Nat} {g : Option (Nat × Bool)} {a : List Nat}
theorem resV_put (v : Option V) : ((resV v).map fun r => (st.take r.tk).put d r.v r.o) = putV st d v := by cases v <;> rfl
@[simp] theorem exec_none (op : AOp) : exec Γ gl ⟨d, op, none, a⟩ st = exec1 Γ gl ⟨d, op, none, a⟩ st := (rfl)
@[simp] theorem exec_some (op : AOp) (t : Nat) (w : Bool) : exec Γ gl ⟨d, op, some (t, w), a⟩ st = if (match st.tm t with | .bool b => b == w | _ => false) = true then exec1 Γ gl ⟨d, op, some (t, w), a⟩ st else some (st.put d Nil false) := (rfl)
@[simp] theorem e_mv (x : Opd) : exec1 Γ gl ⟨d, .mv x, g, a⟩ st = some (st.put d (evO st.tm x) false) := (rfl)
@[simp] theorem e_mvo (t : Nat) : exec1 Γ gl ⟨d, .mvo t, g, a⟩ st = some ((st.take (some (.slot t))).put d (st.tm t) (st.own (.slot t))) := (rfl)
@[simp] theorem e_pick (c x y : Opd) : exec1 Γ gl ⟨d, .pick c x y, g, a⟩ st = putV st d (vPick (evO st.tm c) (evO st.tm x) (evO st.tm y)) := resV_put _
@[simp] theorem e_ext (t : Opd) (i : Nat) : exec1 Γ gl ⟨d, .ext t i, g, a⟩ st = putV st d (vExt (evO st.tm t) i) := resV_put _
@[simp] theorem e_bin (op : BinOp) (q : EqK) (x y : Opd) : exec1 Γ gl ⟨d, .bin op q x y, g, a⟩ st = putV st d (abin op q (evO st.tm x) (evO st.tm y)) := resV_put _
@[simp] theorem e_un (op : UnOp) (x : Opd) : exec1 Γ gl ⟨d, .un op x, g, a⟩ st = putV st d (aun op (evO st.tm x)) := resV_put _
@[simp] theorem e_len (s : Bool) (x : Opd) : exec1 Γ gl ⟨d, .len s x, g, a⟩ st = putV st d (vLen s (evO st.tm x)) := resV_put _
@[simp] theorem e_mnx (m : Bool) (x y : Opd) : exec1 Γ gl ⟨d, .mnx m x y, g, a⟩ st = putV st d (vMnx m (evO st.tm x) (evO st.tm y)) := resV_put _
@[simp] theorem e_iaddr (sz : Nat) (x i : Opd) : exec1 Γ gl ⟨d, .iaddr sz x i, g, a⟩ st = putV st d (vIaddr sz (evO st.tm x) (evO st.tm i)) := resV_put _
@[simp] theorem e_iarr (n sz : Nat) (x i : Opd) : exec1 Γ gl ⟨d, .iarr n sz x i, g, a⟩ st = putV st d (vIarr n sz (evO st.tm x) (evO st.tm i)) := resV_put _
@[simp] theorem e_faddr (off : Nat) (x : Opd) : exec1 Γ gl ⟨d, .faddr off x, g, a⟩ st = putV st d (vFaddr off (evO st.tm x)) := resV_put _
@[simp] theorem e_load (n : Option Nat) (x : Opd) : exec1 Γ gl ⟨d, .load n x, g, a⟩ st = putV st d (vLoad gl st.H n (evO st.tm x)) := resV_put _
@[simp] theorem e_ldp (n : Option Nat) (x : Opd) : exec1 Γ gl ⟨d, .ldp n x, g, a⟩ st = putV st d (vLdp gl n (evO st.tm x)) := resV_put _
@[simp] theorem e_ldo (x : Opd) : exec1 Γ gl ⟨d, .ldo x, g, a⟩ st = putR st d (vLdo st.H st.own (evO st.tm x)) := (rfl)
@[simp] theorem e_fld (n : Option Nat) (off : Nat) (x : Opd) : exec1 Γ gl ⟨d, .fld n off x, g, a⟩ st = putV st d (vFld n off (evO st.tm x)) := resV_put _
@[simp] theorem e_idx (x i : Opd) : exec1 Γ gl ⟨d, .idx x i, g, a⟩ st = putV st d (vIdx (evO st.tm x) (evO st.tm i)) := resV_put _
@[simp] theorem e_idxa (l sz : Nat) (n : Option Nat) (x i : Opd) : exec1 Γ gl ⟨d, .idxa l sz n x i, g, a⟩ st = putV st d (vIdxa l sz n (evO st.tm x) (evO st.tm i)) := resV_put _
@[simp] theorem e_sls (x : Opd) (lo hi : Option Opd) : exec1 Γ gl ⟨d, .sls x lo hi, g, a⟩ st = putV st d (vSls (evO st.tm x) (lo.map (evO st.tm)) (hi.map (evO st.tm))) := resV_put _
@[simp] theorem e_slc (sz : Nat) (x : Opd) (lo hi mx : Option Opd) : exec1 Γ gl ⟨d, .slc sz x lo hi mx, g, a⟩ st = putR st d (vSlc sz (evO st.tm x) (lo.map (evO st.tm)) (hi.map (evO st.tm)) (mx.map (evO st.tm))) := (rfl)
theorem e_slca (n sz : Nat) (x : Opd) (lo hi mx : Option Opd) : exec1 Γ gl ⟨d, .slca n sz x lo hi mx, g, a⟩ st = putV st d (vSlca st.H n sz (evO st.tm x) (lo.map (evO st.tm)) (hi.map (evO st.tm)) (mx.map (evO st.tm))) := resV_put _
@[simp] theorem e_build (z : List V) (ps : List (Nat × Nat × Opd)) : exec1 Γ gl ⟨d, .build z ps, g, a⟩ st = putV st d ((fillV z (ps.map fun p => (p.1, p.2.1, evO st.tm p.2.2))).map .agg) := resV_put _
@[simp] theorem e_bsl (sz : Nat) (ps : List Opd) : exec1 Γ gl ⟨d, .bsl sz ps, g, a⟩ st = putR st d (if fits sz (ps.map (evO st.tm)) then some ⟨.sl false sz (ps.map (evO st.tm)), true, none⟩ else none) := (rfl)
@[simp] theorem e_s2b (x : Opd) : exec1 Γ gl ⟨d, .s2b x, g, a⟩ st = putR st d (vS2b (evO st.tm x)) := (rfl)
@[simp] theorem e_b2s (x : Opd) : exec1 Γ gl ⟨d, .b2s x, g, a⟩ st = putV st d (vB2s st.H (evO st.tm x)) := resV_put _
@[simp] theorem e_i2i (k : IntKind) (x : Opd) : exec1 Γ gl ⟨d, .i2i k x, g, a⟩ st = putV st d (vI2i k (evO st.tm x)) := resV_put _
@[simp] theorem e_s2s (x : Opd) : exec1 Γ gl ⟨d, .s2s x, g, a⟩ st = putV st d (vS2s (evO st.tm x)) := resV_put _
@[simp] theorem e_s2a (n : Nat) (x : Opd) : exec1 Γ gl ⟨d, .s2a n x, g, a⟩ st = putV st d (vS2a n (evO st.tm x)) := resV_put _
def putC (st : St) (d : Option Nat) (r : Option (V × Bool)) : Option St := r.map fun r => st.put d r.1 r.2
@[simp] theorem putC_some (v : V) (o : Bool) : putC st d (some (v, o)) = some (st.put d v o) := (rfl)
@[simp] theorem e_callv (f : Opd) (xs : List Opd) : exec1 Γ gl ⟨d, .callv f xs, g, a⟩ st = putR st d (vCallv Γ (evO st.tm f) (xs.map (evO st.tm))) := (rfl)
theorem e_call0 (f : Nat) (xs : List Opd) : exec1 Γ gl ⟨d, .call f xs, g, a⟩ st = putR st d (vCall Γ st.H f (xs.map (evO st.tm))) := (rfl)
theorem e_nro (sz : Nat) : exec1 Γ gl ⟨d, .nro sz, g, a⟩ st = some ((st.new []).put d (.osl st.nH 0 0 0 sz) false) := (rfl)
theorem e_mko (sz : Nat) (z : List V) (l c : Opd) : exec1 Γ gl ⟨d, .mko sz z l c, g, a⟩ st = (st.mkOb sz z (evO st.tm l) (evO st.tm c)).map fun r => r.1.put d r.2 false := (rfl)
theorem e_appo (sz : Nat) (s x : Opd) : exec1 Γ gl ⟨d, .appo sz s x, g, a⟩ st = (st.appOb sz (evO st.tm s) (evO st.tm x)).map fun r => r.1.put d r.2 false := (rfl)
theorem e_cpy (x s : Opd) : exec1 Γ gl ⟨d, .cpy x s, g, a⟩ st = (st.cpyOb (evO st.tm x) (evO st.tm s)).map fun r => r.1.put d r.2 false := (rfl)
theorem e_clr (z : List V) (x : Opd) : exec1 Γ gl ⟨d, .clr z x, g, a⟩ st = (st.clrOb z (evO st.tm x)).map fun s => s.put d Nil false := (rfl)
@[simp] theorem e_mkf (f : Nat) (xs : List Opd) : exec1 Γ gl ⟨d, .mkf f xs, g, a⟩ st = some (st.put d (.fn f (xs.map (evO st.tm))) false) := (rfl)
@[simp] theorem e_mkm (f : Nat) (xs : List Opd) : exec1 Γ gl ⟨d, .mkm f xs, g, a⟩ st = some (st.put d (.mfn f (xs.map (evO st.tm))) false) := (rfl)
@[simp] theorem e_nilck (x : Opd) : exec1 Γ gl ⟨d, .nilck x, g, a⟩ st = putV st d (vNilck (evO st.tm x)) := resV_put _
@[simp] theorem e_mks (sz : Nat) (z : List V) (l c : Opd) : exec1 Γ gl ⟨d, .mks sz z l c, g, a⟩ st = putR st d (vMks sz (evO st.tm l) (evO st.tm c)) := (rfl)
@[simp] theorem e_app (sz : Nat) (s x : Opd) : exec1 Γ gl ⟨d, .app sz s x, g, a⟩ st = putR st d (vApp st.H (ownO st.own s) sz (posO s) (evO st.tm s) (evO st.tm x)) := (rfl)
@[simp] theorem e_new (cs : List V) : exec1 Γ gl ⟨d, .new cs, g, a⟩ st = some ((st.new cs).put d (.ptr st.nH 0) false) := (rfl)
@[simp] theorem e_box (x : Opd) : exec1 Γ gl ⟨d, .box x, g, a⟩ st = if (evO st.tm x).cells.all V.sc then some ((st.new (evO st.tm x).cells).put d (.ptr st.nH 0) false) else none := (rfl)
def doStore (st : St) (d : Option Nat) (n : Nat) (ys : List V) : V -> Option St
  | .ptr id off => (hCells st.H id).bind fun cs => if ys.length = n /\ ys.all V.sc = true /\ off + n <= cs.length then some ((st.setOb id cs off ys).put d Nil false) else none
  | _ => none
@[simp] theorem e_store (n : Nat) (x y : Opd) : exec1 Γ gl ⟨d, .store n x y, g, a⟩ st = doStore st d n (evO st.tm y).cells (evO st.tm x) := by
  simp only [exec1, St.ev]
  cases evO st.tm x <;> try rfl
  rename_i id off
  simp only [doStore, St.storeOb]
  cases hCells st.H id <;> simp
def doSto (st : St) (d : Option Nat) (t : Nat) : V -> Option St
  | .ptr id off => (hCells st.H id).bind fun cs => if (st.tm t).sc = true /\ off < cs.length then some ((st.stoOb id cs off t).put d Nil false) else none
  | _ => none
@[simp] theorem e_sto (x : Opd) (t : Nat) : exec1 Γ gl ⟨d, .sto x t, g, a⟩ st = doSto st d t (evO st.tm x) := by
  simp only [exec1, St.ev]
  cases evO st.tm x <;> try rfl
  rename_i id off
  simp only [doSto]
  cases hCells st.H id <;> simp
@[simp] theorem doStore_ptr (n : Nat) (ys : List V) (id off : Nat) : doStore st d n ys (.ptr id off) = (hCells st.H id).bind fun cs => if ys.length = n /\ ys.all V.sc = true /\ off + n <= cs.length then some ((st.setOb id cs off ys).put d Nil false) else none := (rfl)
@[simp] theorem doSto_ptr (t : Nat) (id off : Nat) : doSto st d t (.ptr id off) = (hCells st.H id).bind fun cs => if (st.tm t).sc = true /\ off < cs.length then some ((st.stoOb id cs off t).put d Nil false) else none := (rfl)
@[simp] theorem ownO_tmp (own : Pos -> Bool) (t : Nat) : ownO own (.tmp t) = own (.slot t) := (rfl)
@[simp] theorem ownO_const (own : Pos -> Bool) (v : V) : ownO own (.const v) = false := (rfl)
@[simp] theorem posO_tmp (t : Nat) : posO (.tmp t) = some (.slot t) := (rfl)
@[simp] theorem posO_const (v : V) : posO (.const v) = none := (rfl)
section
theorem less_irrefl : ∀ a : Bytes, Op.bytesLess a a = false
  | [] => rfl
  | a :: r => by simp [Op.bytesLess, less_irrefl r]
theorem less_trans : ∀ {a b c : Bytes}, Op.bytesLess a b = true -> Op.bytesLess b c = true -> Op.bytesLess a c = true
  | _, _, [], h1, h2 => by cases ‹Bytes› <;> simp [Op.bytesLess] at h2
  | [], _, _ :: _, _, _ => rfl
  | _ :: _, [], _ :: _, h1, _ => by simp [Op.bytesLess] at h1
  | x :: a, y :: b, z :: c, h1, h2 => by
    simp only [Op.bytesLess, Bool.or_eq_true, decide_eq_true_eq, Bool.and_eq_true, beq_iff_eq] at h1 h2 ⊢
    rcases h1 with h1 | ⟨rfl, h1⟩ <;> rcases h2 with h2 | ⟨rfl, h2⟩
    . exact .inl (UInt8.lt_trans h1 h2)
    . exact .inl h1
    . exact .inl h2
    . exact .inr ⟨rfl, less_trans h1 h2⟩
theorem less_tri : ∀ {a b : Bytes}, Op.bytesLess a b = false -> Op.bytesLess b a = false -> a = b
  | [], [], _, _ => rfl
  | [], _ :: _, h, _ => by simp [Op.bytesLess] at h
  | _ :: _, [], _, h => by simp [Op.bytesLess] at h
  | x :: a, y :: b, h1, h2 => by
    simp only [Op.bytesLess, Bool.or_eq_false_iff, decide_eq_false_iff_not, Bool.and_eq_false_iff, beq_eq_false_iff_ne] at h1 h2
    have hxy : x = y := by
      rcases Classical.em (x = y) with h | h
      . exact h
      . rcases UInt8.lt_or_lt_of_ne h with h | h
        . exact absurd h h1.1
        . exact absurd h h2.1
    subst hxy
    rw [less_tri (h1.2.resolve_left (by simp)) (h2.2.resolve_left (by simp))]
theorem less_asymm {a b : Bytes} (h : Op.bytesLess a b = true) : Op.bytesLess b a = false := by
  cases h' : Op.bytesLess b a with
  | false => rfl
  | true => have := less_trans h h'; rw [less_irrefl] at this; cases this
theorem less_gtr (a b : Bytes) : (!(Op.bytesLess a b || decide (a = b))) = Op.bytesLess b a := by
  cases h : Op.bytesLess a b with
  | true => simp [less_asymm h]
  | false =>
    by_cases he : a = b
    . subst he; simp [less_irrefl]
    . cases h' : Op.bytesLess b a with
      | true => simp [he]
      | false => exact absurd (less_tri h h') he
end
@[simp] theorem vLen_str (s : Bytes) : vLen true (.str s) = some (.int .i64 s.length) := (rfl)
@[simp] theorem vLen_sl (nl : Bool) (sz : Nat) (xs : List V) : vLen false (.sl nl sz xs) = some (.int .i64 xs.length) := (rfl)
@[simp] theorem vLen_osl (id off n c sz : Nat) : vLen false (.osl id off n c sz) = some (.int .i64 n) := (rfl)
@[simp] theorem vPick_bool (t : Bool) (x y : V) : vPick (.bool t) x y = some (if t then x else y) := (rfl)
@[simp] theorem vExt_tup (vs : List V) (i : Nat) : vExt (.tup vs) i = vs[i]? := (rfl)
theorem vIaddr_sl (sz : Nat) (s : Nat) (xs : List V) (k : IntKind) (n : Int) : vIaddr sz (.sl false s xs) (.int k n) = if 0 <= n /\ s = sz then (xs[n.toNat]?).map fun e => .el e.cells 0 else none := (rfl)
@[simp] theorem vIaddr_at (nl : Bool) (sz : Nat) (xs : List V) (k : IntKind) (n : Nat) (e : V) (h : xs[n]? = some e) (hnl : xs ≠ [] -> nl = false) : vIaddr sz (.sl nl sz xs) (.int k (n : Int)) = some (.el e.cells 0) := by
  have : nl = false := hnl (fun hx => by simp [hx] at h)
  subst this
  simp [vIaddr, h]
@[simp] theorem vIaddr_0 (nl : Bool) (sz : Nat) (xs : List V) (k : IntKind) (e : V) (h : xs[0]? = some e) (hnl : xs ≠ [] -> nl = false) : vIaddr sz (.sl nl sz xs) (.int k 0) = some (.el e.cells 0) := vIaddr_at nl sz xs k 0 e h hnl
@[simp] theorem vIaddr_1 (nl : Bool) (sz : Nat) (xs : List V) (k : IntKind) (e : V) (h : xs[1]? = some e) (hnl : xs ≠ [] -> nl = false) : vIaddr sz (.sl nl sz xs) (.int k 1) = some (.el e.cells 0) := vIaddr_at nl sz xs k 1 e h hnl
@[simp] theorem vIaddr_2 (nl : Bool) (sz : Nat) (xs : List V) (k : IntKind) (e : V) (h : xs[2]? = some e) (hnl : xs ≠ [] -> nl = false) : vIaddr sz (.sl nl sz xs) (.int k 2) = some (.el e.cells 0) := vIaddr_at nl sz xs k 2 e h hnl
@[simp] theorem np1_ne0 (n : Nat) : ((n : Int) + 1 = 0) = False := eq_false (by omega)
@[simp] theorem np1_pos (n : Nat) : (0 < (n : Int) + 1) = True := eq_true (by omega)
@[simp] theorem np1_nneg (n : Nat) : (0 <= (n : Int) + 1) = True := eq_true (by omega)
@[simp] theorem np1_one (n : Nat) : (1 <= (n : Int) + 1) = True := eq_true (by omega)
@[simp] theorem np1_le0 (n : Nat) : ((n : Int) + 1 <= 0) = False := eq_false (by omega)
@[simp] theorem np1_lt0 (n : Nat) : ((n : Int) + 1 < 0) = False := eq_false (by omega)
@[simp] theorem fillV_nil (cs : List V) : fillV cs [] = some cs := (rfl)
@[simp] theorem fillV_cons (cs : List V) (off n : Nat) (v : V) (r : List (Nat × Nat × V)) : fillV cs ((off, n, v) :: r) = if v.cells.length = n /\ v.cells.all V.sc = true /\ off + n <= cs.length then fillV (setAt cs off v.cells) r else none := (rfl)
@[simp] theorem vFaddr_ptr (off id o : Nat) : vFaddr off (.ptr id o) = some (.ptr id (o + off)) := (rfl)
@[simp] theorem vFaddr_el (off : Nat) (cs : List V) (o : Nat) : vFaddr off (.el cs o) = some (.el cs (o + off)) := (rfl)
@[simp] theorem vFaddr_gp (off g o : Nat) : vFaddr off (.gp g o) = some (.gp g (o + off)) := (rfl)
@[simp] theorem vLoad_el (gl : Glob) (H : Hp) (n : Option Nat) (cs : List V) (o : Nat) : vLoad gl H n (.el cs o) = ldCells n cs o := (rfl)
@[simp] theorem vLoad_gp (gl : Glob) (H : Hp) (n : Option Nat) (g o : Nat) : vLoad gl H n (.gp g o) = (gl g).bind fun cs => ldCells n cs o := (rfl)
@[simp] theorem vLoad_ptr (gl : Glob) (H : Hp) (n : Option Nat) (id o : Nat) : vLoad gl H n (.ptr id o) = (hCells H id).bind fun cs => ldCells n cs o := (rfl)
@[simp] theorem vFld_agg (n : Option Nat) (off : Nat) (cs : List V) : vFld n off (.agg cs) = ldCells n cs off := (rfl)
@[simp] theorem hCells_new (cs : List V) (i : Nat) : hCells (st.new cs).H i = if i = st.nH then some cs else hCells st.H i := by
  by_cases h : i = st.nH <;> simp [hCells, h]
@[simp] theorem hCells_setOb (id : Nat) (cs : List V) (off : Nat) (ys : List V) (i : Nat) : hCells (st.setOb id cs off ys).H i = if i = id then some (setAt cs off ys) else hCells st.H i := by
  by_cases h : i = id <;> simp [hCells, h]
@[simp] theorem hCells_stoOb (id : Nat) (cs : List V) (off t : Nat) (i : Nat) : hCells (st.stoOb id cs off t).H i = if i = id then some (setAt cs off [st.tm t]) else hCells st.H i := by
  by_cases h : i = id <;> simp [hCells, h]
@[simp] theorem hCells_init (args : List V) (i : Nat) : hCells (St.init args).H i = none := (rfl)
@[simp] theorem ldCells_none (cs : List V) (off : Nat) : ldCells none cs off = cs[off]? := (rfl)
@[simp] theorem ldCells_some (k : Nat) (cs : List V) (off : Nat) : ldCells (some k) cs off = if off + k <= cs.length then some (.agg ((cs.drop off).take k)) else none := (rfl)
@[simp] theorem aun_not (b : Bool) : aun .not (.bool b) = some (.bool !b) := (rfl)
@[simp] theorem aun_neg (k : IntKind) (n : Int) : aun .neg (.int k n) = some (.int k (k.wrap (0 - n))) := (rfl)
variable {q : EqK} {k : IntKind} {x y : Int} {s t : Bytes}
@[simp] theorem b_add : abin .add q (.int k x) (.int k y) = some (.int k (k.wrap (x + y))) := by simp [abin, aint]
@[simp] theorem b_sub : abin .sub q (.int k x) (.int k y) = some (.int k (k.wrap (x - y))) := by simp [abin, aint]
@[simp] theorem b_mul : abin .mul q (.int k x) (.int k y) = some (.int k (k.wrap (x * y))) := by simp [abin, aint]
@[simp] theorem b_quo : abin .quo q (.int k x) (.int k y) = if y = 0 then none else some (.int k (k.wrap (x.tdiv y))) := by simp [abin, aint]
@[simp] theorem b_rem : abin .rem q (.int k x) (.int k y) = if y = 0 then none else some (.int k (x.tmod y)) := by simp [abin, aint]
@[simp] theorem b_eql : abin .eql q (.int k x) (.int k y) = some (.bool (decide (x = y))) := by simp [abin, aint]
@[simp] theorem b_neq : abin .neq q (.int k x) (.int k y) = some (.bool (!decide (x = y))) := by simp [abin, aint]
@[simp] theorem b_lss : abin .lss q (.int k x) (.int k y) = some (.bool (decide (x < y))) := by simp [abin, aint]
@[simp] theorem b_leq : abin .leq q (.int k x) (.int k y) = some (.bool (decide (x <= y))) := by simp [abin, aint]
@[simp] theorem b_gtr : abin .gtr q (.int k x) (.int k y) = some (.bool (decide (y < x))) := by simp [abin, aint]
@[simp] theorem b_geq : abin .geq q (.int k x) (.int k y) = some (.bool (decide (y <= x))) := by simp [abin, aint]
@[simp] theorem s_eql : abin .eql q (.str s) (.str t) = some (.bool (decide (s = t))) := (rfl)
@[simp] theorem s_neq : abin .neq q (.str s) (.str t) = some (.bool (!decide (s = t))) := (rfl)
@[simp] theorem s_lss : abin .lss q (.str s) (.str t) = some (.bool (Op.bytesLess s t)) := (rfl)
@[simp] theorem s_gtr : abin .gtr q (.str s) (.str t) = some (.bool (Op.bytesLess t s)) := by rw [<- less_gtr]; rfl
@[simp] theorem s_geq : abin .geq q (.str s) (.str t) = some (.bool (!Op.bytesLess s t)) := (rfl)
@[simp] theorem s_add : abin .add q (.str s) (.str t) = if s.length + t.length <= 4611686018427387904 then some (.str (s ++ t)) else none := (rfl)
@[simp] theorem sl_eql (nl : Bool) (z z' : Nat) (xs : List V) : abin .eql .slice (.sl nl z xs) (.sl true z' []) = some (.bool nl) := by cases nl <;> rfl
@[simp] theorem sl_neq (nl : Bool) (z z' : Nat) (xs : List V) : abin .neq .slice (.sl nl z xs) (.sl true z' []) = some (.bool !nl) := by cases nl <;> rfl
@[simp] theorem fl_eql (ks : List (Option IntKind × Bool)) (xs ys : List V) : abin .eql (.flat ks) (.agg xs) (.agg ys) = (flatEq ks xs ys).map .bool := (rfl)
@[simp] theorem fl_neq (ks : List (Option IntKind × Bool)) (xs ys : List V) : abin .neq (.flat ks) (.agg xs) (.agg ys) = (flatEq ks xs ys).map fun b => .bool !b := (rfl)
@[simp] theorem flatEq_nil : flatEq [] [] [] = some true := (rfl)
@[simp] theorem flatEq_step (k : Option IntKind × Bool) (ks : List (Option IntKind × Bool)) (x y : V) (xs ys : List V) : flatEq (k :: ks) (x :: xs) (y :: ys) = (kdEq k x y).bind fun b => (flatEq ks xs ys).map (b && ·) := (rfl)
@[simp] theorem kdEq_int (k : IntKind) (t : Bool) (x y : Int) : kdEq (some k, t) (.int k x) (.int k y) = some (decide (x = y)) := by simp [kdEq]
@[simp] theorem kdEq_str (x y : Bytes) : kdEq (none, true) (.str x) (.str y) = some (decide (x = y)) := (rfl)
@[simp] theorem kdEq_bool (x y : Bool) : kdEq (none, false) (.bool x) (.bool y) = some (x == y) := (rfl)
@[simp] theorem retQ_normal (res : List RS) (r : V × Bool) : retQ res r .normal st = (∃ p, resOf res st = some p /\ p.1 = r.1 /\ (r.2 = true -> p.2 = true)) := (rfl)
@[simp] theorem retQ_ret (res : List RS) (r : V × Bool) : retQ res r .ret st = (∃ p, resOf res st = some p /\ p.1 = r.1 /\ (r.2 = true -> p.2 = true)) := (rfl)
@[simp] theorem retQ_exit (res : List RS) (r : V × Bool) (i : Nat) : retQ res r (.exit i) st = False := (rfl)
@[simp] theorem resOf_one (t : Nat) : resOf [.t t] st = some (st.tm t, st.own (.slot t)) := (rfl)
@[simp] theorem natCast_eq' (a b : Nat) : ((a : Int) = (b : Int)) = (a = b) := propext Int.ofNat_inj
theorem w64 (n : Int) (h : -9223372036854775808 <= n /\ n <= 9223372036854775807) : IntKind.wrap .i64 n = n := Go.IntWalk.i64_in n h
@[simp] theorem cells_agg (cs : List V) : (V.agg cs).cells = cs := (rfl)
@[simp] theorem cells_bool (b : Bool) : (V.bool b).cells = [.bool b] := (rfl)
@[simp] theorem cells_int (k : IntKind) (n : Int) : (V.int k n).cells = [.int k n] := (rfl)
@[simp] theorem cells_str (s : Bytes) : (V.str s).cells = [.str s] := (rfl)
@[simp] theorem cells_sl (nl : Bool) (z : Nat) (xs : List V) : (V.sl nl z xs).cells = [.sl nl z xs] := (rfl)
@[simp] theorem cells_fn (f : Nat) (cs : List V) : (V.fn f cs).cells = [.fn f cs] := (rfl)
@[simp] theorem cells_ptr (i o : Nat) : (V.ptr i o).cells = [.ptr i o] := (rfl)
@[simp] theorem cells_nilptr : V.nilptr.cells = [.nilptr] := (rfl)
@[simp] theorem cells_nilif : V.nilif.cells = [.nilif] := (rfl)
@[simp] theorem sc_agg (cs : List V) : (V.agg cs).sc = false := (rfl)
@[simp] theorem sc_tup (cs : List V) : (V.tup cs).sc = false := (rfl)
@[simp] theorem sc_bool (b : Bool) : (V.bool b).sc = true := (rfl)
@[simp] theorem sc_int (k : IntKind) (n : Int) : (V.int k n).sc = true := (rfl)
@[simp] theorem sc_str (s : Bytes) : (V.str s).sc = true := (rfl)
@[simp] theorem sc_sl (nl : Bool) (z : Nat) (xs : List V) : (V.sl nl z xs).sc = true := (rfl)
@[simp] theorem sc_fn (f : Nat) (cs : List V) : (V.fn f cs).sc = true := (rfl)
@[simp] theorem sc_ptr (i o : Nat) : (V.ptr i o).sc = true := (rfl)
@[simp] theorem sc_nilptr : V.nilptr.sc = true := (rfl)
@[simp] theorem sc_nilif : V.nilif.sc = true := (rfl)
@[simp] theorem sc_encB {l : Bytes} {x : V} (h : x ∈ encB l) : x.sc = true := by
  simp only [encB, List.mem_map] at h
  obtain ⟨b, _, rfl⟩ := h; rfl
@[simp] theorem encB_length (l : Bytes) : (encB l).length = l.length := by simp [encB]
@[simp] theorem ldCells_full {k : Nat} {cs : List V} (h : cs.length = k) : ldCells (some k) cs 0 = some (.agg cs) := by simp [ldCells, <- h]
@[simp] theorem setAt_full {cs ys : List V} (h : ys.length = cs.length) : setAt cs 0 ys = ys := by simp [setAt, h]
@[simp] theorem clean_bool (b : Bool) : (V.bool b).clean = true := (rfl)
@[simp] theorem clean_int (k : IntKind) (n : Int) : (V.int k n).clean = true := (rfl)
@[simp] theorem clean_str (s : Bytes) : (V.str s).clean = true := (rfl)
@[simp] theorem clean_agg (cs : List V) : (V.agg cs).clean = cleanL cs := (rfl)
@[simp] theorem clean_sl (nl : Bool) (z : Nat) (xs : List V) : (V.sl nl z xs).clean = cleanL xs := (rfl)
@[simp] theorem clean_fn (f : Nat) (cs : List V) : (V.fn f cs).clean = cleanL cs := (rfl)
@[simp] theorem clean_tup (cs : List V) : (V.tup cs).clean = cleanL cs := (rfl)
@[simp] theorem cleanL_nil : cleanL [] = true := (rfl)
@[simp] theorem cleanL_cons (v : V) (r : List V) : cleanL (v :: r) = (v.clean && cleanL r) := (rfl)
@[simp] theorem cleanL_encB (l : Bytes) : cleanL (encB l) = true := cleanL_iff.2 fun v hv => by
  simp only [encB, List.mem_map] at hv
  obtain ⟨b, _, rfl⟩ := hv; rfl
theorem cleanL_map {α : Type} {f : α -> V} (h : ∀ x, (f x).clean = true) (l : List α) : cleanL (l.map f) = true := cleanL_iff.2 fun v hv => by
  obtain ⟨x, _, rfl⟩ := List.mem_map.1 hv; exact h x
@[simp] theorem vTail_sl (H : Hp) (sz : Nat) (nl : Bool) (ys : List V) : vTail H sz (.sl nl sz ys) = some ys := by simp [vTail]
@[simp] theorem vTail_str (H : Hp) (b : Bytes) : vTail H 1 (.str b) = some (encB b) := (rfl)
@[simp] theorem vApp_nil (H : Hp) (own : Bool) (sz z : Nat) (p : Option Pos) (xs : List V) (x : V) : vApp H own sz p (.sl true z xs) x = (vTail H sz x).bind fun ys => if ys.length <= Lim then some ⟨.sl ys.isEmpty sz ys, true, none⟩ else none := by
  simp only [vApp]; cases vTail H sz x <;> rfl
@[simp] theorem vApp_sl (H : Hp) (sz : Nat) (p : Option Pos) (xs : List V) (x : V) : vApp H true sz p (.sl false sz xs) x = (vTail H sz x).bind fun ys => if xs.length + ys.length <= Lim then some ⟨.sl false sz (xs ++ ys), true, p⟩ else none := by
  simp only [vApp]; cases vTail H sz x <;> simp
@[simp] theorem take_ite_own (c : Prop) [Decidable c] (q r : Pos) : (st.take (if c then none else some q)).own r = if ¬ c /\ r = q then false else st.own r := by
  by_cases h : c <;> simp [h]
@[simp] theorem fits_nil (sz : Nat) : fits sz [] = true := (rfl)
@[simp] theorem fits_cons (sz : Nat) (x : V) (r : List V) : fits sz (x :: r) = ((x.cells.length == sz && x.cells.all V.sc) && fits sz r) := (rfl)
@[simp] theorem vIdx_str (s : Bytes) (k : IntKind) (n : Nat) : vIdx (.str s) (.int k (n : Int)) = (s[n]?).map byteV := by simp [vIdx]
@[simp] theorem vIdx_zero (s : Bytes) (k : IntKind) : vIdx (.str s) (.int k 0) = (s[0]?).map byteV := by simp [vIdx]
@[simp] theorem vSls_lh (s : Bytes) (k k' : IntKind) (l h : Int) : vSls (.str s) (some (.int k l)) (some (.int k' h)) = if 0 <= l /\ l <= h /\ h <= s.length then some (.str ((s.take h.toNat).drop l.toNat)) else none := by
  simp only [vSls, vOpt, cut3]
  by_cases hc : 0 <= l /\ l <= h /\ h <= s.length
  . have : 0 <= h := by omega
    simp [hc, this]
  . rw [if_neg hc, if_neg]
    . rfl
    . simp; omega
@[simp] theorem vSls_l (s : Bytes) (k : IntKind) (l : Int) : vSls (.str s) (some (.int k l)) none = if 0 <= l /\ l <= s.length then some (.str (s.drop l.toNat)) else none := by
  simp only [vSls, vOpt, cut3]
  by_cases hc : 0 <= l /\ l <= s.length
  . simp [hc]
  . rw [if_neg hc, if_neg]
    . rfl
    . simp; omega
@[simp] theorem vSls_h (s : Bytes) (k : IntKind) (h : Int) : vSls (.str s) none (some (.int k h)) = if 0 <= h /\ h <= s.length then some (.str (s.take h.toNat)) else none := by
  simp only [vSls, vOpt, cut3]
  by_cases hc : 0 <= h /\ h <= s.length
  . simp [hc]
  . rw [if_neg hc, if_neg]
    . rfl
    . simp; omega
@[simp] theorem vSlc_l (sz z : Nat) (nl : Bool) (xs : List V) (k : IntKind) (l : Int) : vSlc sz (.sl nl z xs) (some (.int k l)) none none = if z = sz /\ 0 <= l /\ l <= xs.length then some ⟨.sl nl sz (xs.drop l.toNat), false, none⟩ else none := by
  simp only [vSlc, vOpt, cut3]
  by_cases hc : z = sz /\ 0 <= l /\ l <= xs.length
  . obtain ⟨rfl, h1, h2⟩ := hc
    simp [h1, h2]
  . rw [if_neg hc]
    by_cases hz : z = sz
    . rw [if_pos (by simp [hz]), if_neg]
      . rfl
      . simp; omega
    . rw [if_neg (by simp [hz])]
@[simp] theorem vSlc_h (sz z : Nat) (nl : Bool) (xs : List V) (k : IntKind) (h : Int) : vSlc sz (.sl nl z xs) none (some (.int k h)) none = if z = sz /\ 0 <= h /\ h <= xs.length then some ⟨.sl nl sz (xs.take h.toNat), false, none⟩ else none := by
  simp only [vSlc, vOpt, cut3]
  by_cases hc : z = sz /\ 0 <= h /\ h <= xs.length
  . obtain ⟨rfl, h1, h2⟩ := hc
    simp [h1, h2]
  . rw [if_neg hc]
    by_cases hz : z = sz
    . rw [if_pos (by simp [hz]), if_neg]
      . rfl
      . simp; omega
    . rw [if_neg (by simp [hz])]
@[simp] theorem all_encB (l : Bytes) : (∀ a ∈ encB l, a.sc = true) = True := eq_true fun _ h => sc_encB h
theorem drop_nil {α : Type} {l : List α} {k : Nat} (h : l.drop k = []) (hk : k <= l.length) : k = l.length := by
  have := List.drop_eq_nil_iff.1 h; omega
end Go.Abs
namespace Go.Abs
open Go.RowKit Go.ChangeShapes Go.WideShapes
open Go.Proofs.YtpmgdngjbdkdfaaDoor (Rows.uptoBulk Rows.uptoBulkAll)
mutual
def V.wt : V -> Nat
  | .str s => s.length + 1
  | .agg cs => wtL cs + 1
  | .sl _ _ xs => wtL xs + 1
  | _ => 1
def wtL : List V -> Nat
  | [] => 0
  | v :: r => v.wt + wtL r
end
theorem wtL_append (a b : List V) : wtL (a ++ b) = wtL a + wtL b := by
  induction a with
  | nil => simp [wtL]
  | cons x a ih => simp only [List.cons_append, wtL, ih]; omega
theorem wtL_mem {l : List V} {v : V} (h : v ∈ l) : v.wt <= wtL l := by
  induction l with
  | nil => cases h
  | cons x r ih =>
    simp only [wtL]
    rcases List.mem_cons.1 h with rfl | h
    . omega
    . have := ih h; omega
theorem wt_pos (v : V) : 1 <= v.wt := by cases v <;> simp [V.wt]
theorem wtL_length (l : List V) : l.length <= wtL l := by
  induction l with
  | nil => simp
  | cons x r ih => simp only [wtL, List.length_cons]; have := wt_pos x; omega
def plainT (P : Program) : Nat -> TypeId -> Bool
  | 0, _ => false
  | m + 1, t => match P.underlying t with
    | some .bool | some (.int _) | some .string => true
    | some (.slice e) => plainT P m e
    | some (.array _ e) => plainT P m e
    | some (.struct fs) => fs.toList.all fun f => plainT P m f.type
    | _ => false
def isAgT (P : Program) (t : TypeId) : Bool := match P.underlying t with | some (.struct _) | some (.array _ _) => true | _ => false
def elV (P : Program) (t : TypeId) (ws : List V) : V := if isAgT P t then .agg ws else ws.headD Nil
def HasT (P : Program) : Nat -> TypeId -> List V -> Prop
  | 0, _, _ => False
  | m + 1, t, vs => match P.underlying t with
    | some .bool => ∃ b, vs = [.bool b]
    | some (.int k) => ∃ n, vs = [.int k n] /\ k.min <= n /\ n <= k.max
    | some .string => ∃ s, vs = [.str s]
    | some (.slice e) => vs = [.sl true (P.cellsOf e) []] \/ ∃ xs, vs = [.sl false (P.cellsOf e) xs] /\ ∀ x ∈ xs, ∃ ws, HasT P m e ws /\ x = elV P e ws
    | some (.array n e) => ∃ wss : List (List V), wss.length = n /\ (∀ ws ∈ wss, HasT P m e ws) /\ vs = wss.flatten
    | some (.struct fs) => ∃ wss : List (List V), wss.length = fs.size /\ (∀ (i : Nat) (f : Field) (ws : List V), fs[i]? = some f -> wss[i]? = some ws -> HasT P m f.type ws) /\ vs = wss.flatten
    | _ => False
def RL (W : World) (G : Nat -> Nat) (φ : Nat -> Option Nat) (vs : List V) (cs : List Value) : Prop :=
  vs.length = cs.length /\ ∀ (i : Nat) (c : V) (x : Value), vs[i]? = some c -> cs[i]? = some x -> Rep W G φ c x
theorem RL.append {W G φ a b cs} (h1 : RL W G φ a (cs.take a.length)) (h2 : RL W G φ b (cs.drop a.length)) (hl : a.length <= cs.length) : RL W G φ (a ++ b) cs := by
  refine ⟨?_, fun i c x hc hx => ?_⟩
  . have := h2.1; simp at this ⊢; omega
  . rw [List.getElem?_append] at hc
    split at hc
    . rename_i hlt
      exact h1.2 i c x hc (by rw [List.getElem?_take, if_pos hlt]; exact hx)
    . rename_i hge
      exact h2.2 (i - a.length) c x hc (by rw [List.getElem?_drop]; rw [show a.length + (i - a.length) = i by omega]; exact hx)
theorem RL.flatten {W G φ} : ∀ {wss : List (List V)} {cs : List Value}, cs.length = (wss.map List.length).sum ->
    (∀ (i : Nat) (ws : List V), wss[i]? = some ws -> RL W G φ ws ((cs.drop ((wss.take i).map List.length).sum).take ws.length)) -> RL W G φ wss.flatten cs
  | [], cs, hl, _ => ⟨by simp at hl; rw [hl]; rfl, fun i c x hc => by simp at hc⟩
  | w :: r, cs, hl, h => by
    rw [List.flatten_cons]
    simp only [List.map_cons, List.sum_cons] at hl
    refine RL.append (by simpa using h 0 w rfl) (RL.flatten (by simp; omega) fun i ws hi => ?_) (by omega)
    have := h (i + 1) ws (by simpa using hi)
    simpa [List.take_succ_cons, List.drop_drop, Nat.add_comm] using this
section
variable {H : Type} {enc : TypeId × Value -> H} {P : Program} {w : World} {held : Bool} {φ : Nat -> Option Nat}
theorem cell_lt {w : World} {b i : Nat} {s : Option Nat} {v : Value} (h : w.cell? ⟨b, i, s⟩ = some v) : s = none /\ i < G0 w b := by
  simp only [World.cell?] at h
  split at h
  . rename_i c t f hc
    split at h
    . simp at h
    . rename_i hs
      refine ⟨by simpa using hs, ?_⟩
      simp only [G0, hc]
      exact (Array.getElem?_eq_some_iff.1 h).1
  . simp at h
theorem bulkAll_range (n : Nat) (f : Nat -> List V) (D : Nat -> DataW H) (k : Nat) (h : ∀ i, i < n -> wtL (f i) <= Rows.uptoBulk (D (k + i))) : wtL ((List.range n).map f).flatten <= Rows.uptoBulkAll ((List.range n).map fun i => D (k + i)) := by
  induction n generalizing f k with
  | zero => simp [wtL]
  | succ n ih =>
    rw [List.range_succ_eq_map]
    simp only [List.map_cons, List.flatten_cons, wtL_append, Rows.uptoBulkAll, List.map_map]
    have h0 := h 0 (by omega)
    have := ih (fun i => f (i + 1)) (k + 1) fun i hi => by have := h (i + 1) (by omega); rwa [show k + (i + 1) = k + 1 + i by omega] at this
    have e : ((fun i => D (k + i)) ∘ Nat.succ) = fun i => D (k + 1 + i) := by funext i; simp [Function.comp, Nat.succ_eq_add_one]; congr 1; omega
    rw [e]
    have e2 : (f ∘ Nat.succ) = fun i => f (i + 1) := rfl
    rw [e2]
    omega
theorem RL.one {W G φ v x} (h : Rep W G φ v x) : RL W G φ [v] [x] := ⟨rfl, fun i c y hc hy => by
  cases i with
  | zero => simp at hc hy; subst hc; subst hy; exact h
  | succ i => simp at hc⟩
theorem elV_cells {t : TypeId} {ws : List V} (h : isAgT P t = false -> ∃ v, ws = [v] /\ v.sc = true) : (elV P t ws).cells = ws := by
  unfold elV
  split
  . rfl
  . rename_i ha
    obtain ⟨v, rfl, hv⟩ := h (by simpa using ha)
    cases v <;> first | rfl | simp at hv
theorem elV_clean {t : TypeId} {ws : List V} (h : ∀ c ∈ ws, c.clean = true) : (elV P t ws).clean = true := by
  unfold elV
  split
  . exact cleanL_iff.2 h
  . cases ws with
    | nil => rfl
    | cons a r => exact h a (by simp)
theorem pieces {K : Nat} {n : Nat} {f : Nat -> List V} {c : Nat -> Nat} (hn : K <= n) (hf : ∀ i, i < n -> (f i).length = c i) : ((((List.range n).map f).take K).map List.length).sum = ((List.range K).map c).sum := by
  rw [<- List.map_take, List.take_range, Nat.min_eq_left hn, List.map_map]
  congr 1
  exact List.map_congr_left fun i hi => hf i (by have := List.mem_range.1 hi; omega)
theorem trod_rep (K : Kids P (· < P.types.size)) (hz : ∀ t e, t < P.types.size -> P.underlying t = some (.slice e) -> 0 < P.cellsOf e) : ∀ (m fuel : Nat) (t : TypeId) (cs : List Value) (x : DataW H × List MemPlace), t < P.types.size -> plainT P m t = true ->
    DataW.trod enc P w 0 (fun _ => true) held fuel t cs = some x ->
    ∃ vs, RL w (G0 w) φ vs cs /\ (∀ c ∈ vs, c.sc = true /\ c.clean = true) /\ HasT P m t vs /\ (elV P t vs).wt <= Rows.uptoBulk x.1 /\ wtL vs <= Rows.uptoBulk x.1 /\ (isAgT P t = false -> ∃ v, vs = [v] /\ v.sc = true) := by
  intro m
  induction m with
  | zero => intro fuel t cs x _ hp; simp [plainT] at hp
  | succ m ih =>
    intro fuel t cs x ht hp h
    unfold plainT at hp
    split at hp
    . rename_i hu
      obtain ⟨b, rfl, rfl⟩ := DataW.trod_bool hu h
      have ha : isAgT P t = false := by simp [isAgT, hu]
      exact ⟨[.bool b], RL.one (.bool b), by simp, by simp [HasT, hu], by simp [elV, ha, V.wt, Rows.uptoBulk], by simp [wtL, V.wt, Rows.uptoBulk], fun _ => ⟨_, rfl, rfl⟩⟩
    . rename_i k hu
      obtain ⟨n, rfl, rfl, hw⟩ := DataW.trod_int hu h
      have ha : isAgT P t = false := by simp [isAgT, hu]
      simp only [Lit.wf, Bool.and_eq_true, decide_eq_true_eq] at hw
      exact ⟨[.int k n], RL.one (.int k n), by simp, by simp [HasT, hu, hw], by simp [elV, ha, V.wt, Rows.uptoBulk], by simp [wtL, V.wt, Rows.uptoBulk], fun _ => ⟨_, rfl, rfl⟩⟩
    . rename_i hu
      obtain ⟨s, rfl, rfl, hw⟩ := DataW.trod_string hu h
      have ha : isAgT P t = false := by simp [isAgT, hu]
      exact ⟨[.str s.data.toList], RL.one (.str _ s rfl), by simp, by simp [HasT, hu], by simp [elV, ha, V.wt, Rows.uptoBulk], by simp [wtL, V.wt, Rows.uptoBulk], fun _ => ⟨_, rfl, rfl⟩⟩
    . rename_i e hu
      have ha : isAgT P t = false := by simp [isAgT, hu]
      have hte := K.slice ht hu
      have hz0 := hz t e ht hu
      rcases Deep.open_slice hu h with ⟨rfl, rfl⟩ | ⟨a, len, cap, mm, n, D, Pl, rfl, _, hl, _, hmm, rfl, hel⟩
      . exact ⟨[.sl true (P.cellsOf e) []], RL.one (.slnil _), by simp, by simp [HasT, hu], by simp [elV, ha, V.wt, wtL, Rows.uptoBulk], by simp [wtL, V.wt, Rows.uptoBulk], fun _ => ⟨_, rfl, rfl⟩⟩
      . simp only [if_true] at hmm
        subst hmm
        have hpick : ∀ i, i < mm -> ∃ ws : List V, ∃ cs', w.cells? 0 (a.add (i * P.cellsOf e)) (P.cellsOf e) = some cs' /\ RL w (G0 w) φ ws cs' /\ (∀ c ∈ ws, c.sc = true /\ c.clean = true) /\ HasT P m e ws /\ (elV P e ws).wt <= Rows.uptoBulk (D i) /\ (isAgT P e = false -> ∃ v, ws = [v] /\ v.sc = true) := fun i hi => by
          obtain ⟨cs', h1, h2⟩ := hel i hi
          obtain ⟨ws, q1, q2, q3, q4, _, q6⟩ := ih n e cs' _ hte hp h2
          exact ⟨ws, cs', h1, q1, q2, q3, q4, q6⟩
        obtain ⟨f, hf⟩ := Deep.choose_lt hpick
        have hbulk : wtL ((List.range len).map fun i => elV P e (f i)) + 1 <= Rows.uptoBulk (DataW.slice ((List.range len).map D) ((List.range (mm - len)).map fun j => D (len + j))) := by
          have key : ∀ k, k <= mm -> wtL ((List.range k).map fun i => elV P e (f i)) <= Rows.uptoBulkAll ((List.range k).map D) := by
            have app : ∀ (l r : List (DataW H)), Rows.uptoBulkAll (l ++ r) = Rows.uptoBulkAll l + Rows.uptoBulkAll r := by
              intro l r
              induction l with
              | nil => simp [Rows.uptoBulkAll]
              | cons x l ih => simp only [List.cons_append, Rows.uptoBulkAll, ih]; omega
            intro k
            induction k with
            | zero => intro _; simp [wtL]
            | succ k ihk =>
              intro hk
              obtain ⟨_, _, _, _, _, q4, _⟩ := hf k (by omega)
              rw [List.range_succ, List.map_append, List.map_append, wtL_append, app]
              have := ihk (by omega)
              simp only [List.map_cons, List.map_nil, wtL, Rows.uptoBulkAll]
              omega
          simp only [Rows.uptoBulk]
          have := key len (by omega)
          omega
        have hcl : ∀ v ∈ ((List.range len).map fun i => elV P e (f i)), v.clean = true := fun v hv => by
          obtain ⟨i, hi, rfl⟩ := List.mem_map.1 hv
          obtain ⟨_, _, _, q2, _⟩ := hf i (by have := List.mem_range.1 hi; omega)
          exact elV_clean fun c hc => (q2 c hc).2
        refine ⟨[.sl false (P.cellsOf e) ((List.range len).map fun i => elV P e (f i))], RL.one ?_, by simpa using cleanL_iff.2 hcl, ?_, by simpa [elV, ha, V.wt] using hbulk, by simpa [wtL, V.wt] using hbulk, fun _ => ⟨_, rfl, rfl⟩⟩
        . -- where it lies
          by_cases hc0 : mm = 0
          . have hl0 : len = 0 := by omega
            subst hc0; subst hl0
            exact .sl0 _ a
          . obtain ⟨cs0, p1, _⟩ := hf 0 (by omega)
            have hsp : a.spot = none := by
              obtain ⟨_, _, hc⟩ := World.cells?_some p1
              have h0 := hc 0 hz0
              simp only [Nat.zero_mul, Addr.add, if_true] at h0
              have hlen : 0 < cs0.length := by obtain ⟨_, q, _⟩ := World.cells?_some p1; omega
              rw [List.getElem?_eq_getElem hlen] at h0
              obtain ⟨ab, ao, asp⟩ := a
              exact (cell_lt h0).1
            obtain ⟨ab, ao, asp⟩ := a
            simp only at hsp
            subst hsp
            have hcell : ∀ i, i < mm -> ∀ j, j < P.cellsOf e -> ∃ cs', w.cells? 0 (Addr.add ⟨ab, ao, none⟩ (i * P.cellsOf e)) (P.cellsOf e) = some cs' /\ w.cell? ⟨ab, ao + (i * P.cellsOf e + j), none⟩ = cs'[j]? /\ j < cs'.length := fun i hi j hj => by
              obtain ⟨cs', p1, _⟩ := hf i hi
              obtain ⟨_, q, hc⟩ := World.cells?_some p1
              refine ⟨cs', p1, ?_, by omega⟩
              have := hc j hj
              rw [addr_add, addr_add] at this
              rw [<- this, Nat.add_assoc]
            have hlenm : ((List.range len).map fun i => elV P e (f i)).length = len := by simp
            have hrep := Rep.sl (W := w) (G := G0 w) (φ := φ) (P.cellsOf e) ((List.range len).map fun i => elV P e (f i)) ab ao mm (fun k => (w.cell? ⟨ab, ao + k, none⟩).getD undef) (by simpa using hl) ?_ ?_ ?_ ?_
            . rw [hlenm] at hrep; exact hrep
            . rw [hlenm]
              have hlast : ao + (mm - 1 + 1) * P.cellsOf e <= G0 w ab := by
                obtain ⟨cs', p1, p2, p3⟩ := hcell (mm - 1) (by omega) (P.cellsOf e - 1) (by omega)
                rw [List.getElem?_eq_getElem p3] at p2
                have := (cell_lt p2).2
                rw [Nat.add_mul]; omega
              have : len * P.cellsOf e <= (mm - 1 + 1) * P.cellsOf e := Nat.mul_le_mul_right _ (by omega)
              omega
            . intro v hv
              obtain ⟨i, hi, rfl⟩ := List.mem_map.1 hv
              obtain ⟨cs', p1, q1, q2, _, _, q6⟩ := hf i (by have := List.mem_range.1 hi; omega)
              rw [elV_cells q6]
              exact ⟨by rw [q1.1]; exact (World.cells?_some p1).2.1, fun c hc => (q2 c hc).1⟩
            . intro k hk
              rw [hlenm] at hk
              have hi : k / P.cellsOf e < len := (Nat.div_lt_iff_lt_mul hz0).2 hk
              have hk' : k = k / P.cellsOf e * P.cellsOf e + k % P.cellsOf e := by rw [Nat.mul_comm]; exact (Nat.div_add_mod k _).symm
              obtain ⟨cs', p1, p2, p3⟩ := hcell (k / P.cellsOf e) (by omega) (k % P.cellsOf e) (Nat.mod_lt _ hz0)
              rw [<- hk', List.getElem?_eq_getElem p3] at p2
              rw [p2]; rfl
            . intro i v j c hi hj
              have hilt : i < len := by have := (List.getElem?_eq_some_iff.1 hi).1; simpa using this
              simp only [List.getElem?_map, List.getElem?_range hilt, Option.map_some, Option.some.injEq] at hi
              subst hi
              obtain ⟨cs', p1, q1, q2, _, _, q6⟩ := hf i (by omega)
              rw [elV_cells q6] at hj
              have hjl : j < P.cellsOf e := by have := (List.getElem?_eq_some_iff.1 hj).1; rw [q1.1, (World.cells?_some p1).2.1] at this; exact this
              obtain ⟨cs'', p1', p2, p3⟩ := hcell i (by omega) j hjl
              rw [p1] at p1'; cases p1'
              rw [p2, List.getElem?_eq_getElem p3]
              exact q1.2 j c _ hj (List.getElem?_eq_getElem p3)
        . unfold HasT
          rw [hu]
          refine .inr ⟨_, rfl, fun v hv => ?_⟩
          obtain ⟨i, hi, rfl⟩ := List.mem_map.1 hv
          obtain ⟨_, _, _, _, q3, _⟩ := hf i (by have := List.mem_range.1 hi; omega)
          exact ⟨f i, q3, rfl⟩
    . rename_i n e hu
      have ha : isAgT P t = true := by simp [isAgT, hu]
      obtain ⟨hte, hsz⟩ := K.array ht hu
      obtain ⟨xs, m', _, rfl, hl, hxl, hel⟩ := DataW.trod_array hu h
      have hpick : ∀ i, i < n -> ∃ ws : List V, RL w (G0 w) φ ws ((cs.drop (i * P.cellsOf e)).take (P.cellsOf e)) /\ (∀ c ∈ ws, c.sc = true /\ c.clean = true) /\ HasT P m e ws /\ wtL ws <= Rows.uptoBulk ((xs.map (·.1)).getD i .nil) := fun i hi => by
        have h1 := hel i hi
        rw [List.getElem?_eq_getElem (by omega)] at h1
        obtain ⟨ws, q1, q2, q3, _, q5, _⟩ := ih m' e _ _ hte hp h1
        refine ⟨ws, q1, q2, q3, ?_⟩
        simpa [List.getD, show i < xs.length by omega] using q5
      obtain ⟨f, hf⟩ := Deep.choose_lt hpick
      have hfl : ∀ i, i < n -> (f i).length = P.cellsOf e := fun i hi => by
        have := (hf i hi).1.1
        simp only [List.length_take, List.length_drop, hl, hsz] at this
        have h2 : (i + 1) * P.cellsOf e <= n * P.cellsOf e := Nat.mul_le_mul_right _ hi
        rw [Nat.add_mul] at h2
        omega
      have hsum : ∀ k, ((List.range k).map fun _ => P.cellsOf e).sum = k * P.cellsOf e := fun k => by
        induction k with
        | zero => simp
        | succ k ihk => rw [List.range_succ, List.map_append, List.sum_append, ihk, Nat.add_mul]; simp
      have hbulk : wtL ((List.range n).map f).flatten + 1 <= Rows.uptoBulk (DataW.agg (xs.map (·.1))) := by
        have := bulkAll_range n f (fun i => (xs.map (·.1)).getD i .nil) 0 fun i hi => by simpa using (hf i hi).2.2.2
        have e1 : ((List.range n).map fun i => (xs.map (·.1)).getD (0 + i) DataW.nil) = xs.map (·.1) := by
          apply List.ext_getElem
          . simp [hxl]
          . intro i h1 h2
            simp at h1 h2
            simp [List.getD, h2]
        rw [e1] at this
        simp only [Rows.uptoBulk]; omega
      refine ⟨((List.range n).map f).flatten, RL.flatten ?_ fun i ws hi => ?_, fun c hc => ?_, ?_, by simpa [elV, ha, V.wt] using hbulk, Nat.le_of_lt hbulk, fun hh => by rw [ha] at hh; cases hh⟩
      . have := pieces (K := n) (n := n) (f := f) (c := fun _ => P.cellsOf e) (Nat.le_refl _) hfl
        rw [List.take_of_length_le (by simp)] at this
        rw [this, hsum, hl, hsz]
      . have hin : i < n := by have := (List.getElem?_eq_some_iff.1 hi).1; simpa using this
        rw [pieces (by omega) hfl, hsum]
        simp only [List.getElem?_map, List.getElem?_range hin, Option.map_some, Option.some.injEq] at hi
        subst hi
        rw [hfl i hin]; exact (hf i hin).1
      . obtain ⟨ws, hws, hc⟩ := List.mem_flatten.1 hc
        obtain ⟨i, hi, rfl⟩ := List.mem_map.1 hws
        exact (hf i (List.mem_range.1 hi)).2.1 c hc
      . unfold HasT
        rw [hu]
        refine ⟨(List.range n).map f, by simp, fun ws hws => ?_, rfl⟩
        obtain ⟨i, hi, rfl⟩ := List.mem_map.1 hws
        exact (hf i (List.mem_range.1 hi)).2.2.1
    . rename_i fs hu
      have ha : isAgT P t = true := by simp [isAgT, hu]
      obtain ⟨hte, hsz, hoff⟩ := K.struct ht hu
      obtain ⟨xs, m', _, rfl, hl, hxl, hel⟩ := DataW.trod_struct hu h
      let c : Nat -> Nat := fun i => match fs[i]? with | some f => P.cellsOf f.type | none => 0
      have hc : ∀ (i : Nat) (fd : Field), fs[i]? = some fd -> c i = P.cellsOf fd.type := fun i fd hi => by simp only [c, hi]
      have htake : ∀ k, k <= fs.size -> (fs.toList.take k).map (fun f => P.cellsOf f.type) = (List.range k).map c := fun k hk => by
        apply List.ext_getElem
        . simp; omega
        . intro i h1 h2
          simp at h1 h2
          have hi : fs[i]? = some fs[i] := by simp
          simp [hc i _ hi]
      have hoff' : ∀ (i : Nat) (fd : Field), fs[i]? = some fd -> fd.offset = ((List.range i).map c).sum := fun i fd hi => by
        have hlt : i < fs.size := (Array.getElem?_eq_some_iff.1 hi).1
        rw [hoff i fd (by simpa using hi), htake i (by omega)]
      have hsz' : P.cellsOf t = ((List.range fs.size).map c).sum := by
        rw [hsz, <- htake fs.size (Nat.le_refl _), List.take_of_length_le (by simp)]
      have hsub : ∀ i, i < fs.size -> ((List.range i).map c).sum + c i <= P.cellsOf t := fun i hi => by
        have mono : ∀ k, i + 1 <= k -> ((List.range (i + 1)).map c).sum <= ((List.range k).map c).sum := by
          intro k hk
          induction hk with
          | refl => exact Nat.le_refl _
          | step _ ih =>
            refine Nat.le_trans ih ?_
            rename_i k _
            have e : ((List.range (k + 1)).map c).sum = ((List.range k).map c).sum + c k := by rw [List.range_succ, List.map_append, List.sum_append]; simp
            show _ <= ((List.range (k + 1)).map c).sum
            rw [e]; exact Nat.le_add_right _ _
        have := mono fs.size hi
        rw [<- hsz', List.range_succ, List.map_append, List.sum_append] at this
        simpa using this
      have hpick : ∀ i, i < fs.size -> ∃ ws : List V, ∀ fd, fs[i]? = some fd -> RL w (G0 w) φ ws ((cs.drop fd.offset).take (P.cellsOf fd.type)) /\ (∀ c ∈ ws, c.sc = true /\ c.clean = true) /\ HasT P m fd.type ws /\ wtL ws <= Rows.uptoBulk ((xs.map (·.1)).getD i .nil) := fun i hi => by
        have hfd : fs[i]? = some fs[i] := by simp [hi]
        have h1 := hel i _ hfd
        rw [List.getElem?_eq_getElem (by omega)] at h1
        obtain ⟨ws, q1, q2, q3, _, q5, _⟩ := ih m' fs[i].type _ _ (hte _ (by simp)) (List.all_eq_true.1 hp _ (by simp)) h1
        refine ⟨ws, fun fd hfd' => ?_⟩
        rw [hfd] at hfd'; cases hfd'
        refine ⟨q1, q2, q3, ?_⟩
        simpa [List.getD, show i < xs.length by omega] using q5
      obtain ⟨f, hf⟩ := Deep.choose_lt hpick
      have hget : ∀ i, i < fs.size -> fs[i]? = some (fs.getD i default) := fun i hi => by simp [Array.getD, hi]
      have hfl : ∀ i, i < fs.size -> (f i).length = c i := fun i hi => by
        have hfd := hget i hi
        have := (hf i hi _ hfd).1.1
        simp only [List.length_take, List.length_drop, hl] at this
        rw [hoff' i _ hfd, <- hc i _ hfd] at this
        have h2 := hsub i hi
        omega
      have hbulk : wtL ((List.range fs.size).map f).flatten + 1 <= Rows.uptoBulk (DataW.agg (xs.map (·.1))) := by
        have := bulkAll_range fs.size f (fun i => (xs.map (·.1)).getD i .nil) 0 fun i hi => by simpa using (hf i hi _ (hget i hi)).2.2.2
        have e1 : ((List.range fs.size).map fun i => (xs.map (·.1)).getD (0 + i) DataW.nil) = xs.map (·.1) := by
          apply List.ext_getElem
          . simp [hxl]
          . intro i h1 h2
            simp at h1 h2
            simp [List.getD, h2]
        rw [e1] at this
        simp only [Rows.uptoBulk]; omega
      refine ⟨((List.range fs.size).map f).flatten, RL.flatten ?_ fun i ws hi => ?_, fun c hc => ?_, ?_, by simpa [elV, ha, V.wt] using hbulk, Nat.le_of_lt hbulk, fun hh => by rw [ha] at hh; cases hh⟩
      . have := pieces (K := fs.size) (n := fs.size) (f := f) (c := c) (Nat.le_refl _) hfl
        rw [List.take_of_length_le (by simp)] at this
        rw [this, hl, hsz']
      . have hin : i < fs.size := by have := (List.getElem?_eq_some_iff.1 hi).1; simpa using this
        rw [pieces (by omega) hfl]
        simp only [List.getElem?_map, List.getElem?_range hin, Option.map_some, Option.some.injEq] at hi
        subst hi
        have hfd := hget i hin
        rw [hfl i hin, <- hoff' i _ hfd, hc i _ hfd]; exact (hf i hin _ hfd).1
      . obtain ⟨ws, hws, hc⟩ := List.mem_flatten.1 hc
        obtain ⟨i, hi, rfl⟩ := List.mem_map.1 hws
        exact (hf i (List.mem_range.1 hi) _ (hget i (List.mem_range.1 hi))).2.1 c hc
      . unfold HasT
        rw [hu]
        refine ⟨(List.range fs.size).map f, by simp, fun i fd ws hfd hws => ?_, rfl⟩
        have hin : i < fs.size := (Array.getElem?_eq_some_iff.1 hfd).1
        simp only [List.getElem?_map, List.getElem?_range hin, Option.map_some, Option.some.injEq] at hws
        subst hws
        exact (hf i hin fd hfd).2.2.1
    . simp at hp
theorem Trod.rep (K : Kids P (· < P.types.size)) (hz : ∀ t e, t < P.types.size -> P.underlying t = some (.slice e) -> 0 < P.cellsOf e) {m : Nat} {t : TypeId} {v : Value} {d : DataW H} {ps : List MemPlace} {base : Nat} (ht : t < P.types.size) (hp : plainT P m t = true)
    (h : DataW.Trod enc P w 0 (fun _ => true) held t v d ps) (hval : Value.okWide P w .any base t v) :
    ∃ vs, Rep w (G0 w) φ (elV P t vs) v /\ HasT P m t vs /\ (elV P t vs).wt <= Rows.uptoBulk d /\ (elV P t vs).clean = true := by
  obtain ⟨n, h⟩ := h
  obtain ⟨vs, h1, h2, h3, h4, _, h6⟩ := trod_rep (φ := φ) K hz m n t _ _ ht hp h
  refine ⟨vs, ?_, h3, h4, elV_clean fun c hc => (h2 c hc).2⟩
  unfold elV
  by_cases ha : isAgT P t = true
  . rw [if_pos ha]
    have : ∃ cs, v = .agg cs := by
      unfold Value.okWide at hval
      unfold isAgT at ha
      split at ha
      . rename_i hu; rw [hu] at hval; obtain ⟨cs, rfl, _⟩ := hval; exact ⟨cs, rfl⟩
      . rename_i hu; rw [hu] at hval; obtain ⟨cs, rfl, _⟩ := hval; exact ⟨cs, rfl⟩
      . simp at ha
    obtain ⟨cs, rfl⟩ := this
    refine .agg vs cs (by simpa [Value.cells] using h1.1) (fun c hc => (h2 c hc).1) fun i c x hc hx => h1.2 i c x hc (by simpa [Value.cells] using hx)
  . rw [if_neg ha]
    obtain ⟨u, rfl, hu⟩ := h6 (by simpa using ha)
    have hv : v.cells.toList = [v] := by
      cases v with
      | agg cs =>
        exfalso
        unfold Value.okWide at hval
        unfold isAgT at ha
        split at hval
        . rename_i hu; simp [hu] at ha
        . rename_i hu; simp [hu] at ha
        . unfold Cell.okWide Cell.ok at hval
          split at hval <;> simp_all
      | _ => rfl
    rw [hv] at h1
    exact h1.2 0 u v rfl rfl
end
theorem post_true {H : Type} {enc : TypeId × Value -> H} {P : Program} (K : Kids P (· < P.types.size)) (hz : ∀ t e, t < P.types.size -> P.underlying t = some (.slice e) -> 0 < P.cellsOf e) {f : Func} {s : ChangeSpec} {apart fresh handsOn again : Bool} {W W' : World} {args : Array Value} {ds : List (DataW H)} {before : List MemPlace} {tb : TypeId}
    (hvars : s.vars = []) (hfn : s.fn H ds = { results := [.lit (.bool true)], args := ds }) (hrt : f.resultTypes = #[tb]) (htb : P.underlying tb = some .bool) (hpt : ∀ t ∈ f.params.toList, t < P.types.size)
    (hW : DataW.Whole enc P f.params.toList s.vars apart W args.toList ds [] before) (hB : Below W.heap.size W W') : s.post enc P f apart fresh handsOn again W args (.bool true) W' := by
  have hlt := hW.lt
  have hW0 := hW
  obtain ⟨p, q, hA, hV, rfl, hfz, hnd⟩ := hW
  rw [hvars] at hV
  have hq : q = [] := hV
  subst hq
  have carry : ∀ {ts : List TypeId} {vs : List Value} {ds : List (DataW H)} {ps : List MemPlace}, DataW.TrodAll enc P W 0 (fun _ => true) true ts vs ds ps -> (∀ p ∈ ps, p.block < W.heap.size) -> DataW.TrodAll enc P W' 0 (fun _ => true) true ts vs ds ps := by
    intro ts
    induction ts with
    | nil => intro vs ds ps h _; cases vs <;> cases ds <;> first | exact h | exact h.elim
    | cons t ts ih =>
      intro vs ds ps h hb
      cases vs with
      | nil => exact h.elim
      | cons v vs =>
        cases ds with
        | nil => exact h.elim
        | cons d ds =>
          obtain ⟨p, q, ⟨n, h1⟩, h2, rfl⟩ := h
          exact ⟨p, q, ⟨n, DataW.trod_carry n _ _ _ h1 fun x hx => hB.same (hb x (List.mem_append_left _ hx))⟩, ih h2 fun x hx => hb x (List.mem_append_right _ hx), rfl⟩
  have hA' := carry hA fun x hx => hlt x (by simpa using hx)
  have hargs : ∀ sp : Nat -> Bool, (∀ x ∈ p, sp x.block = true) -> DataW.TrodAll enc P W' 0 sp true f.params.toList args.toList ds p := fun sp hsp => hA'.respare K hz hpt hsp
  have hres : ∀ (b : Nat) (sp : Nat -> Bool) (hd : Bool), DataW.TrodAll enc P W' b sp hd f.resultTypes.toList ((Value.bool true).resultList f.resultTypes.size) [.lit (.bool true)] [] := by
    intro b sp hd
    rw [hrt]
    exact trodAll_cons_mk (shut_bool htb _) trodAll_mk0
  have hsimp : s.fn H (ds ++ []) = { results := [.lit (.bool true)], args := ds } := by rw [List.append_nil]; exact hfn
  have hold : ∀ x ∈ p, (fun b => decide (b < W.heap.size)) x.block = true := fun x hx => by simpa using hlt x (by simpa using hx)
  refine ⟨ds, [], p ++ [], [], p, [], hW0, by rw [hsimp]; exact hres _ _ _, by rw [hsimp]; exact hargs _ hold, by rw [hsimp, hvars]; rfl, World.keptBut_mono (fun x f => f.elim) (hB.frame fun _ => False), fun _ => ?_⟩
  refine ⟨ok_one hrt rfl (okWide_bool_mk htb _), _, [], ([] ++ p) ++ [], ⟨[] ++ p, [], trodAll_append (hargs _ (fun _ _ => rfl)) (hres _ _ _), by rw [hvars]; rfl, rfl, ?_, ?_⟩, ?_⟩
  . intro b off hp
    have hp' : MemPlace.cell b off ∈ p := by simpa using hp
    rw [hB.frozen (p := ⟨b, off, none⟩) (hlt (.cell b off) (by simpa using hp'))]
    exact hfz b off (by simpa using hp')
  . intro ha
    simpa using hnd ha
  . intro x hx _
    simpa using hx
end Go.Abs
namespace Go.Abs
open Go.RowKit
structure Ctr where
  α : Type
  args : α -> List V
  res : α -> V × Bool
  ok : α -> Prop
  inj : ∀ a b, args a = args b -> res a = res b
def Ctr.Holds (cx : Cx) (f : Nat) (c : Ctr) : Prop := ∀ a, c.ok a -> PC cx f (c.args a) (c.res a)
theorem PC.of {cx : Cx} {f : FuncId} {args : List V} {r : V × Bool} (hc : Callable cx.P f)
    (h : ∀ W G φ xs, OKW cx W G -> RepL W G φ args xs -> Calls cx.P f xs W fun e W' => ∃ G' y, e = .returned y /\ Below W.heap.size W W' /\ (∀ b, b < W.heap.size -> G' b = G b) /\ (∀ b, W'.heap.size <= b -> G' b = 0) /\
      Rep W' G' φ r.1 y /\ (r.2 = true -> ∀ ow q, (∀ b, W.heap.size <= b -> ow b = some q) -> OwnAt W' (fun b => W.heap.size <= b) ⟨G', φ, ow⟩ q r.1 y)) : PC cx f args r := ⟨hc, h⟩
theorem PC.pure {cx : Cx} {f : FuncId} {args : List V} {v : V} (hc : Callable cx.P f) (h : ∀ W G φ xs, OKW cx W G -> RepL W G φ args xs -> Calls cx.P f xs W fun e W' => ∃ y, e = .returned y /\ Below W.heap.size W W' /\ ∀ W' G' , Rep W' G' φ v y) : PC cx f args (v, false) :=
  .of hc fun W G φ xs hW hxs => (h W G φ xs hW hxs).mono fun e W' ⟨y, he, hB, hr⟩ => ⟨G, y, he, hB, fun _ _ => rfl, fun b hb => hW.Gz b (Nat.le_trans hB.size hb), hr _ _, fun h => by cases h⟩
theorem PC.texts {cx : Cx} {f : FuncId} {args : List V} {l : List Bytes} (hc : Callable cx.P f)
    (h : ∀ W G φ xs, OKW cx W G -> RepL W G φ args xs -> Calls cx.P f xs W fun e W' => ∃ (ss : List ByteArray) (t : TypeId), ss.map (·.data.toList) = l /\ e = .returned (.slice (some ⟨W.heap.size, 0, none⟩) ss.length ss.length) /\ W' = W.alloc (.cells (ss.map Value.string).toArray t)) :
    PC cx f args (.sl false 1 (l.map .str), true) := by
  refine .of hc fun W G φ xs hW hxs => (h W G φ xs hW hxs).mono fun e W' => ?_
  rintro ⟨ss, t, rfl, rfl, rfl⟩
  have hblk : (W.alloc (.cells (ss.map Value.string).toArray t)).heap[W.heap.size]? = some (.cells (ss.map Value.string).toArray t (0, 0)) := heap_alloc_new _ _
  have hcell : ∀ k, (W.alloc (.cells (ss.map Value.string).toArray t)).cell? ⟨W.heap.size, k, none⟩ = (ss.map Value.string)[k]? := fun k => by
    rw [cell_of_row _ W.heap.size k _ t (0, 0) hblk]; simp
  refine ⟨fun b => if b = W.heap.size then ss.length else G b, _, rfl, (Below.refl _ _).alloc (Nat.le_refl _) _, fun b hb => if_neg (by omega), fun b hb => ?_, ?_, fun _ ow q how sz ys b off len cap sp hv hx => ?_⟩
  . simp at hb
    dsimp only; rw [if_neg (by omega)]; exact hW.Gz b (by omega)
  . have := Rep.sl (W := W.alloc (.cells (ss.map Value.string).toArray t)) (G := fun b => if b = W.heap.size then ss.length else G b) (φ := φ) 1 ((ss.map (·.data.toList)).map V.str) W.heap.size 0 ss.length (fun k => .string (ss.getD k default)) (by simp) (by simp) (fun x hx => ?_) (fun k hk => ?_) (fun i x j c hi hj => ?_)
    . simpa using this
    . obtain ⟨s, _, rfl⟩ := List.mem_map.1 hx; simp
    . simp at hk
      rw [Nat.zero_add, hcell]; simp [List.getD, hk]
    . simp only [List.map_map, List.getElem?_map, Option.map_eq_some_iff] at hi
      obtain ⟨s, hs, rfl⟩ := hi
      cases j with
      | zero => simp at hj; subst hj; simp [List.getD, hs]; exact .str _ _ rfl
      | succ j => simp at hj
  . cases hx; exact .inl rfl
theorem law_calls {cx : Cx} {f : FuncId} {args : List V} {xs : Array Value} {o : Bool} (h : PC cx f args (.bool true, o)) (hr : RepL cx.w0 (G0 cx.w0) (fun _ => none) args xs) :
    Calls cx.P f xs cx.w0 fun e W' => e = .returned (.bool true) /\ Below cx.w0.heap.size cx.w0 W' := by
  refine (h.2 cx.w0 (G0 cx.w0) (fun _ => none) xs ⟨.refl _ _, fun _ _ => rfl, fun b hb => by simp [G0, Array.getElem?_eq_none hb]⟩ hr).mono fun e W' => ?_
  rintro ⟨G', y, rfl, hB, _, _, hy, _⟩
  cases hy
  exact ⟨rfl, hB⟩
end Go.Abs
namespace Go.Abs
open Go.RowKit
mutual
def V.nf : V -> V
  | .agg cs => .agg (nfL cs)
  | .sl true sz [] => .sl false sz []
  | .sl true _ (_ :: _) => .map 0
  | .sl false sz xs => .sl false sz (nfL xs)
  | .el cs off => .el (nfL cs) off
  | .tup cs => .tup (nfL cs)
  | .fn f cs => .fn f (nfL cs)
  | .mfn f cs => .mfn f (nfL cs)
  | .iface t v => .iface t v.nf
  | .bool b => .bool b
  | .int k n => .int k n
  | .str s => .str s
  | .osl a b c d e => .osl a b c d e
  | .gp g o => .gp g o
  | .ptr i o => .ptr i o
  | .nilptr => .nilptr
  | .map i => .map i
  | .nilmap => .nilmap
  | .nilfn => .nilfn
  | .nilif => .nilif
def nfL : List V -> List V
  | [] => []
  | v :: r => v.nf :: nfL r
end
theorem nfL_map : ∀ l : List V, nfL l = l.map V.nf
  | [] => rfl
  | v :: r => by rw [nfL, nfL_map r]; rfl
@[simp] theorem nfL_length (l : List V) : (nfL l).length = l.length := by rw [nfL_map]; simp
theorem nfL_get (l : List V) (i : Nat) : (nfL l)[i]? = (l[i]?).map V.nf := by rw [nfL_map]; simp
theorem nfL_append (a b : List V) : nfL (a ++ b) = nfL a ++ nfL b := by simp [nfL_map]
theorem nfL_drop (a : List V) (k : Nat) : nfL (a.drop k) = (nfL a).drop k := by simp [nfL_map, List.map_drop]
theorem nfL_take (a : List V) (k : Nat) : nfL (a.take k) = (nfL a).take k := by simp [nfL_map, List.map_take]
theorem nfL_setAt (a : List V) (k : Nat) (b : List V) : nfL (setAt a k b) = setAt (nfL a) k (nfL b) := by
  simp only [setAt, nfL_append, nfL_take, nfL_drop, nfL_length]
theorem nf_bool {v : V} {b : Bool} (h : v.nf = .bool b) : v = .bool b := by
  cases v <;> simp_all [V.nf]
  all_goals (rename_i nl sz xs; cases nl <;> cases xs <;> simp [V.nf] at h)
theorem nf_int {v : V} {k : IntKind} {n : Int} (h : v.nf = .int k n) : v = .int k n := by
  cases v <;> simp_all [V.nf]
  all_goals (rename_i nl sz xs; cases nl <;> cases xs <;> simp [V.nf] at h)
theorem nf_str {v : V} {s : Bytes} (h : v.nf = .str s) : v = .str s := by
  cases v <;> simp_all [V.nf]
  all_goals (rename_i nl sz xs; cases nl <;> cases xs <;> simp [V.nf] at h)
theorem nf_ptr {v : V} {i o : Nat} (h : v.nf = .ptr i o) : v = .ptr i o := by
  cases v <;> simp_all [V.nf]
  all_goals (rename_i nl sz xs; cases nl <;> cases xs <;> simp [V.nf] at h)
theorem nf_agg {v : V} {l : List V} (h : v.nf = .agg l) : ∃ cs, v = .agg cs /\ nfL cs = l := by
  cases v <;> simp_all [V.nf]
  all_goals (rename_i nl sz xs; cases nl <;> cases xs <;> simp [V.nf] at h)
theorem nf_el {v : V} {l : List V} {o : Nat} (h : v.nf = .el l o) : ∃ cs, v = .el cs o /\ nfL cs = l := by
  cases v <;> simp_all [V.nf]
  all_goals (rename_i nl sz xs; cases nl <;> cases xs <;> simp [V.nf] at h)
theorem nf_tup {v : V} {l : List V} (h : v.nf = .tup l) : ∃ cs, v = .tup cs /\ nfL cs = l := by
  cases v <;> simp_all [V.nf]
  all_goals (rename_i nl sz xs; cases nl <;> cases xs <;> simp [V.nf] at h)
theorem nf_fn {v : V} {f : Nat} {l : List V} (h : v.nf = .fn f l) : ∃ cs, v = .fn f cs /\ nfL cs = l := by
  cases v <;> simp_all [V.nf]
  all_goals (rename_i nl sz xs; cases nl <;> cases xs <;> simp [V.nf] at h)
theorem nf_sl {v : V} {sz : Nat} {l : List V} (h : v.nf = .sl false sz l) : ∃ nl xs, v = .sl nl sz xs /\ nfL xs = l /\ (nl = true -> xs = []) := by
  cases v <;> simp_all [V.nf]
  rename_i nl sz' xs
  cases nl <;> cases xs <;> simp_all [V.nf, nfL]
theorem sl_nf {nl : Bool} {sz : Nat} {xs : List V} (h : nl = true -> xs = []) : (V.sl nl sz xs).nf = .sl false sz (nfL xs) := by
  cases nl
  . rfl
  . rw [h rfl]; rfl
theorem nf_sc (v : V) : v.nf.sc = v.sc := by
  cases v <;> try rfl
  rename_i nl sz xs
  cases nl <;> cases xs <;> rfl
theorem nf_cells (v : V) : v.nf.cells = nfL v.cells := by
  cases v <;> try rfl
  rename_i nl sz xs
  cases nl <;> cases xs <;> rfl
mutual
theorem nf_clean : ∀ {v : V}, v.nf.clean = true -> v.clean = true
  | .agg cs, h => by simp only [V.nf, V.clean] at h ⊢; exact nfL_clean h
  | .sl true sz [], _ => rfl
  | .sl true _ (_ :: _), h => by simp [V.nf, V.clean] at h
  | .sl false sz xs, h => by simp only [V.nf, V.clean] at h ⊢; exact nfL_clean h
  | .el cs off, h => by simp only [V.nf, V.clean] at h ⊢; exact nfL_clean h
  | .tup cs, h => by simp only [V.nf, V.clean] at h ⊢; exact nfL_clean h
  | .fn f cs, h => by simp only [V.nf, V.clean] at h ⊢; exact nfL_clean h
  | .mfn f cs, h => by simp only [V.nf, V.clean] at h ⊢; exact nfL_clean h
  | .iface t v, h => by simp only [V.nf, V.clean] at h ⊢; exact nf_clean h
  | .bool b, _ => rfl
  | .int k n, _ => rfl
  | .str s, _ => rfl
  | .osl a b c d e, h => by simp [V.nf, V.clean] at h
  | .gp g o, _ => rfl
  | .ptr i o, h => by simp [V.nf, V.clean] at h
  | .nilptr, _ => rfl
  | .map i, h => by simp [V.nf, V.clean] at h
  | .nilmap, _ => rfl
  | .nilfn, _ => rfl
  | .nilif, _ => rfl
theorem nfL_clean : ∀ {l : List V}, cleanL (nfL l) = true -> cleanL l = true
  | [], _ => rfl
  | v :: r, h => by
    simp only [nfL, cleanL, Bool.and_eq_true] at h ⊢
    exact ⟨nf_clean h.1, nfL_clean h.2⟩
end
def Own (v : V) (o : Bool) : Prop := o = true \/ ∃ sz, v = .sl true sz []
structure FC where
  f : Nat
  mt : List V -> Bool
  own : Bool
  rel : List V -> V -> Prop
  clean : ∀ avs y, rel avs y -> cleanL avs = true /\ y.clean = true
  fn : ∀ avs y z, rel avs y -> rel avs z -> y = z
def FC.Holds (cx : Cx) (c : FC) : Prop := ∀ args y, c.rel (nfL args) y -> ∃ v o, PC cx c.f args (v, o) /\ v.nf = y /\ (c.own = true -> Own v o)
def FC.Good (cx : Cx) (c : FC) (args : List V) (p : V × Bool) : Prop := PC cx c.f args p /\ ∃ y, c.rel (nfL args) y /\ p.1.nf = y /\ (c.own = true -> Own p.1 p.2)
variable {Γ : Abs.Spec} {gl : Glob}
theorem awp_det : ∀ {c : ACode} {Q : Ex -> St -> Prop} {s : St}, awp Γ gl c Q s -> ∃ e t, Q e t /\ ∀ Q' : Ex -> St -> Prop, Q' e t -> awp Γ gl c Q' s := by
  intro c
  induction c with
  | skip => intro Q s h; exact ⟨_, _, h, fun _ h => h⟩
  | region ops dr =>
    intro Q s h
    simp only [awp] at h ⊢
    unfold someP at h ⊢
    split at h
    . exact ⟨_, _, h, fun _ h => h⟩
    . exact h.elim
  | seq a b iha ihb =>
    intro Q s h
    obtain ⟨e, t, h1, h2⟩ := iha h
    cases e with
    | normal =>
      obtain ⟨e, t', h3, h4⟩ := ihb h1
      exact ⟨e, t', h3, fun Q' h => h2 _ (h4 Q' h)⟩
    | exit i => exact ⟨_, t, h1, fun Q' h => h2 _ h⟩
    | ret => exact ⟨_, t, h1, fun Q' h => h2 _ h⟩
  | cond c a b iha ihb =>
    intro Q s h
    simp only [awp] at h ⊢
    unfold condP at h ⊢
    split at h
    . exact iha h
    . exact ihb h
    . exact h.elim
  | block id b ih =>
    intro Q s h
    obtain ⟨e, t, h1, h2⟩ := ih h
    exact ⟨_, t, h1, fun Q' h => h2 _ h⟩
  | loop b ih =>
    intro Q s h
    obtain ⟨n, h⟩ := h
    induction n generalizing s with
    | zero => exact h.elim
    | succ n ihn =>
      obtain ⟨e, t, h1, h2⟩ := ih h
      cases e with
      | normal =>
        obtain ⟨e, t', h3, h4⟩ := ihn h1
        refine ⟨e, t', h3, fun Q' h => ?_⟩
        obtain ⟨m, hm⟩ := h4 Q' h
        exact ⟨m + 1, h2 _ hm⟩
      | exit i => exact ⟨_, t, h1, fun Q' h => ⟨1, h2 _ h⟩⟩
      | ret => exact ⟨_, t, h1, fun Q' h => ⟨1, h2 _ h⟩⟩
  | exit id => intro Q s h; exact ⟨_, _, h, fun _ h => h⟩
  | ret => intro Q s h; exact ⟨_, _, h, fun _ h => h⟩
  | fail => intro Q s h; exact h.elim
def EndsX (res : List RS) (own : Bool) (y : V) (s : St) : Prop := ∃ p, resOf res s = some p /\ p.1.nf = y /\ (own = true -> Own p.1 p.2)
def endQ (res : List RS) (own : Bool) (y : V) : Ex -> St -> Prop
  | .exit _, _ => False
  | _, s => EndsX res own y s
theorem cleanL_mk {v : V} {r : List V} (h : v.clean = true) (k : cleanL r = true) : cleanL (v :: r) = true := by rw [cleanL_cons, h, k]; rfl
def fc {α β : Type} (f : Nat) (mt : List V -> Bool) (own : Bool) (ea : α -> List V) (eb : β -> V) (g : α -> Option β) (ha : ∀ a, cleanL (ea a) = true) (hb : ∀ b, (eb b).clean = true) (hi : ∀ a b, ea a = ea b -> a = b) : FC where
  f := f
  mt := mt
  own := own
  rel avs y := ∃ a x, avs = ea a /\ g a = some x /\ y = eb x
  clean := by
    rintro avs y ⟨a, x, rfl, _, rfl⟩
    exact ⟨ha a, hb x⟩
  fn := by
    rintro avs y z ⟨a, x, rfl, h1, rfl⟩ ⟨a', x', h2, h3, rfl⟩
    obtain rfl := hi _ _ h2
    rw [h1] at h3
    cases h3; rfl
theorem cons_eq {α : Type} {a b : α} {l m : List α} (h : a = b) (k : l = m) : a :: l = b :: m := by rw [h, k]
def fuel : Nat := 1000000000000
theorem nfL_cons {v : List V} {x : V} {r : List V} (h : nfL v = x :: r) : ∃ a v', v = a :: v' /\ a.nf = x /\ nfL v' = r := by
  cases v with
  | nil => cases h
  | cons a v' => rw [nfL] at h; obtain ⟨h1, h2⟩ := List.cons.inj h; exact ⟨a, v', rfl, h1, h2⟩
theorem nfL_nil {v : List V} (h : nfL v = []) : v = [] := by
  cases v with
  | nil => rfl
  | cons a v' => cases h
theorem map_inj {α β : Type} {f : α -> β} (hf : ∀ x y, f x = f y -> x = y) {l m : List α} (h : l.map f = m.map f) : l = m := (List.map_inj_right hf).1 h
theorem cleanL_app (a b : List V) : cleanL (a ++ b) = (cleanL a && cleanL b) := by
  induction a with
  | nil => simp
  | cons x a ih => simp [ih, Bool.and_assoc]
def Arr (n : Nat) : Type := { l : Bytes // l.length = n }
instance (n : Nat) : DecidableEq (Arr n) := fun a b => if h : a.1 = b.1 then isTrue (Subtype.ext h) else isFalse fun e => h (by rw [e])
theorem Arr.h {n : Nat} (a : Arr n) : a.1.length = n := a.2
theorem Arr.ext {n : Nat} {a b : Arr n} (h : a.1 = b.1) : a = b := Subtype.ext h
def Arr.zero (n : Nat) : Arr n := ⟨List.replicate n 0, by simp⟩
def Arr.set {n : Nat} (a : Arr n) (i : Int) (b : UInt8) : Arr n := ⟨a.1.set i.toNat b, by simp [a.2]⟩
theorem clean_app {a b : List V} (h : cleanL a = true) (k : cleanL b = true) : cleanL (a ++ b) = true := by rw [cleanL_app, h, k]; rfl
theorem ld_left {n : Option Nat} {a b : List V} {o : Nat} (h : o + n.getD 1 <= a.length) : ldCells n (a ++ b) o = ldCells n a o := by
  cases n with
  | none => simp only [Option.getD_none] at h; rw [ldCells_none, ldCells_none, List.getElem?_append_left (by omega)]
  | some k =>
    simp only [Option.getD_some] at h
    rw [ldCells_some, ldCells_some, if_pos (by simp; omega), if_pos h, List.drop_append_of_le_length (by omega), List.take_append_of_le_length (by simp; omega)]
theorem ld_right {n : Option Nat} {a b : List V} {o : Nat} (k : Nat) (h : a.length = k) (ho : k <= o := by decide) : ldCells n (a ++ b) o = ldCells n b (o - k) := by
  subst h
  cases n with
  | none => rw [ldCells_none, ldCells_none, List.getElem?_append_right ho]
  | some m =>
    rw [ldCells_some, ldCells_some, List.drop_append, List.drop_eq_nil_of_le ho]
    simp only [List.length_append, List.nil_append]
    by_cases hc : o - a.length + m <= b.length
    . rw [if_pos hc, if_pos (by omega)]
    . rw [if_neg hc, if_neg (by omega)]
section
variable {q : EqK} {a b : UInt8} {s t : Bytes} {x y : Bool}
def cat (s t : Bytes) : Option Bytes := if s.length + t.length <= 4611686018427387904 then some (s ++ t) else none
theorem kdEq_nf {k : Option IntKind × Bool} {x y : V} {p : Bool} (h : kdEq k x.nf y.nf = some p) : kdEq k x y = some p := by
  obtain ⟨k, u⟩ := k
  cases k with
  | some k =>
    cases hx : x.nf <;> rw [hx] at h <;> cases hy : y.nf <;> rw [hy] at h <;> simp [kdEq] at h
    rw [nf_int hx, nf_int hy]; simp [kdEq, h]
  | none =>
    cases u with
    | true =>
      cases hx : x.nf <;> rw [hx] at h <;> cases hy : y.nf <;> rw [hy] at h <;> simp [kdEq] at h
      rw [nf_str hx, nf_str hy]; simp [kdEq, h]
    | false =>
      cases hx : x.nf <;> rw [hx] at h <;> cases hy : y.nf <;> rw [hy] at h <;> simp [kdEq] at h
      rw [nf_bool hx, nf_bool hy]; simp [kdEq, h]
theorem flatEq_nf : ∀ {ks : List (Option IntKind × Bool)} {a b : List V} {p : Bool}, flatEq ks (nfL a) (nfL b) = some p -> flatEq ks a b = some p
  | [], [], [], _, h => h
  | k :: ks, x :: xs, y :: ys, p, h => by
    simp only [nfL, flatEq, Option.bind_eq_some_iff, Option.map_eq_some_iff] at h
    obtain ⟨u, hu, w, hw, rfl⟩ := h
    simp only [flatEq, kdEq_nf hu, flatEq_nf hw, Option.bind_some, Option.map_some]
  | [], [], _ :: _, _, h => by simp [nfL, flatEq] at h
  | [], _ :: _, _, _, h => by simp [nfL, flatEq] at h
  | _ :: _, [], _, _, h => by simp [nfL, flatEq] at h
  | _ :: _, _ :: _, [], _, h => by simp [nfL, flatEq] at h
end
section
variable {Γ : Abs.Spec} {gl : Glob} {K : St -> Prop} {s : St} {d : Option Nat} {r : List AOper} {af : List Nat}
end
def andI (k : IntKind) (a b : Int) : Int := k.wrap (BitVec.ofInt k.bits a &&& BitVec.ofInt k.bits b).toNat
def orI (k : IntKind) (a b : Int) : Int := k.wrap (BitVec.ofInt k.bits a ||| BitVec.ofInt k.bits b).toNat
def xorI (k : IntKind) (a b : Int) : Int := k.wrap (BitVec.ofInt k.bits a ^^^ BitVec.ofInt k.bits b).toNat
section
variable {Γ : Abs.Spec} {gl : Glob} {K : St -> Prop} {s : St} {d : Option Nat} {r : List AOper} {af : List Nat} {q : EqK} {k : IntKind} {a b : Int}
theorem b_and : abin .and q (.int k a) (.int k b) = some (.int k (andI k a b)) := by simp [abin, aint, andI]
theorem b_or : abin .or q (.int k a) (.int k b) = some (.int k (orI k a b)) := by simp [abin, aint, orI]
theorem b_xor : abin .xor q (.int k a) (.int k b) = some (.int k (xorI k a b)) := by simp [abin, aint, xorI]
end
section
variable {Γ : Abs.Spec} {gl : Glob} {K : St -> Prop} {s : St} {d : Option Nat} {r : List AOper} {af : List Nat} {α β : Type} {f : Nat} {mt : List V -> Bool} {own : Bool} {ea : α -> List V} {eb : β -> V} {g : α -> Option β} {h1 : ∀ a, cleanL (ea a) = true} {h2 : ∀ b, (eb b).clean = true} {h3 : ∀ a b, ea a = ea b -> a = b}
end
theorem ldCells_nf {n : Option Nat} {cs : List V} {o : Nat} {y : V} (h : ldCells n (nfL cs) o = some y) : ∃ v, ldCells n cs o = some v /\ v.nf = y := by
  cases n with
  | none =>
    simp only [ldCells_none, nfL_get, Option.map_eq_some_iff] at h ⊢
    exact h
  | some k =>
    simp only [ldCells_some, nfL_length] at h ⊢
    split at h
    . rename_i hc
      rw [if_pos hc]
      cases h
      exact ⟨_, rfl, by rw [V.nf, nfL_take, nfL_drop]⟩
    . cases h
theorem nf_encB (l : Bytes) : nfL (encB l) = encB l := by
  rw [nfL_map]; unfold encB; rw [List.map_map]; rfl
end Go.Abs
namespace Go.Abs
structure Spec.Le (Γ Γ' : Abs.Spec) : Prop where
  p : Γ.p = Γ'.p
  h : ∀ f a hs r, Γ.h f a hs = some r -> Γ'.h f a hs = some r
theorem Spec.Le.refl (Γ : Abs.Spec) : Γ.Le Γ := ⟨rfl, fun _ _ _ _ h => h⟩
variable {Γ Γ' : Abs.Spec} {gl : Glob}
theorem peval_p (hp : Γ.p = Γ'.p) (H : Hp) (own : Pos -> Bool) (tm : Nat -> V) (op : AOp) : peval Γ gl H own tm op = peval Γ' gl H own tm op := by
  cases op <;> first | rfl | (simp only [peval, vCallv, vCall, hp]; done) | (simp only [peval, vCallv]; split <;> simp only [hp])
theorem doCall_le (hle : Γ.Le Γ') {s s' : St} {d : Option Nat} {f : Nat} {a : List V} (h : s.doCall Γ d f a = some s') : s.doCall Γ' d f a = some s' := by
  unfold St.doCall at h ⊢
  simp only [Option.map_eq_some_iff] at h ⊢
  obtain ⟨r, h1, h2⟩ := h
  exact ⟨r, hle.h _ _ _ _ h1, h2⟩
theorem exec1_le (hle : Γ.Le Γ') {o : AOper} {s s' : St} (h : exec1 Γ gl o s = some s') : exec1 Γ' gl o s = some s' := by
  unfold exec1 at h ⊢
  split at h <;> first | exact h | exact doCall_le hle h | skip
  . split at h
    . rename_i ga e
      rw [<- hle.p]
      split at h
      . rename_i r hr
        exact h
      . rename_i hr
        exact doCall_le hle h
    . cases h
  . rw [<- peval_p hle.p]; exact h
theorem execs_le (hle : Γ.Le Γ') : ∀ {os : List AOper} {s s' : St}, execs Γ gl os s = some s' -> execs Γ' gl os s = some s'
  | [], s, s', h => h
  | o :: os, s, s', h => by
    simp only [execs] at h ⊢
    split at h
    . rename_i s1 h1
      have : exec Γ' gl o s = some s1 := by
        unfold exec at h1 ⊢
        by_cases hw : s.wants o = true
        . rw [if_pos hw] at h1 ⊢
          exact exec1_le hle h1
        . rw [if_neg hw] at h1 ⊢
          exact h1
      rw [this]; exact execs_le hle h
    . cases h
theorem awp_le (hle : Γ.Le Γ') : ∀ {c : ACode} {Q : Ex -> St -> Prop} {s : St}, awp Γ gl c Q s -> awp Γ' gl c Q s := by
  intro c
  induction c with
  | skip => intro Q s h; exact h
  | region ops d =>
    intro Q s h
    simp only [awp] at h ⊢
    unfold someP at h
    split at h
    . rename_i s' hs
      rw [execs_le hle hs]; exact h
    . exact h.elim
  | seq a b iha ihb => intro Q s h; exact iha (awp_mono (thenQ_mono (fun _ h => ihb h) fun _ _ h => h) h)
  | cond c a b iha ihb =>
    intro Q s h
    simp only [awp] at h ⊢
    unfold condP at h ⊢
    split at h
    . exact iha h
    . exact ihb h
    . exact h.elim
  | block id b ih => intro Q s h; exact ih h
  | loop b ih =>
    intro Q s h
    obtain ⟨k, h⟩ := h
    refine ⟨k, ?_⟩
    induction k generalizing s with
    | zero => exact h.elim
    | succ k ihk => exact ih (awp_mono (thenQ_mono (fun _ h => ihk h) fun _ _ h => h) h)
  | exit id => intro Q s h; exact h
  | ret => intro Q s h; exact h
  | fail => intro Q s h; exact h.elim
theorem awp_both : ∀ {c : ACode} {Q R : Ex -> St -> Prop} {s : St}, awp Γ gl c Q s -> awp Γ gl c R s -> awp Γ gl c (fun e t => Q e t /\ R e t) s := by
  have tq : ∀ {K K' : St -> Prop} {Q R : Ex -> St -> Prop} (e : Ex) (t : St), (thenQ K Q e t /\ thenQ K' R e t) -> thenQ (fun t => K t /\ K' t) (fun e t => Q e t /\ R e t) e t := by
    intro K K' Q R e t h
    cases e <;> exact h
  intro c
  induction c with
  | skip => intro Q R s h k; exact ⟨h, k⟩
  | region ops d =>
    intro Q R s h k
    simp only [awp] at h k ⊢
    unfold someP at h k ⊢
    split at h
    . rename_i s' hs
      simp only [hs] at k ⊢
      exact ⟨h, k⟩
    . exact h.elim
  | seq a b iha ihb =>
    intro Q R s h k
    exact awp_mono (c := a) (fun e t q => thenQ_mono (K := fun t => awp Γ gl b Q t /\ awp Γ gl b R t) (Q := fun e t => Q e t /\ R e t) (fun _ h => ihb h.1 h.2) (fun _ _ h => h) e t (tq e t q)) (iha h k)
  | cond c a b iha ihb =>
    intro Q R s h k
    simp only [awp] at h k ⊢
    unfold condP at h k ⊢
    split at h
    . rename_i e
      simp only [e] at k
      exact iha h k
    . rename_i e
      simp only [e] at k
      exact ihb h k
    . exact h.elim
  | block id b ih => intro Q R s h k; exact ih h k
  | loop b ih =>
    intro Q R s h k
    obtain ⟨n, h⟩ := h
    obtain ⟨m, k⟩ := k
    refine ⟨n, ?_⟩
    induction n generalizing s m with
    | zero => exact h.elim
    | succ n ihn =>
      cases m with
      | zero => exact k.elim
      | succ m => exact awp_mono (c := b) (fun e t q => thenQ_mono (K := fun t => loopN (awp Γ gl b) Q n t /\ loopN (awp Γ gl b) R m t) (Q := fun e t => Q e t /\ R e t) (fun _ h => ihn h.1 m h.2) (fun _ _ h => h) e t (tq e t q)) (ih h k)
  | exit id => intro Q R s h k; exact ⟨h, k⟩
  | ret => intro Q R s h k; exact ⟨h, k⟩
  | fail => intro Q R s h k; exact h.elim
section
variable {G : Nat -> Abs.Spec} {Γl : Abs.Spec}
structure Lm (G : Nat -> Abs.Spec) (Γl : Abs.Spec) : Prop where
  up : ∀ n, (G n).Le (G (n + 1))
  to : ∀ n, (G n).Le Γl
  of : ∀ f a hs r, Γl.h f a hs = some r -> ∃ n, (G n).h f a hs = some r
theorem Spec.Le.trans {a b c : Abs.Spec} (h : a.Le b) (k : b.Le c) : a.Le c := ⟨h.p.trans k.p, fun f x hs r e => k.h f x hs r (h.h f x hs r e)⟩
theorem Lm.le (h : Lm G Γl) {n m : Nat} (hn : n <= m) : (G n).Le (G m) := by
  induction hn with
  | refl => exact .refl _
  | step _ ih => exact ih.trans (h.up _)
theorem Lm.exec1 (h : Lm G Γl) {o : AOper} {s s' : St} (he : exec1 Γl gl o s = some s') : ∃ n, exec1 (G n) gl o s = some s' := by
  have call : ∀ {d : Option Nat} {f : Nat} {a : List V}, s.doCall Γl d f a = some s' -> ∃ n, s.doCall (G n) d f a = some s' := by
    intro d f a hc
    unfold St.doCall at hc
    simp only [Option.map_eq_some_iff] at hc
    obtain ⟨r, h1, h2⟩ := hc
    obtain ⟨n, hn⟩ := h.of _ _ _ _ h1
    exact ⟨n, by unfold St.doCall; rw [hn, <- h2]; rfl⟩
  unfold Abs.exec1 at he ⊢
  split at he <;> first | exact ⟨0, he⟩ | exact call he | skip
  . split at he
    . rename_i ga e
      split at he
      . rename_i r hr
        exact ⟨0, by simp only [(h.to 0).p, hr]; exact he⟩
      . rename_i hr
        obtain ⟨n, hn⟩ := call he
        exact ⟨n, by simp only [(h.to n).p, hr]; exact hn⟩
    . cases he
  . exact ⟨0, by rw [peval_p (h.to 0).p]; exact he⟩
theorem Lm.execs (h : Lm G Γl) : ∀ {os : List AOper} {s s' : St}, execs Γl gl os s = some s' -> ∃ n, execs (G n) gl os s = some s'
  | [], s, s', he => ⟨0, he⟩
  | o :: os, s, s', he => by
    simp only [Abs.execs] at he
    split at he
    . rename_i s1 h1
      have h2 : ∃ n, exec (G n) gl o s = some s1 := by
        unfold exec at h1 ⊢
        by_cases hw : s.wants o = true
        . rw [if_pos hw] at h1
          obtain ⟨n, hn⟩ := h.exec1 h1
          exact ⟨n, by rw [if_pos hw]; exact hn⟩
        . rw [if_neg hw] at h1
          exact ⟨0, by rw [if_neg hw]; exact h1⟩
      obtain ⟨n, hn⟩ := h2
      obtain ⟨m, hm⟩ := Lm.execs h he
      refine ⟨max n m, ?_⟩
      have hn' : exec (G (max n m)) gl o s = some s1 := by
        unfold exec at hn ⊢
        by_cases hw : s.wants o = true
        . rw [if_pos hw] at hn ⊢
          exact exec1_le (h.le (Nat.le_max_left n m)) hn
        . rw [if_neg hw] at hn ⊢
          exact hn
      simp only [Abs.execs, hn']
      exact execs_le (h.le (Nat.le_max_right n m)) hm
    . cases he
theorem Lm.awp (h : Lm G Γl) : ∀ {c : ACode} {Q : Ex -> St -> Prop} {s : St}, Abs.awp Γl gl c Q s -> ∃ n, Abs.awp (G n) gl c Q s := by
  intro c
  induction c with
  | skip => intro Q s hq; exact ⟨0, hq⟩
  | region ops d =>
    intro Q s hq
    simp only [Abs.awp] at hq ⊢
    unfold someP at hq
    split at hq
    . rename_i s' hs
      obtain ⟨n, hn⟩ := h.execs hs
      exact ⟨n, by rw [hn]; exact hq⟩
    . exact hq.elim
  | seq a b iha ihb =>
    intro Q s hq
    obtain ⟨n, hn⟩ := iha hq
    obtain ⟨e, t, h1, h2⟩ := awp_det hn
    cases e with
    | normal =>
      obtain ⟨m, hm⟩ := ihb h1
      refine ⟨max n m, ?_⟩
      exact awp_le (c := a) (h.le (Nat.le_max_left n m)) (h2 (thenQ (Abs.awp (G (max n m)) gl b Q) Q) (show Abs.awp (G (max n m)) gl b Q t from awp_le (h.le (Nat.le_max_right n m)) hm))
    | exit i => exact ⟨n, h2 _ h1⟩
    | ret => exact ⟨n, h2 _ h1⟩
  | cond c a b iha ihb =>
    intro Q s hq
    simp only [Abs.awp] at hq ⊢
    unfold condP at hq ⊢
    split at hq
    . exact iha hq
    . exact ihb hq
    . exact hq.elim
  | block id b ih => intro Q s hq; exact ih hq
  | loop b ih =>
    intro Q s hq
    obtain ⟨k, hq⟩ := hq
    induction k generalizing s with
    | zero => exact hq.elim
    | succ k ihk =>
      obtain ⟨n, hn⟩ := ih hq
      obtain ⟨e, t, h1, h2⟩ := awp_det hn
      cases e with
      | normal =>
        obtain ⟨m, j, hm⟩ := ihk h1
        refine ⟨max n m, j + 1, ?_⟩
        have hm' : Abs.awp (G (max n m)) gl (.loop b) Q t := awp_le (h.le (Nat.le_max_right n m)) ⟨j, hm⟩
        have : Abs.awp (G (max n m)) gl b (thenQ (loopN (Abs.awp (G (max n m)) gl b) Q j) Q) s := by
          refine Abs.awp_le (h.le (Nat.le_max_left n m)) (h2 _ ?_)
          show loopN (Abs.awp (G (max n m)) gl b) Q j t
          have key : ∀ (j : Nat) (t : St), loopN (Abs.awp (G m) gl b) Q j t -> loopN (Abs.awp (G (max n m)) gl b) Q j t := by
            intro j
            induction j with
            | zero => exact fun _ h => h
            | succ j ihj => exact fun t ht => awp_le (h.le (Nat.le_max_right n m)) (awp_mono (thenQ_mono (fun _ h => ihj _ h) fun _ _ h => h) ht)
          exact key j t hm
        exact this
      | exit i => exact ⟨n, 1, h2 _ h1⟩
      | ret => exact ⟨n, 1, h2 _ h1⟩
  | exit id => intro Q s hq; exact ⟨0, hq⟩
  | ret => intro Q s hq; exact ⟨0, hq⟩
  | fail => intro Q s hq; exact hq.elim
end
def endE (res : List RS) (p : V × Bool × HS) : Ex -> St -> Prop
  | .exit _, _ => False
  | _, s => resOf res s = some (p.1, p.2.1) /\ s.hs = p.2.2
def CallE (P : Program) (gl : Glob) (Γ : Abs.Spec) (f : Nat) (args : List V) (hs : HS) (p : V × Bool × HS) : Prop :=
  ∃ F, cFnW P true f = some F /\ args.length <= F.n /\ awp Γ gl F.body (endE F.res p) (St.initH args hs)
theorem CallE.one {P : Program} {f : Nat} {args : List V} {hs : HS} {p q : V × Bool × HS} (h : CallE P gl Γ f args hs p) (k : CallE P gl Γ f args hs q) : p = q := by
  obtain ⟨F, h1, _, h2⟩ := h
  obtain ⟨F', k1, _, k2⟩ := k
  rw [h1] at k1; cases k1
  obtain ⟨e, t, h3, _⟩ := awp_det (awp_both h2 k2)
  obtain ⟨p1, p2, p3⟩ := p
  obtain ⟨q1, q2, q3⟩ := q
  have : (resOf F.res t = some (p1, p2) /\ t.hs = p3) /\ (resOf F.res t = some (q1, q2) /\ t.hs = q3) := by
    cases e with
    | exit i => exact h3.1.elim
    | normal => exact h3
    | ret => exact h3
  obtain ⟨⟨a1, a2⟩, b1, b2⟩ := this
  rw [a1] at b1; cases b1; rw [<- a2, <- b2]
open Classical in
noncomputable def hN (P : Program) (gl : Glob) (p : Nat -> List V -> Option (V × Bool)) : Nat -> Abs.Spec
  | 0 => ⟨p, fun _ _ _ => none⟩
  | n + 1 => ⟨p, fun f args hs => if h : ∃ q, CallE P gl (hN P gl p n) f args hs q then some h.choose else none⟩
variable {P : Program} {p : Nat -> List V -> Option (V × Bool)}
open Classical in
theorem hN_succ {n f : Nat} {args : List V} {hs : HS} {r : V × Bool × HS} : (hN P gl p (n + 1)).h f args hs = some r <-> CallE P gl (hN P gl p n) f args hs r := by
  show (if h : ∃ q, CallE P gl (hN P gl p n) f args hs q then some h.choose else none) = some r <-> _
  constructor
  . intro h
    split at h
    . rename_i hex
      cases h; exact hex.choose_spec
    . cases h
  . intro h
    have hex : ∃ q, CallE P gl (hN P gl p n) f args hs q := ⟨r, h⟩
    rw [dif_pos hex, hex.choose_spec.one h]
theorem CallE.le (hle : Γ.Le Γ') {f : Nat} {args : List V} {hs : HS} {r : V × Bool × HS} (h : CallE P gl Γ f args hs r) : CallE P gl Γ' f args hs r := by
  obtain ⟨F, h1, h2, h3⟩ := h
  exact ⟨F, h1, h2, awp_le hle h3⟩
theorem hN_up : ∀ n, (hN P gl p n).Le (hN P gl p (n + 1))
  | 0 => ⟨rfl, fun _ _ _ _ h => by cases h⟩
  | n + 1 => ⟨rfl, fun f a hs r h => hN_succ.2 ((hN_succ.1 h).le (hN_up n))⟩
open Classical in
noncomputable def hL (P : Program) (gl : Glob) (p : Nat -> List V -> Option (V × Bool)) : Abs.Spec :=
  ⟨p, fun f args hs => if h : ∃ r n, (hN P gl p n).h f args hs = some r then some h.choose else none⟩
theorem hN_p : ∀ n, (hN P gl p n).p = p
  | 0 => rfl
  | _ + 1 => rfl
theorem hN_le {n m : Nat} (h : n <= m) : (hN P gl p n).Le (hN P gl p m) := by
  induction h with
  | refl => exact .refl _
  | step _ ih => exact ih.trans (hN_up _)
open Classical in
theorem hL_iff {f : Nat} {args : List V} {hs : HS} {r : V × Bool × HS} : (hL P gl p).h f args hs = some r <-> ∃ n, (hN P gl p n).h f args hs = some r := by
  show (if h : ∃ r n, (hN P gl p n).h f args hs = some r then some h.choose else none) = some r <-> _
  constructor
  . intro h
    split at h
    . rename_i hex
      cases h; exact hex.choose_spec
    . cases h
  . rintro ⟨n, hn⟩
    have hex : ∃ r n, (hN P gl p n).h f args hs = some r := ⟨r, n, hn⟩
    rw [dif_pos hex]
    obtain ⟨m, hm⟩ := hex.choose_spec
    have h1 := (hN_le (Nat.le_max_left n m)).h _ _ _ _ hn
    have h2 := (hN_le (Nat.le_max_right n m)).h _ _ _ _ hm
    rw [h1] at h2; exact h2.symm
theorem hL_lim : Lm (hN P gl p) (hL P gl p) where
  up := hN_up
  to n := ⟨hN_p n, fun _ _ _ _ h => hL_iff.2 ⟨n, h⟩⟩
  of _ _ _ _ h := hL_iff.1 h
theorem hL_of {f : Nat} {args : List V} {hs : HS} {r : V × Bool × HS} (h : CallE P gl (hL P gl p) f args hs r) : (hL P gl p).h f args hs = some r := by
  obtain ⟨F, h1, h2, h3⟩ := h
  obtain ⟨n, hn⟩ := hL_lim.awp h3
  exact hL_iff.2 ⟨n + 1, hN_succ.2 ⟨F, h1, h2, hn⟩⟩
theorem hN_sound {cx : Cx} (hgl : GlOK cx) (hm : cx.P.follows .mixedOrders = true) (hp : ∀ f args r, p f args = some r -> PC cx f args r) : ∀ n, Sound cx (hN cx.P cx.gl p n)
  | 0 => ⟨hp, fun _ _ _ _ h => by cases h⟩
  | n + 1 => ⟨hp, fun f args hs r h => by
    obtain ⟨F, h1, h2, h3⟩ := hN_succ.1 h
    exact pch_of_awp hgl hm (hN_sound hgl hm hp n) h1 h2 (awp_mono (fun e s q => by
      cases e with
      | exit i => exact q.elim
      | normal => exact ⟨⟨_, q.1, rfl, fun h => h⟩, q.2⟩
      | ret => exact ⟨⟨_, q.1, rfl, fun h => h⟩, q.2⟩) h3)⟩
theorem hL_sound {cx : Cx} (hgl : GlOK cx) (hm : cx.P.follows .mixedOrders = true) (hp : ∀ f args r, p f args = some r -> PC cx f args r) : Sound cx (hL cx.P cx.gl p) where
  p := hp
  h f args hs r h := by
    obtain ⟨n, hn⟩ := hL_iff.1 h
    exact (hN_sound hgl hm hp n).h f args hs r hn
end Go.Abs
namespace Go.Abs
inductive Prim where
  | pick
  | ext (i : Nat)
  | bin (op : BinOp) (q : EqK)
  | un (op : UnOp)
  | len (s : Bool)
  | mnx (mx : Bool)
  | elem (sz : Nat)
  | ld (n : Option Nat) (off : Nat)
  | fld (n : Option Nat) (off : Nat)
  | idx
  | idxa (len sz : Nat) (n : Option Nat)
  | sls (lo hi : Bool)
  | slc (sz : Nat) (lo hi mx : Bool)
  | cat (ss : List (Option Nat))
  | bsl (sz : Nat)
  | app (sz : Nat)
  | mks (sz : Nat)
  | s2b | b2s
  | i2i (k : IntKind)
  | s2s
  | s2a (n : Nat)
  | nilck
  | chk (n : Nat)
  | ldd (n : Option Nat) (base sz : Nat)
  | std (n base sz : Nat)
  | set (n off : Nat)
  | chkd
  | chkl
  | rapp (sz : Nat)
  | rlen (sz : Nat)
  | rmk (z : V)
  | b2sx
  | cpya (r n : Nat)
  | cpyn (n : Nat)
  | clra (z : V) (r n : Nat)
  | snap (r n : Nat)
  | snapd (r n : Nat)
  | snapx
  | clrx (z : V)
  | flr
  | b2so (off len : Nat)
  | sc | scs
  | vlen | vadd | vidx
  | snapv (sz : Nat)
  | mlk (q : KK) (z : V) (ok : Bool)
  | mup (q : KK)
  | mln
  | fn (f : Nat)
  deriving Inhabited
def vElem (sz : Nat) : V -> V -> Option V
  | .sl _ s xs, .int _ n => if 0 <= n /\ s = sz then xs[n.toNat]? else none
  | _, _ => none
def vSlsC : Bool -> Bool -> V -> List V -> Option V
  | true, true, x, [l, h] => vSls x (some l) (some h)
  | true, false, x, [l] => vSls x (some l) none
  | false, true, x, [h] => vSls x none (some h)
  | false, false, x, [] => vSls x none none
  | _, _, _, _ => none
def vSlcC (sz : Nat) : Bool -> Bool -> Bool -> V -> List V -> Option V
  | true, true, true, x, [l, h, m] => (vSlc sz x (some l) (some h) (some m)).map (·.v)
  | false, true, true, x, [h, m] => (vSlc sz x none (some h) (some m)).map (·.v)
  | true, true, false, x, [l, h] => (vSlc sz x (some l) (some h) none).map (·.v)
  | true, false, false, x, [l] => (vSlc sz x (some l) none none).map (·.v)
  | false, true, false, x, [h] => (vSlc sz x none (some h) none).map (·.v)
  | false, false, false, x, [] => (vSlc sz x none none none).map (·.v)
  | _, _, _, _, _ => none
def catV : List (Option Nat) -> List V -> Option (List V)
  | [], [] => some []
  | none :: ss, x :: xs => if x.sc = true then (catV ss xs).map (x :: ·) else none
  | some n :: ss, x :: xs => if x.cells.length = n /\ x.cells.all V.sc = true then (catV ss xs).map (x.cells ++ ·) else none
  | _, _ => none
def noH : Hp := fun _ => none
def vAppC (sz : Nat) (s x : V) : Option V :=
  match s, vTail noH sz x with
  | .sl _ s' xs, some ys => if xs.length + ys.length <= Lim /\ s' = sz then some (.sl false sz (xs ++ ys)) else none
  | _, _ => none
def vS2aC (n : Nat) : V -> Option V
  | .sl _ 1 xs => if n <= xs.length /\ xs ≠ [] /\ fits 1 xs = true then some (.agg (xs.flatMap V.cells)) else none
  | _ => none
def vChk (n : Nat) : V -> Option V
  | .int k j => if 0 <= j /\ j < n then some (.int k j) else none
  | _ => none
def vLdd (n : Option Nat) (base sz : Nat) : V -> V -> Option V
  | x, .int _ j => ldCells n x.cells (base + j.toNat * sz)
  | _, _ => none
def vSet (n off : Nat) (x y : V) : Option V :=
  if y.cells.length = n /\ y.cells.all V.sc = true /\ off + n <= x.cells.length then some (.agg (setAt x.cells off y.cells)) else none
def vStd (n base sz : Nat) : V -> V -> V -> Option V
  | x, .int _ j, y => vSet n (base + j.toNat * sz) x y
  | _, _, _ => none
def vB2so (off len : Nat) (x : V) : Option V :=
  if off + len <= x.cells.length then (toBytes ((x.cells.drop off).take len)).map .str else none
def vChkd : V -> V -> Option V
  | .int .i64 n, .int k i => if 0 <= i /\ i < n then some (.int k i) else none
  | _, _ => none
def vChkl : V -> V -> Option V
  | .int .i64 n, .int _ i => if 0 <= i /\ i <= n then some (.int .i64 i) else none
  | _, _ => none
def vRapp (sz : Nat) (c : V) : V -> V -> Option V
  | .int .i64 n, x => (vTail noH sz x).bind fun ys => (vFlat sz ys).bind fun fs => if 0 <= n /\ 0 < sz /\ n.toNat * sz <= c.cells.length /\ n.toNat + ys.length <= Lim then some (.agg (c.cells.take (n.toNat * sz) ++ fs)) else none
  | _, _ => none
def vRlen (sz : Nat) : V -> V -> Option V
  | .int _ n, x => (vTail noH sz x).bind fun ys => if 0 <= n then some (.int .i64 (n + ys.length)) else none
  | _, _ => none
def vRmk (z : V) : V -> V -> Option V
  | .int _ n, .int _ c => if 0 <= n /\ n <= c /\ c <= Lim then some (.agg (List.replicate n.toNat z)) else none
  | _, _ => none
def vB2sx (c : V) : V -> Option V
  | .int .i64 n => if 0 <= n /\ n.toNat <= c.cells.length then (toBytes (c.cells.take n.toNat)).map .str else none
  | _ => none
def vCpya (r n : Nat) (x : V) : V -> Option V
  | .str b => if r + n <= x.cells.length then some (.agg (setAt x.cells r ((encB b).take n))) else none
  | _ => none
def vCpyn (n : Nat) : V -> Option V
  | .str b => some (.int .i64 (min (b.length : Int) n))
  | _ => none
def vClra (z : V) (r n : Nat) (x : V) : Option V := if r + n <= x.cells.length then some (.agg (setAt x.cells r (List.replicate n z))) else none
def vSnap (r n : Nat) (x : V) : Option V := if r + n <= x.cells.length then some (.sl false 1 ((x.cells.drop r).take n)) else none
def vSnapd (r n : Nat) (x : V) : V -> Option V
  | .int _ k => if 0 <= k /\ k < n /\ r + n <= x.cells.length then some (.sl false 1 ((x.cells.drop (r + k.toNat)).take (n - k.toNat))) else none
  | _ => none
def vSnapx (c : V) : V -> Option V
  | .int .i64 n => if 0 <= n /\ n.toNat <= c.cells.length then some (.sl false 1 (c.cells.take n.toNat)) else none
  | _ => none
def vClrx (z c : V) : V -> V -> Option V
  | .int .i64 n, .int _ i => if 0 <= i /\ i < n /\ n.toNat <= c.cells.length then some (.agg (setAt c.cells i.toNat (List.replicate (n.toNat - i.toNat) z))) else none
  | _, _ => none
def vVlen : V -> V -> Option V
  | .int .i64 a, .int .i64 b => if 0 <= a /\ a <= b then some (.int .i64 (b - a)) else none
  | _, _ => none
def vVadd : V -> V -> V -> Option V
  | .int .i64 a, .int .i64 b, .int _ l => if 0 <= a /\ 0 <= l /\ a + l <= b then some (.int .i64 (a + l)) else none
  | _, _, _ => none
def vVidx : V -> V -> V -> Option V
  | .int .i64 a, .int .i64 b, .int _ l => if 0 <= a /\ 0 <= l /\ a + l < b then some (.int .i64 (a + l)) else none
  | _, _, _ => none
def vSnapv (sz : Nat) (c : V) : V -> V -> Option V
  | .int .i64 a, .int .i64 b => if 0 <= a /\ a <= b /\ b.toNat * sz <= c.cells.length then some (.sl false sz (vRow sz (b.toNat - a.toNat) (c.cells.drop (a.toNat * sz)))) else none
  | _, _ => none
def mpV (l : List (V × V)) : V := .iface 0 (.tup (l.map fun p => .tup [p.1, p.2]))
def unM : List V -> Option (List (V × V))
  | [] => some []
  | .tup [k, v] :: r => (unM r).map ((k, v) :: ·)
  | _ => none
def unMp : V -> Option (List (V × V))
  | .iface 0 (.tup ps) => unM ps
  | _ => none
def vMlkC (q : KK) (z : V) (ok : Bool) (M k : V) : Option V :=
  (unMp M).bind fun l => if keyEq q k k = some true then (mFind q k l).bind fun r => if ok then some (.tup [r.getD z, .bool r.isSome]) else if z.sc = true /\ (r.getD z).sc = false then none else some (r.getD z) else none
def vMupC (q : KK) (M k x : V) : Option V := (unMp M).bind fun l => if keyEq q k k = some true then (mPut q k x l).map mpV else none
def vMlnC (M : V) : Option V := (unMp M).map fun l => .int .i64 l.length
def evp : Prim -> List V -> Option V
  | .pick, [c, a, b] => vPick c a b
  | .ext i, [t] => vExt t i
  | .bin op q, [x, y] => abin op q x y
  | .un op, [x] => aun op x
  | .len s, [x] => vLen s x
  | .mnx m, [x, y] => vMnx m x y
  | .elem sz, [x, i] => vElem sz x i
  | .ld n off, [x] => ldCells n x.cells off
  | .fld n off, [x] => vFld n off x
  | .idx, [x, i] => vIdx x i
  | .idxa l sz n, [x, i] => vIdxa l sz n x i
  | .sls lo hi, x :: r => vSlsC lo hi x r
  | .slc sz lo hi mx, x :: r => vSlcC sz lo hi mx x r
  | .cat ss, xs => (catV ss xs).map .agg
  | .bsl sz, xs => if fits sz xs then some (.sl false sz xs) else none
  | .app sz, [s, x] => vAppC sz s x
  | .mks sz, [l, c] => (vMks sz l c).map (·.v)
  | .s2b, [x] => (vS2b x).map (·.v)
  | .b2s, [x] => vB2s noH x
  | .i2i k, [x] => vI2i k x
  | .s2s, [x] => vS2s x
  | .s2a n, [x] => vS2aC n x
  | .nilck, [x] => vNilck x
  | .chk n, [i] => vChk n i
  | .ldd n base sz, [x, i] => vLdd n base sz x i
  | .std n base sz, [x, i, y] => vStd n base sz x i y
  | .set n off, [x, y] => vSet n off x y
  | .b2so off len, [x] => vB2so off len x
  | .chkd, [n, i] => vChkd n i
  | .chkl, [n, i] => vChkl n i
  | .rapp sz, [c, n, x] => vRapp sz c n x
  | .rlen sz, [n, x] => vRlen sz n x
  | .rmk z, [n, m] => vRmk z n m
  | .b2sx, [c, n] => vB2sx c n
  | .cpya r n, [x, y] => vCpya r n x y
  | .cpyn n, [y] => vCpyn n y
  | .clra z r n, [x] => vClra z r n x
  | .snap r n, [x] => vSnap r n x
  | .snapd r n, [x, k] => vSnapd r n x k
  | .flr, [x] => if x.flatT = true then some x else none
  | .snapx, [c, n] => vSnapx c n
  | .clrx z, [c, n, i] => vClrx z c n i
  | .vlen, [a, b] => vVlen a b
  | .vadd, [a, b, l] => vVadd a b l
  | .vidx, [a, b, l] => vVidx a b l
  | .snapv sz, [c, a, b] => vSnapv sz c a b
  | .mlk q z ok, [M, k] => vMlkC q z ok M k
  | .mup q, [M, k, x] => vMupC q M k x
  | .mln, [M] => vMlnC M
  | .fn f, xs => some (.fn f xs)
  | .sc, [x] => if x.sc = true then some x else none
  | .scs, [x] => if x.cells.all V.sc = true then some x else none
  | _, _ => none
inductive At where
  | osx (o i sz : Nat)
  | osc (o off n i sz : Nat)
  | osr (o j i sz : Nat)
  | c (v : V) (own : Bool)
  | n (i : Nat) (own sc : Bool)
  | ptr (o off : Nat)
  | ptd (o base i sz : Nat)
  | gp (g off : Nat)
  | gpd (g base i sz : Nat)
  | el (i off : Nat)
  | osl (o off len cap sz : Nat)
  | fp (m : Bool) (f : Nat) (ps : List (Nat × Nat))
  | osv (o i j sz : Nat)
  | mpp (o : Nat)
  | mpc (i : Nat)
  | nil
  deriving Inhabited
inductive Seg where
  | one (a : At)
  | many (n : Option Nat) (a : At)
  deriving Inhabited
inductive Sy where
  | at (a : At)
  | agg (ss : List Seg) (z : Option Nat)
  | tup (az : List At)
  deriving Inhabited
structure PS (X : Type) where
  vals : List X
  lits : List (Nat × Bool)
  tm : List (Nat × Sy)
  ob : List (Option (List Seg))
  g : Nat
structure PT where
  n : Nat
  tm : List (Nat × Sy)
  ob : List (Option (List Seg))
  g : Nat
  deriving Inhabited
structure RT where
  n : Nat
  res : List At
  ob : List (Option (List Seg))
  deriving Inhabited
structure FE where
  k : Nat
  f : Nat
  own : Bool
  ar : Nat
  ent : PT
  ret : Option (List RT)
  lab : List (Nat × PT)
  deriving Inhabited
structure Cfg where
  ow : Nat -> Bool
  he : Nat -> List FE
  gl : Nat -> Option (List V)
structure Bld (X D : Type) where
  c : V -> X
  fail : D
  prim : Prim -> List X -> Nat -> (X -> D) -> D
  ite : X -> D -> D -> D
  call : Nat -> List X -> Nat -> (X -> D) -> D
  callv : X -> List X -> Nat -> (X -> D) -> D
  callh : Nat -> List X -> Nat -> (X -> D) -> D
  jmp : Nat -> List X -> D
  ret : List X -> D
  amb : X -> D -> D -> D
def vif (x : V) (a b : Option V) : Option V := match x with | .bool true => a | .bool false => b | _ => none
open Classical in
noncomputable def vamb (x : V) (a b : Option V) : Option V := match x with | .sl _ _ [] => if a = b then a else none | .sl _ _ (_ :: _) => b | _ => none
abbrev Gam := Nat -> Nat -> List V -> Option V
def vApply (Γ : Gam) : V -> List V -> Option V
  | .fn f caps, args => Γ f 0 (args ++ caps)
  | _, _ => none
def oneV : List V -> V
  | [x] => x
  | xs => .tup xs
noncomputable def BV (Γ : Gam) (f : Nat) : Bld V (Option V) where
  c v := v
  fail := none
  prim p xs _ k := (evp p xs).bind k
  ite := vif
  call g xs _ k := (Γ g 0 xs).bind k
  callv x xs _ k := (vApply Γ x xs).bind k
  callh g xs _ k := (Γ g 1 xs).bind k
  jmp l xs := Γ f l xs
  ret xs := some (oneV xs)
  amb := vamb
def lk {α : Type} : List (Nat × α) -> Nat -> Option α
  | [], _ => none
  | (k, a) :: r, t => match Nat.beq k t with | true => some a | false => lk r t
def V.isNilSl : V -> Bool
  | .sl true _ [] => true
  | _ => false
def At.noOwn : At -> At
  | .n i _ s => .n i false s
  | a => a
def At.plain : At -> At
  | .c v _ => .c v false
  | .n i _ _ => .n i false false
  | a => a
def Seg.noOwn : Seg -> Seg
  | .one a => .one a.noOwn
  | .many n a => .many n a.noOwn
def Sy.noOwn : Sy -> Sy
  | .at a => .at a.noOwn
  | .agg ss z => .agg (ss.map Seg.noOwn) z
  | .tup az => .tup (az.map At.noOwn)
def At.owned : At -> Bool
  | .c _ o => o
  | .n _ o _ => o
  | _ => false
def At.one : At -> Bool
  | .c v _ => v.sc
  | .n _ _ s => s
  | .ptr _ _ => true
  | .gp _ _ => true
  | .fp _ _ _ => true
  | .mpp _ => true
  | _ => false
section
variable {X D : Type}
def PS.get (S : PS X) (t : Nat) : Option Sy := lk S.tm t
def PS.put (S : PS X) (d : Option Nat) (y : Sy) : PS X := match d with | none => S | some d => { S with tm := (d, y) :: S.tm }
def PS.push (S : PS X) (x : X) : PS X := { S with vals := S.vals ++ [x] }
def PS.nx (S : PS X) : Nat := S.vals.length
def PS.disown (S : PS X) (t : Nat) : PS X := match S.get t with | some y => { S with tm := (t, y.noOwn) :: S.tm } | none => S
def PS.know (S : PS X) (i : Nat) (b : Bool) : PS X := { S with lits := (i, b) :: S.lits }
def PS.setOb (S : PS X) (o : Nat) (ss : List Seg) : PS X := { S with ob := S.ob.set o (some ss) }
def PS.obj (S : PS X) (o : Nat) : Option (List Seg) := match S.ob[o]? with | some (some ss) => some ss | _ => none
def PS.mpo (S : PS X) (o : Nat) : Option Nat := match S.obj o with | some [.one (.mpc i)] => some i | _ => none
def PS.cob (S : PS X) (o : Nat) : Option (List Seg) := match S.obj o with | some [.one (.mpc _)] => none | r => r
def constAt (v : V) : Option At :=
  match v with
  | .gp g off => some (.gp g off)
  | v => match v.nf.clean with | true => some (.c v.nf v.isNilSl) | false => none
def PS.opd (S : PS X) : Opd -> Option Sy
  | .tmp t => S.get t
  | .const v => (constAt v).map .at
def PS.valA (B : Bld X D) (S : PS X) : At -> Option X
  | .c v _ => some (B.c v)
  | .n i _ _ => match lk S.lits i with | some b => some (B.c (.bool b)) | none => S.vals[i]?
  | _ => none
def segVals (B : Bld X D) (S : PS X) : List Seg -> Option (List (Option Nat) × List X)
  | [] => some ([], [])
  | .one a :: r => match S.valA B a, segVals B S r with | some x, some (ns, xs) => some (none :: ns, x :: xs) | _, _ => none
  | .many (some n) a :: r => match S.valA B a, segVals B S r with | some x, some (ns, xs) => some (some n :: ns, x :: xs) | _, _ => none
  | .many none _ :: _ => none
def mat (B : Bld X D) (S : PS X) (y : Option Sy) (k : X -> PS X -> D) : D :=
  match y with
  | some (.at a) => match S.valA B a with | some x => k x S | none => B.fail
  | some (.agg _ (some z)) => match S.vals[z]? with | some x => k x S | none => B.fail
  | some (.agg ss none) => match segVals B S ss with | some (ns, xs) => B.prim (.cat ns) xs S.nx fun x => k x (S.push x) | none => B.fail
  | some (.tup _) => B.fail
  | none => B.fail
def matL (B : Bld X D) (S : PS X) : List Opd -> (List X -> PS X -> D) -> D
  | [], k => k [] S
  | o :: r, k => mat B S (S.opd o) fun x S1 => matL B S1 r fun xs S2 => k (x :: xs) S2
def Prim.one : Prim -> Bool
  | .bin _ _ | .un _ | .len _ | .mnx _ | .idx | .sls _ _ | .slc _ _ _ _ | .bsl _ | .app _ | .mks _ | .s2b | .b2s | .i2i _ | .s2s | .chk _ | .b2so _ _ | .fn _ | .sc | .chkd | .chkl | .rlen _ | .b2sx | .cpyn _ | .snapx | .mln | .vlen | .vadd | .vidx | .snapv _ => true
  | .mlk _ z ok => !ok && z.sc
  | _ => false
def doX (B : Bld X D) (S : PS X) (p : Prim) (xs : List X) (d : Option Nat) (own : Bool) (k : PS X -> D) : D :=
  B.prim p xs S.nx fun x => k ((S.push x).put d (.at (.n S.nx own p.one)))
def doP (B : Bld X D) (S : PS X) (p : Prim) (os : List Opd) (d : Option Nat) (own : Bool) (k : PS X -> D) : D :=
  matL B S os fun xs S1 => doX B S1 p xs d own k
def optL : Option Opd -> List Opd
  | none => []
  | some x => [x]
def primOf : AOp -> Option (Prim × List Opd × Bool)
  | .ext t i => some (.ext i, [t], false)
  | .bin op q x y => match q with | .slice => none | .ptr => none | q => some (.bin op q, [x, y], false)
  | .un op x => some (.un op, [x], false)
  | .len s x => some (.len s, [x], false)
  | .mnx m x y => some (.mnx m, [x, y], false)
  | .fld n off x => some (.fld n off, [x], false)
  | .idx x i => some (.idx, [x, i], false)
  | .idxa l sz n x i => some (.idxa l sz n, [x, i], false)
  | .sls x lo hi => some (.sls lo.isSome hi.isSome, x :: (optL lo ++ optL hi), false)
  | .slc sz x lo hi mx => some (.slc sz lo.isSome hi.isSome mx.isSome, x :: (optL lo ++ optL hi ++ optL mx), mx.isSome)
  | .bsl sz xs => some (.bsl sz, xs, true)
  | .mks sz _ l c => some (.mks sz, [l, c], true)
  | .s2b x => some (.s2b, [x], true)
  | .b2s x => some (.b2s, [x], false)
  | .i2i k x => some (.i2i k, [x], false)
  | .s2s x => some (.s2s, [x], false)
  | .mkf f xs => some (.fn f, xs, false)
  | _ => none
def PS.truth (S : PS X) : Option Sy -> Option Bool
  | some (.at (.c (.bool b) _)) => some b
  | some (.at (.n i _ _)) => lk S.lits i
  | _ => none
def zkind : V -> Option IntKind
  | .int k 0 => some k
  | _ => none
def zrun (k : IntKind) : List V -> Nat
  | v :: r => match zkind v with | some j => (match decide (j = k) with | true => zrun k r + 1 | false => 0) | none => 0
  | [] => 0
def grp : Nat -> List V -> Option (List Seg)
  | 0, _ => none
  | _ + 1, [] => some []
  | m + 1, v :: r =>
    match zkind v with
    | some k =>
      match Nat.ble 3 (zrun k r) with
      | true => (grp m (r.drop (zrun k r))).map (.many (some (zrun k r + 1)) (.c (.agg (repl (zrun k r + 1) (.int k 0))) false) :: ·)
      | false => (grp m r).map (.one (.c v false) :: ·)
    | none => match v.sc, constAt v with | true, some a => (grp m r).map (.one a :: ·) | _, _ => none
def Seg.len : Seg -> Option Nat
  | .one _ => some 1
  | .many n _ => n
def segAt : List Seg -> Nat -> Nat -> Option (Seg × Nat × Nat)
  | [], _, _ => none
  | s :: r, off, i =>
    match s.len with
    | none => some (s, off, i)
    | some n => match Nat.blt off n with | true => some (s, off, i) | false => segAt r (off - n) (i + 1)
def segCount : List Seg -> Nat -> Option Nat
  | _, 0 => some 0
  | [], _ + 1 => none
  | s :: r, m + 1 => match s.len with | some n => (match Nat.ble n (m + 1) && Nat.ble 1 n with | true => (segCount r (m + 1 - n)).map (· + 1) | false => none) | none => none
def spl (ss : List Seg) (i : Nat) (m : Nat) (q : List Seg) : List Seg := ss.take i ++ q ++ ss.drop (i + m)
def ldIn (B : Bld X D) (S : PS X) (a : At) (n : Option Nat) (r : Nat) (k : Sy -> PS X -> D) : D :=
  mat B S (some (.at a)) fun x S1 => B.prim (.ld n r) [x] S1.nx fun y => k (.at (.n S1.nx false false)) (S1.push y)
def ldSegs (B : Bld X D) (S : PS X) (ss : List Seg) (i m : Nat) (k : Sy -> PS X -> D) (alt : D) : D :=
  match segCount (ss.drop i) m with
  | some q =>
    match segVals B S ((ss.drop i).take q) with
    | some (ns, xs) => B.prim (.cat ns) xs S.nx fun x => k (.agg (((ss.drop i).take q).map Seg.noOwn) (some S.nx)) (S.push x)
    | none => k (.agg (((ss.drop i).take q).map Seg.noOwn) none) S
  | none => alt
def ldY (B : Bld X D) (S : PS X) (ss : List Seg) (off : Nat) (n : Option Nat) (k : Sy -> PS X -> D) : D :=
  match segAt ss off 0, n with
  | some (.one a, 0, _), none => k (.at a.noOwn) S
  | some (.one _, 0, i), some m => ldSegs B S ss i m k B.fail
  | some (.many (some m') a, 0, i), some m =>
    match Nat.beq m m' && Nat.ble 2 m with
    | true => k (.at a.plain) S
    | false => ldSegs B S ss i m k (ldIn B S a n 0 k)
  | some (.many _ a, r, _), _ => ldIn B S a n r k
  | _, _ => B.fail
def ldAt (B : Bld X D) (S : PS X) (ss : List Seg) (off : Nat) (n : Option Nat) (d : Option Nat) (k : PS X -> D) : D := ldY B S ss off n fun y S' => k (S'.put d y)
def asSegs (B : Bld X D) (S : PS X) (n : Nat) (y : Sy) (mny : Bool) (k : List Seg -> PS X -> D) : D :=
  match y with
  | .tup _ => B.fail
  | .agg q z => match segCount q n with | some m => (match Nat.beq m q.length with | true => (match mny, z with | true, some z => k [.many (some n) (.n z false false)] S | _, _ => k q S) | false => B.fail) | none => B.fail
  | .at a =>
    match n with
    | 1 => match a.one with
      | true => k [.one a.noOwn] S
      | false => mat B S (some (.at a)) fun x S1 => B.prim .sc [x] S1.nx fun z => k [.one (.n S1.nx false true)] (S1.push z)
    | n => mat B S (some (.at a)) fun x S1 => B.prim (.cat [some n]) [x] S1.nx fun z => k [.many (some n) (.n S1.nx false false)] (S1.push z)
def stAt (B : Bld X D) (S : PS X) (o : Nat) (ss : List Seg) (off n : Nat) (y : Sy) (d : Option Nat) (k : PS X -> D) : D :=
  match segAt ss off 0 with
  | some (s, r, i) =>
    match (match r with | 0 => segCount (ss.drop i) n | _ + 1 => none) with
    | some m => asSegs B S n y (match s with | .many (some n') _ => Nat.beq n n' | _ => false) fun q S1 => k ((S1.setOb o (spl ss i m q)).put d (.at .nil))
    | none =>
      match s with
      | .many sn a => mat B S (some (.at a)) fun x S1 => mat B S1 (some y) fun z S2 => B.prim (.set n r) [x, z] S2.nx fun w => k (((S2.push w).setOb o (spl ss i 1 [.many sn (.n S2.nx false false)])).put d (.at .nil))
      | .one _ => B.fail
  | none => B.fail
def At.isVal : At -> Bool
  | .c _ _ => true
  | .n _ _ _ => true
  | _ => false
def Seg.isVal : Seg -> Bool
  | .one a => a.isVal
  | .many _ a => a.isVal
def partAt : Option Sy -> Option At
  | some (.at a) => match a.isVal || a.one with | true => some a | false => none
  | some (.agg _ (some z)) => some (.n z false false)
  | _ => none
def partAts (S : PS X) : List (Nat × Nat × Opd) -> Option (List At)
  | [] => some []
  | p :: r => match partAt (S.opd p.2.2), partAts S r with | some a, some l => some (a :: l) | _, _ => none
def allOne (S : PS X) (ps : List (Nat × Nat × Opd)) : Bool := ps.all fun p => Nat.beq p.2.1 1 && (match S.opd p.2.2 with | some (.at a) => a.one | _ => false)
def partLen (n : Nat) : Option Nat := match n with | 1 => none | n => some n
def partSeg (n : Nat) (a : At) : Seg := match n with | 1 => .one a.noOwn | n => .many (some n) a.plain
def inRow : Nat -> List (Nat × Nat × Opd) -> Option Nat
  | o, [] => some o
  | o, p :: r => match Nat.beq p.1 o with | true => inRow (o + p.2.1) r | false => none
def partSegs : List (Nat × Nat × Opd) -> List At -> List Seg
  | p :: r, a :: l => partSeg p.2.1 a :: partSegs r l
  | _, _ => []
def fillS (ss : List Seg) : List (Nat × Nat × Opd) -> List At -> Option (List Seg)
  | [], _ => some ss
  | p :: r, a :: l =>
    (match segAt ss p.1 0 with
    | some (_, 0, i) => match segCount (ss.drop i) p.2.1 with | some m => fillS (spl ss i m [partSeg p.2.1 a]) r l | none => none
    | _ => none)
  | _ :: _, [] => none
end
end Go.Abs
namespace Go.Abs
section
variable {X D : Type}
def bldR (B : Bld X D) (S : PS X) (z : List V) (ps : List (Nat × Nat × Opd)) (d : Option Nat) (k : PS X -> D) (ats : List At) : D :=
  match allOne S ps with
  | true =>
    (match (match inRow 0 ps with | some e => Nat.beq e z.length | none => false) with
    | true => k (S.put d (.agg (partSegs ps ats) none))
    | false =>
      match grp (z.length + 1) z with
      | some ss => (match fillS ss ps ats with | some q => k (S.put d (.agg q none)) | none => B.fail)
      | none => B.fail)
  | false => B.fail
def bldP (B : Bld X D) (S : PS X) (z : List V) (ps : List (Nat × Nat × Opd)) (d : Option Nat) (k : PS X -> D) : D :=
  match partAts S ps with
  | some ats =>
    match ats.any fun a => !a.isVal with
    | true => bldR B S z ps d k ats
    | false =>
    matL B S (ps.map (·.2.2)) fun xs S1 => B.prim (.cat (ps.map fun p => partLen p.2.1)) xs S1.nx fun y =>
      match (match inRow 0 ps with | some e => Nat.beq e z.length | none => false) with
      | true => k ((S1.push y).put d (.agg (partSegs ps ats) (some S1.nx)))
      | false =>
        match grp (z.length + 1) z with
        | some ss =>
          (match fillS ss ps ats with
          | some q => (match segVals B (S1.push y) q with
            | some (ns, ys) => B.prim (.cat ns) ys (S1.push y).nx fun w => k (((S1.push y).push w).put d (.agg q (some (S1.push y).nx)))
            | none => B.fail)
          | none => B.fail)
        | none => B.fail
  | none => B.fail
def PS.newOb (S : PS X) (ss : List Seg) : PS X := { S with ob := S.ob ++ [some ss] }
def mO (no : Nat) (ρ : List (Nat × Nat)) (k o : Nat) : Option (List (Nat × Nat)) :=
  match Nat.blt k no with
  | true => match lk ρ k with
    | some o' => (match Nat.beq o o' with | true => some ρ | false => none)
    | none => (match ρ.any (fun p => Nat.beq p.2 o) with | true => none | false => some ((k, o) :: ρ))
  | false => none
def mPs (no : Nat) : List (Nat × Nat) -> List (Nat × Nat) -> List (Nat × Nat) -> Option (List (Nat × Nat))
  | [], [], ρ => some ρ
  | (k, off) :: r, (o, off') :: q, ρ => match Nat.beq off off', mO no ρ k o with | true, some ρ' => mPs no r q ρ' | _, _ => none
  | _, _, _ => none
def mAt (B : Bld X D) (S : PS X) (no : Nat) (T y : At) (ρ : List (Nat × Nat)) (acc : List X) : Option (List (Nat × Nat) × List X) :=
  match T, y with
  | .ptr k off, .ptr o off' => match Nat.beq off off', mO no ρ k o with | true, some ρ' => some (ρ', acc) | _, _ => none
  | .gp o off, .gp o' off' => match Nat.beq o o' && Nat.beq off off' with | true => some (ρ, acc) | false => none
  | .osl k off n c s, .osl o off' n' c' s' => match Nat.beq off off' && Nat.beq n n' && Nat.beq c c' && Nat.beq s s', mO no ρ k o with | true, some ρ' => some (ρ', acc) | _, _ => none
  | .osx k i s, .osx o j s' => match Nat.beq i acc.length && Nat.beq s s', S.vals[j]?, mO no ρ k o with | true, some x, some ρ' => some (ρ', acc ++ [x]) | _, _, _ => none
  | .osv k i j s, .osv o i' j' s' => match Nat.beq i acc.length && Nat.beq j (acc.length + 1) && Nat.beq s s', S.vals[i']?, S.vals[j']?, mO no ρ k o with | true, some x, some y, some ρ' => some (ρ', acc ++ [x, y]) | _, _, _, _ => none
  | .osv k i j s, .osx o j' s' => match Nat.beq i acc.length && Nat.beq j (acc.length + 1) && Nat.beq s s', S.vals[j']?, mO no ρ k o with | true, some y, some ρ' => some (ρ', acc ++ [B.c (.int .i64 0), y]) | _, _, _ => none
  | .fp m f ps, .fp m' f' ps' => match Bool.xor m m' || !Nat.beq f f', mPs no ps ps' ρ with | false, some ρ' => some (ρ', acc) | _, _ => none
  | .el i off, .el j off' => match Nat.beq i acc.length && Nat.beq off off', S.vals[j]? with | true, some x => some (ρ, acc ++ [x]) | _, _ => none
  | .n i own sc, y => match Nat.beq i acc.length && (!own || y.owned) && (!sc || y.one), S.valA B y with | true, some x => some (ρ, acc ++ [x]) | _, _ => none
  | .c .nilptr false, .c .nilptr _ => some (ρ, acc)
  | .mpp k, .mpp o => match mO no ρ k o with | some ρ' => some (ρ', acc) | none => none
  | .mpc i, .mpc j => match Nat.beq i acc.length, S.vals[j]? with | true, some x => some (ρ, acc ++ [x]) | _, _ => none
  | _, _ => none
def mSegs (B : Bld X D) (S : PS X) (no : Nat) : List Seg -> List Seg -> List (Nat × Nat) -> List X -> Option (List (Nat × Nat) × List X)
  | [], [], ρ, acc => some (ρ, acc)
  | .one a :: r, .one b :: q, ρ, acc => match mAt B S no a b ρ acc with | some (ρ, acc) => mSegs B S no r q ρ acc | none => none
  | .many (some n) a :: r, .many (some m) b :: q, ρ, acc => match Nat.beq n m, mAt B S no a b ρ acc with | true, some (ρ, acc) => mSegs B S no r q ρ acc | _, _ => none
  | .many none a :: r, .many none b :: q, ρ, acc => match mAt B S no a b ρ acc with | some (ρ, acc) => mSegs B S no r q ρ acc | none => none
  | _, _, _, _ => none
def mObs (B : Bld X D) (S : PS X) (no : Nat) : List (Option (List Seg)) -> Nat -> List (Nat × Nat) -> List X -> Option (List (Nat × Nat) × List X)
  | [], _, ρ, acc => some (ρ, acc)
  | q :: r, k, ρ, acc =>
    match lk ρ k with
    | some o => (match Nat.blt o S.ob.length with
      | true => (match q with
        | none => mObs B S no r (k + 1) ρ acc
        | some ss => match S.obj o with
          | some qs => (match mSegs B S no ss qs ρ acc with | some (ρ, acc) => mObs B S no r (k + 1) ρ acc | none => none)
          | none => none)
      | false => none)
    | none => none
def mAts (B : Bld X D) (S : PS X) (no : Nat) : List At -> List At -> List (Nat × Nat) -> List X -> Option (List (Nat × Nat) × List X)
  | [], [], ρ, acc => some (ρ, acc)
  | a :: r, b :: q, ρ, acc => match mAt B S no a b ρ acc with | some (ρ, acc) => mAts B S no r q ρ acc | none => none
  | _, _, _, _ => none
def mArgs (B : Bld X D) (S : PS X) (no : Nat) (az : List At) : List (Nat × Sy) -> List (Nat × Nat) -> List X -> Option (List (Nat × Nat) × List X)
  | [], ρ, acc => some (ρ, acc)
  | (t, .at a) :: r, ρ, acc => (match az[t]? with | some b => (match mAt B S no a b ρ acc with | some (ρ, acc) => mArgs B S no az r ρ acc | none => none) | none => none)
  | _ :: _, _, _ => none
def fitE (B : Bld X D) (S : PS X) (E : FE) (az : List At) : Option (List (Nat × Nat) × List X) :=
  match Nat.beq az.length E.ar && Nat.beq E.ent.g E.ent.ob.length with
  | true => match mArgs B S E.ent.g az E.ent.tm [] [] with
    | some (ρ, acc) => match mObs B S E.ent.g E.ent.ob 0 ρ acc with
      | some (ρ, xs) => (match Nat.beq xs.length E.ent.n with | true => some (ρ, xs) | false => none)
      | none => none
    | none => none
  | false => none
def pickE (B : Bld X D) (S : PS X) (az : List At) : List FE -> Option (FE × List (Nat × Nat) × List X)
  | [] => none
  | E :: r => match fitE B S E az with | some q => some (E, q) | none => pickE B S az r
def rnPs (ρ : List (Nat × Nat)) : List (Nat × Nat) -> Option (List (Nat × Nat))
  | [] => some []
  | (k, off) :: r => match lk ρ k, rnPs ρ r with | some o, some q => some ((o, off) :: q) | _, _ => none
def rnAt (ρ : List (Nat × Nat)) (b : Nat) : At -> Option At
  | .c v o => some (.c v o)
  | .n i o s => some (.n (b + i) o s)
  | .ptr k off => match lk ρ k with | some o => some (.ptr o off) | none => none
  | .gp g off => some (.gp g off)
  | .el i off => some (.el (b + i) off)
  | .osl k off n c s => match lk ρ k with | some o => some (.osl o off n c s) | none => none
  | .osx k i s => match lk ρ k with | some o => some (.osx o (b + i) s) | none => none
  | .fp m f ps => match rnPs ρ ps with | some q => some (.fp m f q) | none => none
  | .mpp k => match lk ρ k with | some o => some (.mpp o) | none => none
  | .mpc i => some (.mpc (b + i))
  | _ => none
def rnAts (ρ : List (Nat × Nat)) (b : Nat) : List At -> Option (List At)
  | [] => some []
  | a :: r => match rnAt ρ b a, rnAts ρ b r with | some x, some l => some (x :: l) | _, _ => none
def rnSegs (ρ : List (Nat × Nat)) (b : Nat) : List Seg -> Option (List Seg)
  | [] => some []
  | .one a :: r => match rnAt ρ b a, rnSegs ρ b r with | some x, some l => some (.one x :: l) | _, _ => none
  | .many n a :: r => match rnAt ρ b a, rnSegs ρ b r with | some x, some l => some (.many n x :: l) | _, _ => none
def rlk : List (Nat × Nat) -> Nat -> Option Nat
  | [], _ => none
  | (k, o) :: r, t => match Nat.beq o t with | true => some k | false => rlk r t
def mapI {α β : Type} (f : Nat -> α -> β) : Nat -> List α -> List β
  | _, [] => []
  | i, a :: r => f i a :: mapI f (i + 1) r
def rnO (ρ : List (Nat × Nat)) (b : Nat) (q : Option (Option (List Seg))) : Option (List Seg) := match q with | some (some ss) => rnSegs ρ b ss | _ => none
def newR : Nat -> Nat -> Nat -> List (Nat × Nat)
  | 0, _, _ => []
  | n + 1, k, o => (k, o) :: newR n (k + 1) (o + 1)
def PS.after (S : PS X) (g : Nat) (ρ : List (Nat × Nat)) (rt : RT) (xs : List X) : List (Nat × Nat) × PS X :=
  let ρ' := ρ ++ newR (rt.ob.length - g) g S.ob.length
  (ρ', { S with vals := S.vals ++ xs, ob := mapI (fun o q => match rlk ρ' o with | some k => rnO ρ' S.vals.length rt.ob[k]? | none => q) 0 (S.ob ++ List.replicate (rt.ob.length - g) none) })
def putRs (B : Bld X D) (S : PS X) (d : Option Nat) (k : PS X -> D) : Option (List At) -> D
  | some [a] => k (S.put d (.at a))
  | some az => k (S.put d (.tup az))
  | none => B.fail
def unp (B : Bld X D) (v : X) : Nat -> Nat -> Nat -> (List X -> D) -> D
  | 0, _, _, k => k []
  | n + 1, i, nx, k => B.prim (.ext i) [v] nx fun x => unp B v n (i + 1) (nx + 1) fun xs => k (x :: xs)
def unpR (B : Bld X D) (tag : Bool) (v : X) (n nx : Nat) (k : List X -> D) : D :=
  match tag, n with
  | false, 1 => k [v]
  | false, n => unp B v n 0 nx k
  | true, n => unp B v n 1 nx k
def callRs (B : Bld X D) (S : PS X) (g : Nat) (ρ : List (Nat × Nat)) (d : Option Nat) (tag : Bool) (v : X) (rt : RT) (k : PS X -> D) : D :=
  match Nat.ble g rt.ob.length with
  | true => unpR B tag v rt.n S.nx fun xs => putRs B (S.after g ρ rt xs).2 d k (rnAts (S.after g ρ rt xs).1 S.vals.length rt.res)
  | false => B.fail
def swR (B : Bld X D) (t : X) (k : PS X -> RT -> D) : PS X -> Int -> List RT -> D
  | _, _, [] => B.fail
  | S, _, [rt] => k S rt
  | S, j, rt :: r => B.prim (.bin .eql .no) [t, B.c (.int .i64 j)] S.nx fun b => B.ite b (k (S.push b) rt) (swR B t k (S.push b) (j + 1) r)
def callE (B : Bld X D) (S : PS X) (d : Option Nat) (k : PS X -> D) : Option (FE × List (Nat × Nat) × List X) -> D
  | some (E, ρ, xs) => match E.ret with
    | some [rt] => B.callh E.k xs S.nx fun v => callRs B (S.push v) E.ent.g ρ d false v rt k
    | some rts => B.callh E.k xs S.nx fun v => B.prim (.ext 0) [v] (S.nx + 1) fun t => swR B t (fun S1 rt => callRs B S1 E.ent.g ρ d true v rt k) ((S.push v).push t) 0 rts
    | none => B.fail
  | none => B.fail
def atO (B : Bld X D) (S : PS X) (y : Option Sy) (k : At -> PS X -> D) : D :=
  match y with
  | some (.at a) => k a S
  | some (.agg _ (some z)) => k (.n z false false) S
  | some (.agg ss none) => match segVals B S ss with | some (ns, xs) => B.prim (.cat ns) xs S.nx fun x => k (.n S.nx false false) (S.push x) | none => B.fail
  | _ => B.fail
def atsO (B : Bld X D) (S : PS X) : List Opd -> (List At -> PS X -> D) -> D
  | [], k => k [] S
  | o :: r, k => atO B S (S.opd o) fun a S1 => atsO B S1 r fun az S2 => k (a.noOwn :: az) S2
def At.isPtr : At -> Bool
  | .ptr _ _ => true
  | .osl _ _ _ _ _ => true
  | .osx _ _ _ => true
  | .osv _ _ _ _ => true
  | .fp _ _ (_ :: _) => true
  | .mpp _ => true
  | _ => false
def ptrsOf (S : PS X) : List Opd -> Option (List (Nat × Nat))
  | [] => some []
  | x :: r => match S.opd x, ptrsOf S r with | some (.at (.ptr o off)), some l => some ((o, off) :: l) | _, _ => none
def psAts (ps : List (Nat × Nat)) : List At := ps.map fun p => .ptr p.1 p.2
def withPs (m : Bool) (az : List At) (ps : List (Nat × Nat)) : List At := match m with | true => psAts ps ++ az | false => az ++ psAts ps
def coal (B : Bld X D) (S : PS X) (o off n : Nat) (k : PS X -> D) : D :=
  match S.cob o with
  | some ss => match segAt ss off 0 with
    | some (.many _ _, _, _) => k S
    | some (.one _, 0, i) => match segCount (ss.drop i) n with
      | some q => (match segVals B S ((ss.drop i).take q) with
        | some (ns, xs) => B.prim (.cat ns) xs S.nx fun x => k ((S.push x).setOb o (spl ss i q [.many (some n) (.n S.nx false false)]))
        | none => B.fail)
      | none => B.fail
    | _ => B.fail
  | none => B.fail
def mseg (n : Nat) (a : At) : List Seg := match n with | 0 => [] | n + 1 => [.many (some (n + 1)) a]
def splitO (B : Bld X D) (S : PS X) (o off : Nat) (k : PS X -> D) : D :=
  match S.cob o with
  | some ss => match segAt ss off 0 with
    | some (.many (some m) a, r, i) => match S.valA B a with
      | some x => B.prim (.ld (some r) 0) [x] S.nx fun y1 => B.prim (.ld none r) [x] (S.nx + 1) fun y0 => B.prim (.ld (some (m - r - 1)) (r + 1)) [x] (S.nx + 2) fun y2 =>
          k ((((S.push y1).push y0).push y2).setOb o (spl ss i 1 (mseg r (.n S.nx false false) ++ (.one (.n (S.nx + 1) false true) :: mseg (m - r - 1) (.n (S.nx + 2) false false)))))
      | none => B.fail
    | _ => k S
  | none => B.fail
def onO (B : Bld X D) (S : PS X) (x : Opd) (k : Sy -> D) : D := match S.opd x with | some y => k y | none => B.fail
def boolAt (b : Bool) : Sy := .at (.c (.bool b) false)
def nat64 (n : Nat) : Sy := .at (.c (.int .i64 n) false)
def rowVal (B : Bld X D) (S : PS X) (o : Nat) : Option X := match S.cob o with | some [.many none a] => S.valA B a | _ => none
def PS.dropOb (S : PS X) (o : Nat) : PS X := { S with ob := S.ob.set o none }
def isOslY : Option Sy -> Bool
  | some (.at (.osl _ _ _ _ _)) => true
  | some (.at (.osc _ _ _ _ _)) => true
  | some (.at (.osx _ _ _)) => true
  | some (.at (.osv _ _ _ _)) => true
  | _ => false
def snapO (B : Bld X D) (S : PS X) (y : Option Sy) (k : X -> PS X -> D) : D :=
  match y with
  | some (.at (.osl o off n _ 1)) => (match S.cob o, Nat.blt 0 n with
    | some ss, true => (match segAt ss off 0 with
      | some (.many _ a, r, _) => mat B S (some (.at a)) fun x S1 => B.prim (.snap r n) [x] S1.nx fun z => k z (S1.push z)
      | _ => B.fail)
    | _, _ => B.fail)
  | some (.at (.osc o off n i 1)) => (match S.cob o, S.vals[i]? with
    | some ss, some j => (match segAt ss off 0 with
      | some (.many _ a, r, _) => mat B S (some (.at a)) fun x S1 => B.prim (.snapd r n) [x, j] S1.nx fun z => k z (S1.push z)
      | _ => B.fail)
    | _, _ => B.fail)
  | some (.at (.osx o j sz)) => (match rowVal B S o, S.vals[j]?, sz with
    | some c, some n, 1 => B.prim .snapx [c, n] S.nx fun z => k z (S.push z)
    | some c, some n, sz => B.prim (.snapv sz) [c, B.c (.int .i64 0), n] S.nx fun z => k z (S.push z)
    | _, _, _ => B.fail)
  | some (.at (.osv o i j sz)) => (match rowVal B S o, S.vals[i]?, S.vals[j]? with
    | some c, some a, some b => B.prim (.snapv sz) [c, a, b] S.nx fun z => k z (S.push z)
    | _, _, _ => B.fail)
  | y => mat B S y k
def tailOK (sz : Nat) : Option Sy -> Bool
  | some (.at (.osl _ _ _ _ s)) => Nat.beq s sz
  | some (.at (.osc _ _ _ _ s)) => Nat.beq s sz
  | some (.at (.osx _ _ s)) => Nat.beq s sz
  | some (.at (.osv _ _ _ s)) => Nat.beq s sz
  | some (.at (.n _ _ _)) => true
  | some (.at (.c _ _)) => true
  | some (.agg _ _) => true
  | _ => false
def isOsxY : Option Sy -> Bool
  | some (.at (.osx _ _ _)) => true
  | some (.at (.osv _ _ _ _)) => true
  | _ => false
def snapA (B : Bld X D) : Bool -> PS X -> List Opd -> (List X -> PS X -> D) -> D
  | _, S, [], k => k [] S
  | fl, S, o :: r, k => match fl && isOsxY (S.opd o) with
    | true => B.fail
    | false => snapO B S (S.opd o) fun x S1 => snapA B (fl || isOsxY (S.opd o)) S1 r fun xs S2 => k (x :: xs) S2
def hasPs (S : PS X) (xs : List Opd) : Bool := xs.any fun x => match S.opd x with | some (.at a) => a.isPtr | _ => false
def mapV (B : Bld X D) (S : PS X) : Option Sy -> Option X
  | some (.at (.mpp o)) => (S.mpo o).bind fun i => S.vals[i]?
  | some (.at (.c .nilmap _)) => some (B.c (mpV []))
  | _ => none
def op1 (B : Bld X D) (ow : Cfg) (d : Option Nat) (op : AOp) (S : PS X) (k : PS X -> D) : D :=
  match op with
  | .mv x => onO B S x fun y => k (S.put d y.noOwn)
  | .mvo t => match S.get t with | some (.at a) => k ((S.disown t).put d (.at a)) | _ => B.fail
  | .pick c a b =>
    match S.truth (S.opd c) with
    | some true => onO B S a fun y => k (S.put d y.noOwn)
    | some false => onO B S b fun y => k (S.put d y.noOwn)
    | none => doP B S .pick [c, a, b] d false k
  | .un op x =>
    match op, S.truth (S.opd x) with
    | .not, some b => k (S.put d (boolAt !b))
    | op, _ => doP B S (.un op) [x] d false k
  | .bin op q x y =>
    match q with
    | .slice =>
      match op, y with
      | .eql, .const (.sl true _ []) => mat B S (S.opd x) fun v S1 => B.amb v (k (S1.put d (boolAt true))) (k (S1.put d (boolAt false)))
      | .neq, .const (.sl true _ []) => mat B S (S.opd x) fun v S1 => B.amb v (k (S1.put d (boolAt false))) (k (S1.put d (boolAt true)))
      | _, _ => B.fail
    | .ptr =>
      match S.opd x, S.opd y with
      | some (.at (.ptr _ _)), some (.at (.c .nilptr _)) => (match op with | .eql => k (S.put d (boolAt false)) | .neq => k (S.put d (boolAt true)) | _ => B.fail)
      | some (.at (.c .nilptr _)), some (.at (.c .nilptr _)) => (match op with | .eql => k (S.put d (boolAt true)) | .neq => k (S.put d (boolAt false)) | _ => B.fail)
      | _, _ => B.fail
    | q =>
      match S.opd x, S.opd y with
      | some (.at (.c v _)), some (.at (.c w _)) => (match abin op q v w with | some z => k (S.put d (.at (.c z false))) | none => B.fail)
      | _, _ => doP B S (.bin op q) [x, y] d false k
  | .len s x =>
    match s, S.opd x with
    | false, some (.at (.osl _ _ n _ _)) => k (S.put d (nat64 n))
    | false, some (.at (.osx _ i _)) => k (S.put d (.at (.n i false true)))
    | false, some (.at (.osv _ i j _)) => (match S.vals[i]?, S.vals[j]? with | some a, some b => doX B S .vlen [a, b] d false k | _, _ => B.fail)
    | s, _ => doP B S (.len s) [x] d false k
  | .iaddr sz x i =>
    match S.opd x with
    | some (.at (.osx o j s)) =>
      (match Nat.beq s sz, S.vals[j]? with
      | true, some n => matL B S [i] fun xs S1 => B.prim .chkd (n :: xs) S1.nx fun q => k ((S1.push q).put d (.at (.ptd o 0 S1.nx sz)))
      | _, _ => B.fail)
    | some (.at (.osv o i' j' s)) =>
      (match Nat.beq s sz, S.vals[i']?, S.vals[j']? with
      | true, some a, some b => matL B S [i] fun xs S1 => B.prim .vidx (a :: b :: xs) S1.nx fun q => k ((S1.push q).put d (.at (.ptd o 0 S1.nx sz)))
      | _, _, _ => B.fail)
    | some (.at (.osl o off n _ s)) =>
      (match Nat.beq s sz with
      | true => matL B S [i] fun xs S1 => B.prim (.chk n) xs S1.nx fun j => k ((S1.push j).put d (.at (.ptd o off S1.nx sz)))
      | false => B.fail)
    | _ => matL B S [x, i] fun xs S1 => B.prim (.elem sz) xs S1.nx fun e => k ((S1.push e).put d (.at (.el S1.nx 0)))
  | .iarr n sz x i =>
    match S.opd x, i with
    | some (.at (.ptr o off)), .const (.int _ (.ofNat j)) => (match Nat.blt j n with | true => k (S.put d (.at (.ptr o (off + j * sz)))) | false => B.fail)
    | some (.at (.ptr o off)), i => coal B S o off (n * sz) fun S => matL B S [i] fun xs S1 => B.prim (.chk n) xs S1.nx fun j => k ((S1.push j).put d (.at (.ptd o off S1.nx sz)))
    | some (.at (.gp o off)), i => matL B S [i] fun xs S1 => B.prim (.chk n) xs S1.nx fun j => k ((S1.push j).put d (.at (.gpd o off S1.nx sz)))
    | _, _ => B.fail
  | .faddr off x =>
    match S.opd x with
    | some (.at (.ptr o a)) => k (S.put d (.at (.ptr o (a + off))))
    | some (.at (.el i a)) => k (S.put d (.at (.el i (a + off))))
    | some (.at (.ptd o b i sz)) => k (S.put d (.at (.ptd o (b + off) i sz)))
    | some (.at (.gp g a)) => k (S.put d (.at (.gp g (a + off))))
    | _ => B.fail
  | .load n x =>
    match S.opd x with
    | some (.at (.ptr o off)) => (match S.cob o with | some ss => ldAt B S ss off n d k | none => B.fail)
    | some (.at (.ptd o b i sz)) => (match S.cob o with
      | some ss => (match segAt ss b 0, S.vals[i]? with
        | some (.many _ a, r, _), some j => mat B S (some (.at a)) fun x S1 => doX B S1 (.ldd n r sz) [x, j] d false k
        | _, _ => B.fail)
      | none => B.fail)
    | some (.at (.el i off)) => (match S.vals[i]? with | some x => doX B S (.ld n off) [x] d false k | none => B.fail)
    | some (.at (.gp g off)) => (match ow.gl g with | some cs => doX B S (.ld n off) [B.c (.agg cs)] d false k | none => B.fail)
    | some (.at (.gpd g b i sz)) => (match ow.gl g, S.vals[i]? with | some cs, some j => doX B S (.ldd n b sz) [B.c (.agg cs), j] d false k | _, _ => B.fail)
    | _ => B.fail
  | .ldp n x =>
    match S.opd x with
    | some (.at (.el i off)) => (match S.vals[i]? with | some x => doX B S (.ld n off) [x] d false k | none => B.fail)
    | some (.at (.gp g off)) => (match ow.gl g with | some cs => doX B S (.ld n off) [B.c (.agg cs)] d false k | none => B.fail)
    | some (.at (.gpd g b i sz)) => (match ow.gl g, S.vals[i]? with | some cs, some j => doX B S (.ldd n b sz) [B.c (.agg cs), j] d false k | _, _ => B.fail)
    | _ => B.fail
  | .ldo x =>
    match S.opd x with
    | some (.at (.ptr o off)) => (match S.cob o with
      | some ss => (match segAt ss off 0 with
        | some (.one a, 0, i) => k ((S.setOb o (spl ss i 1 [.one a.noOwn])).put d (.at a))
        | _ => B.fail)
      | none => B.fail)
    | _ => B.fail
  | .fld n off x =>
    match S.opd x with
    | some (.agg ss _) => ldAt B S ss off n d k
    | _ => doP B S (.fld n off) [x] d false k
  | .slca n sz x lo hi mx =>
    match S.opd x, lo, hi, mx with
    | some (.at (.ptr o off)), none, none, none => (match S.cob o with
      | some ss => (match segAt ss off 0 with
        | some (.many (some m) _, r, i) => (match Nat.ble (r + n * sz) m, Nat.blt 0 (n * sz) with | true, true => k (S.put d (.at (.osl o off n n sz))) | _, _ => B.fail)
        | some (_, 0, i) => (match segCount (ss.drop i) (n * sz), Nat.blt 0 (n * sz) with | some _, true => k (S.put d (.at (.osl o off n n sz))) | _, _ => B.fail)
        | _ => B.fail)
      | none => B.fail)
    | _, _, _, _ => B.fail
  | .slc sz x lo hi mx =>
    match S.opd x with
    | some (.at (.osv o i j s)) => (match Nat.beq s sz, lo, hi, mx, S.vals[i]?, S.vals[j]? with
      | true, some l, none, none, some a, some b => matL B S [l] fun xs S1 => B.prim .vadd (a :: b :: xs) S1.nx fun q => k ((S1.push q).put d (.at (.osv o S1.nx j sz)))
      | true, none, some h, none, some a, some b => matL B S [h] fun xs S1 => B.prim .vadd (a :: b :: xs) S1.nx fun q => k ((S1.push q).put d (.at (.osv o i S1.nx sz)))
      | _, _, _, _, _, _ => B.fail)
    | some (.at (.osx o j s)) => (match Nat.beq s sz, lo, hi, mx, S.vals[j]? with
      | true, some l, none, none, some n => (match Nat.beq sz 1 with
        | true => matL B S [l] fun xs S1 => B.prim .chkd (n :: xs) S1.nx fun q => k ((S1.push q).put d (.at (.osr o j S1.nx sz)))
        | false => matL B S [l] fun xs S1 => B.prim .vadd (B.c (.int .i64 0) :: n :: xs) S1.nx fun q => k ((S1.push q).put d (.at (.osv o S1.nx j sz))))
      | true, none, some h, none, some n => matL B S [h] fun xs S1 => B.prim .chkl (n :: xs) S1.nx fun q => k ((S1.push q).put d (.at (.osx o S1.nx sz)))
      | _, _, _, _, _ => B.fail)
    | some (.at (.osl o off n c s)) => (match Nat.beq s sz && Nat.ble n c, lo, hi, mx with
      | true, some l, none, none => matL B S [l] fun xs S1 => B.prim (.chk n) xs S1.nx fun q => k ((S1.push q).put d (.at (.osc o off n S1.nx sz)))
      | _, _, _, _ => B.fail)
    | _ => doP B S (.slc sz lo.isSome hi.isSome mx.isSome) (x :: (optL lo ++ optL hi ++ optL mx)) d mx.isSome k
  | .nro sz => k (((S.push (B.c (.int .i64 0))).newOb [.many none (.c (.agg []) false)]).put d (.at (.osx S.ob.length S.nx sz)))
  | .mko sz z l c =>
    match sz, z with
    | 1, [z0] => (match z0.flatR with
      | true => matL B S [l, c] fun xs S1 => B.prim (.rmk z0) xs S1.nx fun y => (match xs with
        | n :: _ => B.prim (.rlen 1) [n, B.c (.sl false 1 [])] (S1.nx + 1) fun m => k ((((S1.push y).push m).newOb [.many none (.n S1.nx false false)]).put d (.at (.osx S.ob.length (S1.nx + 1) 1)))
        | [] => B.fail)
      | false => B.fail)
    | _, _ => B.fail
  | .appo sz s x =>
    match S.opd s with
    | some (.at (.osx o j s')) => (match Nat.beq s' sz && tailOK sz (S.opd x), rowVal B S o, S.vals[j]? with
      | true, some c, some n => snapO B S (S.opd x) fun v S1 => B.prim (.rapp sz) [c, n, v] S1.nx fun y => B.prim (.rlen sz) [n, v] (S1.nx + 1) fun m =>
            k (((((S1.push y).push m).dropOb o).newOb [.many none (.n S1.nx false false)]).put d (.at (.osx S.ob.length (S1.nx + 1) sz)))
      | _, _, _ => B.fail)
    | _ => B.fail
  | .cpy x s =>
    match S.opd x with
    | some (.at (.osl o off n _ 1)) => (match S.cob o, Nat.blt 0 n with
      | some ss, true => (match segAt ss off 0 with
        | some (.many sn a, r, i) => mat B S (some (.at a)) fun c S1 => matL B S1 [s] fun xs S2 => (match xs with
          | [v] => B.prim (.cpya r n) [c, v] S2.nx fun w => B.prim (.cpyn n) [v] (S2.nx + 1) fun m =>
              k ((((S2.push w).push m).setOb o (spl ss i 1 [.many sn (.n S2.nx false false)])).put d (.at (.n (S2.nx + 1) false true)))
          | _ => B.fail)
        | _ => B.fail)
      | _, _ => B.fail)
    | _ => B.fail
  | .clr z x =>
    match S.opd x, z with
    | some (.at (.osr o j i 1)), [z0] => (match rowVal B S o, S.vals[j]?, S.vals[i]?, z0.flatR with
      | some c, some n, some p, true => B.prim (.clrx z0) [c, n, p] S.nx fun w => k (((S.push w).setOb o [.many none (.n S.nx false false)]).put d (.at .nil))
      | _, _, _, _ => B.fail)
    | some (.at (.osl o off n _ 1)), [z0] => (match S.cob o, Nat.blt 0 n && z0.flatR with
      | some ss, true => (match segAt ss off 0 with
        | some (.many sn a, r, i) => mat B S (some (.at a)) fun c S1 => B.prim (.clra z0 r n) [c] S1.nx fun w =>
              k (((S1.push w).setOb o (spl ss i 1 [.many sn (.n S1.nx false false)])).put d (.at .nil))
        | _ => B.fail)
      | _, _ => B.fail)
    | _, _ => B.fail
  | .build z ps => bldP B S z ps d k
  | .app sz s x =>
    match S.opd s with
    | some (.at a) => match a.owned with
      | true => matL B S [s, x] fun xs S1 => doX B (match s with | .tmp t => S1.disown t | .const _ => S1) (.app sz) xs d true k
      | false => B.fail
    | _ => B.fail
  | .b2s x =>
    match S.opd x with
    | some (.at (.osx o j 1)) => (match rowVal B S o, S.vals[j]? with | some c, some n => doX B S .b2sx [c, n] d false k | _, _ => B.fail)
    | some (.at (.osl o off n _ 1)) => (match S.cob o with
      | some ss => (match segAt ss off 0 with
        | some (.many _ a, r, _) => mat B S (some (.at a)) fun x S1 => doX B S1 (.b2so r n) [x] d false k
        | _ => B.fail)
      | none => B.fail)
    | _ => doP B S .b2s [x] d false k
  | .s2a n x => matL B S [x] fun xs S1 => B.prim (.s2a n) xs S1.nx fun e => k ((S1.push e).put d (.at (.el S1.nx 0)))
  | .nilck x =>
    match S.opd x with
    | some (.at (.ptr o a)) => k (S.put d (.at (.ptr o a)))
    | some (.at (.el i a)) => k (S.put d (.at (.el i a)))
    | _ => B.fail
  | .call f xs =>
    match xs.any fun x => isOslY (S.opd x) with
    | false => matL B S xs fun ys S1 => B.call f ys S1.nx fun r => k ((S1.push r).put d (.at (.n S1.nx (ow.ow f) false)))
    | true => snapA B false S xs fun ys S1 => B.call f ys S1.nx fun r => B.prim .flr [r] (S1.nx + 1) fun z => k (((S1.push r).push z).put d (.at (.n (S1.nx + 1) false false)))
  | .callh f xs => atsO B S xs fun az S1 => callE B S1 d k (pickE B S1 az (ow.he f))
  | .callvh f xs =>
    match S.opd f with
    | some (.at (.fp m g ps)) => atsO B S xs fun az S1 => (match (withPs m az ps).any At.isPtr with | true => callE B S1 d k (pickE B S1 (withPs m az ps) (ow.he g)) | false => B.fail)
    | some (.at (.c (.fn g []) o)) =>
      (match ow.he g with
      | [] => matL B S xs fun ys S1 => B.call g ys S1.nx fun r => k ((S1.push r).put d (.at (.n S1.nx (ow.ow g) false)))
      | es => match hasPs S xs with
        | true => atsO B S xs fun az S1 => (match az.any At.isPtr with | true => callE B S1 d k (pickE B S1 az es) | false => B.fail)
        | false => matL B S xs fun ys S1 => B.call g ys S1.nx fun r => k ((S1.push r).put d (.at (.n S1.nx (ow.ow g) false))))
    | some (.at a) => matL B S xs fun ys S1 => (match S1.valA B a with | some v => B.callv v ys S1.nx fun r => k ((S1.push r).put d (.at (.n S1.nx false false))) | none => B.fail)
    | _ => B.fail
  | .mkf f xs =>
    match ptrsOf S xs with
    | some (p :: ps) => k (S.put d (.at (.fp false f (p :: ps))))
    | _ => doP B S (.fn f) xs d false k
  | .mkm f xs =>
    match ptrsOf S xs with
    | some (p :: ps) => k (S.put d (.at (.fp true f (p :: ps))))
    | _ => B.fail
  | .ext t i =>
    match S.opd t with
    | some (.tup az) => (match az[i]? with | some a => k (S.put d (.at a.noOwn)) | none => B.fail)
    | _ => doP B S (.ext i) [t] d false k
  | .new cs => match grp (cs.length + 1) cs with | some ss => k ((S.newOb ss).put d (.at (.ptr S.ob.length 0))) | none => B.fail
  | .box x =>
    match S.opd x with
    | some (.agg ss _) => k ((S.newOb (ss.map Seg.noOwn)).put d (.at (.ptr S.ob.length 0)))
    | some (.tup _) => B.fail
    | some (.at a) => (match a.one with
      | true => k ((S.newOb [.one a.noOwn]).put d (.at (.ptr S.ob.length 0)))
      | false => mat B S (some (.at a)) fun x S1 => B.prim .scs [x] S1.nx fun z => k (((S1.push z).newOb [.many none (.n S1.nx false false)]).put d (.at (.ptr S.ob.length 0))))
    | none => B.fail
  | .store n a x =>
    match S.opd a with
    | some (.at (.ptr o off)) => (match S.cob o, S.opd x with
      | some ss, some y => stAt B S o ss off n y d k
      | _, _ => B.fail)
    | some (.at (.ptd o b i sz)) => (match S.cob o with
      | some ss => (match segAt ss b 0, S.vals[i]? with
        | some (.many sn a, r, p), some j => mat B S (some (.at a)) fun c S1 => mat B S1 (S1.opd x) fun y S2 =>
            B.prim (.std n r sz) [c, j, y] S2.nx fun w => k (((S2.push w).setOb o (spl ss p 1 [.many sn (.n S2.nx false false)])).put d (.at .nil))
        | _, _ => B.fail)
      | none => B.fail)
    | _ => B.fail
  | .sto a t =>
    match S.opd a, S.get t with
    | some (.at (.ptr o off)), some (.at y) => splitO B S o off fun S => (match S.cob o with
      | some ss => (match segAt ss off 0, y.one with
        | some (.one _, 0, i), true => k (((S.disown t).setOb o (spl ss i 1 [.one y])).put d (.at .nil))
        | _, _ => B.fail)
      | none => B.fail)
    | _, _ => B.fail
  | .nmp => k ((S.push (B.c (mpV []))).newOb [.one (.mpc S.nx)] |>.put d (.at (.mpp S.ob.length)))
  | .mlk q z ok m kk =>
    match mapV B S (S.opd m), z.nf.clean with
    | some M, true => mat B S (S.opd kk) fun x S1 => doX B S1 (.mlk q z.nf ok) [M, x] d false k
    | _, _ => B.fail
  | .mln m => match mapV B S (S.opd m) with | some M => doX B S .mln [M] d false k | none => B.fail
  | .mup q m kk x =>
    match S.opd m with
    | some (.at (.mpp o)) => (match mapV B S (S.opd m) with
      | some M => matL B S [kk, x] fun xs S1 => (match xs with
        | [y, w] => B.prim (.mup q) [M, y, w] S1.nx fun M' => k (((S1.push M').setOb o [.one (.mpc S1.nx)]).put d (.at .nil))
        | _ => B.fail)
      | none => B.fail)
    | _ => B.fail
  | op => match primOf op with | some (p, xs, own) => doP B S p xs d own k | none => B.fail
def opG (B : Bld X D) (ow : Cfg) (o : AOper) (S : PS X) (k : PS X -> D) : D :=
  match o.guard with
  | none => op1 B ow o.dst o.op S k
  | some (t, w) =>
    match S.get t with
    | some (.at .nil) => k (S.put o.dst (.at .nil))
    | y =>
      match S.truth y with
      | some b => (match Bool.xor b w with | false => op1 B ow o.dst o.op S k | true => k (S.put o.dst (.at .nil)))
      | none =>
        match y with
        | some (.at (.n i _ _)) =>
          (match S.vals[i]? with
          | some x =>
            (match w with
            | true => B.ite x (op1 B ow o.dst o.op (S.know i true) k) (k ((S.know i false).put o.dst (.at .nil)))
            | false => B.ite x (k ((S.know i true).put o.dst (.at .nil))) (op1 B ow o.dst o.op (S.know i false) k))
          | none => B.fail)
        | _ => B.fail
def opsG (B : Bld X D) (ow : Cfg) : List AOper -> PS X -> (PS X -> D) -> D
  | [], S, k => k S
  | o :: r, S, k => opG B ow o S fun S' => opsG B ow r S' k
def mTm (B : Bld X D) (S : PS X) (no : Nat) : List (Nat × Sy) -> List (Nat × Nat) -> List X -> Option (List (Nat × Nat) × List X)
  | [], ρ, acc => some (ρ, acc)
  | (t, .at a) :: r, ρ, acc =>
    (match S.get t with
    | some (.at b) => match mAt B S no a b ρ acc with | some (ρ, acc) => mTm B S no r ρ acc | none => none
    | some (.agg _ (some z)) => match mAt B S no a (.n z false false) ρ acc with | some (ρ, acc) => mTm B S no r ρ acc | none => none
    | _ => none)
  | (t, .agg ss none) :: r, ρ, acc =>
    (match S.get t with
    | some (.agg qs _) => match mSegs B S no ss qs ρ acc with | some (ρ, acc) => mTm B S no r ρ acc | none => none
    | _ => none)
  | (_, .agg _ (some _)) :: _, _, _ => none
  | (_, .tup _) :: _, _, _ => none
def idR : Nat -> List (Nat × Nat)
  | 0 => []
  | n + 1 => idR n ++ [(n, n)]
def jump (B : Bld X D) (m : Nat) (T : PT) (S : PS X) : D :=
  match mTm B S T.ob.length T.tm (idR S.g) [] with
  | some (ρ, acc) => match mObs B S T.ob.length T.ob 0 ρ acc with
    | some (_, xs) => match Nat.beq xs.length T.n && (Nat.beq T.g S.g && Nat.ble T.g T.ob.length && Nat.ble S.g S.ob.length) with | true => B.jmp m xs | false => B.fail
    | none => B.fail
  | none => B.fail
def PT.start (T : PT) (xs : List X) : PS X := ⟨xs, [], T.tm, T.ob, T.g⟩
def ACode.size : ACode -> Nat
  | .seq a b => a.size + b.size + 1
  | .cond _ a b => a.size + b.size + 1
  | .block _ b => b.size + 1
  | .loop b => b.size + 1
  | _ => 1
def pe (B : Bld X D) (ow : Cfg) (L : List (Nat × PT)) : ACode -> Nat -> PS X -> (Ex -> PS X -> D) -> D
  | .skip, _, S, k => k .normal S
  | .region os _, _, S, k => opsG B ow os S (k .normal)
  | .seq a b, n, S, k => pe B ow L a (n + 1) S fun e S' =>
      match e with
      | .normal => (match lk L (n + 1 + a.size) with | some T => jump B (n + 1 + a.size) T S' | none => pe B ow L b (n + 1 + a.size) S' k)
      | e => k e S'
  | .cond c a b, n, S, k =>
    match S.truth (S.opd c) with
    | some true => pe B ow L a (n + 1) S k
    | some false => pe B ow L b (n + 1 + a.size) S k
    | none =>
      match S.opd c with
      | some (.at (.n i _ _)) => (match S.vals[i]? with
        | some x => B.ite x (pe B ow L a (n + 1) (S.know i true) k) (pe B ow L b (n + 1 + a.size) (S.know i false) k)
        | none => B.fail)
      | _ => B.fail
  | .block id b, n, S, k => pe B ow L b (n + 1) S fun e S' => k (e.inBlock id) S'
  | .loop _, n, S, _ => match lk L n with | some T => jump B n T S | none => B.fail
  | .exit id, _, S, k => k (.exit id) S
  | .ret, _, S, k => k .ret S
  | .fail, _, _, _ => B.fail
def peL (B : Bld X D) (ow : Cfg) (L : List (Nat × PT)) (c : ACode) (n : Nat) (S : PS X) (k : Ex -> PS X -> D) : D :=
  match c with
  | .loop b => pe B ow L b (n + 1) S fun e S' =>
      match e with
      | .normal => (match lk L n with | some T => jump B n T S' | none => B.fail)
      | e => k e S'
  | c => pe B ow L c n S k
def peAt (B : Bld X D) (ow : Cfg) (L : List (Nat × PT)) (m : Nat) : ACode -> Nat -> PS X -> (Ex -> PS X -> D) -> D
  | .seq a b, n, S, k =>
    match Nat.blt m (n + 1 + a.size) with
    | true => peAt B ow L m a (n + 1) S fun e S' =>
      match e with
      | .normal => (match lk L (n + 1 + a.size) with | some T => jump B (n + 1 + a.size) T S' | none => pe B ow L b (n + 1 + a.size) S' k)
      | e => k e S'
    | false => match Nat.beq m (n + 1 + a.size) with
      | true => peL B ow L b (n + 1 + a.size) S k
      | false => peAt B ow L m b (n + 1 + a.size) S k
  | .cond _ a b, n, S, k =>
    match Nat.blt m (n + 1 + a.size) with
    | true => peAt B ow L m a (n + 1) S k
    | false => peAt B ow L m b (n + 1 + a.size) S k
  | .block id b, n, S, k => peAt B ow L m b (n + 1) S fun e S' => k (e.inBlock id) S'
  | .loop b, n, S, k =>
    match Nat.beq m n with
    | true => peL B ow L (.loop b) n S k
    | false => peAt B ow L m b (n + 1) S fun e S' =>
      match e with
      | .normal => (match lk L n with | some T => jump B n T S' | none => B.fail)
      | e => k e S'
  | _, _, _, _ => B.fail
def resR (B : Bld X D) (S : PS X) (r : RS) (k : X -> PS X -> D) : D :=
  match r with
  | .t t => mat B S (S.get t) k
  | .c t n => match S.get t with
    | some (.at (.ptr o off)) => (match S.cob o with
      | some ss => ldY B S ss off n fun y S1 => mat B S1 (some y) k
      | none => B.fail)
    | _ => B.fail
def resL (B : Bld X D) (S : PS X) : List RS -> List X -> D
  | [], acc => B.ret acc
  | r :: rs, acc => resR B S r fun x S1 => resL B S1 rs (acc ++ [x])
def resK (B : Bld X D) (own : Bool) (res : List RS) (e : Ex) (S : PS X) : D :=
  match e with
  | .exit _ => B.fail
  | _ =>
    match own with
    | false => resL B S res []
    | true => match res with
      | [.t t] => (match S.get t with
        | some (.at a) => (match a.owned with | true => resL B S res [] | false => B.fail)
        | _ => B.fail)
      | _ => B.fail
def resA (B : Bld X D) (S : PS X) : List RS -> (List At -> PS X -> D) -> D
  | [], k => k [] S
  | .t t :: rs, k => atO B S (S.get t) fun a S1 => resA B S1 rs fun az S2 => k (a :: az) S2
  | .c t n :: rs, k => match S.get t with
    | some (.at (.ptr o off)) => (match S.cob o with
      | some ss => ldY B S ss off n fun y S1 => atO B S1 (some y) fun a S2 => resA B S2 rs fun az S3 => k (a :: az) S3
      | none => B.fail)
    | _ => B.fail
def fitR (B : Bld X D) (S : PS X) (az : List At) (rt : RT) : Option (List X) :=
  match Nat.ble S.g rt.ob.length && Nat.ble S.g S.ob.length with
  | true => match mAts B S rt.ob.length rt.res az (idR S.g) [] with
    | some (ρ, acc) => match mObs B S rt.ob.length rt.ob 0 ρ acc with
      | some (_, xs) => (match Nat.beq xs.length rt.n with | true => some xs | false => none)
      | none => none
    | none => none
  | false => none
def dum (B : Bld X D) : List X -> List X
  | [] => [B.c (.bool true)]
  | xs => xs
def retT (B : Bld X D) (S : PS X) (az : List At) : Int -> List RT -> D
  | _, [] => B.fail
  | j, rt :: r => match fitR B S az rt with | some xs => B.ret (B.c (.int .i64 j) :: dum B xs) | none => retT B S az (j + 1) r
def retP (B : Bld X D) (S : PS X) (az : List At) : List RT -> D
  | [rt] => match fitR B S az rt with | some xs => B.ret xs | none => B.fail
  | rts => retT B S az 0 rts
def oneA : List At -> List At
  | [a] => [a]
  | az => az.map At.noOwn
def resH (B : Bld X D) (rts : List RT) (res : List RS) (e : Ex) (S : PS X) : D :=
  match e with
  | .exit _ => B.fail
  | _ => resA B S res fun az S1 => retP B S1 (oneA az) rts
def resE (B : Bld X D) (E : FE) (res : List RS) (e : Ex) (S : PS X) : D :=
  match E.ret with
  | none => resK B E.own res e S
  | some rts => resH B rts res e S
def params : Nat -> List (Nat × Sy)
  | 0 => []
  | n + 1 => params n ++ [(n, .at (.n n false false))]
def entry (n : Nat) : PT := ⟨n, params n, [], 0⟩
def peF (B : Bld X D) (ow : Cfg) (F : AFn) (E : FE) (l : Nat) (xs : List X) : D :=
  match l with
  | 0 => (match Nat.beq xs.length E.ar && Nat.ble E.ar F.n && Nat.beq E.k E.f && E.ret.isNone with
    | true => pe B ow E.lab F.body 2 ((entry E.ar).start xs) (resE B E F.res)
    | false => B.fail)
  | 1 => (match Nat.beq xs.length E.ent.n && Nat.ble E.ar F.n && E.ret.isSome with
    | true => pe B ow E.lab F.body 2 (E.ent.start xs) (resE B E F.res)
    | false => B.fail)
  | l + 2 =>
    match lk E.lab (l + 2) with
    | some T => (match Nat.beq xs.length T.n with
      | true => peAt B ow E.lab (l + 2) F.body 2 (T.start xs) (resE B E F.res)
      | false => B.fail)
    | none => B.fail
end
end Go.Abs
namespace Go.Abs
theorem nf_sl' {v : V} {b : Bool} {sz : Nat} {l : List V} (h : v.nf = .sl b sz l) : b = false /\ ∃ nl xs, v = .sl nl sz xs /\ nfL xs = l /\ (nl = true -> xs = []) := by
  cases v <;> simp_all [V.nf]
  rename_i nl sz' xs
  cases nl <;> cases xs <;> simp_all [V.nf, nfL]
theorem nf_nilptr {v : V} (h : v.nf = .nilptr) : v = .nilptr := by
  cases v <;> simp_all [V.nf]
  all_goals (rename_i nl sz xs; cases nl <;> cases xs <;> simp [V.nf] at h)
theorem nf_nilif {v : V} (h : v.nf = .nilif) : v = .nilif := by
  cases v <;> simp_all [V.nf]
  all_goals (rename_i nl sz xs; cases nl <;> cases xs <;> simp [V.nf] at h)
theorem nf_iface {v w : V} {t : Nat} (h : v.nf = .iface t w) : ∃ u, v = .iface t u := by
  cases v <;> simp_all [V.nf]
  all_goals (rename_i nl sz xs; cases nl <;> cases xs <;> simp [V.nf] at h)
theorem abin_nf {op : BinOp} {q : EqK} (hq : q ≠ .slice) {x y z : V} (h : abin op q x.nf y.nf = some z) : abin op q x y = some z := by
  have key : ∀ v : V, (∃ k n, v = .int k n) \/ (∃ s, v = .str s) \/ ((∀ k n, v ≠ .int k n) /\ (∀ s, v ≠ .str s) /\ (∀ k n, v.nf ≠ .int k n) /\ (∀ s, v.nf ≠ .str s)) := by
    intro v
    cases v with
    | int k n => exact .inl ⟨k, n, rfl⟩
    | str s => exact .inr (.inl ⟨s, rfl⟩)
    | sl nl sz xs => cases nl <;> cases xs <;> exact .inr (.inr ⟨fun _ _ h => (by cases h), fun _ h => (by cases h), fun _ _ h => (by simp [V.nf] at h), fun _ h => (by simp [V.nf] at h)⟩)
    | _ => exact .inr (.inr ⟨fun _ _ h => (by cases h), fun _ h => (by cases h), fun _ _ h => (by simp [V.nf] at h), fun _ h => (by simp [V.nf] at h)⟩)
  have veq : ∀ a b : V, ((∀ k n, a ≠ .int k n) \/ (∀ k n, b ≠ .int k n)) -> ((∀ s, a ≠ .str s) \/ (∀ s, b ≠ .str s)) -> abin op q a b = vEq op (aeq q a b) := by
    intro a b h1 h2
    unfold abin
    split
    . rcases h1 with h1 | h1 <;> exact absurd rfl (h1 _ _)
    . rcases h2 with h2 | h2 <;> exact absurd rfl (h2 _)
    . rfl
  have aeqnf : ∀ {b : Bool}, aeq q x.nf y.nf = some b -> aeq q x y = some b := by
    intro b hb
    cases q with
    | slice => exact absurd rfl hq
    | no => simp [aeq] at hb
    | fn => simp [aeq] at hb
    | bool =>
      cases hx : x.nf <;> rw [hx] at hb <;> cases hy : y.nf <;> rw [hy] at hb <;> simp [aeq] at hb
      rw [nf_bool hx, nf_bool hy]; simp [aeq, hb]
    | flat ks =>
      cases hx : x.nf <;> rw [hx] at hb <;> cases hy : y.nf <;> rw [hy] at hb <;> simp only [aeq, reduceCtorEq] at hb
      obtain ⟨xs, rfl, rfl⟩ := nf_agg hx
      obtain ⟨ys, rfl, rfl⟩ := nf_agg hy
      exact flatEq_nf hb
    | ptr =>
      cases hx : x.nf <;> rw [hx] at hb <;> cases hy : y.nf <;> rw [hy] at hb <;> simp only [aeq, reduceCtorEq] at hb
      . rw [nf_ptr hx, nf_nilptr hy]; exact hb
      . rw [nf_nilptr hx, nf_ptr hy]; exact hb
      . rw [nf_nilptr hx, nf_nilptr hy]; exact hb
    | iface =>
      cases hx : x.nf <;> rw [hx] at hb <;> cases hy : y.nf <;> rw [hy] at hb <;> simp only [aeq, reduceCtorEq] at hb
      . obtain ⟨w, rfl⟩ := nf_iface hx; rw [nf_nilif hy]; exact hb
      . obtain ⟨w, rfl⟩ := nf_iface hy; rw [nf_nilif hx]; exact hb
      . rw [nf_nilif hx, nf_nilif hy]; exact hb
  rcases key x with ⟨k, n, rfl⟩ | ⟨s, rfl⟩ | ⟨x1, x2, x3, x4⟩
  . rcases key y with ⟨k', n', rfl⟩ | ⟨s', rfl⟩ | ⟨y1, y2, y3, y4⟩
    . exact h
    . exact h
    . rw [veq _ _ (.inr y3) (.inr y4)] at h
      rw [veq _ _ (.inr y1) (.inr y2)]
      cases hb : aeq q (V.int k n).nf y.nf with
      | none => rw [hb] at h; cases op <;> simp [vEq] at h
      | some b => rw [aeqnf hb]; rw [hb] at h; exact h
  . rcases key y with ⟨k', n', rfl⟩ | ⟨s', rfl⟩ | ⟨y1, y2, y3, y4⟩
    . exact h
    . exact h
    . rw [veq _ _ (.inr y3) (.inr y4)] at h
      rw [veq _ _ (.inr y1) (.inr y2)]
      cases hb : aeq q (V.str s).nf y.nf with
      | none => rw [hb] at h; cases op <;> simp [vEq] at h
      | some b => rw [aeqnf hb]; rw [hb] at h; exact h
  . rw [veq _ _ (.inl x3) (.inl x4)] at h
    rw [veq _ _ (.inl x1) (.inl x2)]
    cases hb : aeq q x.nf y.nf with
    | none => rw [hb] at h; cases op <;> simp [vEq] at h
    | some b => rw [aeqnf hb]; rw [hb] at h; exact h
def V.flat : V -> Bool
  | .bool _ | .int _ _ | .str _ => true
  | _ => false
theorem flat_nf {v : V} (h : v.flat = true) : v.nf = v /\ v.clean = true /\ v.sc = true := by cases v <;> simp [V.flat] at h <;> exact ⟨rfl, rfl, rfl⟩
theorem abin_flat {op : BinOp} {q : EqK} {x y z : V} (h : abin op q x y = some z) : z.flat = true := by
  have hv : ∀ {b : Option Bool}, vEq op b = some z -> z.flat = true := by
    intro b hb
    cases op <;> simp only [vEq, Option.map_eq_some_iff, reduceCtorEq] at hb <;> obtain ⟨c, _, rfl⟩ := hb <;> rfl
  unfold abin at h
  split at h
  . split at h
    . split at h <;> cases h; rfl
    . split at h <;> cases h; rfl
    . split at h
      . unfold aint at h; split at h <;> (try split at h) <;> first | (cases h; rfl) | cases h
      . cases h
  . unfold astr at h; split at h <;> (try split at h) <;> first | (cases h; rfl) | cases h
  . exact hv h
theorem aun_nf {op : UnOp} {x z : V} (h : aun op x.nf = some z) : aun op x = some z /\ z.flat = true := by
  unfold aun at h
  split at h
  . rename_i hx; rw [nf_int hx]; exact ⟨h, by cases h; rfl⟩
  . rename_i hx; rw [nf_int hx]; exact ⟨h, by cases h; rfl⟩
  . rename_i hx; rw [nf_bool hx]; exact ⟨h, by cases h; rfl⟩
  . cases h
theorem clean_get {l : List V} (h : cleanL l = true) {i : Nat} {v : V} (hi : l[i]? = some v) : v.clean = true := cleanL_iff.1 h v (List.mem_of_getElem? hi)
theorem cleanL_sub {l m : List V} (h : cleanL l = true) (hm : ∀ v ∈ m, v ∈ l) : cleanL m = true := cleanL_iff.2 fun v hv => cleanL_iff.1 h v (hm v hv)
theorem cleanL_take {l : List V} (h : cleanL l = true) (k : Nat) : cleanL (l.take k) = true := cleanL_sub h fun _ hv => List.mem_of_mem_take hv
theorem cleanL_drop {l : List V} (h : cleanL l = true) (k : Nat) : cleanL (l.drop k) = true := cleanL_sub h fun _ hv => List.mem_of_mem_drop hv
theorem clean_cells {v : V} (h : v.clean = true) : cleanL v.cells = true := cleanL_iff.2 (V.clean_cells h)
theorem ldCells_clean {n : Option Nat} {l : List V} {o : Nat} {v : V} (hl : cleanL l = true) (h : ldCells n l o = some v) : v.clean = true := by
  cases n with
  | none => exact clean_get hl h
  | some k =>
    simp only [ldCells] at h
    split at h
    . cases h; exact cleanL_take (cleanL_drop hl _) _
    . cases h
theorem cleanL_setAt {l m : List V} (hl : cleanL l = true) (hm : cleanL m = true) (o : Nat) : cleanL (setAt l o m) = true := by
  unfold setAt; exact clean_app (clean_app (cleanL_take hl _) hm) (cleanL_drop hl _)
theorem cleanL_encB' (l : Bytes) : cleanL (encB l) = true := cleanL_iff.2 fun v hv => by obtain ⟨b, _, rfl⟩ := List.mem_map.1 hv; rfl
theorem vSls_flat {x z : V} {lo hi : Option V} (h : vSls x lo hi = some z) : z.flat = true := by
  unfold vSls at h
  split at h
  . simp only [Option.map_eq_some_iff] at h; obtain ⟨_, _, rfl⟩ := h; rfl
  . cases h
theorem vOpt_nf {x : Option V} {o : Option Int} (h : vOpt (x.map V.nf) = some o) : vOpt x = some o := by
  cases x with
  | none => exact h
  | some v =>
    simp only [Option.map_some] at h
    unfold vOpt at h
    split at h
    . rename_i e; cases e
    . rename_i k n e; injection e with e; rw [nf_int e]; exact h
    . cases h
theorem vSls_nf {x z : V} {lo hi : Option V} (h : vSls x.nf (lo.map V.nf) (hi.map V.nf) = some z) : vSls x lo hi = some z := by
  unfold vSls at h
  split at h
  . rename_i l h' s e1 e2 e3
    rw [nf_str e3]
    simp only [vSls, vOpt_nf e1, vOpt_nf e2]; exact h
  . cases h
theorem vSlc_nf {sz : Nat} {x : V} {z : Res} {lo hi mx : Option V} (hx : x.nf.clean = true) (h : vSlc sz x.nf (lo.map V.nf) (hi.map V.nf) (mx.map V.nf) = some z) :
    ∃ v, vSlc sz x lo hi mx = some ⟨v, mx.isSome, none⟩ /\ v.nf = z.v /\ z.v.clean = true /\ v.sc = true := by
  unfold vSlc at h
  split at h
  . rename_i l h' m nl s xs e1 e2 e3 e4
    obtain ⟨rfl, nl', ys, rfl, rfl, hn⟩ := nf_sl' e4
    split at h
    . rename_i hc
      obtain ⟨rfl, hm⟩ := hc
      simp only [Option.map_eq_some_iff] at h
      obtain ⟨c, h1, rfl⟩ := h
      rw [nfL_length] at h1
      have hmx : mx.isSome = m.isSome := by
        have := vOpt_nf e3
        cases mx with
        | none => simp [vOpt] at this; subst this; rfl
        | some v => unfold vOpt at this; split at this
                    . rename_i e; cases e
                    . cases this; rfl
                    . cases this
      refine ⟨.sl nl' s ((ys.take c.2.1).drop c.1), ?_, ?_, ?_, rfl⟩
      . simp only [vSlc, vOpt_nf e1, vOpt_nf e2, vOpt_nf e3]
        rw [if_pos ⟨trivial, hm⟩, h1, hmx]; rfl
      . rw [sl_nf (fun h => by rw [hn h]; simp), nfL_drop, nfL_take]
      . rw [e4] at hx
        exact cleanL_drop (cleanL_take (by simpa [V.clean] using hx) _) _
    . cases h
  . rename_i e4
    rw [e4] at hx; simp [V.clean] at hx
  . cases h
theorem toBytes_nf : ∀ {l : List V} {b : Bytes}, toBytes (nfL l) = some b -> toBytes l = some b
  | [], _, h => h
  | v :: r, b, h => by
    simp only [nfL] at h
    unfold toBytes at h
    split at h
    . rename_i e; cases e
    . rename_i n r' e
      obtain ⟨e1, rfl⟩ := List.cons.inj e
      rw [nf_int e1]
      simp only [Option.map_eq_some_iff] at h
      obtain ⟨b', h1, h2⟩ := h
      simp only [toBytes, toBytes_nf h1, Option.map_some, h2]
    . cases h
theorem fits_nf' {sz : Nat} : ∀ {xs : List V}, fits sz (nfL xs) = fits sz xs
  | [] => rfl
  | v :: r => by
    have e : (nfL v.cells).all V.sc = v.cells.all V.sc := by rw [nfL_map, List.all_map]; congr 1; funext w; exact nf_sc w
    simp only [nfL, fits_cons, nf_cells, nfL_length, fits_nf' (xs := r), e]
variable {Γ : Abs.Spec} {gl : Glob} {s : St} {d : Option Nat} {g : Option (Nat × Bool)} {a : List Nat}
theorem prim_ok {op : AOp} {p : Prim} {xs : List Opd} {own : Bool} (hp : primOf op = some (p, xs, own)) {ys : List V} (hy : nfL (xs.map (evO s.tm)) = ys) (hc : cleanL ys = true) {z : V} (hz : evp p ys = some z) :
    ∃ v o, exec1 Γ gl ⟨d, op, g, a⟩ s = some (s.put d v o) /\ v.nf = z /\ z.clean = true /\ (own = true -> Own v o) /\ (p.one = true -> v.sc = true) := by
  have fl : ∀ {z : V}, z.flat = true -> z.nf = z /\ z.clean = true /\ (false = true -> Own z false) /\ (p.one = true -> z.sc = true) := fun h => ⟨(flat_nf h).1, (flat_nf h).2.1, fun h => (nomatch h), fun _ => (flat_nf h).2.2⟩
  cases op <;> simp only [primOf, Option.some.injEq, Prod.mk.injEq, reduceCtorEq] at hp
  case ext t i =>
    obtain ⟨rfl, rfl, rfl⟩ := hp
    subst hy
    simp only [List.map_cons, List.map_nil, nfL, evp] at hz
    unfold vExt at hz
    split at hz
    . rename_i vs e
      obtain ⟨cs, he, rfl⟩ := nf_tup e
      simp only [nfL_get, Option.map_eq_some_iff] at hz
      obtain ⟨v, hv, rfl⟩ := hz
      refine ⟨v, false, by rw [e_ext, he, vExt_tup, hv]; rfl, rfl, ?_, fun h => (nomatch h), fun h => (nomatch h)⟩
      simp only [List.map_cons, List.map_nil, nfL, cleanL, Bool.and_true, e, V.clean] at hc
      exact clean_get hc (by rw [nfL_get, hv]; rfl)
    . cases hz
  case bin op q x y =>
    have hq : q ≠ .slice /\ some (Prim.bin op q, [x, y], false) = some (p, xs, own) := by
      cases q <;> simp at hp ⊢ <;> exact hp
    obtain ⟨hq, h⟩ := hq
    cases h
    subst hy
    simp only [List.map_cons, List.map_nil, nfL, evp] at hz
    have h1 := abin_nf hq hz
    obtain ⟨q1, q2, q3, q4⟩ := fl (abin_flat hz)
    exact ⟨z, false, by rw [e_bin, h1]; rfl, q1, q2, q3, q4⟩
  case un op x =>
    obtain ⟨rfl, rfl, rfl⟩ := hp
    subst hy
    simp only [List.map_cons, List.map_nil, nfL, evp] at hz
    obtain ⟨h1, h2⟩ := aun_nf hz
    obtain ⟨q1, q2, q3, q4⟩ := fl h2
    exact ⟨z, false, by rw [e_un, h1]; rfl, q1, q2, q3, q4⟩
  case len sb x =>
    obtain ⟨rfl, rfl, rfl⟩ := hp
    subst hy
    simp only [List.map_cons, List.map_nil, nfL, evp] at hz
    have h1 : vLen sb (evO s.tm x) = some z /\ z.flat = true := by
      unfold vLen at hz
      split at hz
      . rename_i e; rw [nf_str e]; exact ⟨hz, by cases hz; rfl⟩
      . rename_i e
        obtain ⟨_, nl, xs, he, rfl, _⟩ := nf_sl' e
        rw [he]; rw [nfL_length] at hz; exact ⟨hz, by cases hz; rfl⟩
      . rename_i e
        simp only [List.map_cons, List.map_nil, nfL, cleanL, Bool.and_true, e, V.clean] at hc
        cases hc
      . cases hz
    obtain ⟨q1, q2, q3, q4⟩ := fl h1.2
    exact ⟨z, false, by rw [e_len, h1.1]; rfl, q1, q2, q3, q4⟩
  case mnx m x y =>
    obtain ⟨rfl, rfl, rfl⟩ := hp
    subst hy
    simp only [List.map_cons, List.map_nil, nfL, evp] at hz
    have h1 : vMnx m (evO s.tm x) (evO s.tm y) = some z /\ z.flat = true := by
      unfold vMnx at hz
      split at hz
      . rename_i e1 e2; rw [nf_int e1, nf_int e2]
        refine ⟨hz, ?_⟩
        split at hz
        . cases hz; rfl
        . cases hz
      . cases hz
    obtain ⟨q1, q2, q3, q4⟩ := fl h1.2
    exact ⟨z, false, by rw [e_mnx, h1.1]; rfl, q1, q2, q3, q4⟩
  case fld n off x =>
    obtain ⟨rfl, rfl, rfl⟩ := hp
    subst hy
    simp only [List.map_cons, List.map_nil, nfL, evp] at hz
    unfold vFld at hz
    split at hz
    . rename_i cs e
      obtain ⟨ds, he, rfl⟩ := nf_agg e
      obtain ⟨v, h1, h2⟩ := ldCells_nf hz
      refine ⟨v, false, by rw [e_fld, he, vFld_agg, h1]; rfl, h2, ?_, fun h => (nomatch h), fun h => (nomatch h)⟩
      simp only [List.map_cons, List.map_nil, nfL, cleanL, Bool.and_true, e, V.clean] at hc
      exact ldCells_clean hc hz
    . cases hz
  case idx x i =>
    obtain ⟨rfl, rfl, rfl⟩ := hp
    subst hy
    simp only [List.map_cons, List.map_nil, nfL, evp] at hz
    have h1 : vIdx (evO s.tm x) (evO s.tm i) = some z /\ z.flat = true := by
      unfold vIdx at hz
      split at hz
      . rename_i e1 e2; rw [nf_str e1, nf_int e2]
        refine ⟨hz, ?_⟩
        split at hz
        . simp only [Option.map_eq_some_iff] at hz; obtain ⟨_, _, rfl⟩ := hz; rfl
        . cases hz
      . cases hz
    obtain ⟨q1, q2, q3, q4⟩ := fl h1.2
    exact ⟨z, false, by rw [e_idx, h1.1]; rfl, q1, q2, q3, q4⟩
  case idxa l sz n x i =>
    obtain ⟨rfl, rfl, rfl⟩ := hp
    subst hy
    simp only [List.map_cons, List.map_nil, nfL, evp] at hz
    unfold vIdxa at hz
    split at hz
    . rename_i cs _ j e1 e2
      obtain ⟨ds, he, rfl⟩ := nf_agg e1
      split at hz
      . rename_i hj
        obtain ⟨v, h1, h2⟩ := ldCells_nf hz
        refine ⟨v, false, by rw [e_idxa, he, nf_int e2]; simp [vIdxa, hj, h1], h2, ?_, fun h => (nomatch h), fun h => (nomatch h)⟩
        simp only [List.map_cons, List.map_nil, nfL, cleanL, Bool.and_true, e1, V.clean, Bool.and_eq_true] at hc
        exact ldCells_clean hc.1 hz
      . cases hz
    . cases hz
  case sls x lo hi =>
    obtain ⟨rfl, rfl, rfl⟩ := hp
    subst hy
    have h1 : vSls (evO s.tm x).nf ((lo.map (evO s.tm)).map V.nf) ((hi.map (evO s.tm)).map V.nf) = some z := by
      cases lo <;> cases hi <;> simpa [nfL, evp, vSlsC, optL] using hz
    obtain ⟨q1, q2, q3, q4⟩ := fl (vSls_flat h1)
    exact ⟨z, false, by rw [e_sls, vSls_nf h1]; rfl, q1, q2, q3, q4⟩
  case slc sz x lo hi mx =>
    obtain ⟨rfl, rfl, rfl⟩ := hp
    subst hy
    have h1 : ∃ r, vSlc sz (evO s.tm x).nf ((lo.map (evO s.tm)).map V.nf) ((hi.map (evO s.tm)).map V.nf) ((mx.map (evO s.tm)).map V.nf) = some r /\ r.v = z := by
      cases lo <;> cases hi <;> cases mx <;> (simp [nfL, evp, vSlcC, optL] at hz ⊢ <;> exact hz)
    obtain ⟨r, h1, rfl⟩ := h1
    have hx : (evO s.tm x).nf.clean = true := by
      simp only [List.map_cons, nfL, cleanL, Bool.and_eq_true] at hc; exact hc.1
    obtain ⟨v, q1, q2, q3, q4⟩ := vSlc_nf hx h1
    refine ⟨v, mx.isSome, by rw [e_slc, q1]; cases mx <;> rfl, q2, q3, fun h => .inl h, fun _ => q4⟩
  case bsl sz xs' =>
    obtain ⟨rfl, rfl, rfl⟩ := hp
    subst hy
    simp only [evp] at hz
    split at hz
    . rename_i hf
      cases hz
      rw [fits_nf'] at hf
      exact ⟨.sl false sz (xs'.map (evO s.tm)), true, by rw [e_bsl, if_pos hf]; rfl, rfl, by simpa [V.clean] using hc, fun _ => .inl rfl, fun _ => rfl⟩
    . cases hz
  case mks sz z0 l c =>
    obtain ⟨rfl, rfl, rfl⟩ := hp
    subst hy
    simp only [List.map_cons, List.map_nil, nfL, evp, Option.map_eq_some_iff] at hz
    obtain ⟨r, hr, rfl⟩ := hz
    have h1 : vMks sz (evO s.tm l) (evO s.tm c) = some r /\ r = ⟨.sl false sz [], true, none⟩ := by
      unfold vMks at hr
      split at hr
      . rename_i e1 e2; rw [nf_int e1, nf_int e2]
        refine ⟨hr, ?_⟩
        split at hr
        . cases hr; rfl
        . cases hr
      . cases hr
    obtain ⟨h1, rfl⟩ := h1
    exact ⟨_, true, by rw [e_mks, h1]; rfl, rfl, rfl, fun _ => .inl rfl, fun _ => rfl⟩
  case s2b x =>
    obtain ⟨rfl, rfl, rfl⟩ := hp
    subst hy
    simp only [List.map_cons, List.map_nil, nfL, evp, Option.map_eq_some_iff] at hz
    obtain ⟨r, hr, rfl⟩ := hz
    unfold vS2b at hr
    split at hr
    . rename_i b e
      cases hr
      exact ⟨.sl false 1 (encB b), true, by rw [e_s2b, nf_str e]; rfl, by show V.sl false 1 (nfL (encB b)) = _; rw [nf_encB], cleanL_encB' b, fun _ => .inl rfl, fun _ => rfl⟩
    . cases hr
  case b2s x =>
    obtain ⟨rfl, rfl, rfl⟩ := hp
    subst hy
    simp only [List.map_cons, List.map_nil, nfL, evp] at hz
    unfold vB2s at hz
    split at hz
    . rename_i nl xs e
      obtain ⟨_, nl', ys, he, rfl, _⟩ := nf_sl' e
      simp only [Option.map_eq_some_iff] at hz
      obtain ⟨b, hb, rfl⟩ := hz
      exact ⟨.str b, false, by rw [e_b2s, he]; simp [vB2s, toBytes_nf hb], rfl, rfl, fun h => (nomatch h), fun _ => rfl⟩
    . rename_i e
      simp only [List.map_cons, List.map_nil, nfL, cleanL, e, V.clean] at hc
      simp at hc
    . cases hz
  case i2i k x =>
    obtain ⟨rfl, rfl, rfl⟩ := hp
    subst hy
    simp only [List.map_cons, List.map_nil, nfL, evp] at hz
    unfold vI2i at hz
    split at hz
    . rename_i e
      cases hz
      exact ⟨_, false, by rw [e_i2i, nf_int e]; rfl, rfl, rfl, fun h => (nomatch h), fun _ => rfl⟩
    . cases hz
  case s2s x =>
    obtain ⟨rfl, rfl, rfl⟩ := hp
    subst hy
    simp only [List.map_cons, List.map_nil, nfL, evp] at hz
    unfold vS2s at hz
    split at hz
    . rename_i e
      cases hz
      exact ⟨_, false, by rw [e_s2s, nf_str e]; rfl, rfl, rfl, fun h => (nomatch h), fun _ => rfl⟩
    . cases hz
  case mkf f xs' =>
    obtain ⟨rfl, rfl, rfl⟩ := hp
    subst hy
    simp only [evp, Option.some.injEq] at hz
    subst hz
    exact ⟨.fn f (xs'.map (evO s.tm)), false, e_mkf f xs', rfl, by simpa [V.clean] using hc, fun h => (nomatch h), fun _ => rfl⟩
end Go.Abs
namespace Go.Abs
def fnV (m : Bool) (f : Nat) (cs : List V) : V := match m with | true => .mfn f cs | false => .fn f cs
def PsS (ι : List Nat) : List (Nat × Nat) -> List V -> Prop
  | [], cs => cs = []
  | p :: ps, cs => ∃ id cs', ι[p.1]? = some id /\ cs = .ptr id p.2 :: cs' /\ PsS ι ps cs'
def AtS (ι : List Nat) (vs : List V) (a : At) (v : V) (o : Bool) : Prop :=
  match a with
  | .c w own => v.nf = w /\ w.clean = true /\ (own = true -> ∃ sz, v = .sl true sz [])
  | .n i own sc => vs[i]? = some v.nf /\ (own = true -> Own v o) /\ (sc = true -> v.sc = true)
  | .ptr k off => ∃ id, ι[k]? = some id /\ v = .ptr id off
  | .ptd k base i sz => ∃ id kd j, ι[k]? = some id /\ vs[i]? = some (.int kd j) /\ v = .ptr id (base + j.toNat * sz)
  | .gp g off => v = .gp g off
  | .gpd g base i sz => ∃ kd j, vs[i]? = some (.int kd j) /\ v = .gp g (base + j.toNat * sz)
  | .el i off => ∃ x, vs[i]? = some x /\ v.nf = .el x.cells off
  | .osl k off len cap sz => ∃ id, ι[k]? = some id /\ v = .osl id off len cap sz
  | .osx k i sz => ∃ id n cap, ι[k]? = some id /\ vs[i]? = some (.int .i64 n) /\ 0 <= n /\ v = .osl id 0 n.toNat cap sz /\ n.toNat <= cap
  | .osr k j i sz => ∃ id m kd p cap, ι[k]? = some id /\ vs[j]? = some (.int .i64 m) /\ vs[i]? = some (.int kd p) /\ 0 <= p /\ p < m /\ v = .osl id (p.toNat * sz) (m.toNat - p.toNat) cap sz
  | .osc k off n i sz => ∃ id kd j cap, ι[k]? = some id /\ vs[i]? = some (.int kd j) /\ 0 <= j /\ j < n /\ v = .osl id (off + j.toNat * sz) (n - j.toNat) cap sz
  | .fp m f ps => ∃ cs, v = fnV m f cs /\ PsS ι ps cs
  | .osv k i j sz => ∃ id a b cap, ι[k]? = some id /\ vs[i]? = some (.int .i64 a) /\ vs[j]? = some (.int .i64 b) /\ 0 <= a /\ a <= b /\ v = .osl id (a.toNat * sz) (b.toNat - a.toNat) cap sz /\ b.toNat - a.toNat <= cap
  | .mpp k => ∃ id, ι[k]? = some id /\ v = .map id
  | .mpc _ => False
  | .nil => v = Nil
def AtV (vs : List V) (a : At) (w : V) : Prop :=
  match a with
  | .c v _ => v = w /\ v.clean = true
  | .n i _ _ => vs[i]? = some w
  | _ => False
def SegsS (ι : List Nat) (vs : List V) : List Seg -> List V -> (Nat -> Bool) -> Nat -> Prop
  | [], cs, _, _ => cs = []
  | .one a :: r, cs, ow, j => ∃ c cs', cs = c :: cs' /\ AtS ι vs a c (ow j) /\ c.sc = true /\ SegsS ι vs r cs' ow (j + 1)
  | .many n a :: r, cs, ow, j => ∃ l cs' w, cs = l ++ cs' /\ (∀ m, n = some m -> l.length = m) /\ (n = none -> r = []) /\ l.all V.sc = true /\ AtV vs a w /\ nfL l = w.cells /\ SegsS ι vs r cs' ow (j + l.length)
def AtsS (ι : List Nat) (vs : List V) : List At -> List V -> Prop
  | [], ws => ws = []
  | a :: az, ws => ∃ w ws', ws = w :: ws' /\ AtS ι vs a w false /\ AtsS ι vs az ws'
def SyS (ι : List Nat) (vs : List V) (y : Sy) (v : V) (o : Bool) : Prop :=
  match y with
  | .at a => AtS ι vs a v o
  | .agg ss z => (∃ cs, v = .agg cs /\ SegsS ι vs ss cs (fun _ => false) 0) /\ ∀ i, z = some i -> vs[i]? = some v.nf
  | .tup az => ∃ ws, v = .tup ws /\ AtsS ι vs az ws
inductive ObS (ι : List Nat) (vs : List V) : List Seg -> Hp -> (Nat -> Bool) -> Nat -> Prop
  | cs {ss : List Seg} {H : Hp} {ow : Nat -> Bool} {id : Nat} (cs : List V) (h : hCells H id = some cs) (hs : SegsS ι vs ss cs ow 0) : ObS ι vs ss H ow id
  | mp {H : Hp} {ow : Nat -> Bool} {id i : Nat} (l : List (V × V)) (h : hMap H id = some l) (hs : vs[i]? = some (mpV l).nf) : ObS ι vs [.one (.mpc i)] H ow id
theorem ObS.cob {ι : List Nat} {vs : List V} {ss : List Seg} {H : Hp} {ow : Nat -> Bool} {id : Nat} (h : ObS ι vs ss H ow id) (hn : ∀ i, ss ≠ [.one (.mpc i)]) : ∃ cs, hCells H id = some cs /\ SegsS ι vs ss cs ow 0 := by
  cases h with
  | cs cs h hs => exact ⟨cs, h, hs⟩
  | mp l h hs => exact absurd rfl (hn _)
theorem ObS.map {ι : List Nat} {vs : List V} {i : Nat} {H : Hp} {ow : Nat -> Bool} {id : Nat} (h : ObS ι vs [.one (.mpc i)] H ow id) : ∃ l, hMap H id = some l /\ vs[i]? = some (mpV l).nf := by
  cases h with
  | cs cs h hs => obtain ⟨c, cs', _, hf, _⟩ := hs; exact hf.elim
  | mp l h hs => exact ⟨l, h, hs⟩
theorem hMap_eqH {H H' : Hp} {id : Nat} (h : H id = H' id) : hMap H id = hMap H' id := by unfold hMap; rw [h]
structure Fc where
  ids : List Nat
  hs : HS
def Frame (c : Fc) (H : Hp) (co : Nat -> Nat -> Bool) : Prop := ∀ id, id < c.hs.nH -> id ∉ c.ids -> H id = c.hs.H id /\ ∀ j, co id j = c.hs.co id j
structure Sat (c : Fc) (S : PS V) (ι : List Nat) (s : St) : Prop where
  tm : ∀ t y, S.get t = some y -> SyS ι S.vals y (s.tm t) (s.own (.slot t))
  ob : ∀ k ss, S.obj k = some ss -> ∃ id, ι[k]? = some id /\ ObS ι S.vals ss s.H (fun j => s.own (.cell id j)) id
  nd : ι.Nodup
  lt : ∀ id ∈ ι, id < s.nH
  len : ι.length = S.ob.length
  lits : ∀ i b, lk S.lits i = some b -> S.vals[i]? = some (.bool b)
  cln : ∀ x ∈ S.vals, x.clean = true
  g : c.ids.length = S.g
  pre : ∀ (k id : Nat), c.ids[k]? = some id -> ι[k]? = some id
  new : ∀ (k id : Nat), ι[k]? = some id -> S.g <= k -> c.hs.nH <= id
  nH : c.hs.nH <= s.nH
  fr : Frame c s.H fun i j => s.own (.cell i j)
theorem cob_ne {X : Type} {S : PS X} {o : Nat} {ss : List Seg} (h : S.cob o = some ss) : S.obj o = some ss /\ ∀ i, ss ≠ [.one (.mpc i)] := by
  unfold PS.cob at h
  split at h
  . cases h
  . rename_i hn; exact ⟨h, fun i e => hn i (by rw [h, e])⟩
theorem Sat.cob {c : Fc} {S : PS V} {ι : List Nat} {s : St} (h : Sat c S ι s) (k : Nat) (ss : List Seg) (hk : S.cob k = some ss) : ∃ id cs, ι[k]? = some id /\ hCells s.H id = some cs /\ SegsS ι S.vals ss cs (fun j => s.own (.cell id j)) 0 := by
  obtain ⟨e, hn⟩ := cob_ne hk
  obtain ⟨id, h1, h2⟩ := h.ob k ss e
  obtain ⟨cs, h3, h4⟩ := h2.cob hn
  exact ⟨id, cs, h1, h3, h4⟩
theorem Sat.mpo {c : Fc} {S : PS V} {ι : List Nat} {s : St} (h : Sat c S ι s) {k i : Nat} (hk : S.mpo k = some i) : ∃ id l, ι[k]? = some id /\ hMap s.H id = some l /\ S.vals[i]? = some (mpV l).nf := by
  unfold PS.mpo at hk
  split at hk
  . rename_i e
    cases hk
    obtain ⟨id, h1, h2⟩ := h.ob k _ e
    obtain ⟨l, h3, h4⟩ := h2.map
    exact ⟨id, l, h1, h3, h4⟩
  . cases hk
def Pre (vs vs' : List V) : Prop := ∀ (i : Nat) (x : V), vs[i]? = some x -> vs'[i]? = some x
def PreN (ι ι' : List Nat) : Prop := ∀ (i x : Nat), ι[i]? = some x -> ι'[i]? = some x
theorem Pre.refl (vs : List V) : Pre vs vs := fun _ _ h => h
theorem PreN.refl (vs : List Nat) : PreN vs vs := fun _ _ h => h
theorem Pre.trans {a b c : List V} (h : Pre a b) (k : Pre b c) : Pre a c := fun i x hi => k i x (h i x hi)
theorem Pre.app (a b : List V) : Pre a (a ++ b) := fun i x hi => by
  rw [List.getElem?_append_left (List.getElem?_eq_some_iff.1 hi).1]; exact hi
theorem PreN.app (a b : List Nat) : PreN a (a ++ b) := fun i x hi => by
  rw [List.getElem?_append_left (List.getElem?_eq_some_iff.1 hi).1]; exact hi
theorem PsS.mono {ι ι' : List Nat} (h1 : PreN ι ι') : ∀ {ps : List (Nat × Nat)} {cs : List V}, PsS ι ps cs -> PsS ι' ps cs
  | [], _, h => h
  | _ :: _, _, ⟨id, cs', h3, h4, h5⟩ => ⟨id, cs', h1 _ _ h3, h4, PsS.mono h1 h5⟩
theorem AtS.mono {ι ι' : List Nat} {vs vs' : List V} (h1 : PreN ι ι') (h2 : Pre vs vs') {a : At} {v : V} {o : Bool} (h : AtS ι vs a v o) : AtS ι' vs' a v o := by
  cases a with
  | c w own => exact h
  | n i own sc => exact ⟨h2 _ _ h.1, h.2⟩
  | ptr k off => obtain ⟨id, h3, h4⟩ := h; exact ⟨id, h1 _ _ h3, h4⟩
  | ptd k b i sz => obtain ⟨id, kd, j, h3, h4, h5⟩ := h; exact ⟨id, kd, j, h1 _ _ h3, h2 _ _ h4, h5⟩
  | gp g off => exact h
  | gpd g b i sz => obtain ⟨kd, j, h4, h5⟩ := h; exact ⟨kd, j, h2 _ _ h4, h5⟩
  | fp m f ps => obtain ⟨cs, h3, h4⟩ := h; exact ⟨cs, h3, h4.mono h1⟩
  | osv k i j sz => obtain ⟨id, a, b, cap, h3, h4, h5, h6⟩ := h; exact ⟨id, a, b, cap, h1 _ _ h3, h2 _ _ h4, h2 _ _ h5, h6⟩
  | mpp k => obtain ⟨id, h3, h4⟩ := h; exact ⟨id, h1 _ _ h3, h4⟩
  | mpc i => exact h
  | el i off => obtain ⟨x, h3, h4⟩ := h; exact ⟨x, h2 _ _ h3, h4⟩
  | osl k off n c sz => obtain ⟨id, h3, h4⟩ := h; exact ⟨id, h1 _ _ h3, h4⟩
  | osx k i sz => obtain ⟨id, n, cap, h3, h4, h5⟩ := h; exact ⟨id, n, cap, h1 _ _ h3, h2 _ _ h4, h5⟩
  | osr k j i sz => obtain ⟨id, m, kd, p, cap, h3, h4, h5, h6⟩ := h; exact ⟨id, m, kd, p, cap, h1 _ _ h3, h2 _ _ h4, h2 _ _ h5, h6⟩
  | osc k off n i sz => obtain ⟨id, kd, j, cap, h3, h4, h5⟩ := h; exact ⟨id, kd, j, cap, h1 _ _ h3, h2 _ _ h4, h5⟩
  | nil => exact h
theorem AtV.mono {vs vs' : List V} (h2 : Pre vs vs') {a : At} {v : V} (h : AtV vs a v) : AtV vs' a v := by
  cases a <;> first | exact h | exact h2 _ _ h
theorem SegsS.mono {ι ι' : List Nat} {vs vs' : List V} (h1 : PreN ι ι') (h2 : Pre vs vs') {ow : Nat -> Bool} : ∀ {ss : List Seg} {cs : List V} {j : Nat}, SegsS ι vs ss cs ow j -> SegsS ι' vs' ss cs ow j
  | [], _, _, h => h
  | .one a :: r, _, _, ⟨c, cs', e, h3, h4, h5⟩ => ⟨c, cs', e, h3.mono h1 h2, h4, SegsS.mono h1 h2 h5⟩
  | .many n a :: r, _, _, ⟨l, cs', w, e, h3, h4, h5, h6, h7, h8⟩ => ⟨l, cs', w, e, h3, h4, h5, h6.mono h2, h7, SegsS.mono h1 h2 h8⟩
theorem ObS.mono {ι ι' : List Nat} {vs vs' : List V} (h1 : PreN ι ι') (h2 : Pre vs vs') {ss : List Seg} {H H' : Hp} {ow : Nat -> Bool} {id : Nat} (h : ObS ι vs ss H ow id) (hH : H' id = H id) : ObS ι' vs' ss H' ow id := by
  cases h with
  | cs cs h hs =>
    refine .cs cs ?_ (hs.mono h1 h2)
    unfold hCells at h ⊢; rw [hH]; exact h
  | mp l h hs => exact .mp l ((hMap_eqH hH).trans h) (h2 _ _ hs)
theorem ObS.to {ι ι' : List Nat} {vs vs' : List V} {ss : List Seg} {H H' : Hp} {ow ow' : Nat -> Bool} {id : Nat} (h : ObS ι vs ss H ow id) (h1 : PreN ι ι') (h2 : Pre vs vs') (hH : H' id = H id) (ho : ∀ j, ow' j = ow j) : ObS ι' vs' ss H' ow' id := by
  have : ow' = ow := funext ho
  subst this
  exact h.mono h1 h2 hH
theorem AtsS.mono {ι ι' : List Nat} {vs vs' : List V} (h1 : PreN ι ι') (h2 : Pre vs vs') : ∀ {az : List At} {ws : List V}, AtsS ι vs az ws -> AtsS ι' vs' az ws
  | [], _, h => h
  | _ :: _, _, ⟨w, ws', e, h3, h4⟩ => ⟨w, ws', e, h3.mono h1 h2, AtsS.mono h1 h2 h4⟩
theorem SyS.mono {ι ι' : List Nat} {vs vs' : List V} (h1 : PreN ι ι') (h2 : Pre vs vs') {y : Sy} {v : V} {o : Bool} (h : SyS ι vs y v o) : SyS ι' vs' y v o := by
  cases y with
  | «at» a => exact AtS.mono h1 h2 h
  | agg ss z =>
    obtain ⟨⟨cs, e, h3⟩, h4⟩ := h
    exact ⟨⟨cs, e, h3.mono h1 h2⟩, fun i hi => h2 _ _ (h4 i hi)⟩
  | tup az => obtain ⟨ws, e, h3⟩ := h; exact ⟨ws, e, h3.mono h1 h2⟩
theorem AtS.noOwn {ι : List Nat} {vs : List V} {a : At} {v : V} {o : Bool} (h : AtS ι vs a v o) (o' : Bool) : AtS ι vs a.noOwn v o' := by
  cases a <;> first | exact h | exact ⟨h.1, fun h => (nomatch h), h.2.2⟩
theorem AtV.noOwn {vs : List V} {a : At} {v : V} (h : AtV vs a v) : AtV vs a.noOwn v := by cases a <;> exact h
theorem SegsS.noOwn {ι : List Nat} {vs : List V} {ow : Nat -> Bool} (ow' : Nat -> Bool) (j' : Nat) : ∀ {ss : List Seg} {cs : List V} {j : Nat}, SegsS ι vs ss cs ow j -> ∀ j', SegsS ι vs (ss.map Seg.noOwn) cs ow' j'
  | [], _, _, h, _ => h
  | .one a :: r, _, _, ⟨c, cs', e, h3, h4, h5⟩, _ => ⟨c, cs', e, h3.noOwn _, h4, SegsS.noOwn ow' j' h5 _⟩
  | .many n a :: r, _, _, ⟨l, cs', w, e, h3, h4, h5, h6, h7, h8⟩, _ => ⟨l, cs', w, e, h3, fun hn => by rw [h4 hn]; rfl, h5, h6.noOwn, h7, SegsS.noOwn ow' j' h8 _⟩
theorem AtsS.noOwn {ι : List Nat} {vs : List V} : ∀ {az : List At} {ws : List V}, AtsS ι vs az ws -> AtsS ι vs (az.map At.noOwn) ws
  | [], _, h => h
  | _ :: _, _, ⟨w, ws', e, h3, h4⟩ => ⟨w, ws', e, h3.noOwn _, AtsS.noOwn h4⟩
theorem SyS.noOwn {ι : List Nat} {vs : List V} {y : Sy} {v : V} {o : Bool} (h : SyS ι vs y v o) (o' : Bool) : SyS ι vs y.noOwn v o' := by
  cases y with
  | «at» a => exact AtS.noOwn h o'
  | agg ss z =>
    obtain ⟨⟨cs, e, h3⟩, h4⟩ := h
    exact ⟨⟨cs, e, h3.noOwn _ 0 _⟩, h4⟩
  | tup az => obtain ⟨ws, e, h3⟩ := h; exact ⟨ws, e, h3.noOwn⟩
theorem SegsS.ow {ι : List Nat} {vs : List V} {ow ow' : Nat -> Bool} : ∀ {ss : List Seg} {cs : List V} {j : Nat}, SegsS ι vs ss cs ow j -> (∀ i, j <= i -> i < j + cs.length -> ow' i = ow i) -> SegsS ι vs ss cs ow' j
  | [], _, _, h, _ => h
  | .one a :: r, _, _, ⟨c, cs', e, h3, h4, h5⟩, ho => by
    subst e
    refine ⟨c, cs', rfl, ?_, h4, SegsS.ow h5 fun i h6 h7 => ho i (by omega) (by simp; omega)⟩
    rw [ho _ (by omega) (by simp)]; exact h3
  | .many n a :: r, _, _, ⟨l, cs', w, e, h3, h4, h5, h6, h7, h8⟩, ho => by
    subst e
    exact ⟨l, cs', w, rfl, h3, h4, h5, h6, h7, SegsS.ow h8 fun i h9 h10 => ho i (by omega) (by simp; omega)⟩
theorem AtS.owned {ι : List Nat} {vs : List V} {a : At} {v : V} {o : Bool} (h : AtS ι vs a v o) (ho : a.owned = true) : Own v o := by
  cases a <;> simp [At.owned] at ho
  . obtain ⟨sz, e⟩ := h.2.2 ho; exact .inr ⟨sz, e⟩
  . exact h.2.1 ho
theorem AtS.one {ι : List Nat} {vs : List V} {a : At} {v : V} {o : Bool} (h : AtS ι vs a v o) (ho : a.one = true) : v.sc = true := by
  cases a <;> simp [At.one] at ho
  . rw [<- nf_sc, h.1]; exact ho
  . exact h.2.2 ho
  . obtain ⟨id, _, e⟩ := h; rw [e]; rfl
  . rw [show v = _ from h]; rfl
  . obtain ⟨cs, e, _⟩ := h; rw [e]; unfold fnV; split <;> rfl
  . obtain ⟨id, _, e⟩ := h; rw [e]; rfl
variable {c : Fc} {ι : List Nat} {s : St} {S : PS V}
theorem lk_cons {α : Type} (k : Nat) (a : α) (l : List (Nat × α)) (t : Nat) : lk ((k, a) :: l) t = if k = t then some a else lk l t := by
  unfold lk
  cases h : Nat.beq k t with
  | true => rw [if_pos (Nat.eq_of_beq_eq_true h)]
  | false => rw [if_neg (Nat.ne_of_beq_eq_false h)]; cases l <;> rfl
theorem get_put {X : Type} (S : PS X) (d : Option Nat) (y : Sy) (t : Nat) : (S.put d y).get t = if d = some t then some y else S.get t := by
  cases d with
  | none => simp [PS.put]
  | some d => simp only [PS.put, PS.get, lk_cons, Option.some.injEq]
theorem constAt_ok {v : V} {a : At} (h : constAt v = some a) (o : Bool) (vs : List V) : AtS ι vs a v o := by
  unfold constAt at h
  split at h
  . cases h; rfl
  . split at h
    . rename_i hc
      cases h
      refine ⟨rfl, ?_, fun h => ?_⟩
      . exact hc
      . unfold V.isNilSl at h
        split at h
        . exact ⟨_, rfl⟩
        . cases h
    . cases h
theorem Sat.opd (h : Sat c S ι s) {x : Opd} {y : Sy} (hx : S.opd x = some y) : SyS ι S.vals y (evO s.tm x) (ownO s.own x) := by
  cases x with
  | tmp t => exact h.tm t y hx
  | const v =>
    simp only [PS.opd, Option.map_eq_some_iff] at hx
    obtain ⟨a, ha, rfl⟩ := hx
    exact constAt_ok ha _ _
theorem Sat.valV {a : At} {w x : V} (h : Sat c S ι s) (ha : AtV S.vals a w) {Γ : Gam} {f : Nat} (hx : S.valA (BV Γ f) a = some x) : x = w /\ x.clean = true := by
  cases a with
  | c v o =>
    simp only [PS.valA, Option.some.injEq] at hx
    subst hx; exact ha
  | n i o sc =>
    simp only [PS.valA] at hx
    split at hx
    . rename_i b hb
      have := h.lits i b hb
      rw [show S.vals[i]? = some w from ha] at this
      cases hx; cases this; exact ⟨rfl, rfl⟩
    . rw [show S.vals[i]? = some w from ha] at hx
      cases hx; exact ⟨rfl, h.cln _ (List.mem_of_getElem? ha)⟩
  | _ => exact ha.elim
theorem AtS.toV {vs : List V} {a : At} {v : V} {o : Bool} (h : AtS ι vs a v o) {X : Type} {D : Type} {B : Bld X D} {S' : PS X} {x : X} (hx : S'.valA B a = some x) : AtV vs a v.nf := by
  cases a <;> simp [PS.valA] at hx
  . exact ⟨h.1.symm, h.2.1⟩
  . exact h.1
theorem Sat.val {a : At} {v x : V} {o : Bool} (h : Sat c S ι s) (ha : AtS ι S.vals a v o) {Γ : Gam} {f : Nat} (hx : S.valA (BV Γ f) a = some x) : x = v.nf /\ x.clean = true := h.valV (ha.toV hx) hx
structure Ext (S S' : PS V) : Prop where
  tm : S'.tm = S.tm
  ob : S'.ob = S.ob
  lits : S'.lits = S.lits
  vals : ∃ l, S'.vals = S.vals ++ l
  g : S'.g = S.g
theorem Ext.refl (S : PS V) : Ext S S := ⟨rfl, rfl, rfl, ⟨[], by simp⟩, rfl⟩
theorem Ext.trans {A B C : PS V} (h : Ext A B) (k : Ext B C) : Ext A C := ⟨k.tm.trans h.tm, k.ob.trans h.ob, k.lits.trans h.lits, by
  obtain ⟨l, hl⟩ := h.vals; obtain ⟨m, hm⟩ := k.vals; exact ⟨l ++ m, by rw [hm, hl]; simp⟩, k.g.trans h.g⟩
theorem Ext.pre {S S' : PS V} (h : Ext S S') : Pre S.vals S'.vals := by obtain ⟨l, hl⟩ := h.vals; rw [hl]; exact .app _ _
theorem Ext.get {S S' : PS V} (h : Ext S S') (t : Nat) : S'.get t = S.get t := by simp only [PS.get, h.tm]
theorem Ext.obj {S S' : PS V} (h : Ext S S') (t : Nat) : S'.obj t = S.obj t := by simp only [PS.obj, h.ob]
theorem Ext.opd {S S' : PS V} (h : Ext S S') (x : Opd) : S'.opd x = S.opd x := by cases x <;> simp only [PS.opd, h.get]
theorem Ext.push (S : PS V) (x : V) : Ext S (S.push x) := ⟨rfl, rfl, rfl, ⟨[x], rfl⟩, rfl⟩
theorem push_get (S : PS V) (x : V) : (S.push x).vals[S.nx]? = some x := by simp [PS.push, PS.nx]
theorem Sat.ext {S' : PS V} (h : Sat c S ι s) (he : Ext S S') (hc : ∀ x ∈ S'.vals, x.clean = true) : Sat c S' ι s where
  tm t y hy := by rw [he.get] at hy; exact (h.tm t y hy).mono (.refl _) he.pre
  ob k ss hk := by
    rw [he.obj] at hk
    obtain ⟨id, h1, h2⟩ := h.ob k ss hk
    exact ⟨id, h1, h2.mono (.refl _) he.pre rfl⟩
  nd := h.nd
  lt := h.lt
  len := by rw [he.ob]; exact h.len
  lits i b hb := by rw [he.lits] at hb; exact he.pre _ _ (h.lits i b hb)
  cln := hc
  g := by rw [he.g]; exact h.g
  pre := h.pre
  new := by rw [he.g]; exact h.new
  nH := h.nH
  fr := h.fr
theorem Sat.push (h : Sat c S ι s) {x : V} (hx : x.clean = true) : Sat c (S.push x) ι s := h.ext (.push S x) fun y hy => by
  rcases List.mem_append.1 hy with hy | hy
  . exact h.cln y hy
  . simp at hy; rw [hy]; exact hx
theorem catV_nf : ∀ {ns : List (Option Nat)} {xs l : List V}, catV ns xs = some l -> cleanL xs = true -> cleanL l = true
  | [], [], l, h, _ => by cases h; rfl
  | none :: ns, x :: xs, l, h, hc => by
    simp only [catV] at h
    split at h
    . simp only [Option.map_eq_some_iff] at h
      obtain ⟨m, h1, rfl⟩ := h
      simp only [cleanL, Bool.and_eq_true] at hc ⊢
      exact ⟨hc.1, catV_nf h1 hc.2⟩
    . cases h
  | some n :: ns, x :: xs, l, h, hc => by
    simp only [catV] at h
    split at h
    . simp only [Option.map_eq_some_iff] at h
      obtain ⟨m, h1, rfl⟩ := h
      simp only [cleanL, Bool.and_eq_true] at hc
      exact clean_app (clean_cells hc.1) (catV_nf h1 hc.2)
    . cases h
  | [], _ :: _, _, h, _ => by cases h
  | none :: _, [], _, h, _ => by cases h
  | some _ :: _, [], _, h, _ => by cases h
theorem Sat.segVals (h : Sat c S ι s) {Γ : Gam} {f : Nat} {ow : Nat -> Bool} : ∀ {ss : List Seg} {cs : List V} {j : Nat} {ns : List (Option Nat)} {xs l : List V}, SegsS ι S.vals ss cs ow j -> segVals (BV Γ f) S ss = some (ns, xs) -> catV ns xs = some l ->
    nfL cs = l /\ cleanL xs = true
  | [], _, _, _, _, _, h1, h2, h3 => by
    simp only [Abs.segVals, Option.some.injEq, Prod.mk.injEq] at h2
    obtain ⟨rfl, rfl⟩ := h2
    cases h3
    rw [show _ = [] from h1]; exact ⟨rfl, rfl⟩
  | .one a :: r, _, _, _, _, _, ⟨c, cs', e, q1, q2, q3⟩, h2, h3 => by
    simp only [Abs.segVals] at h2
    split at h2
    . rename_i x _ ns xs hx hr
      cases h2
      simp only [catV] at h3
      split at h3
      . simp only [Option.map_eq_some_iff] at h3
        obtain ⟨m, h4, rfl⟩ := h3
        obtain ⟨q4, q5⟩ := h.segVals q3 hr h4
        obtain ⟨rfl, q6⟩ := h.val q1 hx
        subst e
        exact ⟨by rw [nfL, q4], by simp only [cleanL, q6, q5, Bool.and_self]⟩
      . cases h3
    . cases h2
  | .many (some n) a :: r, _, _, _, _, _, ⟨l', cs', w, e, q1, q2, q3, q4, q5, q6⟩, h2, h3 => by
    simp only [Abs.segVals] at h2
    split at h2
    . rename_i x _ ns xs hx hr
      cases h2
      simp only [catV] at h3
      split at h3
      . simp only [Option.map_eq_some_iff] at h3
        obtain ⟨m, h4, rfl⟩ := h3
        obtain ⟨q7, q8⟩ := h.segVals q6 hr h4
        obtain ⟨rfl, q9⟩ := h.valV q4 hx
        subst e
        exact ⟨by rw [nfL_append, q7, q5], by simp only [cleanL, q9, q8, Bool.and_self]⟩
      . cases h3
    . cases h2
  | .many none a :: r, _, _, _, _, _, _, h2, _ => by simp [Abs.segVals] at h2
theorem Sat.mat (h : Sat c S ι s) {Γ : Gam} {f : Nat} {y : Sy} {v : V} {o : Bool} (hy : SyS ι S.vals y v o) {k : V -> PS V -> Option V} {r : V} (hk : mat (BV Γ f) S (some y) k = some r) :
    ∃ S', k v.nf S' = some r /\ Sat c S' ι s /\ Ext S S' /\ v.nf.clean = true := by
  cases y with
  | «at» a =>
    simp only [Abs.mat] at hk
    split at hk
    . rename_i x hx
      obtain ⟨rfl, hc⟩ := h.val hy hx
      exact ⟨S, hk, h, .refl S, hc⟩
    . cases hk
  | agg ss z =>
    obtain ⟨⟨cs, rfl, h3⟩, h4⟩ := hy
    cases z with
    | some z =>
      simp only [Abs.mat, h4 z rfl] at hk
      exact ⟨S, hk, h, .refl S, h.cln _ (List.mem_of_getElem? (h4 z rfl))⟩
    | none =>
      simp only [Abs.mat] at hk
      split at hk
      . rename_i ns xs hs
        simp only [BV, evp, Option.bind_eq_some_iff, Option.map_eq_some_iff] at hk
        obtain ⟨x, ⟨l, hl, rfl⟩, hk⟩ := hk
        obtain ⟨rfl, hc⟩ := h.segVals h3 hs hl
        have hx : (V.agg cs).nf.clean = true := by show cleanL (nfL cs) = true; exact catV_nf hl hc
        exact ⟨S.push (V.agg (nfL cs)), hk, h.push hx, .push _ _, hx⟩
      . cases hk
  | tup az => simp only [Abs.mat, BV, reduceCtorEq] at hk
theorem Sat.matL {Γ : Gam} {f : Nat} {r : V} : ∀ {xs : List Opd} {S : PS V} {k : List V -> PS V -> Option V}, Sat c S ι s -> matL (BV Γ f) S xs k = some r ->
    ∃ ys S', k ys S' = some r /\ Sat c S' ι s /\ Ext S S' /\ nfL (xs.map (evO s.tm)) = ys /\ cleanL ys = true
  | [], S, k, h, hk => ⟨[], S, hk, h, .refl S, rfl, rfl⟩
  | o :: xs, S, k, h, hk => by
    simp only [Abs.matL] at hk
    cases ho : S.opd o with
    | none => rw [ho] at hk; cases hk
    | some y =>
      rw [ho] at hk
      obtain ⟨S1, h1, h2, h3, h4⟩ := h.mat (h.opd ho) hk
      obtain ⟨ys, S2, h5, h6, h7, h8, h9⟩ := Sat.matL h2 h1
      refine ⟨_, S2, h5, h6, h3.trans h7, ?_, ?_⟩
      . simp only [List.map_cons, nfL, h8]
      . simp only [cleanL, h4, h9, Bool.and_self]
theorem Sat.put (h : Sat c S ι s) (d : Option Nat) {y : Sy} {v : V} {o : Bool} (hy : SyS ι S.vals y v o) : Sat c (S.put d y) ι (s.put d v o) where
  tm t z hz := by
    rw [get_put] at hz
    have hv : (S.put d y).vals = S.vals := by cases d <;> rfl
    rw [hv]
    cases d with
    | none => simp only [reduceCtorEq, if_false] at hz; exact h.tm t z hz
    | some d =>
      by_cases e : d = t
      . subst e
        simp only [if_true, Option.some.injEq] at hz
        subst hz
        rw [put_tm, put_own, if_pos rfl, if_pos rfl]; exact hy
      . simp only [Option.some.injEq, e, if_false] at hz
        rw [put_tm, put_own, if_neg (Ne.symm e), if_neg (Ne.symm e)]; exact h.tm t z hz
  ob k ss hk := by
    have e : (S.put d y).obj k = S.obj k := by cases d <;> rfl
    have hv : (S.put d y).vals = S.vals := by cases d <;> rfl
    rw [e] at hk
    obtain ⟨id, h1, h2⟩ := h.ob k ss hk
    refine ⟨id, h1, ?_⟩
    rw [hv]
    cases d with
    | none => exact h2
    | some d => exact h2.to (.refl _) (.refl _) rfl fun j => by rw [put_ownc]
  nd := h.nd
  lt id hid := by have := h.lt id hid; cases d <;> exact this
  len := by cases d <;> exact h.len
  lits i b hb := by cases d <;> exact h.lits i b hb
  cln x hx := by cases d <;> exact h.cln x hx
  g := by cases d <;> exact h.g
  pre := h.pre
  new := by cases d <;> exact h.new
  nH := by cases d <;> exact h.nH
  fr id h1 h2 := by cases d <;> exact h.fr id h1 h2
end Go.Abs
namespace Go.Abs
section
variable {ι : List Nat} {vs : List V}
theorem SegsS.shift {ow ow' : Nat -> Bool} : ∀ {ss : List Seg} {cs : List V} {j j' : Nat}, SegsS ι vs ss cs ow j -> (∀ i, i < cs.length -> ow' (j' + i) = ow (j + i)) -> SegsS ι vs ss cs ow' j'
  | [], _, _, _, h, _ => h
  | .one a :: r, _, j, j', ⟨c, cs', e, h3, h4, h5⟩, ho => by
    subst e
    refine ⟨c, cs', rfl, ?_, h4, SegsS.shift h5 fun i h6 => ?_⟩
    . have := ho 0 (by simp); simp only [Nat.add_zero] at this; rw [this]; exact h3
    . have := ho (i + 1) (by simp; omega); rw [show j' + 1 + i = j' + (i + 1) by omega, this, show j + 1 + i = j + (i + 1) by omega]
  | .many n a :: r, _, j, j', ⟨l, cs', w, e, h3, h4, h5, h6, h7, h8⟩, ho => by
    subst e
    refine ⟨l, cs', w, rfl, h3, h4, h5, h6, h7, SegsS.shift h8 fun i h9 => ?_⟩
    have := ho (l.length + i) (by simp; omega); rw [show j' + l.length + i = j' + (l.length + i) by omega, this, show j + l.length + i = j + (l.length + i) by omega]
theorem SegsS.all_sc {ow : Nat -> Bool} : ∀ {ss : List Seg} {cs : List V} {j : Nat}, SegsS ι vs ss cs ow j -> cs.all V.sc = true
  | [], _, _, h => by rw [show _ = [] from h]; rfl
  | .one a :: r, _, _, ⟨c, cs', e, h3, h4, h5⟩ => by subst e; simp only [List.all_cons, h4, SegsS.all_sc h5, Bool.and_self]
  | .many n a :: r, _, _, ⟨l, cs', w, e, h3, h4, h5, h6, h7, h8⟩ => by subst e; rw [List.all_append, h5, SegsS.all_sc h8]; rfl
def sized (ss : List Seg) : Prop := ∀ s ∈ ss, s.len.isSome = true
theorem SegsS.app {ow : Nat -> Bool} {q : List Seg} {cq : List V} : ∀ {p : List Seg} {cp : List V} {j : Nat}, (sized p \/ q = []) -> SegsS ι vs p cp ow j -> SegsS ι vs q cq ow (j + cp.length) -> SegsS ι vs (p ++ q) (cp ++ cq) ow j
  | [], _, _, _, h, k => by rw [show _ = [] from h] at k ⊢; exact k
  | .one a :: r, _, j, hz, ⟨c, cs', e, h3, h4, h5⟩, k => by
    subst e
    refine ⟨c, cs' ++ cq, rfl, h3, h4, SegsS.app ?_ h5 (by rw [show j + 1 + cs'.length = j + (c :: cs').length by simp; omega]; exact k)⟩
    rcases hz with hz | hz
    . exact .inl fun s hs => hz s (List.mem_cons_of_mem _ hs)
    . exact .inr hz
  | .many n a :: r, _, j, hz, ⟨l, cs', w, e, h3, h4, h5, h6, h7, h8⟩, k => by
    subst e
    refine ⟨l, cs' ++ cq, w, by simp, h3, fun hn => ?_, h5, h6, h7, SegsS.app ?_ h8 (by rw [show j + l.length + cs'.length = j + (l ++ cs').length by simp; omega]; exact k)⟩
    . rcases hz with hz | hz
      . have := hz (.many n a) (by simp); rw [hn] at this; simp [Seg.len] at this
      . rw [h4 hn, hz]; rfl
    . rcases hz with hz | hz
      . exact .inl fun s hs => hz s (List.mem_cons_of_mem _ hs)
      . exact .inr hz
theorem SegsS.split {ow : Nat -> Bool} {q : List Seg} : ∀ {p : List Seg} {cs : List V} {j : Nat}, SegsS ι vs (p ++ q) cs ow j -> ∃ cp cq, cs = cp ++ cq /\ SegsS ι vs p cp ow j /\ SegsS ι vs q cq ow (j + cp.length)
  | [], cs, j, h => ⟨[], cs, rfl, rfl, h⟩
  | .one a :: r, _, j, ⟨c, cs', e, h3, h4, h5⟩ => by
    obtain ⟨cp, cq, e2, k1, k2⟩ := SegsS.split h5
    subst e; subst e2
    exact ⟨c :: cp, cq, rfl, ⟨c, cp, rfl, h3, h4, k1⟩, by rw [show j + (c :: cp).length = j + 1 + cp.length by simp; omega]; exact k2⟩
  | .many n a :: r, _, j, ⟨l, cs', w, e, h3, h4, h5, h6, h7, h8⟩ => by
    obtain ⟨cp, cq, e2, k1, k2⟩ := SegsS.split h8
    subst e; subst e2
    exact ⟨l ++ cp, cq, by simp, ⟨l, cp, w, rfl, h3, fun hn => (List.append_eq_nil_iff.1 (h4 hn)).1, h5, h6, h7, k1⟩, by rw [show j + (l ++ cp).length = j + l.length + cp.length by simp; omega]; exact k2⟩
theorem SegsS.len1 {ow : Nat -> Bool} {sg : Seg} {cs : List V} {j n : Nat} (h : SegsS ι vs [sg] cs ow j) (hn : sg.len = some n) : cs.length = n := by
  cases sg with
  | one a =>
    obtain ⟨c, cs', e, _, _, h5⟩ := h
    rw [show cs' = [] from h5] at e; subst e
    simpa [Seg.len] using hn
  | many m a =>
    obtain ⟨l, cs', w, e, h3, _, _, _, _, h8⟩ := h
    rw [show cs' = [] from h8] at e; subst e
    simp only [Seg.len] at hn
    simpa using h3 n hn
theorem segAt_ok {ow : Nat -> Bool} : ∀ {ss : List Seg} {cs : List V} {j off i0 : Nat} {sg : Seg} {r i : Nat}, SegsS ι vs ss cs ow j -> segAt ss off i0 = some (sg, r, i) ->
    ∃ p q cp cg cq, ss = p ++ sg :: q /\ i = i0 + p.length /\ cs = cp ++ (cg ++ cq) /\ off = cp.length + r /\ sized p /\ SegsS ι vs p cp ow j /\ SegsS ι vs [sg] cg ow (j + cp.length) /\ SegsS ι vs q cq ow (j + cp.length + cg.length) /\ (sg.len = none -> q = [])
  | [], _, _, _, _, _, _, _, _, h => by cases h
  | s :: ss, cs, j, off, i0, sg, r, i, h, hs => by
    obtain ⟨c1, c2, e, h1, h2⟩ := SegsS.split (p := [s]) (q := ss) h
    have hno : s.len = none -> ss = [] := fun hn => by
      cases s with
      | one a => cases hn
      | many n a => obtain ⟨_, _, _, _, _, h4, _⟩ := h; exact h4 hn
    have here : s = sg -> off = r -> i0 = i -> ∃ p q cp cg cq, s :: ss = p ++ sg :: q /\ i = i0 + p.length /\ cs = cp ++ (cg ++ cq) /\ off = cp.length + r /\ sized p /\ SegsS ι vs p cp ow j /\ SegsS ι vs [sg] cg ow (j + cp.length) /\ SegsS ι vs q cq ow (j + cp.length + cg.length) /\ (sg.len = none -> q = []) := fun e1 e2 e3 => ⟨[], ss, [], c1, c2, by rw [<- e1]; rfl, by rw [e3]; rfl, e, by simp [e2], fun _ h => by (cases h), rfl, by rw [<- e1]; exact h1, by simpa using h2, by rw [<- e1]; exact hno⟩
    simp only [segAt] at hs
    split at hs
    . rename_i hn
      cases hs
      exact here rfl rfl rfl
    . rename_i n hn
      split at hs
      . cases hs; exact here rfl rfl rfl
      . rename_i hlt
        have hle : n <= off := by
          have : ¬ off < n := fun hlt' => by rw [show Nat.blt off n = true from Nat.ble_eq_true_of_le hlt'] at hlt; cases hlt
          omega
        have hl := h1.len1 hn
        obtain ⟨p, q, cp, cg, cq, q1, q2, q3, q4, q5, q6, q7, q8, q9⟩ := segAt_ok h2 hs
        subst q1; subst q3; subst e
        refine ⟨s :: p, q, c1 ++ cp, cg, cq, rfl, by simp; omega, by simp, by simp; omega, fun s' hs' => ?_, ?_, ?_, ?_, q9⟩
        . rcases List.mem_cons.1 hs' with rfl | hs'
          . rw [hn]; rfl
          . exact q5 s' hs'
        . exact SegsS.app (p := [s]) (.inl fun s' hs' => by simp at hs'; rw [hs', hn]; rfl) h1 q6
        . rw [show j + (c1 ++ cp).length = j + c1.length + cp.length by simp; omega]; exact q7
        . rw [show j + (c1 ++ cp).length = j + c1.length + cp.length by simp; omega]; exact q8
theorem segCount_ok {ow : Nat -> Bool} : ∀ {ss : List Seg} {cs : List V} {j m q : Nat}, SegsS ι vs ss cs ow j -> segCount ss m = some q ->
    ∃ cp cq, cs = cp ++ cq /\ cp.length = m /\ sized (ss.take q) /\ q <= ss.length /\ SegsS ι vs (ss.take q) cp ow j /\ SegsS ι vs (ss.drop q) cq ow (j + m)
  | ss, cs, j, 0, q, h, hq => by
    have : q = 0 := by cases ss <;> simp [segCount] at hq <;> exact hq.symm
    subst this
    exact ⟨[], cs, rfl, rfl, fun _ h => by (simp at h), Nat.zero_le _, rfl, by simpa using h⟩
  | [], _, _, _ + 1, _, _, hq => by cases hq
  | s :: ss, cs, j, m + 1, q, h, hq => by
    obtain ⟨c1, c2, e, h1, h2⟩ := SegsS.split (p := [s]) (q := ss) h
    simp only [segCount] at hq
    split at hq
    . rename_i n hn
      split at hq
      . rename_i hc
        simp only [Bool.and_eq_true] at hc
        have hc1 := Nat.le_of_ble_eq_true hc.1
        have hc2 := Nat.le_of_ble_eq_true hc.2
        simp only [Option.map_eq_some_iff] at hq
        obtain ⟨q', hq', rfl⟩ := hq
        have hl := h1.len1 hn
        obtain ⟨cp, cq, q1, q2, q3, q4, q5, q6⟩ := segCount_ok h2 hq'
        subst q1; subst e
        refine ⟨c1 ++ cp, cq, by simp, by simp; omega, fun s' hs' => ?_, by simp; omega, ?_, ?_⟩
        . simp only [List.take_succ_cons, List.mem_cons] at hs'
          rcases hs' with rfl | hs'
          . rw [hn]; rfl
          . exact q3 s' hs'
        . exact SegsS.app (p := [s]) (.inl fun s' hs' => by simp at hs'; rw [hs', hn]; rfl) h1 q5
        . simp only [List.drop_succ_cons]
          rw [show j + (m + 1) = j + c1.length + (m + 1 - n) by omega]; exact q6
      . cases hq
    . cases hq
theorem spl_ok {ow ow' : Nat -> Bool} {ss q : List Seg} {cs ys : List V} {off n : Nat} {sg : Seg} {i m : Nat} (h : SegsS ι vs ss cs ow 0) (hs : segAt ss off 0 = some (sg, 0, i)) (hm : segCount (ss.drop i) n = some m) (hq : SegsS ι vs q ys ow' off) (hn : ys.length = n)
    (hz : sized q \/ ss.drop (i + m) = []) (ho : ∀ j, (j < off \/ off + n <= j) -> ow' j = ow j) : off + n <= cs.length /\ SegsS ι vs (spl ss i m q) (setAt cs off ys) ow' 0 := by
  obtain ⟨p, q', cp, cg, cq, e1, e2, e3, e4, e5, e6, e7, e8, e9⟩ := segAt_ok h hs
  simp only [Nat.zero_add, Nat.add_zero] at e2 e4 e7 e8
  subst e1; subst e3; subst e2
  have hd : (p ++ sg :: q').drop p.length = sg :: q' := by simp
  rw [hd] at hm
  have hr : SegsS ι vs (sg :: q') (cg ++ cq) ow cp.length := by
    have := SegsS.split (p := p) (q := sg :: q') h
    refine SegsS.app (p := [sg]) (q := q') ?_ e7 (by rw [show cp.length + cg.length = cp.length + cg.length from rfl]; exact e8)
    cases hsl : sg.len with
    | none => exact .inr (e9 hsl)
    | some k => exact .inl fun s' hs' => by simp at hs'; rw [hs', hsl]; rfl
  obtain ⟨c1, c2, k1, k2, k3, k4, k5, k6⟩ := segCount_ok hr hm
  rw [k1]
  have hl : off + n <= (cp ++ (c1 ++ c2)).length := by simp; omega
  refine ⟨hl, ?_⟩
  have hset : setAt (cp ++ (c1 ++ c2)) off ys = cp ++ (ys ++ c2) := by
    subst e4
    simp only [setAt, List.take_left']
    rw [show cp.length + ys.length = cp.length + c1.length by omega, <- List.append_assoc cp c1 c2, <- List.length_append, List.drop_left]
    simp
  have hspl : spl (p ++ sg :: q') p.length m q = p ++ (q ++ (sg :: q').drop m) := by
    simp only [spl, List.take_left', List.append_assoc]
    rw [show p.length + m = p.length + m from rfl, List.drop_append]
    simp
  rw [hset, hspl]
  refine SegsS.app (.inl e5) (e6.shift fun i hi => ?_) (SegsS.app ?_ (by rw [Nat.zero_add, <- e4]; exact hq) (k6.shift fun i hi => ?_))
  . simp only [Nat.zero_add]; exact ho _ (.inl (by omega))
  . rcases hz with hz | hz
    . exact .inl hz
    . refine .inr ?_
      rw [List.drop_append] at hz
      simpa using hz
  . rw [ho _ (.inr (by omega))]; congr 1; omega
theorem splIn2_ok {ow ow' : Nat -> Bool} {ss : List Seg} {cs ys : List V} {off n r i i' u : Nat} {sn : Option Nat} {a : At} {w x : V} (h : SegsS ι vs ss cs ow 0) (hs : segAt ss off 0 = some (.many sn a, r, i)) (ha : ∀ w, AtV vs a w -> w = x) (hle : r + u + n <= x.cells.length) (hn : ys.length = n) (hsc : ys.all V.sc = true)
    (hw : vs[i']? = some w) (hww : w = .agg (setAt x.cells (r + u) (nfL ys))) (ho : ∀ j, (j < off + u \/ off + u + n <= j) -> ow' j = ow j) : off + u + n <= cs.length /\ SegsS ι vs (spl ss i 1 [.many sn (.n i' false false)]) (setAt cs (off + u) ys) ow' 0 := by
  obtain ⟨p, q', cp, cg, cq, e1, e2, e3, e4, e5, e6, e7, e8, e9⟩ := segAt_ok h hs
  simp only [Nat.zero_add] at e2 e7 e8
  subst e1; subst e3; subst e2
  obtain ⟨l, cs', v, f1, f2, f3, f4, f5, f6, f7⟩ := e7
  rw [show cs' = [] from f7, List.append_nil] at f1
  subst f1
  obtain rfl := ha v f5
  have hl : cg.length = v.cells.length := by rw [<- f6, nfL_length]
  refine ⟨by simp; omega, ?_⟩
  have hset : setAt (cp ++ (cg ++ cq)) (off + u) ys = cp ++ (setAt cg (r + u) ys ++ cq) := by
    subst e4
    simp only [setAt]
    rw [List.take_append, List.take_of_length_le (by omega), List.drop_append, List.drop_eq_nil_of_le (by omega)]
    rw [show cp.length + r + u - cp.length = r + u by omega, show cp.length + r + u + ys.length - cp.length = r + u + ys.length by omega]
    rw [List.take_append_of_le_length (by omega), List.drop_append_of_le_length (by omega)]
    simp
  have hspl : spl (p ++ .many sn a :: q') p.length 1 [.many sn (.n i' false false)] = p ++ (.many sn (.n i' false false) :: q') := by
    simp only [spl, List.take_left']
    rw [List.drop_append]; simp
  rw [hset, hspl]
  have hsl : (setAt cg (r + u) ys).length = cg.length := by simp [setAt]; omega
  refine SegsS.app (.inl e5) (e6.shift fun i hi => ?_) ⟨setAt cg (r + u) ys, cq, w, rfl, fun m hm => by rw [hsl]; exact f2 m hm, fun hn => e9 hn, ?_, hw, ?_, e8.shift fun i hi => ?_⟩
  . simp only [Nat.zero_add]; exact ho _ (.inl (by omega))
  . simp only [setAt, List.all_append, Bool.and_eq_true]
    rw [List.all_eq_true] at f4
    exact ⟨⟨List.all_eq_true.2 fun x hx => f4 x (List.mem_of_mem_take hx), hsc⟩, List.all_eq_true.2 fun x hx => f4 x (List.mem_of_mem_drop hx)⟩
  . rw [hww, <- f6, <- nfL_setAt]; rfl
  . rw [hsl, Nat.zero_add, ho _ (.inr (by omega))]
theorem splIn_ok {ow ow' : Nat -> Bool} {ss : List Seg} {cs ys : List V} {off n r i i' : Nat} {sn : Option Nat} {a : At} {w x : V} (h : SegsS ι vs ss cs ow 0) (hs : segAt ss off 0 = some (.many sn a, r, i)) (ha : ∀ w, AtV vs a w -> w = x) (hle : r + n <= x.cells.length) (hn : ys.length = n) (hsc : ys.all V.sc = true)
    (hw : vs[i']? = some w) (hww : w = .agg (setAt x.cells r (nfL ys))) (ho : ∀ j, (j < off \/ off + n <= j) -> ow' j = ow j) : off + n <= cs.length /\ SegsS ι vs (spl ss i 1 [.many sn (.n i' false false)]) (setAt cs off ys) ow' 0 :=
  splIn2_ok (u := 0) h hs ha hle hn hsc hw hww ho
end
variable {c : Fc} {ι : List Nat} {s : St} {S : PS V}
theorem obj_setOb {X : Type} (S : PS X) (o : Nat) (ss : List Seg) (k : Nat) : (S.setOb o ss).obj k = if k = o /\ o < S.ob.length then some ss else S.obj k := by
  simp only [PS.obj, PS.setOb, List.getElem?_set]
  by_cases h : o = k
  . subst h
    by_cases hl : o < S.ob.length
    . simp [hl]
    . simp [hl]
  . simp [h, Ne.symm h]
theorem obj_lt {X : Type} {S : PS X} {o : Nat} {ss : List Seg} (h : S.obj o = some ss) : o < S.ob.length := by
  unfold PS.obj at h
  split at h
  . rename_i e; exact (List.getElem?_eq_some_iff.1 e).1
  . cases h
theorem Sat.given (h : Sat c S ι s) {o id : Nat} (hι : ι[o]? = some id) : id ∈ c.ids \/ c.hs.nH <= id := by
  rcases Nat.lt_or_ge o S.g with h1 | h1
  . left
    rw [<- h.g] at h1
    have h2 := h.pre o _ (List.getElem?_eq_getElem h1)
    rw [hι] at h2
    rw [Option.some.inj h2]; exact List.getElem_mem h1
  . exact .inr (h.new o id hι h1)
theorem Sat.objUpdS (h : Sat c S ι s) {o id : Nat} (hι : ι[o]? = some id) {s' : St} (htm : s'.tm = s.tm) (hown : ∀ t, s'.own (.slot t) = s.own (.slot t)) (hnH : s'.nH = s.nH)
    (hoth : ∀ id', id' ≠ id -> s'.H id' = s.H id' /\ ∀ j, s'.own (.cell id' j) = s.own (.cell id' j)) {ss : List Seg} (hobs : ObS ι S.vals ss s'.H (fun j => s'.own (.cell id j)) id) :
    Sat c (S.setOb o ss) ι s' where
  tm t y hy := by rw [htm, hown]; exact h.tm t y hy
  ob k qs hk := by
    rw [obj_setOb] at hk
    split at hk
    . rename_i e
      cases hk
      rw [e.1]
      exact ⟨id, hι, hobs⟩
    . rename_i e
      obtain ⟨id', h1, h2⟩ := h.ob k qs hk
      have hne : id' ≠ id := fun he => by
        subst he
        have hko : k = o := (List.getElem?_inj (List.getElem?_eq_some_iff.1 h1).1 h.nd).1 (by rw [h1, hι])
        exact e ⟨hko, by rw [<- hko]; exact obj_lt hk⟩
      obtain ⟨k1, k2⟩ := hoth id' hne
      exact ⟨id', h1, h2.to (.refl _) (.refl _) k1 k2⟩
  nd := h.nd
  lt id' hid := by rw [hnH]; exact h.lt id' hid
  len := by simpa [PS.setOb] using h.len
  lits := h.lits
  cln := h.cln
  g := h.g
  pre := h.pre
  new := h.new
  nH := by rw [hnH]; exact h.nH
  fr id' h1 h2 := by
    have hne : id' ≠ id := by
      rintro rfl
      rcases h.given hι with h3 | h3
      . exact h2 h3
      . omega
    obtain ⟨k1, k2⟩ := hoth id' hne
    obtain ⟨k3, k4⟩ := h.fr id' h1 h2
    exact ⟨k1.trans k3, fun j => (k2 j).trans (k4 j)⟩
theorem Sat.objUpd (h : Sat c S ι s) {o id : Nat} (hι : ι[o]? = some id) {s' : St} (htm : s'.tm = s.tm) (hown : ∀ t, s'.own (.slot t) = s.own (.slot t)) (hnH : s'.nH = s.nH)
    (hoth : ∀ id', id' ≠ id -> s'.H id' = s.H id' /\ ∀ j, s'.own (.cell id' j) = s.own (.cell id' j)) {ss : List Seg} {cs : List V} (hcs : hCells s'.H id = some cs) (hseg : SegsS ι S.vals ss cs (fun j => s'.own (.cell id j)) 0) : Sat c (S.setOb o ss) ι s' :=
  h.objUpdS hι htm hown hnH hoth (.cs cs hcs hseg)
theorem Sat.newObS (h : Sat c S ι s) {s' : St} (htm : s'.tm = s.tm) (hown : ∀ t, s'.own (.slot t) = s.own (.slot t)) (hnH : s'.nH = s.nH + 1) (hoth : ∀ id', id' ≠ s.nH -> s'.H id' = s.H id' /\ ∀ j, s'.own (.cell id' j) = s.own (.cell id' j))
    {ss : List Seg} (hobs : ObS (ι ++ [s.nH]) S.vals ss s'.H (fun j => s'.own (.cell s.nH j)) s.nH) : Sat c (S.newOb ss) (ι ++ [s.nH]) s' /\ (ι ++ [s.nH])[S.ob.length]? = some s.nH where
  left :=
  { tm := fun t y hy => by
      rw [htm, hown]; exact (h.tm t y hy).mono (.app _ _) (.refl _)
    ob := fun k qs hk => by
      have hk' : (k < S.ob.length /\ S.obj k = some qs) \/ (k = S.ob.length /\ qs = ss) := by
        unfold PS.obj PS.newOb at hk
        split at hk
        . rename_i e
          rw [List.getElem?_append] at e
          split at e
          . rename_i hl; left; refine ⟨hl, ?_⟩; unfold PS.obj; rw [e]; exact hk
          . right
            rename_i hl
            have := (List.getElem?_eq_some_iff.1 e).1
            simp at this
            have hkl : k = S.ob.length := by omega
            subst hkl
            simp at e
            cases hk; exact ⟨rfl, e.symm⟩
        . cases hk
      rcases hk' with ⟨hl, hk'⟩ | ⟨rfl, rfl⟩
      . obtain ⟨id, h1, h2⟩ := h.ob k qs hk'
        have hlt := h.lt id (List.mem_of_getElem? h1)
        obtain ⟨k1, k2⟩ := hoth id (by omega)
        exact ⟨id, PreN.app _ _ _ _ h1, h2.to (.app _ _) (.refl _) k1 k2⟩
      . exact ⟨s.nH, by rw [<- h.len]; simp, hobs⟩
    nd := by
      rw [List.nodup_append]
      refine ⟨h.nd, by simp, fun a ha b hb => ?_⟩
      simp at hb; subst hb
      have := h.lt a ha; omega
    lt := fun id hid => by
      rw [hnH]
      rcases List.mem_append.1 hid with hid | hid
      . have := h.lt id hid; omega
      . simp at hid; omega
    len := by simp [PS.newOb, h.len]
    lits := h.lits
    cln := h.cln
    g := h.g
    pre := fun k id hk => PreN.app _ _ _ _ (h.pre k id hk)
    new := fun k id hk hg => by
      rw [List.getElem?_append] at hk
      split at hk
      . exact h.new k id hk hg
      . have := List.mem_of_getElem? hk
        simp at this; rw [this]; exact h.nH
    nH := by rw [hnH]; have := h.nH; omega
    fr := fun id h1 h2 => by
      have hne : id ≠ s.nH := by have := h.nH; omega
      obtain ⟨k1, k2⟩ := h.fr id h1 h2
      obtain ⟨k3, k4⟩ := hoth id hne
      exact ⟨k3.trans k1, fun j => (k4 j).trans (k2 j)⟩ }
  right := by rw [<- h.len]; simp
theorem Sat.newOb (h : Sat c S ι s) {ss : List Seg} {cs : List V} (hseg : SegsS ι S.vals ss cs (fun _ => false) 0) : Sat c (S.newOb ss) (ι ++ [s.nH]) (s.new cs) /\ (ι ++ [s.nH])[S.ob.length]? = some s.nH :=
  h.newObS (s' := s.new cs) rfl (fun _ => rfl) rfl (fun id' hne => ⟨by simp only [St.new, upd, if_neg hne], fun j => by rw [new_ownc, if_neg hne]⟩)
    (.cs cs (by simp) ((hseg.mono (.app _ _) (.refl _)).shift fun i hi => by simp only [Nat.zero_add]; rw [new_ownc, if_pos rfl]))
theorem disown_g {X : Type} (S : PS X) (t : Nat) : (S.disown t).g = S.g := by unfold PS.disown; split <;> rfl
theorem Sat.disown (h : Sat c S ι s) (t : Nat) : Sat c (S.disown t) ι (s.take (some (.slot t))) where
  tm u y hy := by
    have hv : (S.disown t).vals = S.vals := by unfold PS.disown; split <;> rfl
    rw [hv]
    unfold PS.disown at hy
    split at hy
    . rename_i z hz
      simp only [PS.get, lk_cons] at hy
      split at hy
      . rename_i e
        subst e; cases hy
        exact (h.tm _ _ hz).noOwn _
      . rename_i e
        have := h.tm u y hy
        rw [take_own, if_neg (by simp; omega)]
        exact this
    . rename_i hz
      by_cases e : u = t
      . subst e; rw [hz] at hy; cases hy
      . rw [take_own, if_neg (by simpa using e)]; exact h.tm u y hy
  ob k ss hk := by
    have hv : (S.disown t).vals = S.vals := by unfold PS.disown; split <;> rfl
    have he : (S.disown t).obj k = S.obj k := by unfold PS.disown; split <;> rfl
    rw [he] at hk
    obtain ⟨id, h1, h2⟩ := h.ob k ss hk
    refine ⟨id, h1, ?_⟩
    rw [hv]
    exact h2.to (.refl _) (.refl _) rfl fun j => by rw [take_own, if_neg (by simp)]
  nd := h.nd
  lt := h.lt
  len := by have : (S.disown t).ob = S.ob := by unfold PS.disown; split <;> rfl
            rw [this]; exact h.len
  lits i b hb := by
    have hv : (S.disown t).vals = S.vals := by unfold PS.disown; split <;> rfl
    have he : (S.disown t).lits = S.lits := by unfold PS.disown; split <;> rfl
    rw [he] at hb; rw [hv]; exact h.lits i b hb
  cln x hx := by
    have hv : (S.disown t).vals = S.vals := by unfold PS.disown; split <;> rfl
    rw [hv] at hx; exact h.cln x hx
  g := by rw [disown_g]; exact h.g
  pre := h.pre
  new := by rw [disown_g]; exact h.new
  nH := h.nH
  fr id h1 h2 := by
    obtain ⟨k1, k2⟩ := h.fr id h1 h2
    exact ⟨k1, fun j => by show (s.take _).own (.cell id j) = _; rw [take_own, if_neg (by simp)]; exact k2 j⟩
end Go.Abs
