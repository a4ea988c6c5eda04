/-
  Abs, part S: code: what it comes to from a plain state (a weakest precondition); that the machine follows; a function's contract. Own work of this seat.
-/
import Derived.Test.YtainplhaaklpeaaDoorAbsR
namespace Go.Abs
open Go.RowKit

def thenQ (K : St → Prop) (Q : Ex → St → Prop) : Ex → St → Prop
  | .normal, s => K s
  | e, s => Q e s

def loopN (body : (Ex → St → Prop) → St → Prop) (Q : Ex → St → Prop) : Nat → St → Prop
  | 0, _ => False
  | k + 1, st => body (thenQ (loopN body Q k) Q) st

def condP (v : V) (p q : Prop) : Prop := match v with | .bool true => p | .bool false => q | _ => False
def someP (o : Option St) (p : St → Prop) : Prop := match o with | some s => p s | none => False

def awp (Γ : Spec) (gl : Nat → Option (List V)) : ACode → (Ex → St → Prop) → St → Prop
  | .skip, Q, st => Q .normal st
  | .region ops _, Q, st => someP (execs Γ gl ops st) (Q .normal)
  | .seq a b, Q, st => awp Γ gl a (thenQ (awp Γ gl b Q) Q) st
  | .cond c a b, Q, st => condP (evO st.tm c) (awp Γ gl a Q st) (awp Γ gl b Q st)
  | .block id b, Q, st => awp Γ gl b (fun e s => Q (e.inBlock id) s) st
  | .loop b, Q, st => ∃ k, loopN (awp Γ gl b) Q k st
  | .exit id, Q, st => Q (.exit id) st
  | .ret, Q, st => Q .ret st
  | .fail, _, _ => False

theorem thenQ_mono {K K' : St → Prop} {Q Q' : Ex → St → Prop} (hK : ∀ s, K s → K' s) (hQ : ∀ e s, Q e s → Q' e s) : ∀ e s, thenQ K Q e s → thenQ K' Q' e s
  | .normal, s, h => hK s h
  | .exit _, s, h => hQ _ s h
  | .ret, s, h => hQ _ s h

theorem awp_mono {Γ : Spec} {gl : Nat → Option (List V)} : ∀ {c : ACode} {Q Q' : Ex → St → Prop} {st : St}, (∀ e s, Q e s → Q' e s) → awp Γ gl c Q st → awp Γ gl c Q' st := by
  intro c
  induction c with
  | skip => intro Q Q' st hq h; exact hq _ _ h
  | region ops d =>
    intro Q Q' st hq h
    simp only [awp] at h ⊢
    unfold someP at h ⊢
    split at h
    · exact hq _ _ h
    · exact h.elim
  | seq a b iha ihb => intro Q Q' st hq h; exact iha (thenQ_mono (fun s => ihb hq) hq) h
  | cond c a b iha ihb =>
    intro Q Q' st hq h
    simp only [awp] at h ⊢
    unfold condP at h ⊢
    split at h
    · exact iha hq h
    · exact ihb hq h
    · exact h.elim
  | block id b ih => intro Q Q' st hq h; exact ih (fun e s => hq _ s) h
  | loop b ih =>
    intro Q Q' st hq h
    obtain ⟨k, h⟩ := h
    refine ⟨k, ?_⟩
    induction k generalizing st with
    | zero => exact h.elim
    | succ k ihk => exact ih (thenQ_mono (fun s => ihk) hq) h
  | exit id => intro Q Q' st hq h; exact hq _ _ h
  | ret => intro Q Q' st hq h; exact hq _ _ h
  | fail => intro Q Q' st hq h; exact h.elim

theorem awp_loop {Γ : Spec} {gl : Nat → Option (List V)} {b : ACode} {Q : Ex → St → Prop} {st : St} (I : St → Prop) (μ : St → Nat) (h0 : I st)
    (round : ∀ s, I s → awp Γ gl b (thenQ (fun s' => I s' ∧ μ s' < μ s) Q) s) : awp Γ gl (.loop b) Q st := by
  have key : ∀ k s, I s → μ s < k → loopN (awp Γ gl b) Q k s := by
    intro k
    induction k with
    | zero => intro s _ h; omega
    | succ k ih => intro s hI hk; exact awp_mono (thenQ_mono (fun s' h => ih s' h.1 (by have := h.2; omega)) fun _ _ h => h) (round s hI)
  exact ⟨μ st + 1, key _ st h0 (by omega)⟩

/-! ## reading the loaded code -/
def mOf (as : List AOper) : Nat :=
  let an := ancs as []
  let N := as.length
  N - ((List.range N).reverse.takeWhile fun i => (List.range i).all fun j => (an.getD i []).contains j).length

/-- without its edges, of which its value knows nothing -/
def AOper.bare (o : AOper) : AOper := ⟨o.dst, o.op, o.guard, []⟩

theorem execs_bare {Γ : Spec} {gl : Nat → Option (List V)} : ∀ {as : List AOper} {st : St}, execs Γ gl (as.map AOper.bare) st = execs Γ gl as st
  | [], _ => rfl
  | o :: r, st => by
    simp only [List.map_cons, execs]
    have : exec Γ gl o.bare st = exec Γ gl o st := rfl
    rw [this]
    cases exec Γ gl o st with
    | none => rfl
    | some s => exact execs_bare

def comp (P : Program) (n : Nat) : Code → ACode
  | .skip => .skip
  | .region _ ops draw => match cOpers P n ops ops.toList with
    | some as => if draw then (if mOf as ≤ as.length ∧ drawOk n as (mOf as) = true then .region (as.map AOper.bare) true else .fail) else .region (as.map AOper.bare) false
    | none => .fail
  | .seq a b => .seq (comp P n a) (comp P n b)
  | .cond c a b => match cOpd P n 0 c with | some c => .cond c (comp P n a) (comp P n b) | none => .fail
  | .block id b => .block id (comp P n b)
  | .loop b => .loop (comp P n b)
  | .exit id => .exit id
  | .ret => .ret
  | _ => .fail

def exm : Ex → Exit
  | .normal => .normal
  | .exit id => .exit id
  | .ret => .ret

theorem SR.drew {w B GB g st a W} (h : SR w B GB g st a W) : SR w B GB g st a W.drew := by
  have := h.adv (Adv.refl h none).drew
  simpa [St.take] using this

variable {cx : Cx} {w : World} {B : Nat → Prop} {GB : Nat → Nat} {Γ : Spec}

theorem comp_sound (hs : Scope cx w B GB) (hΓ : Sound cx Γ) (hm : cx.P.follows .mixedOrders = true) {n : Nat} : ∀ (c : Code) (Q : Ex → St → Prop) (g : Gh) (st : St) (a : Act) (W : World) (R : Exit → Act → World → Prop),
    SR w B GB g st a W → a.tmps.size = n → awp Γ cx.gl (comp cx.P n c) Q st → (∀ e st g a W, Q e st → SR w B GB g st a W → a.tmps.size = n → R (exm e) a W) → c.wp cx.P R a W := by
  intro c
  induction c with
  | skip => intro Q g st a W R h hn hq hR; exact wp_skip (hR .normal st g a W hq h hn)
  | exit id => intro Q g st a W R h hn hq hR; exact wp_exit (hR (.exit id) st g a W hq h hn)
  | ret => intro Q g st a W R h hn hq hR; exact wp_ret (hR .ret st g a W hq h hn)
  | region id ops draw =>
    intro Q g st a W R h hn hq hR
    simp only [comp] at hq
    split at hq
    · rename_i as has
      have fin : ∀ d, awp Γ cx.gl (.region (as.map AOper.bare) d) Q st → ∃ st', execs Γ cx.gl as st = some st' ∧ Q .normal st' := by
        intro d hq
        simp only [awp, execs_bare] at hq
        unfold someP at hq
        split at hq
        · exact ⟨_, by assumption, hq⟩
        · exact hq.elim
      cases draw with
      | false =>
        simp only [Bool.false_eq_true, if_false] at hq
        obtain ⟨st', he, hq⟩ := fin _ hq
        refine wp_region ?_
        rw [List.range_eq_range']
        exact execs_wpOps hs hΓ has (fun g' a' W' h' hn' => hR .normal st' g' a' W' hq h' hn') ops.size 0 g st a W (by omega) h hn (by simpa using he)
      | true =>
        simp only [if_true] at hq
        split at hq
        · rename_i hc
          obtain ⟨st', he, hq⟩ := fin _ hq
          exact wp_region_any hm (draw_wpAny hs hΓ has hc.1 hc.2 h.drew hn he fun g' a' W' h' hn' => hR .normal st' g' a' W' hq h' hn')
        · exact hq.elim
    · exact hq.elim
  | seq x y ihx ihy =>
    intro Q g st a W R h hn hq hR
    refine wp_seq (ihx _ g st a W _ h hn hq fun e st g a W hq h hn => ?_)
    cases e with
    | normal => exact ihy Q g st a W R h hn hq hR
    | exit id => exact hR (.exit id) st g a W hq h hn
    | ret => exact hR .ret st g a W hq h hn
  | cond c x y ihx ihy =>
    intro Q g st a W R h hn hq hR
    simp only [comp] at hq
    split at hq
    · rename_i c' hc
      have hr := cOpd_rep h hn hc
      simp only [awp] at hq
      unfold condP at hq
      split at hq
      · rename_i he; rw [he] at hr; cases hr' : a.eval c <;> rw [hr'] at hr <;> cases hr
        exact wp_cond hr' (ihx Q g st a W R h hn hq hR)
      · rename_i he; rw [he] at hr; cases hr' : a.eval c <;> rw [hr'] at hr <;> cases hr
        exact wp_cond hr' (ihy Q g st a W R h hn hq hR)
      · exact hq.elim
    · exact hq.elim
  | block id x ih =>
    intro Q g st a W R h hn hq hR
    refine wp_block (ih _ g st a W _ h hn hq fun e st g a W hq h hn => ?_)
    cases e with
    | normal => exact hR .normal st g a W hq h hn
    | exit i =>
      simp only [exm, Exit.inBlock]
      simp only [Ex.inBlock] at hq
      split
      · rename_i hi; rw [if_pos hi] at hq; exact hR .normal st g a W hq h hn
      · rename_i hi; rw [if_neg hi] at hq; exact hR (.exit i) st g a W hq h hn
    | ret => exact hR .ret st g a W hq h hn
  | loop x ih =>
    intro Q g st a W R h hn hq hR
    obtain ⟨k, hk⟩ := hq
    have key : ∀ (k : Nat) (g : Gh) (st : St) (a : Act) (W : World), SR w B GB g st a W → a.tmps.size = n → loopN (awp Γ cx.gl (comp cx.P n x)) Q k st → ∀ b kk cs,
        ∃ e a' w', R e a' w' ∧ Arrives cx.P (lone (b.at a (.code x :: .inLoop x :: kk)) cs W) b kk cs e a' w' := by
      intro k
      induction k with
      | zero => intro g st a W _ _ hl; exact hl.elim
      | succ k ihk =>
        intro g st a W h hn hl b kk cs
        have hwp := ih _ g st a W (fun e a' W' => match e with
          | .normal => ∃ g' st', SR w B GB g' st' a' W' ∧ a'.tmps.size = n ∧ loopN (awp Γ cx.gl (comp cx.P n x)) Q k st'
          | e => R e a' W') h hn hl fun e st' g' a' W' hq h' hn' => by
            cases e with
            | normal => exact ⟨g', st', h', hn', hq⟩
            | exit i => exact hR (.exit i) st' g' a' W' hq h' hn'
            | ret => exact hR .ret st' g' a' W' hq h' hn'
        obtain ⟨e, a₁, w₁, hq, harr⟩ := hwp b (.inLoop x :: kk) cs
        cases e with
        | normal =>
          obtain ⟨g', st', h', hn', hl'⟩ := hq
          obtain ⟨e₂, a₂, w₂, hq₂, harr₂⟩ := ihk g' st' a₁ w₁ h' hn' hl' b kk cs
          exact ⟨e₂, a₂, w₂, hq₂, .of_steps (Steps.trans harr (.one step_inLoop)) harr₂⟩
        | exit id => exact ⟨_, a₁, w₁, hq, .pass (x := .inLoop x) rfl (fun _ _ => .inl (by simp)) harr⟩
        | goto l => exact ⟨_, a₁, w₁, hq, .pass (x := .inLoop x) rfl (fun _ _ => .inl (by simp)) harr⟩
        | ret => exact ⟨_, a₁, w₁, hq, .pass (x := .inLoop x) rfl (fun _ _ => .inl (by simp)) harr⟩
        | panic ch => exact ⟨_, a₁, w₁, hq, .pass (x := .inLoop x) rfl (fun _ _ => .inl (by simp)) harr⟩
        | outgrown => exact ⟨_, a₁, w₁, hq, .pass (x := .inLoop x) rfl (fun _ _ => .inl (by simp)) harr⟩
    intro b kk cs
    obtain ⟨e, a', w', hq, harr⟩ := key k g st a W h hn hk b kk cs
    exact ⟨e, a', w', hq, .of_steps (.one step_loop) harr⟩
  | _ => intro Q g st a W R h hn hq hR; exact hq.elim

/-! ## values that name no object -/
mutual
def V.clean : V → Bool
  | .osl _ _ _ _ _ | .ptr _ _ | .map _ => false
  | .agg cs => cleanL cs
  | .sl _ _ cs => cleanL cs
  | .el cs _ => cleanL cs
  | .fn _ cs => cleanL cs
  | .tup cs => cleanL cs
  | .iface _ v => v.clean
  | _ => true
def cleanL : List V → Bool
  | [] => true
  | v :: r => v.clean && cleanL r
end
theorem cleanL_iff : ∀ {l : List V}, cleanL l = true ↔ ∀ v ∈ l, v.clean = true
  | [] => by simp [cleanL]
  | v :: r => by simp [cleanL, cleanL_iff (l := r)]

theorem V.clean_cells {v : V} (h : v.clean = true) : ∀ c ∈ v.cells, c.clean = true := by
  cases v <;> simp only [V.cells, List.mem_singleton, forall_eq] <;> first | exact h | exact cleanL_iff.1 (by simpa [V.clean] using h)

theorem Rep.clean {W G φ φ' v x} (h : Rep W G φ v x) (hc : v.clean = true) : Rep W G φ' v x := by
  induction h with
  | bool b => exact .bool b
  | int k n => exact .int k n
  | str l s h => exact .str l s h
  | agg cs xs hl hs h ih =>
    exact .agg cs xs hl hs fun i c x hi hx => ih i c x hi hx (cleanL_iff.1 (by simpa [V.clean] using hc) c (List.mem_of_getElem? hi))
  | slnil sz => exact .slnil sz
  | sl sz xs b off cap rd hcap hG hx hrd _ ih =>
    exact .sl sz xs b off cap rd hcap hG hx hrd fun i x j c hi hj => ih i x j c hi hj (V.clean_cells (cleanL_iff.1 (by simpa [V.clean] using hc) x (List.mem_of_getElem? hi)) c (List.mem_of_getElem? hj))
  | sl0 sz a => exact .sl0 sz a
  | osl => simp [V.clean] at hc
  | el cs off b base rd hG hs hrd _ ih =>
    exact .el cs off b base rd hG hs hrd fun k c hk => ih k c hk (cleanL_iff.1 (by simpa [V.clean] using hc) c (List.mem_of_getElem? hk))
  | gp g off => exact .gp g off
  | ptr => simp [V.clean] at hc
  | nilptr => exact .nilptr
  | map => simp [V.clean] at hc
  | nilmap => exact .nilmap
  | fn f cs xs hl _ ih =>
    exact .fn f cs xs hl fun i c x hi hx => ih i c x hi hx (cleanL_iff.1 (by simpa [V.clean] using hc) c (List.mem_of_getElem? hi))
  | nilfn => exact .nilfn
  | iface t v x _ ih => exact .iface t v x (ih (by simpa [V.clean] using hc))
  | nilif => exact .nilif
  | tup cs xs hl _ ih =>
    exact .tup cs xs hl fun i c x hi hx => ih i c x hi hx (cleanL_iff.1 (by simpa [V.clean] using hc) c (List.mem_of_getElem? hi))

/-! ## functions -/
/-- where a result stands: in a slot, or in the object that a slot points to -/
inductive RS where
  | t (k : Nat)
  | c (k : Nat) (n : Option Nat)
  deriving Inhabited

structure AFn where
  n : Nat
  body : ACode
  res : List RS

def cRes (P : Program) (n : Nat) : List ResultVar → Option (List RS)
  | [] => some []
  | .tmp t :: r => if t < n then (cRes P n r).map (.t t :: ·) else none
  | .cell t ty :: r => if t < n then (ldN P ty).bind fun k => (cRes P n r).map (.c t k :: ·) else none

def cFn (P : Program) (f : FuncId) : Option AFn :=
  match P.funcs[f]? with
  | some fn => match fn.body with
    | some c => if fn.name = "runtime.NumGoroutine" then none else (cRes P fn.ntmps fn.results.toList).map fun rs => ⟨fn.ntmps, comp P fn.ntmps c, rs⟩
    | none => none
  | none => none

def St.init (args : List V) : St := ⟨fun t => args.getD t Nil, fun _ => false, fun _ => none, 0⟩

def rv (st : St) : RS → Option (V × Bool)
  | .t k => some (st.tm k, st.own (.slot k))
  | .c k n => match st.tm k with
    | .ptr id off => ((hCells st.H id).bind fun cs => ldCells n cs off).map fun v => (v, false)
    | _ => none
def rvs (st : St) : List RS → Option (List V)
  | [] => some []
  | r :: rs => (rv st r).bind fun p => (rvs st rs).map (p.1 :: ·)
def resOf (res : List RS) (st : St) : Option (V × Bool) :=
  match res with
  | [r] => rv st r
  | rs => (rvs st rs).map fun vs => (.tup vs, false)

def retQ (res : List RS) (r : V × Bool) : Ex → St → Prop
  | .exit _, _ => False
  | _, st => ∃ p, resOf res st = some p ∧ p.1 = r.1 ∧ (r.2 = true → p.2 = true)

def resM (tmps : Array Value) : ResultVar → Sem Value
  | .tmp t => pure (tmps.getD t undef)
  | .cell a t => do loadVar t (← asAddr (tmps.getD a undef))

theorem results_eq (fn : Func) (tmps : Array Value) (P : Program) (W : World) {ys : List Value} (h : (fn.results.toList.mapM (resM tmps)).run P W = .ok ys W) :
    (results fn tmps).run P W = .ok (if h : ys.toArray.size = 1 then ys.toArray[0] else .tuple ys.toArray) W := by
  have e : fn.results = fn.results.toList.toArray := rfl
  have key : (fn.results.mapM (resM tmps)).run P W = .ok ys.toArray W := by
    rw [e]
    simp only [List.mapM_toArray] at h ⊢
    simp [h]
  have e2 : results fn tmps = (fn.results.mapM (resM tmps)) >>= fun vs => pure (if h : vs.size = 1 then vs[0] else .tuple vs) := by
    unfold results
    congr 1
  rw [e2, Sem.run_bind, key]
  simp only [Result.andThen_ok, Sem.run_pure]

theorem rv_run {g : Gh} {st : St} {a : Act} {W : World} (hs : Scope cx w B GB) (h : SR w B GB g st a W) {r : ResultVar} {s : RS} (hc : cRes cx.P a.tmps.size [r] = some [s]) {p : V × Bool} (hp : rv st s = some p) :
    ∃ y, (resM a.tmps r).run cx.P W = .ok y W ∧ Rep W g.G g.φ p.1 y ∧ (p.2 = true → ∃ t, s = .t t ∧ p = (st.tm t, st.own (.slot t)) ∧ t < a.tmps.size ∧ y = a.tmps.getD t undef) := by
  cases r with
  | tmp t =>
    simp only [cRes] at hc
    split at hc
    · rename_i ht
      simp at hc; subst hc
      simp only [rv, Option.some.injEq] at hp; subst hp
      exact ⟨_, by simp [resM, Act.eval], h.get ht, fun _ => ⟨t, rfl, rfl, ht, rfl⟩⟩
    · simp at hc
  | cell t ty =>
    simp only [cRes] at hc
    split at hc
    · rename_i ht
      simp only [Option.bind_eq_some_iff, Option.map_some, Option.some.injEq, List.cons.injEq, and_true] at hc
      obtain ⟨k, hk, rfl⟩ := hc
      have hr := h.get ht
      simp only [rv] at hp
      split at hp
      · rename_i id off hid
        rw [hid] at hr
        simp only [Option.map_eq_some_iff] at hp
        obtain ⟨v, hv, rfl⟩ := hp
        obtain ⟨y, h1, h2⟩ := d_load hs h (u := .ptr id off) hk hr (by simpa [vLoad] using hv)
        refine ⟨y, ?_, h2, fun h => by cases h⟩
        simp only [Act.eval] at h1 hr
        generalize hxe : a.tmps.getD t undef = xv at hr h1
        cases hr
        simp only [resM, hxe]
        simpa [Instr.loadAt, Instr.sureAddr, asAddr] using h1
      · cases hp
    · simp at hc

theorem rvs_run {g : Gh} {st : St} {a : Act} {W : World} (hs : Scope cx w B GB) (h : SR w B GB g st a W) : ∀ {rs : List ResultVar} {ss : List RS} {vs : List V}, cRes cx.P a.tmps.size rs = some ss → rvs st ss = some vs →
    ∃ ys : List Value, (rs.mapM (resM a.tmps)).run cx.P W = .ok ys W ∧ vs.length = ys.length ∧ ∀ (i : Nat) (c : V) (x : Value), vs[i]? = some c → ys[i]? = some x → Rep W g.G g.φ c x
  | [], ss, vs, h1, h2 => by
    simp [cRes] at h1; subst h1
    simp [rvs] at h2; subst h2
    exact ⟨[], by simp, rfl, fun i c x hc => by simp at hc⟩
  | r :: rs, ss, vs, h1, h2 => by
    have hsplit : ∃ s ss', ss = s :: ss' ∧ cRes cx.P a.tmps.size [r] = some [s] ∧ cRes cx.P a.tmps.size rs = some ss' := by
      cases r with
      | tmp t =>
        simp only [cRes] at h1 ⊢
        split at h1
        · rename_i ht
          simp only [Option.map_eq_some_iff] at h1
          obtain ⟨ss', h3, rfl⟩ := h1
          exact ⟨_, _, rfl, by simp [ht], h3⟩
        · simp at h1
      | cell t ty =>
        simp only [cRes] at h1 ⊢
        split at h1
        · rename_i ht
          simp only [Option.bind_eq_some_iff, Option.map_eq_some_iff] at h1
          obtain ⟨k, hk, ss', h3, rfl⟩ := h1
          exact ⟨_, _, rfl, by simp [ht, hk], h3⟩
        · simp at h1
    obtain ⟨s, ss', rfl, h3, h4⟩ := hsplit
    simp only [rvs, Option.bind_eq_some_iff, Option.map_eq_some_iff] at h2
    obtain ⟨p, hp, vs', hvs, rfl⟩ := h2
    obtain ⟨y, q1, q2, _⟩ := rv_run hs h h3 hp
    obtain ⟨ys, q3, q4, q5⟩ := rvs_run hs h h4 hvs
    refine ⟨y :: ys, by simp [q1, q3], by simp [q4], fun i c x hc hx => ?_⟩
    cases i with
    | zero => simp at hc hx; subst hc; subst hx; exact q2
    | succ i => exact q5 i c x (by simpa using hc) (by simpa using hx)

/-- A FUNCTION'S CONTRACT from what its code comes to. -/
theorem pc_of_awp (hgl : GlOK cx) (hm : cx.P.follows .mixedOrders = true) (hΓ : Sound cx Γ) {f : FuncId} {F : AFn} (hf : cFn cx.P f = some F) {args : List V} {r : V × Bool} (hl : args.length ≤ F.n) (hca : cleanL args = true) (hcr : r.1.clean = true)
    (h : awp Γ cx.gl F.body (retQ F.res r) (St.init args)) : PC cx f args r := by
  unfold cFn at hf
  split at hf
  · rename_i fn hfn
    split at hf
    · rename_i c hc
      split at hf
      · simp at hf
      · rename_i hname
        simp only [Option.map_eq_some_iff] at hf
        obtain ⟨ts, hts, rfl⟩ := hf
        have hl' : args.length ≤ fn.ntmps := hl
        refine ⟨⟨fn, hfn, hname, by simp [hc]⟩, fun W G φ xs hW hxs => ?_⟩
        have hB0 : cx.w0.heap.size ≤ W.heap.size := hW.below.size
        have hs : Scope cx W (fun b => W.heap.size ≤ b) G := ⟨hW.below, fun b hb => Nat.le_trans hB0 hb, hW.Glo, hgl⟩
        have hargs : ∀ (t : Nat) (x : Value), (xs ++ Array.replicate (fn.ntmps - xs.size) undef)[t]? = some x → Rep W G (fun _ => none) ((St.init args).tm t) x := by
          intro t x hx
          by_cases ht : t < xs.size
          · rw [Array.getElem?_append_left ht] at hx
            obtain ⟨v, hv⟩ : ∃ v, args[t]? = some v := ⟨_, List.getElem?_eq_getElem (by rw [hxs.1]; exact ht)⟩
            have : (St.init args).tm t = v := by simp [St.init, List.getD, hv]
            rw [this]
            exact (hxs.2 t v x hv hx).clean (cleanL_iff.1 hca v (List.mem_of_getElem? hv))
          · rw [Array.getElem?_append_right (by omega)] at hx
            have hx' : x = undef := by
              rw [Array.getElem?_replicate] at hx
              split at hx <;> simp at hx
              exact hx.symm
            have : (St.init args).tm t = Nil := by simp [St.init, List.getD, List.getElem?_eq_none (show args.length ≤ t by rw [hxs.1]; omega)]
            rw [this, hx']
            exact .tup [] #[] rfl fun i c x hc => by simp at hc
        have h0 : SR W (fun b => W.heap.size ≤ b) G ⟨G, fun _ => none, fun _ => none⟩ (St.init args) { tmps := xs ++ Array.replicate (fn.ntmps - xs.size) undef, defers := [] } W :=
          ⟨rfl, hargs, fun t x hx ho => by simp [St.init] at ho, fun id cs hc => by simp [St.init] at hc, fun _ _ => rfl, fun id b hb => by simp at hb, fun id id' b hb => by simp at hb, hW.Gz, fun _ _ => rfl, .refl _ _, fun _ h => h⟩
        refine calls_of_wp hfn hc (comp_sound hs hΓ hm (n := fn.ntmps) c _ _ _ _ _ _ h0 (by simp [← hxs.1]; omega) h fun e st g a W' hq hsr hn => ?_)
        have hts' : cRes cx.P a.tmps.size fn.results.toList = some ts := by rw [hn]; exact hts
        have fin : (∃ p, resOf ts st = some p ∧ p.1 = r.1 ∧ (r.2 = true → p.2 = true)) → a.defers = [] ∧ ∃ v, (results fn a.tmps).run cx.P W' = .ok v W' ∧ ∃ G' y, Ending.returned v = .returned y ∧ Below W.heap.size W W' ∧ (∀ b, b < W.heap.size → G' b = G b) ∧ (∀ b, W'.heap.size ≤ b → G' b = 0) ∧
            Rep W' G' φ r.1 y ∧ (r.2 = true → ∀ ow q, (∀ b, W.heap.size ≤ b → ow b = some q) → OwnAt W' (fun b => W.heap.size ≤ b) ⟨G', φ, ow⟩ q r.1 y) := by
          rintro ⟨p, hp, hr1, hr2⟩
          obtain ⟨rv0, ro⟩ := r
          simp only at hr1 hr2 hcr
          subst hr1
          by_cases h1 : ∃ s, ts = [s]
          · obtain ⟨s, rfl⟩ := h1
            simp only [resOf] at hp
            have hone : ∃ rr, fn.results.toList = [rr] := by
              cases hL : fn.results.toList with
              | nil => rw [hL] at hts; simp [cRes] at hts
              | cons rr l =>
                cases l with
                | nil => exact ⟨rr, rfl⟩
                | cons rr' l =>
                  rw [hL] at hts
                  exfalso
                  have len : ∀ {l : List ResultVar} {ss : List RS}, cRes cx.P fn.ntmps l = some ss → l.length = ss.length := by
                    intro l
                    induction l with
                    | nil => intro ss h; simp [cRes] at h; subst h; rfl
                    | cons x l ih =>
                      intro ss h
                      cases x with
                      | tmp t =>
                        simp only [cRes] at h
                        split at h
                        · simp only [Option.map_eq_some_iff] at h
                          obtain ⟨ss', h3, rfl⟩ := h
                          simp [ih h3]
                        · simp at h
                      | cell t ty =>
                        simp only [cRes] at h
                        split at h
                        · simp only [Option.bind_eq_some_iff, Option.map_eq_some_iff] at h
                          obtain ⟨k, hk, ss', h3, rfl⟩ := h
                          simp [ih h3]
                        · simp at h
                  have := len hts
                  simp at this
            obtain ⟨rr, hrr⟩ := hone
            rw [hrr] at hts'
            obtain ⟨y, q1, q2, q3⟩ := rv_run hs hsr hts' hp
            have hm : (fn.results.toList.mapM (resM a.tmps)).run cx.P W' = .ok [y] W' := by rw [hrr]; simp [q1]
            refine ⟨hsr.defers, _, results_eq fn a.tmps cx.P W' hm, g.G, y, by simp, hsr.below.below, (fun b hb => hsr.Glo b (Nat.not_le.2 hb)), hsr.Gz, q2.clean hcr, fun ho ow q hqq sz ys b off len cap sp hv hx => ?_⟩
            obtain ⟨t, rfl, hpe, ht, hy⟩ := q3 (hr2 ho)
            have e : a.tmps[t]? = some (a.tmps.getD t undef) := by rw [Array.getElem?_eq_getElem ht]; simp [Array.getD, ht]
            subst hpe
            simp only at hv hr2
            rcases hsr.own t _ e (hr2 ho) sz ys b off len cap sp hv (by rw [← hy]; exact hx) with h2 | ⟨h2, h3, h4⟩
            · exact .inl h2
            · exact .inr ⟨h2, hqq b h2, h4⟩
          · have hr' : resOf ts st = (rvs st ts).map fun vs => (.tup vs, false) := by
              unfold resOf
              split
              · exact absurd ⟨_, rfl⟩ h1
              · rfl
            rw [hr', Option.map_eq_some_iff] at hp
            obtain ⟨vs, hvs, rfl⟩ := hp
            obtain ⟨ys, q1, q2, q3⟩ := rvs_run hs hsr hts' hvs
            have hne : ¬ ys.toArray.size = 1 := by
              intro he
              simp at he
              have hl : ∀ {ss : List RS} {vs : List V}, rvs st ss = some vs → ss.length = vs.length := by
                intro ss
                induction ss with
                | nil => intro vs h; simp [rvs] at h; subst h; rfl
                | cons s ss ih =>
                  intro vs h
                  simp only [rvs, Option.bind_eq_some_iff, Option.map_eq_some_iff] at h
                  obtain ⟨p, _, vs', h3, rfl⟩ := h
                  simp [ih h3]
              have := hl hvs
              exact h1 (List.length_eq_one_iff.1 (by omega))
            refine ⟨hsr.defers, _, results_eq fn a.tmps cx.P W' q1, g.G, .tuple ys.toArray, by rw [dif_neg hne], hsr.below.below, (fun b hb => hsr.Glo b (Nat.not_le.2 hb)), hsr.Gz, ?_, fun ho => absurd (hr2 ho) (by simp)⟩
            exact Rep.clean (φ := g.φ) (.tup _ _ (by simpa using q2) fun i c x hi hx => q3 i c x hi (by simpa using hx)) hcr
        cases e with
        | normal => exact fin hq
        | exit i => exact hq.elim
        | ret => exact fin hq
    · simp at hf
  · simp at hf

#print axioms pc_of_awp
#print axioms comp_sound
end Go.Abs
