/-
  Abs, part S: code: what it comes to from a plain state (a weakest precondition); that the machine follows; a function's contract. Own work of this seat.
-/
import Derived.Test.YtainplhaaklpeaaDoorAbsR
namespace Go.Abs
open Go.RowKit

def thenQ (K : St → Prop) (Q : Ex → St → Prop) : Ex → St → Prop
  | .normal, s => K s
  | e, s => Q e s

def loopN (body : (Ex → St → Prop) → St → Prop) (Q : Ex → St → Prop) : Nat → St → Prop
  | 0, _ => False
  | k + 1, st => body (thenQ (loopN body Q k) Q) st

def condP (v : V) (p q : Prop) : Prop := match v with | .bool true => p | .bool false => q | _ => False
def someP (o : Option St) (p : St → Prop) : Prop := match o with | some s => p s | none => False

def awp (Γ : Spec) (gl : Nat → Option (List V)) : ACode → (Ex → St → Prop) → St → Prop
  | .skip, Q, st => Q .normal st
  | .region ops _, Q, st => someP (execs Γ gl ops st) (Q .normal)
  | .seq a b, Q, st => awp Γ gl a (thenQ (awp Γ gl b Q) Q) st
  | .cond c a b, Q, st => condP (evO st.tm c) (awp Γ gl a Q st) (awp Γ gl b Q st)
  | .block id b, Q, st => awp Γ gl b (fun e s => Q (e.inBlock id) s) st
  | .loop b, Q, st => ∃ k, loopN (awp Γ gl b) Q k st
  | .exit id, Q, st => Q (.exit id) st
  | .ret, Q, st => Q .ret st
  | .fail, _, _ => False

theorem thenQ_mono {K K' : St → Prop} {Q Q' : Ex → St → Prop} (hK : ∀ s, K s → K' s) (hQ : ∀ e s, Q e s → Q' e s) : ∀ e s, thenQ K Q e s → thenQ K' Q' e s
  | .normal, s, h => hK s h
  | .exit _, s, h => hQ _ s h
  | .ret, s, h => hQ _ s h

theorem awp_mono {Γ : Spec} {gl : Nat → Option (List V)} : ∀ {c : ACode} {Q Q' : Ex → St → Prop} {st : St}, (∀ e s, Q e s → Q' e s) → awp Γ gl c Q st → awp Γ gl c Q' st := by
  intro c
  induction c with
  | skip => intro Q Q' st hq h; exact hq _ _ h
  | region ops d =>
    intro Q Q' st hq h
    simp only [awp] at h ⊢
    unfold someP at h ⊢
    split at h
    · exact hq _ _ h
    · exact h.elim
  | seq a b iha ihb => intro Q Q' st hq h; exact iha (thenQ_mono (fun s => ihb hq) hq) h
  | cond c a b iha ihb =>
    intro Q Q' st hq h
    simp only [awp] at h ⊢
    unfold condP at h ⊢
    split at h
    · exact iha hq h
    · exact ihb hq h
    · exact h.elim
  | block id b ih => intro Q Q' st hq h; exact ih (fun e s => hq _ s) h
  | loop b ih =>
    intro Q Q' st hq h
    obtain ⟨k, h⟩ := h
    refine ⟨k, ?_⟩
    induction k generalizing st with
    | zero => exact h.elim
    | succ k ihk => exact ih (thenQ_mono (fun s => ihk) hq) h
  | exit id => intro Q Q' st hq h; exact hq _ _ h
  | ret => intro Q Q' st hq h; exact hq _ _ h
  | fail => intro Q Q' st hq h; exact h.elim

theorem awp_loop {Γ : Spec} {gl : Nat → Option (List V)} {b : ACode} {Q : Ex → St → Prop} {st : St} (I : St → Prop) (μ : St → Nat) (h0 : I st)
    (round : ∀ s, I s → awp Γ gl b (thenQ (fun s' => I s' ∧ μ s' < μ s) Q) s) : awp Γ gl (.loop b) Q st := by
  have key : ∀ k s, I s → μ s < k → loopN (awp Γ gl b) Q k s := by
    intro k
    induction k with
    | zero => intro s _ h; omega
    | succ k ih => intro s hI hk; exact awp_mono (thenQ_mono (fun s' h => ih s' h.1 (by have := h.2; omega)) fun _ _ h => h) (round s hI)
  exact ⟨μ st + 1, key _ st h0 (by omega)⟩

/-! ## reading the loaded code -/
def mOf (as : List AOper) : Nat :=
  let an := ancs as []
  let N := as.length
  N - ((List.range N).reverse.takeWhile fun i => (List.range i).all fun j => (an.getD i []).contains j).length

/-- without its edges, of which its value knows nothing -/
def AOper.bare (o : AOper) : AOper := ⟨o.dst, o.op, o.guard, []⟩

theorem execs_bare {Γ : Spec} {gl : Nat → Option (List V)} : ∀ {as : List AOper} {st : St}, execs Γ gl (as.map AOper.bare) st = execs Γ gl as st
  | [], _ => rfl
  | o :: r, st => by
    simp only [List.map_cons, execs]
    have : exec Γ gl o.bare st = exec Γ gl o st := rfl
    rw [this]
    cases exec Γ gl o st with
    | none => rfl
    | some s => exact execs_bare

def comp (P : Program) (n : Nat) : Code → ACode
  | .skip => .skip
  | .region _ ops draw => match cOpers P n ops ops.toList with
    | some as => if draw then (if mOf as ≤ as.length ∧ drawOk n as (mOf as) = true then .region (as.map AOper.bare) true else .fail) else .region (as.map AOper.bare) false
    | none => .fail
  | .seq a b => .seq (comp P n a) (comp P n b)
  | .cond c a b => match cOpd P n 0 c with | some c => .cond c (comp P n a) (comp P n b) | none => .fail
  | .block id b => .block id (comp P n b)
  | .loop b => .loop (comp P n b)
  | .exit id => .exit id
  | .ret => .ret
  | _ => .fail

def exm : Ex → Exit
  | .normal => .normal
  | .exit id => .exit id
  | .ret => .ret

theorem SR.drew {w B GB g st a W} (h : SR w B GB g st a W) : SR w B GB g st a W.drew := by
  have := h.adv (Adv.refl h none).drew
  simpa [St.take] using this

variable {cx : Cx} {w : World} {B : Nat} {GB : Nat → Nat} {Γ : Spec}

theorem comp_sound (hs : Scope cx w B GB) (hΓ : Sound cx Γ) (hm : cx.P.follows .mixedOrders = true) {n : Nat} : ∀ (c : Code) (Q : Ex → St → Prop) (g : Gh) (st : St) (a : Act) (W : World) (R : Exit → Act → World → Prop),
    SR w B GB g st a W → a.tmps.size = n → awp Γ cx.gl (comp cx.P n c) Q st → (∀ e st g a W, Q e st → SR w B GB g st a W → a.tmps.size = n → R (exm e) a W) → c.wp cx.P R a W := by
  intro c
  induction c with
  | skip => intro Q g st a W R h hn hq hR; exact wp_skip (hR .normal st g a W hq h hn)
  | exit id => intro Q g st a W R h hn hq hR; exact wp_exit (hR (.exit id) st g a W hq h hn)
  | ret => intro Q g st a W R h hn hq hR; exact wp_ret (hR .ret st g a W hq h hn)
  | region id ops draw =>
    intro Q g st a W R h hn hq hR
    simp only [comp] at hq
    split at hq
    · rename_i as has
      have fin : ∀ d, awp Γ cx.gl (.region (as.map AOper.bare) d) Q st → ∃ st', execs Γ cx.gl as st = some st' ∧ Q .normal st' := by
        intro d hq
        simp only [awp, execs_bare] at hq
        unfold someP at hq
        split at hq
        · exact ⟨_, by assumption, hq⟩
        · exact hq.elim
      cases draw with
      | false =>
        simp only [Bool.false_eq_true, if_false] at hq
        obtain ⟨st', he, hq⟩ := fin _ hq
        refine wp_region ?_
        rw [List.range_eq_range']
        exact execs_wpOps hs hΓ has (fun g' a' W' h' hn' => hR .normal st' g' a' W' hq h' hn') ops.size 0 g st a W (by omega) h hn (by simpa using he)
      | true =>
        simp only [if_true] at hq
        split at hq
        · rename_i hc
          obtain ⟨st', he, hq⟩ := fin _ hq
          exact wp_region_any hm (draw_wpAny hs hΓ has hc.1 hc.2 h.drew hn he fun g' a' W' h' hn' => hR .normal st' g' a' W' hq h' hn')
        · exact hq.elim
    · exact hq.elim
  | seq x y ihx ihy =>
    intro Q g st a W R h hn hq hR
    refine wp_seq (ihx _ g st a W _ h hn hq fun e st g a W hq h hn => ?_)
    cases e with
    | normal => exact ihy Q g st a W R h hn hq hR
    | exit id => exact hR (.exit id) st g a W hq h hn
    | ret => exact hR .ret st g a W hq h hn
  | cond c x y ihx ihy =>
    intro Q g st a W R h hn hq hR
    simp only [comp] at hq
    split at hq
    · rename_i c' hc
      have hr := cOpd_rep h hn hc
      simp only [awp] at hq
      unfold condP at hq
      split at hq
      · rename_i he; rw [he] at hr; cases hr' : a.eval c <;> rw [hr'] at hr <;> cases hr
        exact wp_cond hr' (ihx Q g st a W R h hn hq hR)
      · rename_i he; rw [he] at hr; cases hr' : a.eval c <;> rw [hr'] at hr <;> cases hr
        exact wp_cond hr' (ihy Q g st a W R h hn hq hR)
      · exact hq.elim
    · exact hq.elim
  | block id x ih =>
    intro Q g st a W R h hn hq hR
    refine wp_block (ih _ g st a W _ h hn hq fun e st g a W hq h hn => ?_)
    cases e with
    | normal => exact hR .normal st g a W hq h hn
    | exit i =>
      simp only [exm, Exit.inBlock]
      simp only [Ex.inBlock] at hq
      split
      · rename_i hi; rw [if_pos hi] at hq; exact hR .normal st g a W hq h hn
      · rename_i hi; rw [if_neg hi] at hq; exact hR (.exit i) st g a W hq h hn
    | ret => exact hR .ret st g a W hq h hn
  | loop x ih =>
    intro Q g st a W R h hn hq hR
    obtain ⟨k, hk⟩ := hq
    have key : ∀ (k : Nat) (g : Gh) (st : St) (a : Act) (W : World), SR w B GB g st a W → a.tmps.size = n → loopN (awp Γ cx.gl (comp cx.P n x)) Q k st → ∀ b kk cs,
        ∃ e a' w', R e a' w' ∧ Arrives cx.P (lone (b.at a (.code x :: .inLoop x :: kk)) cs W) b kk cs e a' w' := by
      intro k
      induction k with
      | zero => intro g st a W _ _ hl; exact hl.elim
      | succ k ihk =>
        intro g st a W h hn hl b kk cs
        have hwp := ih _ g st a W (fun e a' W' => match e with
          | .normal => ∃ g' st', SR w B GB g' st' a' W' ∧ a'.tmps.size = n ∧ loopN (awp Γ cx.gl (comp cx.P n x)) Q k st'
          | e => R e a' W') h hn hl fun e st' g' a' W' hq h' hn' => by
            cases e with
            | normal => exact ⟨g', st', h', hn', hq⟩
            | exit i => exact hR (.exit i) st' g' a' W' hq h' hn'
            | ret => exact hR .ret st' g' a' W' hq h' hn'
        obtain ⟨e, a₁, w₁, hq, harr⟩ := hwp b (.inLoop x :: kk) cs
        cases e with
        | normal =>
          obtain ⟨g', st', h', hn', hl'⟩ := hq
          obtain ⟨e₂, a₂, w₂, hq₂, harr₂⟩ := ihk g' st' a₁ w₁ h' hn' hl' b kk cs
          exact ⟨e₂, a₂, w₂, hq₂, .of_steps (Steps.trans harr (.one step_inLoop)) harr₂⟩
        | exit id => exact ⟨_, a₁, w₁, hq, .pass (x := .inLoop x) rfl (fun _ _ => .inl (by simp)) harr⟩
        | goto l => exact ⟨_, a₁, w₁, hq, .pass (x := .inLoop x) rfl (fun _ _ => .inl (by simp)) harr⟩
        | ret => exact ⟨_, a₁, w₁, hq, .pass (x := .inLoop x) rfl (fun _ _ => .inl (by simp)) harr⟩
        | panic ch => exact ⟨_, a₁, w₁, hq, .pass (x := .inLoop x) rfl (fun _ _ => .inl (by simp)) harr⟩
        | outgrown => exact ⟨_, a₁, w₁, hq, .pass (x := .inLoop x) rfl (fun _ _ => .inl (by simp)) harr⟩
    intro b kk cs
    obtain ⟨e, a', w', hq, harr⟩ := key k g st a W h hn hk b kk cs
    exact ⟨e, a', w', hq, .of_steps (.one step_loop) harr⟩
  | _ => intro Q g st a W R h hn hq hR; exact hq.elim

/-! ## values that name no object -/
mutual
def V.clean : V → Bool
  | .osl _ _ _ _ _ | .ptr _ _ | .map _ => false
  | .agg cs => cleanL cs
  | .sl _ _ cs => cleanL cs
  | .el cs _ => cleanL cs
  | .fn _ cs => cleanL cs
  | .tup cs => cleanL cs
  | .iface _ v => v.clean
  | _ => true
def cleanL : List V → Bool
  | [] => true
  | v :: r => v.clean && cleanL r
end
theorem cleanL_iff : ∀ {l : List V}, cleanL l = true ↔ ∀ v ∈ l, v.clean = true
  | [] => by simp [cleanL]
  | v :: r => by simp [cleanL, cleanL_iff (l := r)]

theorem V.clean_cells {v : V} (h : v.clean = true) : ∀ c ∈ v.cells, c.clean = true := by
  cases v <;> simp only [V.cells, List.mem_singleton, forall_eq] <;> first | exact h | exact cleanL_iff.1 (by simpa [V.clean] using h)

theorem Rep.clean {W G φ φ' v x} (h : Rep W G φ v x) (hc : v.clean = true) : Rep W G φ' v x := by
  induction h with
  | bool b => exact .bool b
  | int k n => exact .int k n
  | str l s h => exact .str l s h
  | agg cs xs hl hs h ih =>
    exact .agg cs xs hl hs fun i c x hi hx => ih i c x hi hx (cleanL_iff.1 (by simpa [V.clean] using hc) c (List.mem_of_getElem? hi))
  | slnil sz => exact .slnil sz
  | sl sz xs b off cap rd hcap hG hx hrd _ ih =>
    exact .sl sz xs b off cap rd hcap hG hx hrd fun i x j c hi hj => ih i x j c hi hj (V.clean_cells (cleanL_iff.1 (by simpa [V.clean] using hc) x (List.mem_of_getElem? hi)) c (List.mem_of_getElem? hj))
  | sl0 sz a => exact .sl0 sz a
  | osl => simp [V.clean] at hc
  | el cs off b base rd hG hs hrd _ ih =>
    exact .el cs off b base rd hG hs hrd fun k c hk => ih k c hk (cleanL_iff.1 (by simpa [V.clean] using hc) c (List.mem_of_getElem? hk))
  | gp g off => exact .gp g off
  | ptr => simp [V.clean] at hc
  | nilptr => exact .nilptr
  | map => simp [V.clean] at hc
  | nilmap => exact .nilmap
  | fn f cs xs hl _ ih =>
    exact .fn f cs xs hl fun i c x hi hx => ih i c x hi hx (cleanL_iff.1 (by simpa [V.clean] using hc) c (List.mem_of_getElem? hi))
  | nilfn => exact .nilfn
  | iface t v x _ ih => exact .iface t v x (ih (by simpa [V.clean] using hc))
  | nilif => exact .nilif
  | tup cs xs hl _ ih =>
    exact .tup cs xs hl fun i c x hi hx => ih i c x hi hx (cleanL_iff.1 (by simpa [V.clean] using hc) c (List.mem_of_getElem? hi))

/-! ## functions -/
structure AFn where
  n : Nat
  body : ACode
  res : List Nat

def cRes (n : Nat) : List ResultVar → Option (List Nat)
  | [] => some []
  | .tmp t :: r => if t < n then (cRes n r).map (t :: ·) else none
  | _ => none

def cFn (P : Program) (f : FuncId) : Option AFn :=
  match P.funcs[f]? with
  | some fn => match fn.body with
    | some c => if fn.name = "runtime.NumGoroutine" then none else (cRes fn.ntmps fn.results.toList).map fun rs => ⟨fn.ntmps, comp P fn.ntmps c, rs⟩
    | none => none
  | none => none

def St.init (args : List V) : St := ⟨fun t => args.getD t Nil, fun _ => false, fun _ => none, 0⟩

def resOf (res : List Nat) (st : St) : V × Bool :=
  match res with
  | [t] => (st.tm t, st.own (.slot t))
  | ts => (.tup (ts.map st.tm), false)

def retQ (res : List Nat) (r : V × Bool) : Ex → St → Prop
  | .exit _, _ => False
  | _, st => (resOf res st).1 = r.1 ∧ (r.2 = true → (resOf res st).2 = true)

theorem cRes_spec {n : Nat} : ∀ {rs : List ResultVar} {ts : List Nat}, cRes n rs = some ts → rs = ts.map .tmp ∧ ∀ t ∈ ts, t < n
  | [], ts, h => by simp [cRes] at h; subst h; exact ⟨rfl, by simp⟩
  | .tmp t :: r, ts, h => by
    simp only [cRes] at h
    split at h
    · rename_i ht
      simp only [Option.map_eq_some_iff] at h
      obtain ⟨ts', h1, rfl⟩ := h
      obtain ⟨h2, h3⟩ := cRes_spec h1
      exact ⟨by simp [h2], fun u hu => by rcases List.mem_cons.1 hu with rfl | hu; exact ht; exact h3 u hu⟩
    · simp at h
  | .cell _ _ :: r, ts, h => by simp [cRes] at h

theorem results_tmps {fn : Func} {ts : List Nat} (h : fn.results.toList = ts.map .tmp) (tmps : Array Value) (P : Program) (W : World) :
    (results fn tmps).run P W = .ok (if h : ((ts.map fun t => tmps.getD t undef).toArray).size = 1 then ((ts.map fun t => tmps.getD t undef).toArray)[0] else .tuple (ts.map fun t => tmps.getD t undef).toArray) W := by
  have e : fn.results = (ts.map ResultVar.tmp).toArray := by rw [← h]
  have key : ∀ (f : ResultVar → Sem Value), (∀ t, f (.tmp t) = pure (tmps.getD t undef)) → ∀ (ts : List Nat) (W : World), ((ts.map ResultVar.tmp).toArray.mapM f).run P W = Result.ok (ts.map fun t => tmps.getD t undef).toArray W := by
    intro f hf ts W
    induction ts with
    | nil => simp
    | cons t ts ih =>
      simp only [List.mapM_toArray] at ih ⊢
      simp [hf] at ih ⊢
      cases hr : Sem.run P (List.mapM (f ∘ ResultVar.tmp) ts) W <;> simp_all
  unfold results
  rw [e]
  rw [Sem.run_bind, key _ ?_]
  · simp only [Result.andThen_ok, Sem.run_pure]
  · intro t; rfl

/-- A FUNCTION'S CONTRACT from what its code comes to. -/
theorem pc_of_awp (hgl : GlOK cx) (hm : cx.P.follows .mixedOrders = true) (hΓ : Sound cx Γ) {f : FuncId} {F : AFn} (hf : cFn cx.P f = some F) {args : List V} {r : V × Bool} (hl : args.length ≤ F.n) (hca : cleanL args = true) (hcr : r.1.clean = true)
    (h : awp Γ cx.gl F.body (retQ F.res r) (St.init args)) : PC cx f args r := by
  unfold cFn at hf
  split at hf
  · rename_i fn hfn
    split at hf
    · rename_i c hc
      split at hf
      · simp at hf
      · rename_i hname
        simp only [Option.map_eq_some_iff] at hf
        obtain ⟨ts, hts, rfl⟩ := hf
        obtain ⟨hres, htl⟩ := cRes_spec hts
        have hl' : args.length ≤ fn.ntmps := hl
        refine ⟨⟨fn, hfn, hname, by simp [hc]⟩, fun W G φ xs hW hxs => ?_⟩
        have hB0 : cx.w0.heap.size ≤ W.heap.size := hW.below.size
        have hs : Scope cx W W.heap.size G := ⟨hW.below, hB0, hW.Glo, hgl⟩
        have hargs : ∀ (t : Nat) (x : Value), (xs ++ Array.replicate (fn.ntmps - xs.size) undef)[t]? = some x → Rep W G (fun _ => none) ((St.init args).tm t) x := by
          intro t x hx
          by_cases ht : t < xs.size
          · rw [Array.getElem?_append_left ht] at hx
            obtain ⟨v, hv⟩ : ∃ v, args[t]? = some v := ⟨_, List.getElem?_eq_getElem (by rw [hxs.1]; exact ht)⟩
            have : (St.init args).tm t = v := by simp [St.init, List.getD, hv]
            rw [this]
            exact (hxs.2 t v x hv hx).clean (cleanL_iff.1 hca v (List.mem_of_getElem? hv))
          · rw [Array.getElem?_append_right (by omega)] at hx
            have hx' : x = undef := by
              rw [Array.getElem?_replicate] at hx
              split at hx <;> simp at hx
              exact hx.symm
            have : (St.init args).tm t = Nil := by simp [St.init, List.getD, List.getElem?_eq_none (show args.length ≤ t by rw [hxs.1]; omega)]
            rw [this, hx']
            exact .tup [] #[] rfl fun i c x hc => by simp at hc
        have h0 : SR W W.heap.size G ⟨G, fun _ => none, fun _ => none⟩ (St.init args) { tmps := xs ++ Array.replicate (fn.ntmps - xs.size) undef, defers := [] } W :=
          ⟨rfl, hargs, fun t x hx ho => by simp [St.init] at ho, fun id cs hc => by simp [St.init] at hc, fun _ _ => rfl, fun id b hb => by simp at hb, fun id id' b hb => by simp at hb, hW.Gz, fun _ _ => rfl, .refl _ _, Nat.le_refl _⟩
        refine calls_of_wp hfn hc (comp_sound hs hΓ hm (n := fn.ntmps) c _ _ _ _ _ _ h0 (by simp [← hxs.1]; omega) h fun e st g a W' hq hsr hn => ?_)
        have fin : ((resOf ts st).1 = r.1 ∧ (r.2 = true → (resOf ts st).2 = true)) → a.defers = [] ∧ ∃ v, (results fn a.tmps).run cx.P W' = .ok v W' ∧ ∃ G' y, Ending.returned v = .returned y ∧ Below W.heap.size W W' ∧ (∀ b, b < W.heap.size → G' b = G b) ∧ (∀ b, W'.heap.size ≤ b → G' b = 0) ∧
            Rep W' G' φ r.1 y ∧ (r.2 = true → ∀ ow q, (∀ b, W.heap.size ≤ b → ow b = some q) → OwnAt W' W.heap.size ⟨G', φ, ow⟩ q r.1 y) := by
          intro hr
          refine ⟨hsr.defers, _, results_tmps hres a.tmps cx.P W', g.G, _, rfl, hsr.below, hsr.Glo, hsr.Gz, ?_⟩
          have hlk : ∀ t ∈ ts, Rep W' g.G g.φ (st.tm t) (a.tmps.getD t undef) := fun t ht => hsr.get (by rw [hn]; exact htl t ht)
          by_cases h1 : ∃ t, ts = [t]
          · obtain ⟨t, rfl⟩ := h1
            simp only [resOf] at hr
            obtain ⟨hr1, hr2⟩ := hr
            obtain ⟨rv, ro⟩ := r
            simp only at hr1 hr2 hcr
            subst hr1
            have ht := htl t (by simp)
            simp only [List.map_cons, List.map_nil, List.size_toArray, List.length_cons, List.length_nil, Nat.zero_add, dif_pos, List.getElem_toArray, List.getElem_cons_zero]
            refine ⟨(hlk t (by simp)).clean hcr, fun ho ow q hq sz ys b off len cap sp hv hx => ?_⟩
            have e : a.tmps[t]? = some (a.tmps.getD t undef) := by rw [Array.getElem?_eq_getElem (show t < a.tmps.size by rw [hn]; exact ht)]; simp [Array.getD, show t < a.tmps.size by rw [hn]; exact ht]
            rcases hsr.own t _ e (hr2 ho) sz ys b off len cap sp hv hx with h2 | ⟨h2, h3, h4⟩
            · exact .inl h2
            · exact .inr ⟨h2, hq b h2, h4⟩
          · have hne : ¬ ((ts.map fun t => a.tmps.getD t undef).toArray).size = 1 := by
              intro he
              simp at he
              exact h1 (List.length_eq_one_iff.1 he)
            have hr' : resOf ts st = (.tup (ts.map st.tm), false) := by
              unfold resOf
              split
              · exact absurd ⟨_, rfl⟩ h1
              · rfl
            rw [hr'] at hr
            obtain ⟨hr1, hr2⟩ := hr
            obtain ⟨rv, ro⟩ := r
            simp only at hr1 hr2 hcr
            subst hr1
            rw [dif_neg hne]
            refine ⟨Rep.clean (φ := g.φ) (.tup _ _ (by simp) fun i c x hi hx => ?_) hcr, fun ho => absurd (hr2 ho) (by simp)⟩
            simp only [List.getElem?_map, Option.map_eq_some_iff, List.getElem?_toArray] at hi hx
            obtain ⟨t, h2, rfl⟩ := hi
            obtain ⟨t', h3, rfl⟩ := hx
            rw [h2] at h3; cases h3
            exact hlk t (List.mem_of_getElem? h2)
        cases e with
        | normal => exact fin hq
        | exit i => exact hq.elim
        | ret => exact fin hq
    · simp at hf
  · simp at hf

#print axioms pc_of_awp
#print axioms comp_sound
end Go.Abs
