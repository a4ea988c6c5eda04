/-
  Abs, part N: a region: its operations in the text's order; in whatever order its edges allow. Own work of this seat.
-/
import Derived.Test.YtainplhaaklpeaaDoorAbsM
namespace Go.Abs
open Go.RowKit

def cGuard (n : Nat) (ops : Array Oper) : Option (Nat × Bool) → Option (Option (Nat × Bool))
  | none => some none
  | some (j, wt) => match (ops[j]?).bind (·.dst) with
    | some s => if s < n then some (some (s, wt)) else none
    | none => none
def afters (o : Oper) : List Nat := (o.after.toList.filter (Region.binds .any)).map (·.on)
def cOper (P : Program) (n : Nat) (ops : Array Oper) (o : Oper) : Option AOper :=
  (cOp P n ops o).bind fun ao => (cGuard n ops o.guard).map fun gd => ⟨o.dst, ao, gd, afters o⟩
def cOpers (P : Program) (n : Nat) (ops : Array Oper) : List Oper → Option (List AOper)
  | [] => some []
  | o :: r => (cOper P n ops o).bind fun a => (cOpers P n ops r).map (a :: ·)

variable {cx : Cx} {w : World} {B : Nat → Prop} {GB : Nat → Nat} {g : Gh} {st : St} {a : Act} {W : World} {Γ : Spec}

theorem cOpers_get {P : Program} {n : Nat} {ops : Array Oper} : ∀ {os : List Oper} {as : List AOper}, cOpers P n ops os = some as → as.length = os.length ∧ ∀ (i : Nat) (o : Oper), os[i]? = some o → ∃ x, as[i]? = some x ∧ cOper P n ops o = some x
  | [], as, h => by simp [cOpers] at h; subst h; exact ⟨rfl, fun i o hi => by simp at hi⟩
  | o :: r, as, h => by
    simp only [cOpers, Option.bind_eq_some_iff, Option.map_eq_some_iff] at h
    obtain ⟨x, h1, xs, h2, rfl⟩ := h
    obtain ⟨h3, h4⟩ := cOpers_get h2
    refine ⟨by simp [h3], fun i o' hi => ?_⟩
    cases i with
    | zero => simp at hi; subst hi; exact ⟨x, rfl, h1⟩
    | succ i => simpa using h4 i o' (by simpa using hi)

theorem wants_eq (h : SR w B GB g st a W) {n : Nat} (hn : a.tmps.size = n) {ops : Array Oper} {o : Oper} {x : AOper} (hc : cOper cx.P n ops o = some x) : Region.wanted o (yielded ops a.tmps) = st.wants x := by
  simp only [cOper, Option.bind_eq_some_iff, Option.map_eq_some_iff] at hc
  obtain ⟨ao, _, gd, hg, rfl⟩ := hc
  unfold cGuard at hg
  unfold Region.wanted St.wants
  split at hg
  · rename_i he
    simp only [Option.some.injEq] at hg; subst hg
    rw [he]
  · rename_i j wt he
    rw [he]
    split at hg
    · rename_i s hs
      split at hg
      · rename_i hlt
        simp only [Option.some.injEq] at hg; subst hg
        simp only [yielded, hs, Option.bind_some]
        obtain ⟨y, hx⟩ : ∃ y, a.tmps[s]? = some y := ⟨_, Array.getElem?_eq_getElem (show s < a.tmps.size by rw [hn]; exact hlt)⟩
        have hr := h.tm s _ hx
        rw [hx]
        generalize st.tm s = v at hr
        cases hr <;> simp
      · simp at hg
    · simp at hg

theorem exec_wpOp (hs : Scope cx w B GB) (hΓ : Sound cx Γ) (h : SR w B GB g st a W) {n : Nat} (hn : a.tmps.size = n) {ops : Array Oper} {i : Nat} {o : Oper} {x : AOper} (ho : ops[i]? = some o) (hc : cOper cx.P n ops o = some x) {st' : St}
    (he : exec Γ cx.gl x st = some st') {K : Act → World → Prop} {Q : Exit → Act → World → Prop} (hnext : ∀ g' a' W', SR w B GB g' st' a' W' → a'.tmps.size = n → K a' W') : wpOp cx.P ops Q i K a W := by
  unfold wpOp
  simp only [ho]
  have hw := wants_eq h hn hc
  have hc' := hc
  simp only [cOper, Option.bind_eq_some_iff, Option.map_eq_some_iff] at hc'
  obtain ⟨ao, h1, gd, _, rfl⟩ := hc'
  rw [hw]
  unfold exec at he
  split at he
  · rename_i hwt
    rw [if_pos hwt]
    exact .inl (exec1_sound hs hΓ h hn (ao := ⟨o.dst, ao, gd, afters o⟩) h1 rfl he hnext)
  · rename_i hwt
    rw [if_neg hwt]
    simp only [Option.some.injEq] at he
    subst he
    exact hnext g _ _ (h.putNil o.dst) (by rw [put_size]; exact hn)

/-- the text's order -/
theorem execs_wpOps (hs : Scope cx w B GB) (hΓ : Sound cx Γ) {n : Nat} {ops : Array Oper} {as : List AOper} (hc : cOpers cx.P n ops ops.toList = some as) {Q : Exit → Act → World → Prop} {st' : St}
    (hnext : ∀ g' a' W', SR w B GB g' st' a' W' → a'.tmps.size = n → Q .normal a' W') : ∀ (m k : Nat) (g : Gh) (st : St) (a : Act) (W : World), k + m = ops.size → SR w B GB g st a W → a.tmps.size = n → execs Γ cx.gl (as.drop k) st = some st' →
    wpOps cx.P ops Q (List.range' k m) a W := by
  obtain ⟨hl, hget⟩ := cOpers_get hc
  intro m
  induction m with
  | zero =>
    intro k g st a W hk h hn he
    have : as.drop k = [] := List.drop_eq_nil_of_le (by rw [hl]; simp; omega)
    rw [this] at he
    simp only [execs, Option.some.injEq] at he
    subst he
    exact hnext g a W h hn
  | succ m ih =>
    intro k g st a W hk h hn he
    have hlt : k < ops.size := by omega
    obtain ⟨x, hx, hcx⟩ := hget k ops[k] (by simp [hlt])
    have hxl : k < as.length := (List.getElem?_eq_some_iff.1 hx).1
    have hd : as.drop k = x :: as.drop (k + 1) := by
      rw [List.drop_eq_getElem_cons hxl]
      congr 1
      have := List.getElem?_eq_getElem hxl
      rw [hx] at this; exact (Option.some.inj this).symm
    rw [hd] at he
    simp only [execs] at he
    split at he
    · rename_i st1 he1
      rw [List.range'_succ, wpOps_cons]
      exact exec_wpOp hs hΓ h hn (Array.getElem?_eq_getElem hlt) hcx he1 fun g' a' W' h' hn' => ih (k + 1) g' st1 a' W' (by omega) h' hn' he
    · simp at he

/-! ## in any order -/
def opdR : Opd → List Nat
  | .tmp t => [t]
  | .const _ => []
def opdsR (xs : List Opd) : List Nat := xs.flatMap opdR
def optR : Option Opd → List Nat
  | some x => opdR x
  | none => []

/-- the slots that a pure operation reads -/
def AOp.reads : AOp → List Nat
  | .mv x | .ext x _ | .un _ x | .len _ x | .faddr _ x | .load _ x | .ldo x | .fld _ _ x | .s2b x | .b2s x | .i2i _ x | .s2s x | .s2a _ x | .nilck x | .box x => opdR x
  | .mvo t => [t]
  | .pick c x y => opdR c ++ opdR x ++ opdR y
  | .bin _ _ x y | .mnx _ x y | .iaddr _ x y | .iarr _ _ x y | .idx x y | .idxa _ _ _ x y | .app _ x y | .mks _ _ x y => opdR x ++ opdR y
  | .sls x lo hi => opdR x ++ optR lo ++ optR hi
  | .slc _ x lo hi mx | .slca _ _ x lo hi mx => opdR x ++ optR lo ++ optR hi ++ optR mx
  | .build _ ps => ps.flatMap fun p => opdR p.2.2
  | .bsl _ xs | .call _ xs | .mkf _ xs => opdsR xs
  | .callv f xs => opdR f ++ opdsR xs
  | .new _ => []
  | .store _ x y => opdR x ++ opdR y
  | .sto x t => opdR x ++ [t]

/-- the slots whose right to append it asks for -/
def AOp.owns : AOp → List Nat
  | .mvo t => [t]
  | .app _ x _ => opdR x
  | _ => []

def AOp.isLdo : AOp → Bool
  | .ldo _ => true
  | _ => false
def AOp.isNew : AOp → Bool
  | .new _ | .box _ => true
  | _ => false
def AOp.isStore : AOp → Bool
  | .store _ _ _ | .sto _ _ => true
  | _ => false

theorem evO_congr {tm tm' : Nat → V} {x : Opd} (h : ∀ t ∈ opdR x, tm t = tm' t) : evO tm x = evO tm' x := by
  cases x with
  | tmp t => exact h t (by simp [opdR])
  | const v => rfl
theorem evOs_congr {tm tm' : Nat → V} {xs : List Opd} (h : ∀ t ∈ opdsR xs, tm t = tm' t) : xs.map (evO tm) = xs.map (evO tm') := by
  apply List.map_congr_left
  intro x hx
  exact evO_congr fun t ht => h t (List.mem_flatMap.2 ⟨x, hx, ht⟩)
theorem evOo_congr {tm tm' : Nat → V} {x : Option Opd} (h : ∀ t ∈ optR x, tm t = tm' t) : x.map (evO tm) = x.map (evO tm') := by
  cases x with
  | none => rfl
  | some x => simp only [Option.map_some]; rw [evO_congr h]

theorem peval_congr {gl : Nat → Option (List V)} {H : Hp} {own own' : Pos → Bool} {tm tm' : Nat → V} {ao : AOp} (h : ∀ t ∈ ao.reads, tm t = tm' t) (ho : ∀ t ∈ ao.owns, own (.slot t) = own' (.slot t)) (hl : ao.isLdo = true → ∀ id j, own (.cell id j) = own' (.cell id j)) :
    peval Γ gl H own tm ao = peval Γ gl H own' tm' ao := by
  cases ao <;> simp only [AOp.reads, AOp.owns, AOp.isLdo] at h ho hl <;> simp only [peval]
  case mv x => rw [evO_congr h]
  case mvo t => rw [h t (by simp), ho t (by simp)]
  case pick c x y =>
    rw [evO_congr fun t ht => h t (by simp [ht]), evO_congr (x := x) fun t ht => h t (by simp [ht]), evO_congr (x := y) fun t ht => h t (by simp [ht])]
  case build z ps =>
    congr 3
    apply List.map_congr_left
    intro p hp
    rw [evO_congr fun t ht => h t (List.mem_flatMap.2 ⟨p, hp, ht⟩)]
  case bsl sz xs => rw [evOs_congr h]
  case call f xs => rw [evOs_congr h]
  case mkf f xs => rw [evOs_congr h]
  case callv f xs => rw [evO_congr fun t ht => h t (List.mem_append_left _ ht), evOs_congr fun t ht => h t (List.mem_append_right _ ht)]
  case sls x lo hi =>
    rw [evO_congr (x := x) fun t ht => h t (by simp [ht]), evOo_congr (x := lo) fun t ht => h t (by simp [ht]), evOo_congr (x := hi) fun t ht => h t (by simp [ht])]
  case slc sz x lo hi mx =>
    rw [evO_congr (x := x) fun t ht => h t (by simp [ht]), evOo_congr (x := lo) fun t ht => h t (by simp [ht]), evOo_congr (x := hi) fun t ht => h t (by simp [ht]), evOo_congr (x := mx) fun t ht => h t (by simp [ht])]
  case slca n sz x lo hi mx =>
    rw [evO_congr (x := x) fun t ht => h t (by simp [ht]), evOo_congr (x := lo) fun t ht => h t (by simp [ht]), evOo_congr (x := hi) fun t ht => h t (by simp [ht]), evOo_congr (x := mx) fun t ht => h t (by simp [ht])]
  case ldo x =>
    rw [evO_congr h]
    cases evO tm' x <;> simp only [vLdo]
    rename_i id o
    rw [hl trivial id o]
  case app sz s x =>
    rw [evO_congr (x := s) fun t ht => h t (by simp [ht]), evO_congr (x := x) fun t ht => h t (by simp [ht])]
    congr 1
    cases s with
    | tmp t => exact ho t (by simp [opdR])
    | const v => rfl
  all_goals first
    | rw [evO_congr h]
    | rw [evO_congr (fun t ht => h t (List.mem_append_left _ ht)), evO_congr (fun t ht => h t (List.mem_append_right _ ht))]
    | rfl

end Go.Abs
