/-
  What is proved: seichelaw17.ModfileBlank answers true, where what it reads is of bulk at most 1048576 (the tied card of its second form). Printed by a program of this seat (wip/gen/card.py), after the seat's worked example.
-/
import Derived.Test.YtanocopjancaiaaDoorM5
import Derived.Lay
import Derived.Stop.LaidErr
namespace Go.Proofs.YtanocopjancaiaaDoor.modfileBlank
open Go.ChangeShapes Go.WideShapes Go.RowKit Go.Abs

theorem witness_laid {H : Type} {enc : TypeId × Value → H} {C : Checked} {os : Os} {f : FuncId} {fn : Func} {s : OpenSpec} {conds : List PathCond} {apart : Bool} {laid : List (String × DataW Unit)} (w0 : World) (args : Array Value) (hos : w0.os = os)
    (hsh : (w0.forCall (fun _ _ => 0) ⟨#[], args, []⟩).Shaped C.prog)
    (hok : Input.okWideB C.prog (w0.forCall (fun _ _ => 0) ⟨#[], args, []⟩) f ⟨#[], args, []⟩ = true)
    (hrow : s.preRow enc C.prog fn conds apart laid (w0.forCall (fun _ _ => 0) ⟨#[], args, []⟩).memory args) :
    ∃ (w : World) (tape : Tape) (i : Input), w.os = os ∧ (w.forCall tape i).Shaped C.prog ∧ i.vars = [] ∧ Input.okWide C.prog (w.forCall tape i) .any w.heap.size f i ∧
      s.preRow enc C.prog fn conds apart laid (w.forCall tape i).memory i.args ∧ ({ modest := false } : Assume).holds C.prog (lone (Frame.enter C.prog f i.args .normal) [] (w.forCall tape i)) :=
  ⟨w0, fun _ _ => 0, ⟨#[], args, []⟩, hos, hsh, (Input.okWide_of_okWideB (base := 0) hok).1, (Input.okWide_of_okWideB hok).2, hrow, by
    simp only [Assume.holds]
    exact ⟨by simp, by simp, fun _ => Modest.zero, by simp, by simp⟩⟩
set_option maxRecDepth 100000 in
theorem in_string_9 {m : Nat} {vs : List V} (h : HasT Tryd.prog (m + 1) 9 vs) : ∃ x : Bytes, nfL vs = [(V.str x)] := in_str Tryd.underlying9 h
theorem row_err (u : TypeId) (h : Tryd.prog.typeName? 3 u = some "*errors.errorString") : u = 106 := by
  have hs : "*" ++ "errors.errorString" = "*errors.errorString" := by decide
  exact typeName_ptr_named (nm := "errors.errorString") (by rw [hs]; kernel_rfl) (by kernel_rfl) (by decide) u (by rw [hs]; exact h)
set_option maxRecDepth 100000 in
theorem env_ok {W : World} (hmax : HasMax W) (h : laidMet Tryd.prog Rows.modfileBlankUptoRow.laid W) : EnvE W where
  max := hmax
  syn := by
    have hg : Tryd.prog.globalNamed "strconv.ErrSyntax" = some 3 := by kernel_rfl
    obtain ⟨a, s, hv, _⟩ := laid_sentinel (laid_on (laid_on (laid_on (laid_on (laid_on h))))) hg (by kernel_rfl) Tryd.underlying62 row_err Tryd.underlying106 Tryd.underlying108 rfl rfl Tryd.underlying9 (by kernel_rfl) (by kernel_rfl)
    exact isErr_of hg hv
  rng := by
    have hg : Tryd.prog.globalNamed "strconv.ErrRange" = some 4 := by kernel_rfl
    obtain ⟨a, s, hv, _⟩ := laid_sentinel (laid_on (laid_on (laid_on (laid_on h)))) hg (by kernel_rfl) Tryd.underlying62 row_err Tryd.underlying106 Tryd.underlying108 rfl rfl Tryd.underlying9 (by kernel_rfl) (by kernel_rfl)
    exact isErr_of hg hv
  tab := Lib.tabIs_of_head (g := 5) (t := 110) (e := 92) (n := 20) (by kernel_rfl) (by kernel_rfl) Tryd.underlying110 Tryd.underlying92 (by kernel_rfl) (by kernel_rfl) (laid_on (laid_on h))
set_option maxRecDepth 100000 in
theorem laid_met (os : Os) : laidMet Tryd.prog Rows.modfileBlankUptoRow.laid ((World.laidAll Tryd.prog os Rows.modfileBlankUptoRow.laid).forCall (fun _ _ => 0) ⟨#[], #[.string ⟨#[]⟩, .string ⟨#[]⟩], []⟩).memory :=
  laidMet_laidAll _ (by kernel_rfl) (by kernel_rfl)
set_option maxRecDepth 100000 in
theorem reads (os : Os) {H : Type} (enc : TypeId × Value → H) : ∃ places, DataW.whole enc Tryd.prog ((World.laidAll Tryd.prog os Rows.modfileBlankUptoRow.laid).forCall (fun _ _ => 0) ⟨#[], #[.string ⟨#[]⟩, .string ⟨#[]⟩], []⟩).memory Tryd.f3.params.toList Rows.modfileBlankSpec.vars false (#[.string ⟨#[]⟩, .string ⟨#[]⟩] : Array Value).toList 8 = some ([.lit (.string []), .lit (.string [])], [], places) :=
  ⟨[], by kernel_rfl⟩

set_option maxRecDepth 100000 in
theorem lifted (os : Os) (started : os.Started) (H : Type) (enc : TypeId × Value → H) (F : Stop.Interp) :
    ReturnsInHanded {} Tryd.checked os 3 .any ((Rows.OpenSpec.upto Rows.modfileBlankSpec).preRow enc Tryd.prog Tryd.f3 Rows.modfileBlankUptoRow.domain false Rows.modfileBlankUptoRow.laid) (((Rows.OpenSpec.upto Rows.modfileBlankSpec).at F).post enc Tryd.prog Tryd.f3 false true false false) := by
  obtain ⟨places, hx⟩ := reads os enc
  refine returnsInHanded_of_row (C := Tryd.checked) (s := Rows.OpenSpec.upto Rows.modfileBlankSpec) ownK started (by kernel_rfl) Tryd.func3
    (witness_laid (enc := enc) (C := Tryd.checked) (World.laidAll Tryd.prog os Rows.modfileBlankUptoRow.laid) #[.string ⟨#[]⟩, .string ⟨#[]⟩] (World.laidAll_os _ _ _) (World.shaped_of_ZipB (by kernel_rfl) (by kernel_rfl)) (by kernel_rfl)
      (OpenSpec.preRow_of_cond 8 hx (by kernel_rfl) (fun k hk => by cases hk; kernel_rfl) (by kernel_rfl) (laid_met os))) ?_
  intro W base args ds gs before hval0 hW _ hcond _ hlaid hsh _
  have hval : ∀ (j : Nat) t v, Tryd.f3.params[j]? = some t → args[j]? = some v → Value.okWide Tryd.prog W .any base t v := hval0
  have hW' := hW
  obtain ⟨p, q, hA0, hV, rfl, hfz, hnd⟩ := hW
  have hA : DataW.TrodAll enc Tryd.prog W 0 (fun _ => true) true Tryd.f3.params.toList args.toList ds p := hA0
  rw [Tryd.params3] at hA hval
  obtain ⟨v0, vs0, d0, ds0, p0, q0, hargs, rfl, rfl, h0, r0⟩ := trodAll_cons hA
  obtain ⟨v1, vs1, d1, ds1, p1, q1, rfl, rfl, rfl, h1, r1⟩ := trodAll_cons r0
  obtain ⟨rfl, rfl, rfl⟩ := trodAll_nil r1
  obtain rfl : args = #[v0, v1] := by cases args; simp_all
  obtain ⟨rfl, rfl⟩ := trodVars_none hV
  have hb := hcond _ rfl
  have hb' : Rows.uptoBulkAll [d0, d1] ≤ 1048576 := of_decide_eq_true hb
  simp only [Rows.uptoBulkAll] at hb'
  obtain ⟨w0, a0, b0, c0, _⟩ := Trod.rep (φ := fun _ => none) kids full (m := 1) (of_decide_eq_true (by kernel_rfl)) (by kernel_rfl) h0 (hval 0 _ v0 rfl rfl)
  obtain ⟨x0, e0⟩ := in_string_9 (m := 0) b0
  have e0 := el_one (P := Tryd.prog) (t := 9) (by kernel_rfl) e0
  obtain ⟨w1, a1, b1, c1, _⟩ := Trod.rep (φ := fun _ => none) kids full (m := 1) (of_decide_eq_true (by kernel_rfl)) (by kernel_rfl) h1 (hval 1 _ v1 rfl rfl)
  obtain ⟨x1, e1⟩ := in_string_9 (m := 0) b1
  have e1 := el_one (P := Tryd.prog) (t := 9) (by kernel_rfl) e1
  have hmax : HasMax W := Tryd.laysM146.s1_3 W hsh
  have hg := p_modfileBlank (e := extOf exts) envX x0 x1 (wt_of e0 (Nat.le_trans c0 (by omega))) (wt_of e1 (Nat.le_trans c1 (by omega)))
  have hcalls := law_endY (cx := cxD W) (xs := #[v0, v1]) (args := [elV Tryd.prog 9 w0, elV Tryd.prog 9 w1]) (glD W) mixed (extOf_ok (ow := cfg) (exts_ok W (env_ok hmax (gl_met hlaid (by kernel_rfl)))) exts_own) (cfgOf_ok keys (fun _ _ h => by cases h)) ((cons_eq e0 (cons_eq e1 rfl))) (cleanL_mk rfl (cleanL_mk rfl rfl)) hg ⟨rfl, fun i c x hc hx => by
    match i with
    | 0 => simp at hc hx; subst hc; subst hx; exact a0
    | 1 => simp at hc hx; subst hc; subst hx; exact a1
    | i + 2 => simp at hx⟩
  refine Calls.mono hcalls fun e W' h => ?_
  obtain ⟨rfl, hB⟩ := h
  exact ⟨_, rfl, post_true kids full (tb := 4) rfl rfl (by kernel_rfl) Tryd.underlying4 (by rw [Tryd.params3]; decide) hW' hB⟩

theorem saidUpto : Rows.ModfileBlankUptoSaid :=
  OpenClaim.holds_of_cond 3 Tryd.f3 rfl rfl rfl rfl rfl rfl rfl ⟨rfl, rfl, rfl, rfl, rfl⟩ rfl rfl rfl rfl rfl (by kernel_rfl) Tryd.func3 (by kernel_rfl)
    (of_decide_eq_true (by kernel_rfl)) (by unfold Func.isWrapper; first | (rw [if_pos (by decide +kernel)]; kernel_rfl) | (rw [if_neg (by decide +kernel)]; exact ⟨rfl, rfl⟩))
    (fun os started H enc _ F => by rw [OpenClaim.pre_eq_preRow]; exact lifted os started H enc F)

/-- No parameter wants a stand-in; the program's own looks are off. -/
theorem plain (f : FuncId) (fn : Func) (hf : Tryd.pinned.checked.prog.funcNamed "seiche/seichelaw17.ModfileBlank" = some f) (hfn : Tryd.pinned.checked.prog.funcs[f]? = some fn) :
    true = Tryd.pinned.checked.prog.looks [] ∧ ∀ (j : Nat) t, fn.params[j]? = some t → Tryd.pinned.checked.prog.wantsStandIn t = false := by
  obtain rfl : f = 3 := Option.some.inj ((show Tryd.prog.funcNamed "seiche/seichelaw17.ModfileBlank" = some 3 by kernel_rfl).symm.trans hf) |>.symm
  obtain rfl : fn = Tryd.f3 := (Option.some.inj (Tryd.func3.symm.trans hfn)).symm
  refine ⟨by kernel_rfl, fun j t ht => ?_⟩
  rw [Tryd.params3] at ht
  have := Array.mem_of_getElem? ht
  simp only [List.mem_toArray, List.mem_cons, List.not_mem_nil, or_false] at this
  rcases this with rfl | rfl
  · exact (show Tryd.prog.wantsStandIn 9 = false by kernel_rfl)
  · exact (show Tryd.prog.wantsStandIn 9 = false by kernel_rfl)

/-- THE CARD -/
theorem cardUpto : Rows.ModfileBlankUptoCardSaid :=
  Claim7.holds_tied_plain_at .later [] _ _ _ _ saidUpto (fun _ h => by cases h) (by kernel_rfl) (fun _ h => by cases h) modfileBlankUpto_row_tie rfl ⟨rfl, rfl⟩ (by kernel_rfl) rfl plain (by kernel_rfl)
#print axioms cardUpto
end Go.Proofs.YtanocopjancaiaaDoor.modfileBlank
