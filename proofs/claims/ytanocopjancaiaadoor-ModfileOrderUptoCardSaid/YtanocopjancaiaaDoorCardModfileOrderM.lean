/-
  What is proved: seichelaw17.ModfileOrder answers true, where what it reads is of bulk at most 1048576 (the tied card of its second form). Printed by a program of this seat (wip/gen/card.py), after the seat's worked example.
-/
import Derived.Test.YtanocopjancaiaaDoorM5
import Derived.Lay
import Derived.Stop.LaidErr
namespace Go.Proofs.YtanocopjancaiaaDoor.modfileOrder
open Go.ChangeShapes Go.WideShapes Go.RowKit Go.Abs

theorem witness_laid {H : Type} {enc : TypeId × Value → H} {C : Checked} {os : Os} {f : FuncId} {fn : Func} {s : OpenSpec} {conds : List PathCond} {apart : Bool} {laid : List (String × DataW Unit)} (w0 : World) (args : Array Value) (hos : w0.os = os)
    (hsh : (w0.forCall (fun _ _ => 0) ⟨#[], args, []⟩).Shaped C.prog)
    (hok : Input.okWideB C.prog (w0.forCall (fun _ _ => 0) ⟨#[], args, []⟩) f ⟨#[], args, []⟩ = true)
    (hrow : s.preRow enc C.prog fn conds apart laid (w0.forCall (fun _ _ => 0) ⟨#[], args, []⟩).memory args) :
    ∃ (w : World) (tape : Tape) (i : Input), w.os = os ∧ (w.forCall tape i).Shaped C.prog ∧ i.vars = [] ∧ Input.okWide C.prog (w.forCall tape i) .any w.heap.size f i ∧
      s.preRow enc C.prog fn conds apart laid (w.forCall tape i).memory i.args ∧ ({ modest := false } : Assume).holds C.prog (lone (Frame.enter C.prog f i.args .normal) [] (w.forCall tape i)) :=
  ⟨w0, fun _ _ => 0, ⟨#[], args, []⟩, hos, hsh, (Input.okWide_of_okWideB (base := 0) hok).1, (Input.okWide_of_okWideB hok).2, hrow, by
    simp only [Assume.holds]
    exact ⟨by simp, by simp, fun _ => Modest.zero, by simp, by simp⟩⟩
set_option maxRecDepth 100000 in
theorem in_string_9 {m : Nat} {vs : List V} (h : HasT Tryd.prog (m + 1) 9 vs) : ∃ x : Bytes, nfL vs = [(V.str x)] := in_str Tryd.underlying9 h
set_option maxRecDepth 100000 in
theorem in_i64_3 {m : Nat} {vs : List V} (h : HasT Tryd.prog (m + 1) 3 vs) : ∃ x : Int, nfL vs = [(V.int .i64 x)] := in_int Tryd.underlying3 h
set_option maxRecDepth 100000 in
theorem in_Lstring_23 {m : Nat} {vs : List V} (h : HasT Tryd.prog (m + 2) 23 vs) : ∃ x : (List Bytes), nfL vs = [(V.sl false 1 (List.map V.str x))] :=
  in_sl (E := V.str) Tryd.underlying23 (by kernel_rfl) (fun ws hw => by
    obtain ⟨x, hx⟩ := in_string_9 hw
    exact ⟨x, el_one (by kernel_rfl) hx⟩) h
theorem row_err (u : TypeId) (h : Tryd.prog.typeName? 3 u = some "*errors.errorString") : u = 106 := by
  have hs : "*" ++ "errors.errorString" = "*errors.errorString" := by decide
  exact typeName_ptr_named (nm := "errors.errorString") (by rw [hs]; kernel_rfl) (by kernel_rfl) (by decide) u (by rw [hs]; exact h)
set_option maxRecDepth 100000 in
theorem env_ok {W : World} (hmax : HasMax W) (h : laidMet Tryd.prog Rows.modfileOrderUptoRow.laid W) : EnvE W where
  max := hmax
  syn := by
    have hg : Tryd.prog.globalNamed "strconv.ErrSyntax" = some 3 := by kernel_rfl
    obtain ⟨a, s, hv, _⟩ := laid_sentinel (laid_on (laid_on (laid_on (laid_on (laid_on h))))) hg (by kernel_rfl) Tryd.underlying62 row_err Tryd.underlying106 Tryd.underlying108 rfl rfl Tryd.underlying9 (by kernel_rfl) (by kernel_rfl)
    exact isErr_of hg hv
  rng := by
    have hg : Tryd.prog.globalNamed "strconv.ErrRange" = some 4 := by kernel_rfl
    obtain ⟨a, s, hv, _⟩ := laid_sentinel (laid_on (laid_on (laid_on (laid_on h)))) hg (by kernel_rfl) Tryd.underlying62 row_err Tryd.underlying106 Tryd.underlying108 rfl rfl Tryd.underlying9 (by kernel_rfl) (by kernel_rfl)
    exact isErr_of hg hv
  tab := Lib.tabIs_of_head (g := 5) (t := 110) (e := 92) (n := 20) (by kernel_rfl) (by kernel_rfl) Tryd.underlying110 Tryd.underlying92 (by kernel_rfl) (by kernel_rfl) (laid_on (laid_on h))
set_option maxRecDepth 100000 in
theorem laid_met (os : Os) : laidMet Tryd.prog Rows.modfileOrderUptoRow.laid ((World.laidAll Tryd.prog os Rows.modfileOrderUptoRow.laid).forCall (fun _ _ => 0) ⟨#[], #[.string ⟨#[]⟩, .int .i64 0, .slice none 0 0, .slice none 0 0], []⟩).memory :=
  laidMet_laidAll _ (by kernel_rfl) (by kernel_rfl)
set_option maxRecDepth 100000 in
theorem reads (os : Os) {H : Type} (enc : TypeId × Value → H) : ∃ places, DataW.whole enc Tryd.prog ((World.laidAll Tryd.prog os Rows.modfileOrderUptoRow.laid).forCall (fun _ _ => 0) ⟨#[], #[.string ⟨#[]⟩, .int .i64 0, .slice none 0 0, .slice none 0 0], []⟩).memory Tryd.f5.params.toList Rows.modfileOrderSpec.vars false (#[.string ⟨#[]⟩, .int .i64 0, .slice none 0 0, .slice none 0 0] : Array Value).toList 8 = some ([.lit (.string []), .lit (.int .i64 0), .nil, .nil], [], places) :=
  ⟨[], by kernel_rfl⟩

set_option maxRecDepth 100000 in
theorem lifted (os : Os) (started : os.Started) (H : Type) (enc : TypeId × Value → H) (F : Stop.Interp) :
    ReturnsInHanded {} Tryd.checked os 5 .any ((Rows.OpenSpec.upto Rows.modfileOrderSpec).preRow enc Tryd.prog Tryd.f5 Rows.modfileOrderUptoRow.domain false Rows.modfileOrderUptoRow.laid) (((Rows.OpenSpec.upto Rows.modfileOrderSpec).at F).post enc Tryd.prog Tryd.f5 false true false false) := by
  obtain ⟨places, hx⟩ := reads os enc
  refine returnsInHanded_of_row (C := Tryd.checked) (s := Rows.OpenSpec.upto Rows.modfileOrderSpec) ownK started (by kernel_rfl) Tryd.func5
    (witness_laid (enc := enc) (C := Tryd.checked) (World.laidAll Tryd.prog os Rows.modfileOrderUptoRow.laid) #[.string ⟨#[]⟩, .int .i64 0, .slice none 0 0, .slice none 0 0] (World.laidAll_os _ _ _) (World.shaped_of_ZipB (by kernel_rfl) (by kernel_rfl)) (by kernel_rfl)
      (OpenSpec.preRow_of_cond 8 hx (by kernel_rfl) (fun k hk => by cases hk; kernel_rfl) (by kernel_rfl) (laid_met os))) ?_
  intro W base args ds gs before hval0 hW _ hcond _ hlaid hsh _
  have hval : ∀ (j : Nat) t v, Tryd.f5.params[j]? = some t → args[j]? = some v → Value.okWide Tryd.prog W .any base t v := hval0
  have hW' := hW
  obtain ⟨p, q, hA0, hV, rfl, hfz, hnd⟩ := hW
  have hA : DataW.TrodAll enc Tryd.prog W 0 (fun _ => true) true Tryd.f5.params.toList args.toList ds p := hA0
  rw [Tryd.params5] at hA hval
  obtain ⟨v0, vs0, d0, ds0, p0, q0, hargs, rfl, rfl, h0, r0⟩ := trodAll_cons hA
  obtain ⟨v1, vs1, d1, ds1, p1, q1, rfl, rfl, rfl, h1, r1⟩ := trodAll_cons r0
  obtain ⟨v2, vs2, d2, ds2, p2, q2, rfl, rfl, rfl, h2, r2⟩ := trodAll_cons r1
  obtain ⟨v3, vs3, d3, ds3, p3, q3, rfl, rfl, rfl, h3, r3⟩ := trodAll_cons r2
  obtain ⟨rfl, rfl, rfl⟩ := trodAll_nil r3
  obtain rfl : args = #[v0, v1, v2, v3] := by cases args; simp_all
  obtain ⟨rfl, rfl⟩ := trodVars_none hV
  have hb := hcond _ rfl
  have hb' : Rows.uptoBulkAll [d0, d1, d2, d3] ≤ 1048576 := of_decide_eq_true hb
  simp only [Rows.uptoBulkAll] at hb'
  obtain ⟨w0, a0, b0, c0, _⟩ := Trod.rep (φ := fun _ => none) kids full (m := 1) (of_decide_eq_true (by kernel_rfl)) (by kernel_rfl) h0 (hval 0 _ v0 rfl rfl)
  obtain ⟨x0, e0⟩ := in_string_9 (m := 0) b0
  have e0 := el_one (P := Tryd.prog) (t := 9) (by kernel_rfl) e0
  obtain ⟨w1, a1, b1, c1, _⟩ := Trod.rep (φ := fun _ => none) kids full (m := 1) (of_decide_eq_true (by kernel_rfl)) (by kernel_rfl) h1 (hval 1 _ v1 rfl rfl)
  obtain ⟨x1, e1, l1, u1⟩ := in_i64 Tryd.underlying3 b1
  have e1 := el_one (P := Tryd.prog) (t := 3) (by kernel_rfl) e1
  obtain ⟨w2, a2, b2, c2, _⟩ := Trod.rep (φ := fun _ => none) kids full (m := 2) (of_decide_eq_true (by kernel_rfl)) (by kernel_rfl) h2 (hval 2 _ v2 rfl rfl)
  obtain ⟨x2, e2⟩ := in_Lstring_23 (m := 0) b2
  have e2 := el_one (P := Tryd.prog) (t := 23) (by kernel_rfl) e2
  obtain ⟨w3, a3, b3, c3, _⟩ := Trod.rep (φ := fun _ => none) kids full (m := 2) (of_decide_eq_true (by kernel_rfl)) (by kernel_rfl) h3 (hval 3 _ v3 rfl rfl)
  obtain ⟨x3, e3⟩ := in_Lstring_23 (m := 0) b3
  have e3 := el_one (P := Tryd.prog) (t := 23) (by kernel_rfl) e3
  have hmax : HasMax W := Tryd.laysM146.s1_3 W hsh
  have hg := p_modfileOrder (e := extOf exts) envX x0 x1 x2 x3 (wt_of e0 (Nat.le_trans c0 (by omega))) l1 u1 (wt_of e2 (Nat.le_trans c2 (by omega))) (wt_of e3 (Nat.le_trans c3 (by omega)))
  have hcalls := law_endY (cx := cxD W) (xs := #[v0, v1, v2, v3]) (args := [elV Tryd.prog 9 w0, elV Tryd.prog 3 w1, elV Tryd.prog 23 w2, elV Tryd.prog 23 w3]) (glD W) mixed (extOf_ok (ow := cfg) (exts_ok W (env_ok hmax (gl_met hlaid (by kernel_rfl)))) exts_own) (cfgOf_ok keys (fun _ _ h => by cases h)) ((cons_eq e0 (cons_eq e1 (cons_eq e2 (cons_eq e3 rfl))))) (cleanL_mk rfl (cleanL_mk rfl (cleanL_mk (cleanL_map (fun x => rfl) x2) (cleanL_mk (cleanL_map (fun x => rfl) x3) rfl)))) hg ⟨rfl, fun i c x hc hx => by
    match i with
    | 0 => simp at hc hx; subst hc; subst hx; exact a0
    | 1 => simp at hc hx; subst hc; subst hx; exact a1
    | 2 => simp at hc hx; subst hc; subst hx; exact a2
    | 3 => simp at hc hx; subst hc; subst hx; exact a3
    | i + 4 => simp at hx⟩
  refine Calls.mono hcalls fun e W' h => ?_
  obtain ⟨rfl, hB⟩ := h
  exact ⟨_, rfl, post_true kids full (tb := 4) rfl rfl (by kernel_rfl) Tryd.underlying4 (by rw [Tryd.params5]; decide) hW' hB⟩

theorem saidUpto : Rows.ModfileOrderUptoSaid :=
  OpenClaim.holds_of_cond 5 Tryd.f5 rfl rfl rfl rfl rfl rfl rfl ⟨rfl, rfl, rfl, rfl, rfl⟩ rfl rfl rfl rfl rfl (by kernel_rfl) Tryd.func5 (by kernel_rfl)
    (of_decide_eq_true (by kernel_rfl)) (by unfold Func.isWrapper; first | (rw [if_pos (by decide +kernel)]; kernel_rfl) | (rw [if_neg (by decide +kernel)]; exact ⟨rfl, rfl⟩))
    (fun os started H enc _ F => by rw [OpenClaim.pre_eq_preRow]; exact lifted os started H enc F)

/-- No parameter wants a stand-in; the program's own looks are off. -/
theorem plain (f : FuncId) (fn : Func) (hf : Tryd.pinned.checked.prog.funcNamed "seiche/seichelaw17.ModfileOrder" = some f) (hfn : Tryd.pinned.checked.prog.funcs[f]? = some fn) :
    true = Tryd.pinned.checked.prog.looks [] ∧ ∀ (j : Nat) t, fn.params[j]? = some t → Tryd.pinned.checked.prog.wantsStandIn t = false := by
  obtain rfl : f = 5 := Option.some.inj ((show Tryd.prog.funcNamed "seiche/seichelaw17.ModfileOrder" = some 5 by kernel_rfl).symm.trans hf) |>.symm
  obtain rfl : fn = Tryd.f5 := (Option.some.inj (Tryd.func5.symm.trans hfn)).symm
  refine ⟨by kernel_rfl, fun j t ht => ?_⟩
  rw [Tryd.params5] at ht
  have := Array.mem_of_getElem? ht
  simp only [List.mem_toArray, List.mem_cons, List.not_mem_nil, or_false] at this
  rcases this with rfl | rfl | rfl | rfl
  · exact (show Tryd.prog.wantsStandIn 9 = false by kernel_rfl)
  · exact (show Tryd.prog.wantsStandIn 3 = false by kernel_rfl)
  · exact (show Tryd.prog.wantsStandIn 23 = false by kernel_rfl)
  · exact (show Tryd.prog.wantsStandIn 23 = false by kernel_rfl)

/-- THE CARD -/
theorem cardUpto : Rows.ModfileOrderUptoCardSaid :=
  Claim7.holds_tied_plain_at .later [] _ _ _ _ saidUpto (fun _ h => by cases h) (by kernel_rfl) (fun _ h => by cases h) modfileOrderUpto_row_tie rfl ⟨rfl, rfl⟩ (by kernel_rfl) rfl plain (by kernel_rfl)
#print axioms cardUpto
end Go.Proofs.YtanocopjancaiaaDoor.modfileOrder
