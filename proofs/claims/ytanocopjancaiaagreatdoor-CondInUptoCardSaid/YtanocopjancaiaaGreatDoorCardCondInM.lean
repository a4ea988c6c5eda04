/-
  What is proved: seichelaw16.CondIn answers true, where what it reads is of bulk at most 1048576 (the tied card of its second form). Printed by a program of this seat (wip/gen/card.py), after the seat's worked example.
-/
import Derived.Test.YtanocopjancaiaaGreatDoorM5
import Derived.Lay
import Derived.Stop.LaidErr
namespace Go.Proofs.YtanocopjancaiaaGreatDoor.condIn
open Go.ChangeShapes Go.WideShapes Go.RowKit Go.Abs

theorem witness_laid {H : Type} {enc : TypeId × Value → H} {C : Checked} {os : Os} {f : FuncId} {fn : Func} {s : OpenSpec} {conds : List PathCond} {apart : Bool} {laid : List (String × DataW Unit)} (w0 : World) (args : Array Value) (hos : w0.os = os)
    (hsh : (w0.forCall (fun _ _ => 0) ⟨#[], args, []⟩).Shaped C.prog)
    (hok : Input.okWideB C.prog (w0.forCall (fun _ _ => 0) ⟨#[], args, []⟩) f ⟨#[], args, []⟩ = true)
    (hrow : s.preRow enc C.prog fn conds apart laid (w0.forCall (fun _ _ => 0) ⟨#[], args, []⟩).memory args) :
    ∃ (w : World) (tape : Tape) (i : Input), w.os = os ∧ (w.forCall tape i).Shaped C.prog ∧ i.vars = [] ∧ Input.okWide C.prog (w.forCall tape i) .any w.heap.size f i ∧
      s.preRow enc C.prog fn conds apart laid (w.forCall tape i).memory i.args ∧ ({ modest := false } : Assume).holds C.prog (lone (Frame.enter C.prog f i.args .normal) [] (w.forCall tape i)) :=
  ⟨w0, fun _ _ => 0, ⟨#[], args, []⟩, hos, hsh, (Input.okWide_of_okWideB (base := 0) hok).1, (Input.okWide_of_okWideB hok).2, hrow, by
    simp only [Assume.holds]
    exact ⟨by simp, by simp, fun _ => Modest.zero, by simp, by simp⟩⟩
def z0 : Value := .agg ([(.string ⟨#[]⟩ : Value)] ++ [(.string ⟨#[]⟩ : Value)] ++ [(.bool false : Value)] ++ [(.int .i64 0 : Value)] ++ [(.slice none 0 0 : Value)]).toArray
def z2 : Value := .agg ([(.string ⟨#[]⟩ : Value)] ++ [(.slice none 0 0 : Value)] ++ [(.string ⟨#[]⟩ : Value)] ++ [(.slice none 0 0 : Value)] ++ [(.int .i64 0 : Value)] ++ [(.int .i64 0 : Value)]).toArray
set_option maxRecDepth 100000 in
theorem in_string_9 {m : Nat} {vs : List V} (h : HasT Tryz.prog (m + 1) 9 vs) : ∃ x : Bytes, nfL vs = [(V.str x)] := in_str Tryz.underlying9 h
set_option maxRecDepth 100000 in
theorem in_bool_4 {m : Nat} {vs : List V} (h : HasT Tryz.prog (m + 1) 4 vs) : ∃ x : Bool, nfL vs = [(V.bool x)] := in_bool Tryz.underlying4 h
set_option maxRecDepth 100000 in
theorem in_i64_3 {m : Nat} {vs : List V} (h : HasT Tryz.prog (m + 1) 3 vs) : ∃ x : Int, nfL vs = [(V.int .i64 x)] := in_int Tryz.underlying3 h
set_option maxRecDepth 100000 in
theorem in_Lstring_22 {m : Nat} {vs : List V} (h : HasT Tryz.prog (m + 2) 22 vs) : ∃ x : (List Bytes), nfL vs = [(V.sl false 1 (List.map V.str x))] :=
  in_sl (E := V.str) Tryz.underlying22 (by kernel_rfl) (fun ws hw => by
    obtain ⟨x, hx⟩ := in_string_9 hw
    exact ⟨x, el_one (by kernel_rfl) hx⟩) h
set_option maxRecDepth 100000 in
theorem in_Config_24 {m : Nat} {vs : List V} (h : HasT Tryz.prog (m + 3) 24 vs) : ∃ x : T.Config, nfL vs = (C.Config x) := by
  unfold HasT at h
  simp only [Tryz.underlying24] at h
  obtain ⟨wss, hl, hf, rfl⟩ := h
  match wss, hl with
  | [w0, w1, w2, w3, w4], _ =>
    obtain ⟨x0, h0⟩ := in_string_9 (m := m + 1) (hf 0 _ w0 rfl rfl)
    obtain ⟨x1, h1⟩ := in_string_9 (m := m + 1) (hf 1 _ w1 rfl rfl)
    obtain ⟨x2, h2⟩ := in_bool_4 (m := m + 1) (hf 2 _ w2 rfl rfl)
    obtain ⟨x3, h3⟩ := in_i64_3 (m := m + 1) (hf 3 _ w3 rfl rfl)
    obtain ⟨x4, h4⟩ := in_Lstring_22 (m := m + 0) (hf 4 _ w4 rfl rfl)
    refine ⟨⟨x0, x1, x2, x3, x4⟩, ?_⟩
    rw [nfL_flat]
    simp only [List.map_cons, List.map_nil, List.flatten_cons, List.flatten_nil, List.append_nil, C.Config, List.append_assoc, h0, h1, h2, h3, h4]
set_option maxRecDepth 100000 in
theorem in_Import_59 {m : Nat} {vs : List V} (h : HasT Tryz.prog (m + 2) 59 vs) : ∃ x : T.Import, nfL vs = (C.Import x) := by
  unfold HasT at h
  simp only [Tryz.underlying59] at h
  obtain ⟨wss, hl, hf, rfl⟩ := h
  match wss, hl with
  | [w0, w1, w2], _ =>
    obtain ⟨x0, h0⟩ := in_string_9 (m := m + 0) (hf 0 _ w0 rfl rfl)
    obtain ⟨x1, h1⟩ := in_string_9 (m := m + 0) (hf 1 _ w1 rfl rfl)
    obtain ⟨x2, h2⟩ := in_i64_3 (m := m + 0) (hf 2 _ w2 rfl rfl)
    refine ⟨⟨x0, x1, x2⟩, ?_⟩
    rw [nfL_flat]
    simp only [List.map_cons, List.map_nil, List.flatten_cons, List.flatten_nil, List.append_nil, C.Import, List.append_assoc, h0, h1, h2]
set_option maxRecDepth 100000 in
theorem in_LImport_31 {m : Nat} {vs : List V} (h : HasT Tryz.prog (m + 3) 31 vs) : ∃ x : (List T.Import), nfL vs = [(V.sl false 3 (List.map E.Import x))] :=
  in_sl (E := E.Import) Tryz.underlying31 (by kernel_rfl) (fun ws hw => by
    obtain ⟨x, hx⟩ := in_Import_59 hw
    exact ⟨x, el_agg (by kernel_rfl) hx⟩) h
set_option maxRecDepth 100000 in
theorem in_Header_33 {m : Nat} {vs : List V} (h : HasT Tryz.prog (m + 4) 33 vs) : ∃ x : T.Header, nfL vs = (C.Header x) := by
  unfold HasT at h
  simp only [Tryz.underlying33] at h
  obtain ⟨wss, hl, hf, rfl⟩ := h
  match wss, hl with
  | [w0, w1, w2, w3, w4, w5], _ =>
    obtain ⟨x0, h0⟩ := in_string_9 (m := m + 2) (hf 0 _ w0 rfl rfl)
    obtain ⟨x1, h1⟩ := in_LImport_31 (m := m + 0) (hf 1 _ w1 rfl rfl)
    obtain ⟨x2, h2⟩ := in_string_9 (m := m + 2) (hf 2 _ w2 rfl rfl)
    obtain ⟨x3, h3⟩ := in_Lstring_22 (m := m + 1) (hf 3 _ w3 rfl rfl)
    obtain ⟨x4, h4⟩ := in_i64_3 (m := m + 2) (hf 4 _ w4 rfl rfl)
    obtain ⟨x5, h5⟩ := in_i64_3 (m := m + 2) (hf 5 _ w5 rfl rfl)
    refine ⟨⟨x0, x1, x2, x3, x4, x5⟩, ?_⟩
    rw [nfL_flat]
    simp only [List.map_cons, List.map_nil, List.flatten_cons, List.flatten_nil, List.append_nil, C.Header, List.append_assoc, h0, h1, h2, h3, h4, h5]
set_option maxRecDepth 100000 in
theorem gl_ok {W : World} (hlm : laidMet Tryz.prog Rows.condInUptoRow.laid W) : GlOK (cxG gls W) := by
  intro g cs h
  have h : gls g = some cs := h
  unfold gls at h
  split at h
  · rename_i hb
    obtain rfl : g = 1 := Nat.eq_of_beq_eq_true hb
    cases h
    exact gl_strs (P := Tryz.prog) (n := "seiche/suffix.systems") (e := 9) [[97, 105, 120], [97, 110, 100, 114, 111, 105, 100], [100, 97, 114, 119, 105, 110], [100, 114, 97, 103, 111, 110, 102, 108, 121], [102, 114, 101, 101, 98, 115, 100], [105, 108, 108, 117, 109, 111, 115], [105, 111, 115], [106, 115], [108, 105, 110, 117, 120], [110, 101, 116, 98, 115, 100], [111, 112, 101, 110, 98, 115, 100], [112, 108, 97, 110, 57], [115, 111, 108, 97, 114, 105, 115], [119, 97, 115, 105, 112, 49], [119, 105, 110, 100, 111, 119, 115]] hlm (.tail _ (.tail _ (.tail _ (.tail _ (.tail _ (.tail _ (.head _))))))) (by kernel_rfl) (by kernel_rfl) Tryz.underlying22 Tryz.underlying9 (by kernel_rfl) ⟨_, rfl⟩ (by simp)
  split at h
  · rename_i hb
    obtain rfl : g = 2 := Nat.eq_of_beq_eq_true hb
    cases h
    exact gl_strs (P := Tryz.prog) (n := "seiche/suffix.processors") (e := 9) [[51, 56, 54], [97, 109, 100, 54, 52], [97, 114, 109], [97, 114, 109, 54, 52], [108, 111, 111, 110, 103, 54, 52], [109, 105, 112, 115], [109, 105, 112, 115, 54, 52], [109, 105, 112, 115, 54, 52, 108, 101], [109, 105, 112, 115, 108, 101], [112, 112, 99, 54, 52], [112, 112, 99, 54, 52, 108, 101], [114, 105, 115, 99, 118, 54, 52], [115, 51, 57, 48, 120], [119, 97, 115, 109]] hlm (.tail _ (.tail _ (.tail _ (.tail _ (.tail _ (.tail _ (.tail _ (.head _)))))))) (by kernel_rfl) (by kernel_rfl) Tryz.underlying22 Tryz.underlying9 (by kernel_rfl) ⟨_, rfl⟩ (by simp)
  split at h
  · rename_i hb
    obtain rfl : g = 0 := Nat.eq_of_beq_eq_true hb
    cases h
    exact gl_strs (P := Tryz.prog) (n := "seiche/suffix.alike") (e := 9) [[97, 105, 120], [97, 110, 100, 114, 111, 105, 100], [100, 97, 114, 119, 105, 110], [100, 114, 97, 103, 111, 110, 102, 108, 121], [102, 114, 101, 101, 98, 115, 100], [105, 108, 108, 117, 109, 111, 115], [105, 111, 115], [108, 105, 110, 117, 120], [110, 101, 116, 98, 115, 100], [111, 112, 101, 110, 98, 115, 100], [115, 111, 108, 97, 114, 105, 115]] hlm (.tail _ (.tail _ (.tail _ (.tail _ (.tail _ (.tail _ (.tail _ (.tail _ (.head _))))))))) (by kernel_rfl) (by kernel_rfl) Tryz.underlying22 Tryz.underlying9 (by kernel_rfl) ⟨_, rfl⟩ (by simp)
  · cases h
theorem gl_flat {g : Nat} {cs : List V} (h : gls g = some cs) : nfL cs = cs ∧ cleanL cs = true := by
  unfold gls at h
  split at h
  · cases h; exact ⟨rfl, rfl⟩
  split at h
  · cases h; exact ⟨rfl, rfl⟩
  split at h
  · cases h; exact ⟨rfl, rfl⟩
  · cases h
theorem row_err (u : TypeId) (h : Tryz.prog.typeName? 3 u = some "*errors.errorString") : u = 136 := by
  have hs : "*" ++ "errors.errorString" = "*errors.errorString" := by decide
  exact typeName_ptr_named (nm := "errors.errorString") (by rw [hs]; kernel_rfl) (by kernel_rfl) (by decide) u (by rw [hs]; exact h)
set_option maxRecDepth 100000 in
theorem env_ok {W : World} (hmax : HasMax W) (h : laidMet Tryz.prog Rows.condInUptoRow.laid W) : EnvE W where
  max := hmax
  syn := by
    have hg : Tryz.prog.globalNamed "strconv.ErrSyntax" = some 3 := by kernel_rfl
    obtain ⟨a, s, hv, _⟩ := laid_sentinel (laid_on (laid_on (laid_on (laid_on (laid_on h))))) hg (by kernel_rfl) Tryz.underlying68 row_err Tryz.underlying136 Tryz.underlying138 rfl rfl Tryz.underlying9 (by kernel_rfl) (by kernel_rfl)
    exact isErr_of hg hv
  rng := by
    have hg : Tryz.prog.globalNamed "strconv.ErrRange" = some 4 := by kernel_rfl
    obtain ⟨a, s, hv, _⟩ := laid_sentinel (laid_on (laid_on (laid_on (laid_on h)))) hg (by kernel_rfl) Tryz.underlying68 row_err Tryz.underlying136 Tryz.underlying138 rfl rfl Tryz.underlying9 (by kernel_rfl) (by kernel_rfl)
    exact isErr_of hg hv
  tab := Lib.tabIs_of_head (g := 5) (t := 141) (e := 112) (n := 20) (by kernel_rfl) (by kernel_rfl) Tryz.underlying141 Tryz.underlying112 (by kernel_rfl) (by kernel_rfl) (laid_on (laid_on h))
set_option maxRecDepth 100000 in
theorem laid_met (os : Os) : laidMet Tryz.prog Rows.condInUptoRow.laid ((World.laidAll Tryz.prog os Rows.condInUptoRow.laid).forCall (fun _ _ => 0) ⟨#[], #[z0, .string ⟨#[]⟩, z2], []⟩).memory :=
  laidMet_laidAll _ (by kernel_rfl) (by kernel_rfl)
set_option maxRecDepth 100000 in
theorem reads (os : Os) {H : Type} (enc : TypeId × Value → H) : ∃ places, DataW.whole enc Tryz.prog ((World.laidAll Tryz.prog os Rows.condInUptoRow.laid).forCall (fun _ _ => 0) ⟨#[], #[z0, .string ⟨#[]⟩, z2], []⟩).memory Tryz.f5.params.toList Rows.condInSpec.vars false (#[z0, .string ⟨#[]⟩, z2] : Array Value).toList 8 = some ([.agg [.lit (.string []), .lit (.string []), .lit (.bool false), .lit (.int .i64 0), .nil], .lit (.string []), .agg [.lit (.string []), .nil, .lit (.string []), .nil, .lit (.int .i64 0), .lit (.int .i64 0)]], [], places) :=
  ⟨[], by kernel_rfl⟩

set_option maxRecDepth 100000 in
theorem lifted (os : Os) (started : os.Started) (H : Type) (enc : TypeId × Value → H) (F : Stop.Interp) :
    ReturnsInHanded {} Tryz.checked os 5 .any ((Rows.OpenSpec.upto Rows.condInSpec).preRow enc Tryz.prog Tryz.f5 Rows.condInUptoRow.domain false Rows.condInUptoRow.laid) (((Rows.OpenSpec.upto Rows.condInSpec).at F).post enc Tryz.prog Tryz.f5 false true false false) := by
  obtain ⟨places, hx⟩ := reads os enc
  refine returnsInHanded_of_row (C := Tryz.checked) (s := Rows.OpenSpec.upto Rows.condInSpec) ownK started (by kernel_rfl) Tryz.func5
    (witness_laid (enc := enc) (C := Tryz.checked) (World.laidAll Tryz.prog os Rows.condInUptoRow.laid) #[z0, .string ⟨#[]⟩, z2] (World.laidAll_os _ _ _) (World.shaped_of_ZipB (by kernel_rfl) (by kernel_rfl)) (by kernel_rfl)
      (OpenSpec.preRow_of_cond 8 hx (by kernel_rfl) (fun k hk => by cases hk; kernel_rfl) (by kernel_rfl) (laid_met os))) ?_
  intro W base args ds gs before hval0 hW _ hcond _ hlaid hsh _
  have hval : ∀ (j : Nat) t v, Tryz.f5.params[j]? = some t → args[j]? = some v → Value.okWide Tryz.prog W .any base t v := hval0
  have hW' := hW
  obtain ⟨p, q, hA0, hV, rfl, hfz, hnd⟩ := hW
  have hA : DataW.TrodAll enc Tryz.prog W 0 (fun _ => true) true Tryz.f5.params.toList args.toList ds p := hA0
  rw [Tryz.params5] at hA hval
  obtain ⟨v0, vs0, d0, ds0, p0, q0, hargs, rfl, rfl, h0, r0⟩ := trodAll_cons hA
  obtain ⟨v1, vs1, d1, ds1, p1, q1, rfl, rfl, rfl, h1, r1⟩ := trodAll_cons r0
  obtain ⟨v2, vs2, d2, ds2, p2, q2, rfl, rfl, rfl, h2, r2⟩ := trodAll_cons r1
  obtain ⟨rfl, rfl, rfl⟩ := trodAll_nil r2
  obtain rfl : args = #[v0, v1, v2] := by cases args; simp_all
  obtain ⟨rfl, rfl⟩ := trodVars_none hV
  have hb := hcond _ rfl
  have hb' : Rows.uptoBulkAll [d0, d1, d2] ≤ 1048576 := of_decide_eq_true hb
  simp only [Rows.uptoBulkAll] at hb'
  obtain ⟨w0, a0, b0, c0, _⟩ := Trod.rep (φ := fun _ => none) kids full (m := 3) (of_decide_eq_true (by kernel_rfl)) (by kernel_rfl) h0 (hval 0 _ v0 rfl rfl)
  obtain ⟨x0, e0⟩ := in_Config_24 (m := 0) b0
  have e0 := el_agg (P := Tryz.prog) (t := 24) (by kernel_rfl) e0
  obtain ⟨w1, a1, b1, c1, _⟩ := Trod.rep (φ := fun _ => none) kids full (m := 1) (of_decide_eq_true (by kernel_rfl)) (by kernel_rfl) h1 (hval 1 _ v1 rfl rfl)
  obtain ⟨x1, e1⟩ := in_string_9 (m := 0) b1
  have e1 := el_one (P := Tryz.prog) (t := 9) (by kernel_rfl) e1
  obtain ⟨w2, a2, b2, c2, _⟩ := Trod.rep (φ := fun _ => none) kids full (m := 4) (of_decide_eq_true (by kernel_rfl)) (by kernel_rfl) h2 (hval 2 _ v2 rfl rfl)
  obtain ⟨x2, e2⟩ := in_Header_33 (m := 0) b2
  have e2 := el_agg (P := Tryz.prog) (t := 33) (by kernel_rfl) e2
  have hmax : HasMax W := Tryz.laysM146.s1_3 W hsh
  have hg := p_condIn (e := extOf exts) envX x0 x1 x2 (wt_of e0 (Nat.le_trans c0 (by omega))) (wt_of e1 (Nat.le_trans c1 (by omega))) (wt_of e2 (Nat.le_trans c2 (by omega)))
  have hcalls := law_endY (cx := cxG gls W) (xs := #[v0, v1, v2]) (args := [elV Tryz.prog 24 w0, elV Tryz.prog 9 w1, elV Tryz.prog 33 w2]) (gl_ok (gl_met hlaid (by kernel_rfl))) mixed (extOf_ok (ow := cfg) (fun c hc => hold_gl (exts_ok W (env_ok hmax (gl_met hlaid (by kernel_rfl))) c hc)) exts_own) (cfgOf_ok keys (fun _ _ h => ⟨h, gl_flat h⟩)) ((cons_eq e0 (cons_eq e1 (cons_eq e2 rfl)))) (cleanL_mk (E.Config_clean x0) (cleanL_mk rfl (cleanL_mk (E.Header_clean x2) rfl))) hg ⟨rfl, fun i c x hc hx => by
    match i with
    | 0 => simp at hc hx; subst hc; subst hx; exact a0
    | 1 => simp at hc hx; subst hc; subst hx; exact a1
    | 2 => simp at hc hx; subst hc; subst hx; exact a2
    | i + 3 => simp at hx⟩
  refine Calls.mono hcalls fun e W' h => ?_
  obtain ⟨rfl, hB⟩ := h
  exact ⟨_, rfl, post_true kids full (tb := 4) rfl rfl (by kernel_rfl) Tryz.underlying4 (by rw [Tryz.params5]; decide) hW' hB⟩

theorem saidUpto : Rows.CondInUptoSaid :=
  OpenClaim.holds_of_cond 5 Tryz.f5 rfl rfl rfl rfl rfl rfl rfl ⟨rfl, rfl, rfl, rfl, rfl⟩ rfl rfl rfl rfl rfl (by kernel_rfl) Tryz.func5 (by kernel_rfl)
    (of_decide_eq_true (by kernel_rfl)) (by unfold Func.isWrapper; first | (rw [if_pos (by decide +kernel)]; kernel_rfl) | (rw [if_neg (by decide +kernel)]; exact ⟨rfl, rfl⟩))
    (fun os started H enc _ F => by rw [OpenClaim.pre_eq_preRow]; exact lifted os started H enc F)

/-- No parameter wants a stand-in; the program's own looks are off. -/
theorem plain (f : FuncId) (fn : Func) (hf : Tryz.pinned.checked.prog.funcNamed "seiche/seichelaw16.CondIn" = some f) (hfn : Tryz.pinned.checked.prog.funcs[f]? = some fn) :
    true = Tryz.pinned.checked.prog.looks [] ∧ ∀ (j : Nat) t, fn.params[j]? = some t → Tryz.pinned.checked.prog.wantsStandIn t = false := by
  obtain rfl : f = 5 := Option.some.inj ((show Tryz.prog.funcNamed "seiche/seichelaw16.CondIn" = some 5 by kernel_rfl).symm.trans hf) |>.symm
  obtain rfl : fn = Tryz.f5 := (Option.some.inj (Tryz.func5.symm.trans hfn)).symm
  refine ⟨by kernel_rfl, fun j t ht => ?_⟩
  rw [Tryz.params5] at ht
  have := Array.mem_of_getElem? ht
  simp only [List.mem_toArray, List.mem_cons, List.not_mem_nil, or_false] at this
  rcases this with rfl | rfl | rfl
  · exact (show Tryz.prog.wantsStandIn 24 = false by kernel_rfl)
  · exact (show Tryz.prog.wantsStandIn 9 = false by kernel_rfl)
  · exact (show Tryz.prog.wantsStandIn 33 = false by kernel_rfl)

/-- THE CARD -/
theorem cardUpto : Rows.CondInUptoCardSaid :=
  Claim7.holds_tied_plain_at .later [] _ _ _ _ saidUpto (fun _ h => by cases h) (by kernel_rfl) (fun _ h => by cases h) condInUpto_row_tie rfl ⟨rfl, rfl⟩ (by kernel_rfl) rfl plain (by kernel_rfl)
#print axioms cardUpto
end Go.Proofs.YtanocopjancaiaaGreatDoor.condIn
