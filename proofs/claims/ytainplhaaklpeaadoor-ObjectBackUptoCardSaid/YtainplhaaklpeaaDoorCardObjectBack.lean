/-
  What is proved: seichelaw07.ObjectBack answers true, where what it reads is of bulk at most 1048576 (the tied card of its second form). Printed by a program of this seat (wip/gen/card.py), after the seat's worked example.
-/
import Derived.Test.YtainplhaaklpeaaDoorPM
import Derived.Test.YtainplhaaklpeaaDoorCD
namespace Go.Proofs.YtainplhaaklpeaaDoor.objectBack
open Go.ChangeShapes Go.WideShapes Go.RowKit Go.Abs

def z1 : Value := .agg ((List.replicate 32 ([(.int .u8 0 : Value)])).flatten ++ [(.slice none 0 0 : Value)] ++ [(.string ⟨#[]⟩ : Value)]).toArray
set_option maxRecDepth 100000 in
theorem in_string_9 {m : Nat} {vs : List V} (h : HasT Tryd.prog (m + 1) 9 vs) : ∃ x : Bytes, nfL vs = [(V.str x)] := in_str Tryd.underlying9 h
set_option maxRecDepth 100000 in
theorem in_bool_4 {m : Nat} {vs : List V} (h : HasT Tryd.prog (m + 1) 4 vs) : ∃ x : Bool, nfL vs = [(V.bool x)] := in_bool Tryd.underlying4 h
set_option maxRecDepth 100000 in
theorem in_A32_u8_58 {m : Nat} {vs : List V} (h : HasT Tryd.prog (m + 2) 58 vs) : ∃ x : (Arr 32), nfL vs = (encB (x).1) := in_arr Tryd.underlying58 Tryd.underlying5 h
set_option maxRecDepth 100000 in
theorem in_Entry_82 {m : Nat} {vs : List V} (h : HasT Tryd.prog (m + 3) 82 vs) : ∃ x : T.Entry, nfL vs = (C.Entry x) := by
  unfold HasT at h
  simp only [Tryd.underlying82] at h
  obtain ⟨wss, hl, hf, rfl⟩ := h
  match wss, hl with
  | [w0, w1, w2], _ =>
    obtain ⟨x0, h0⟩ := in_string_9 (m := m + 1) (hf 0 _ w0 rfl rfl)
    obtain ⟨x1, h1⟩ := in_bool_4 (m := m + 1) (hf 1 _ w1 rfl rfl)
    obtain ⟨x2, h2⟩ := in_A32_u8_58 (m := m + 0) (hf 2 _ w2 rfl rfl)
    refine ⟨⟨x0, x1, x2⟩, ?_⟩
    rw [nfL_flat]
    simp only [List.map_cons, List.map_nil, List.flatten_cons, List.flatten_nil, List.append_nil, C.Entry, List.append_assoc, h0, h1, h2]
set_option maxRecDepth 100000 in
theorem in_LEntry_32 {m : Nat} {vs : List V} (h : HasT Tryd.prog (m + 4) 32 vs) : ∃ x : (List T.Entry), nfL vs = [(V.sl false 34 (List.map E.Entry x))] :=
  in_sl (E := E.Entry) Tryd.underlying32 (by kernel_rfl) (fun ws hw => by
    obtain ⟨x, hx⟩ := in_Entry_82 hw
    exact ⟨x, el_agg (by kernel_rfl) hx⟩) h
set_option maxRecDepth 100000 in
theorem in_LA32_u8_59 {m : Nat} {vs : List V} (h : HasT Tryd.prog (m + 3) 59 vs) : ∃ x : (List (Arr 32)), nfL vs = [(V.sl false 32 (List.map E.A32_u8 x))] :=
  in_sl (E := E.A32_u8) Tryd.underlying59 (by kernel_rfl) (fun ws hw => by
    obtain ⟨x, hx⟩ := in_A32_u8_58 hw
    exact ⟨x, el_agg (by kernel_rfl) hx⟩) h
set_option maxRecDepth 100000 in
theorem in_Commit_61 {m : Nat} {vs : List V} (h : HasT Tryd.prog (m + 4) 61 vs) : ∃ x : T.Commit, nfL vs = (C.Commit x) := by
  unfold HasT at h
  simp only [Tryd.underlying61] at h
  obtain ⟨wss, hl, hf, rfl⟩ := h
  match wss, hl with
  | [w0, w1, w2], _ =>
    obtain ⟨x0, h0⟩ := in_A32_u8_58 (m := m + 1) (hf 0 _ w0 rfl rfl)
    obtain ⟨x1, h1⟩ := in_LA32_u8_59 (m := m + 0) (hf 1 _ w1 rfl rfl)
    obtain ⟨x2, h2⟩ := in_string_9 (m := m + 2) (hf 2 _ w2 rfl rfl)
    refine ⟨⟨x0, x1, x2⟩, ?_⟩
    rw [nfL_flat]
    simp only [List.map_cons, List.map_nil, List.flatten_cons, List.flatten_nil, List.append_nil, C.Commit, List.append_assoc, h0, h1, h2]
set_option maxRecDepth 100000 in
theorem laid_met (os : Os) : laidMet Tryd.prog Rows.objectBackUptoRow.laid ((laidWorld os #[]).forCall (fun _ _ => 0) ⟨#[], #[.slice none 0 0, z1, .string ⟨#[]⟩], []⟩).memory :=
  laidMet_of_run' 8 (by kernel_rfl) (by kernel_rfl)
set_option maxRecDepth 100000 in
theorem reads (os : Os) {H : Type} (enc : TypeId × Value → H) : ∃ places, DataW.whole enc Tryd.prog ((laidWorld os #[]).forCall (fun _ _ => 0) ⟨#[], #[.slice none 0 0, z1, .string ⟨#[]⟩], []⟩).memory Tryd.f12.params.toList Rows.objectBackSpec.vars false (#[.slice none 0 0, z1, .string ⟨#[]⟩] : Array Value).toList 8 = some ([.nil, .agg [.agg (List.replicate 32 (.lit (.int .u8 0))), .nil, .lit (.string [])], .lit (.string [])], [], places) :=
  ⟨[], by kernel_rfl⟩

set_option maxRecDepth 100000 in
theorem lifted (os : Os) (started : os.Started) (H : Type) (enc : TypeId × Value → H) (F : Stop.Interp) :
    ReturnsInHanded {} Tryd.checked os 12 .any ((Rows.OpenSpec.upto Rows.objectBackSpec).preRow enc Tryd.prog Tryd.f12 Rows.objectBackUptoRow.domain false Rows.objectBackUptoRow.laid) (((Rows.OpenSpec.upto Rows.objectBackSpec).at F).post enc Tryd.prog Tryd.f12 false true false false) := by
  obtain ⟨places, hx⟩ := reads os enc
  refine returnsInHanded_of_row (C := Tryd.checked) (s := Rows.OpenSpec.upto Rows.objectBackSpec) ownK started (by kernel_rfl) Tryd.func12
    (witness_row_at (enc := enc) (C := Tryd.checked) false (laidWorld os #[]) #[.slice none 0 0, z1, .string ⟨#[]⟩] rfl (by kernel_rfl) (by kernel_rfl) (by kernel_rfl)
      (OpenSpec.preRow_of_cond 8 hx (by kernel_rfl) (fun k hk => by cases hk; kernel_rfl) (by kernel_rfl) (laid_met os))) ?_
  intro W base args ds gs before hval0 hW _ hcond _ _ hsh _
  have hval : ∀ (j : Nat) t v, Tryd.f12.params[j]? = some t → args[j]? = some v → Value.okWide Tryd.prog W .any base t v := hval0
  have hW' := hW
  obtain ⟨p, q, hA0, hV, rfl, hfz, hnd⟩ := hW
  have hA : DataW.TrodAll enc Tryd.prog W 0 (fun _ => true) true Tryd.f12.params.toList args.toList ds p := hA0
  rw [Tryd.params12] at hA hval
  obtain ⟨v0, vs0, d0, ds0, p0, q0, hargs, rfl, rfl, h0, r0⟩ := trodAll_cons hA
  obtain ⟨v1, vs1, d1, ds1, p1, q1, rfl, rfl, rfl, h1, r1⟩ := trodAll_cons r0
  obtain ⟨v2, vs2, d2, ds2, p2, q2, rfl, rfl, rfl, h2, r2⟩ := trodAll_cons r1
  obtain ⟨rfl, rfl, rfl⟩ := trodAll_nil r2
  obtain rfl : args = #[v0, v1, v2] := by cases args; simp_all
  obtain ⟨rfl, rfl⟩ := trodVars_none hV
  have hb := hcond _ rfl
  have hb' : Rows.uptoBulkAll [d0, d1, d2] ≤ 1048576 := of_decide_eq_true hb
  simp only [Rows.uptoBulkAll] at hb'
  obtain ⟨w0, a0, b0, c0, _⟩ := Trod.rep (φ := fun _ => none) kids full (m := 4) (of_decide_eq_true (by kernel_rfl)) (by kernel_rfl) h0 (hval 0 _ v0 rfl rfl)
  obtain ⟨x0, e0⟩ := in_LEntry_32 (m := 0) b0
  have e0 := el_one (P := Tryd.prog) (t := 32) (by kernel_rfl) e0
  obtain ⟨w1, a1, b1, c1, _⟩ := Trod.rep (φ := fun _ => none) kids full (m := 4) (of_decide_eq_true (by kernel_rfl)) (by kernel_rfl) h1 (hval 1 _ v1 rfl rfl)
  obtain ⟨x1, e1⟩ := in_Commit_61 (m := 0) b1
  have e1 := el_agg (P := Tryd.prog) (t := 61) (by kernel_rfl) e1
  obtain ⟨w2, a2, b2, c2, _⟩ := Trod.rep (φ := fun _ => none) kids full (m := 1) (of_decide_eq_true (by kernel_rfl)) (by kernel_rfl) h2 (hval 2 _ v2 rfl rfl)
  obtain ⟨x2, e2⟩ := in_string_9 (m := 0) b2
  have e2 := el_one (P := Tryd.prog) (t := 9) (by kernel_rfl) e2
  have hmax : HasMax W := Tryd.laysM146.s1_3 W hsh
  have hg : g.seichelaw07_ObjectBack x0 x1 x2 = some true := p_objectBack x0 x1 x2 (wt_of e0 (Nat.le_trans c0 (by omega))) (wt_of e1 (Nat.le_trans c1 (by omega))) (wt_of e2 (Nat.le_trans c2 (by omega)))
  have hcalls := law_end (cx := cxD W) (xs := #[v0, v1, v2]) (args := [elV Tryd.prog 32 w0, elV Tryd.prog 61 w1, elV Tryd.prog 9 w2]) (Go.Proofs.YtainplhaaklpeaaDoor.H.seichelaw07_ObjectBack W ⟨hmax⟩) ⟨(x0, x1, x2), true, (cons_eq e0 (cons_eq e1 (cons_eq e2 rfl))), hg, rfl⟩ ⟨rfl, fun i c x hc hx => by
    match i with
    | 0 => simp at hc hx; subst hc; subst hx; exact a0
    | 1 => simp at hc hx; subst hc; subst hx; exact a1
    | 2 => simp at hc hx; subst hc; subst hx; exact a2
    | i + 3 => simp at hx⟩
  refine Calls.mono hcalls fun e W' h => ?_
  obtain ⟨rfl, hB⟩ := h
  exact ⟨_, rfl, post_true kids full (tb := 4) rfl rfl (by kernel_rfl) Tryd.underlying4 (by rw [Tryd.params12]; decide) hW' hB⟩

theorem saidUpto : Rows.ObjectBackUptoSaid :=
  OpenClaim.holds_of_cond 12 Tryd.f12 rfl rfl rfl rfl rfl rfl rfl ⟨rfl, rfl, rfl, rfl, rfl⟩ rfl rfl rfl rfl rfl (by kernel_rfl) Tryd.func12 (by kernel_rfl)
    (of_decide_eq_true (by kernel_rfl)) (by unfold Func.isWrapper; first | (rw [if_pos (by decide +kernel)]; kernel_rfl) | (rw [if_neg (by decide +kernel)]; exact ⟨rfl, rfl⟩))
    (fun os started H enc _ F => by rw [OpenClaim.pre_eq_preRow]; exact lifted os started H enc F)

/-- No parameter wants a stand-in; the program's own looks are off. -/
theorem plain (f : FuncId) (fn : Func) (hf : Tryd.pinned.checked.prog.funcNamed "seiche/seichelaw07.ObjectBack" = some f) (hfn : Tryd.pinned.checked.prog.funcs[f]? = some fn) :
    false = Tryd.pinned.checked.prog.looks [] ∧ ∀ (j : Nat) t, fn.params[j]? = some t → Tryd.pinned.checked.prog.wantsStandIn t = false := by
  obtain rfl : f = 12 := Option.some.inj ((show Tryd.prog.funcNamed "seiche/seichelaw07.ObjectBack" = some 12 by kernel_rfl).symm.trans hf) |>.symm
  obtain rfl : fn = Tryd.f12 := (Option.some.inj (Tryd.func12.symm.trans hfn)).symm
  refine ⟨by kernel_rfl, fun j t ht => ?_⟩
  rw [Tryd.params12] at ht
  have := Array.mem_of_getElem? ht
  simp only [List.mem_toArray, List.mem_cons, List.not_mem_nil, or_false] at this
  rcases this with rfl | rfl | rfl
  · exact (show Tryd.prog.wantsStandIn 32 = false by kernel_rfl)
  · exact (show Tryd.prog.wantsStandIn 61 = false by kernel_rfl)
  · exact (show Tryd.prog.wantsStandIn 9 = false by kernel_rfl)

/-- THE CARD -/
theorem cardUpto : Rows.ObjectBackUptoCardSaid :=
  Claim7.holds_tied_plain_at .later [] _ _ _ _ saidUpto (fun _ h => by cases h) (by kernel_rfl) (fun _ h => by cases h) objectBackUpto_row_tie rfl ⟨rfl, rfl⟩ (by kernel_rfl) rfl plain (by kernel_rfl)
#print axioms cardUpto
end Go.Proofs.YtainplhaaklpeaaDoor.objectBack
