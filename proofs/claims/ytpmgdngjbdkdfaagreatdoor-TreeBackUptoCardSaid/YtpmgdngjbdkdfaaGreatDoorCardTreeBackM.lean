/-
  What is proved: seichelaw08.TreeBack answers true, where what it reads is of bulk at most 1048576 (the tied card of its second form). Printed by a program of this seat (wip/gen/card.py), after the seat's worked example.
-/
import Derived.Test.YtpmgdngjbdkdfaaGreatDoorM5
import Derived.Lay
namespace Go.Proofs.YtpmgdngjbdkdfaaGreatDoor.treeBack
open Go.ChangeShapes Go.WideShapes Go.RowKit Go.Abs

theorem witness_laid {H : Type} {enc : TypeId × Value → H} {C : Checked} {os : Os} {f : FuncId} {fn : Func} {s : OpenSpec} {conds : List PathCond} {apart : Bool} {laid : List (String × DataW Unit)} (w0 : World) (args : Array Value) (hos : w0.os = os)
    (hsh : (w0.forCall (fun _ _ => 0) ⟨#[], args, []⟩).Shaped C.prog)
    (hok : Input.okWideB C.prog (w0.forCall (fun _ _ => 0) ⟨#[], args, []⟩) f ⟨#[], args, []⟩ = true)
    (hrow : s.preRow enc C.prog fn conds apart laid (w0.forCall (fun _ _ => 0) ⟨#[], args, []⟩).memory args) :
    ∃ (w : World) (tape : Tape) (i : Input), w.os = os ∧ (w.forCall tape i).Shaped C.prog ∧ i.vars = [] ∧ Input.okWide C.prog (w.forCall tape i) .any w.heap.size f i ∧
      s.preRow enc C.prog fn conds apart laid (w.forCall tape i).memory i.args ∧ ({ modest := false } : Assume).holds C.prog (lone (Frame.enter C.prog f i.args .normal) [] (w.forCall tape i)) :=
  ⟨w0, fun _ _ => 0, ⟨#[], args, []⟩, hos, hsh, (Input.okWide_of_okWideB (base := 0) hok).1, (Input.okWide_of_okWideB hok).2, hrow, by
    simp only [Assume.holds]
    exact ⟨by simp, by simp, fun _ => Modest.zero, by simp, by simp⟩⟩
set_option maxRecDepth 100000 in
theorem in_string_9 {m : Nat} {vs : List V} (h : HasT Tryz.prog (m + 1) 9 vs) : ∃ x : Bytes, nfL vs = [(V.str x)] := Z6i Tryz.underlying9 h
set_option maxRecDepth 100000 in
theorem in_File_31 {m : Nat} {vs : List V} (h : HasT Tryz.prog (m + 2) 31 vs) : ∃ x : T.File, nfL vs = (C.File x) := by
  unfold HasT at h
  simp only [Tryz.underlying31] at h
  obtain ⟨wss, hl, hf, rfl⟩ := h
  match wss, hl with
  | [w0, w1], _ =>
    obtain ⟨x0, h0⟩ := in_string_9 (m := m + 0) (hf 0 _ w0 rfl rfl)
    obtain ⟨x1, h1⟩ := in_string_9 (m := m + 0) (hf 1 _ w1 rfl rfl)
    refine ⟨⟨x0, x1⟩, ?_⟩
    rw [nfL_flat]
    simp only [Xaq, Xbg, Xco, List.flatten_nil, Xao, C.File, Xaj, h0, h1]
set_option maxRecDepth 100000 in
theorem in_LFile_22 {m : Nat} {vs : List V} (h : HasT Tryz.prog (m + 3) 22 vs) : ∃ x : (List T.File), nfL vs = [(V.sl false 2 (List.map E.File x))] :=
  Z8a (E := E.File) Tryz.underlying22 (by kernel_rfl) (fun ws hw => by
    obtain ⟨x, hx⟩ := in_File_31 hw
    exact ⟨x, Z48 (by kernel_rfl) hx⟩) h
set_option maxRecDepth 100000 in
theorem in_i64_3 {m : Nat} {vs : List V} (h : HasT Tryz.prog (m + 1) 3 vs) : ∃ x : Int, nfL vs = [(V.int .i64 x)] := Z6b Tryz.underlying3 h
set_option maxRecDepth 100000 in
theorem gl_ok {W : World} (hlm : laidMet Tryz.prog Rows.treeBackUptoRow.laid W) : GlOK (cxG gls W) := by
  intro g cs h
  have h : gls g = some cs := h
  unfold gls at h
  split at h
  · rename_i hb
    obtain rfl : g = 0 := Xah hb
    cases h
    exact Z2g (P := Tryz.prog) (n := "seiche/sha.table") (e := 119) (k := .u32) [1116352408, 1899447441, 3049323471, 3921009573, 961987163, 1508970993, 2453635748, 2870763221, 3624381080, 310598401, 607225278, 1426881987, 1925078388, 2162078206, 2614888103, 3248222580, 3835390401, 4022224774, 264347078, 604807628, 770255983, 1249150122, 1555081692, 1996064986, 2554220882, 2821834349, 2952996808, 3210313671, 3336571891, 3584528711, 113926993, 338241895, 666307205, 773529912, 1294757372, 1396182291, 1695183700, 1986661051, 2177026350, 2456956037, 2730485921, 2820302411, 3259730800, 3345764771, 3516065817, 3600352804, 4094571909, 275423344, 430227734, 506948616, 659060556, 883997877, 958139571, 1322822218, 1537002063, 1747873779, 1955562222, 2024104815, 2227730452, 2361852424, 2428436474, 2756734187, 3204031479, 3329325298] hlm (.head _) (by kernel_rfl) (by kernel_rfl) Tryz.underlying122 Tryz.underlying119 (by kernel_rfl) (by kernel_rfl) rfl
  · cases h
theorem gl_flat {g : Nat} {cs : List V} (h : gls g = some cs) : nfL cs = cs ∧ Zac cs = true := by
  unfold gls at h
  split at h
  · cases h; exact ⟨rfl, rfl⟩
  · cases h
set_option maxRecDepth 100000 in
theorem laid_met (os : Os) : laidMet Tryz.prog Rows.treeBackUptoRow.laid ((World.laidAll Tryz.prog os Rows.treeBackUptoRow.laid).forCall (fun _ _ => 0) ⟨#[], #[.slice none 0 0, .int .i64 0], []⟩).memory :=
  laidMet_laidAll _ (by kernel_rfl) (by kernel_rfl)
set_option maxRecDepth 100000 in
theorem reads (os : Os) {H : Type} (enc : TypeId × Value → H) : ∃ Zm8, DataW.whole enc Tryz.prog ((World.laidAll Tryz.prog os Rows.treeBackUptoRow.laid).forCall (fun _ _ => 0) ⟨#[], #[.slice none 0 0, .int .i64 0], []⟩).memory Tryz.f5.params.toList Rows.treeBackSpec.vars false (#[.slice none 0 0, .int .i64 0] : Array Value).toList 8 = some ([.nil, .lit (.int .i64 0)], [], Zm8) :=
  ⟨[], by kernel_rfl⟩

set_option maxRecDepth 100000 in
theorem lifted (os : Os) (started : os.Started) (H : Type) (enc : TypeId × Value → H) (F : Stop.Interp) :
    ReturnsInHanded {} Tryz.checked os 5 .any ((Rows.OpenSpec.upto Rows.treeBackSpec).preRow enc Tryz.prog Tryz.f5 Rows.treeBackUptoRow.domain false Rows.treeBackUptoRow.laid) (((Rows.OpenSpec.upto Rows.treeBackSpec).at F).post enc Tryz.prog Tryz.f5 false true false false) := by
  obtain ⟨Zm8, hx⟩ := reads os enc
  refine returnsInHanded_of_row (C := Tryz.checked) (s := Rows.OpenSpec.upto Rows.treeBackSpec) ownK started (by kernel_rfl) Tryz.func5
    (witness_laid (enc := enc) (C := Tryz.checked) (World.laidAll Tryz.prog os Rows.treeBackUptoRow.laid) #[.slice none 0 0, .int .i64 0] (World.laidAll_os _ _ _) (World.shaped_of_ZipB (by kernel_rfl) (by kernel_rfl)) (by kernel_rfl)
      (OpenSpec.preRow_of_cond 8 hx (by kernel_rfl) (fun k hk => by cases hk; kernel_rfl) (by kernel_rfl) (laid_met os))) ?_
  intro W base args ds gs before hval0 hW _ hcond _ hlaid hsh _
  have hval : ∀ (j : Nat) t v, Tryz.f5.params[j]? = some t → args[j]? = some v → Value.okWide Tryz.prog W .any base t v := hval0
  have hW' := hW
  obtain ⟨p, q, hA0, hV, rfl, hfz, hnd⟩ := hW
  have hA : DataW.TrodAll enc Tryz.prog W 0 (fun _ => true) true Tryz.f5.params.toList args.toList ds p := hA0
  rw [Tryz.params5] at hA hval
  obtain ⟨v0, vs0, d0, ds0, p0, q0, hargs, rfl, rfl, h0, r0⟩ := trodAll_cons hA
  obtain ⟨v1, vs1, d1, ds1, p1, q1, rfl, rfl, rfl, h1, r1⟩ := trodAll_cons r0
  obtain ⟨rfl, rfl, rfl⟩ := trodAll_nil r1
  obtain rfl : args = #[v0, v1] := by cases args; simp_all
  obtain ⟨rfl, rfl⟩ := trodVars_none hV
  have hb := hcond _ rfl
  have hb' : Rows.uptoBulkAll [d0, d1] ≤ 1048576 := of_decide_eq_true hb
  simp only [Rows.uptoBulkAll] at hb'
  obtain ⟨w0, a0, b0, c0, _⟩ := Trod.rep (φ := fun _ => none) kids full (m := 3) (of_decide_eq_true (by kernel_rfl)) (by kernel_rfl) h0 (hval 0 _ v0 rfl rfl)
  obtain ⟨x0, e0⟩ := in_LFile_22 (m := 0) b0
  have e0 := Zyz (P := Tryz.prog) (t := 22) (by kernel_rfl) e0
  obtain ⟨w1, a1, b1, c1, _⟩ := Trod.rep (φ := fun _ => none) kids full (m := 1) (of_decide_eq_true (by kernel_rfl)) (by kernel_rfl) h1 (hval 1 _ v1 rfl rfl)
  obtain ⟨x1, e1, l1, u1⟩ := Z5d Tryz.underlying3 b1
  have e1 := Zyz (P := Tryz.prog) (t := 3) (by kernel_rfl) e1
  have hmax : HasMax W := Tryz.laysM146.s1_3 W hsh
  have hg := Zse (e := Zsh exts) envX x0 x1 (Z9m e0 (Xbs c0 (by omega))) l1 u1
  have hcalls := Zxz (cx := cxG gls W) (xs := #[v0, v1]) (args := [elV Tryz.prog 22 w0, elV Tryz.prog 3 w1]) (gl_ok (Z6h hlaid (by kernel_rfl))) mixed (Zx9 (ow := cfg) (fun c hc => Z2e (Z0z W ⟨hmax⟩ c hc)) Zyq) (Zxc keys (fun _ _ h => ⟨h, gl_flat h⟩)) ((Zug e0 (Zug e1 rfl))) (Zfg (Zhi (fun x => (E.File_clean x)) x0) (Zfg rfl rfl)) hg ⟨rfl, fun i c x hc hx => by
    match i with
    | 0 => simp at hc hx; subst hc; subst hx; exact a0
    | 1 => simp at hc hx; subst hc; subst hx; exact a1
    | i + 2 => simp at hx⟩
  refine Calls.mono hcalls fun e W' h => ?_
  obtain ⟨rfl, hB⟩ := h
  exact ⟨_, rfl, Ztg kids full (tb := 4) rfl rfl (by kernel_rfl) Tryz.underlying4 (by rw [Tryz.params5]; decide) hW' hB⟩

theorem saidUpto : Rows.TreeBackUptoSaid :=
  OpenClaim.holds_of_cond 5 Tryz.f5 rfl rfl rfl rfl rfl rfl rfl ⟨rfl, rfl, rfl, rfl, rfl⟩ rfl rfl rfl rfl rfl (by kernel_rfl) Tryz.func5 (by kernel_rfl)
    (of_decide_eq_true (by kernel_rfl)) (by unfold Func.isWrapper; first | (rw [if_pos (by decide +kernel)]; kernel_rfl) | (rw [if_neg (by decide +kernel)]; exact ⟨rfl, rfl⟩))
    (fun os started H enc _ F => by rw [OpenClaim.pre_eq_preRow]; exact lifted os started H enc F)

/-- No parameter wants a stand-in; the program's own looks are off. -/
theorem plain (f : FuncId) (fn : Func) (hf : Tryz.pinned.checked.prog.funcNamed "seiche/seichelaw08.TreeBack" = some f) (hfn : Tryz.pinned.checked.prog.funcs[f]? = some fn) :
    false = Tryz.pinned.checked.prog.looks [] ∧ ∀ (j : Nat) t, fn.params[j]? = some t → Tryz.pinned.checked.prog.wantsStandIn t = false := by
  obtain rfl : f = 5 := Option.some.inj ((show Tryz.prog.funcNamed "seiche/seichelaw08.TreeBack" = some 5 by kernel_rfl).symm.trans hf) |>.symm
  obtain rfl : fn = Tryz.f5 := (Option.some.inj (Tryz.func5.symm.trans hfn)).symm
  refine ⟨by kernel_rfl, fun j t ht => ?_⟩
  rw [Tryz.params5] at ht
  have := Array.mem_of_getElem? ht
  simp only [List.mem_toArray, Xa0, Xdi, or_false] at this
  rcases this with rfl | rfl
  · exact (show Tryz.prog.wantsStandIn 22 = false by kernel_rfl)
  · exact (show Tryz.prog.wantsStandIn 3 = false by kernel_rfl)

/-- THE CARD -/
theorem cardUpto : Rows.TreeBackUptoCardSaid :=
  Claim7.holds_tied_plain_at .later [] _ _ _ _ saidUpto (fun _ h => by cases h) (by kernel_rfl) (fun _ h => by cases h) treeBackUpto_row_tie rfl ⟨rfl, rfl⟩ (by kernel_rfl) rfl plain (by kernel_rfl)
#print axioms cardUpto
end Go.Proofs.YtpmgdngjbdkdfaaGreatDoor.treeBack
