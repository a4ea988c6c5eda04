/-
  What is proved: seichelaw18.ResolveNone answers true, where what it reads is of bulk at most 1048576 (the tied card of its second form). Printed by a program of this seat (wip/gen/card.py), after the seat's worked example.
-/
import Derived.Test.YtegmegbanfkomaaGreatDoorM4
import Derived.Test.YtegmegbanfkomaaGreatDoorM5
import Derived.Lay
import Derived.Stop.LaidErr
namespace Go.Proofs.YtegmegbanfkomaaGreatDoor.resolveNone
open Go.ChangeShapes Go.WideShapes Go.RowKit Go.Abs

theorem witness_laid {H : Type} {enc : TypeId × Value → H} {C : Checked} {os : Os} {f : FuncId} {fn : Func} {s : OpenSpec} {conds : List PathCond} {apart : Bool} {laid : List (String × DataW Unit)} (w0 : World) (args : Array Value) (hos : w0.os = os)
    (hsh : (w0.forCall (fun _ _ => 0) ⟨#[], args, []⟩).Shaped C.prog)
    (hok : Input.okWideB C.prog (w0.forCall (fun _ _ => 0) ⟨#[], args, []⟩) f ⟨#[], args, []⟩ = true)
    (hrow : s.preRow enc C.prog fn conds apart laid (w0.forCall (fun _ _ => 0) ⟨#[], args, []⟩).memory args) :
    ∃ (w : World) (tape : Tape) (i : Input), w.os = os ∧ (w.forCall tape i).Shaped C.prog ∧ i.vars = [] ∧ Input.okWide C.prog (w.forCall tape i) .any w.heap.size f i ∧
      s.preRow enc C.prog fn conds apart laid (w.forCall tape i).memory i.args ∧ ({ modest := false } : Assume).holds C.prog (lone (Frame.enter C.prog f i.args .normal) [] (w.forCall tape i)) :=
  ⟨w0, fun _ _ => 0, ⟨#[], args, []⟩, hos, hsh, (Input.okWide_of_okWideB (base := 0) hok).1, (Input.okWide_of_okWideB hok).2, hrow, by
    simp only [Assume.holds]
    exact ⟨by simp, by simp, fun _ => Modest.zero, by simp, by simp⟩⟩
set_option maxRecDepth 100000 in
theorem in_string_9 {m : Nat} {vs : List V} (h : HasT Tryz.prog (m + 1) 9 vs) : ∃ x : Bytes, nfL vs = [(V.str x)] := Z5m Tryz.underlying9 h
set_option maxRecDepth 100000 in
theorem in_File_39 {m : Nat} {vs : List V} (h : HasT Tryz.prog (m + 2) 39 vs) : ∃ x : T.File, nfL vs = (C.File x) := by
  unfold HasT at h
  simp only [Tryz.underlying39] at h
  obtain ⟨wss, hl, hf, rfl⟩ := h
  match wss, hl with
  | [w0, w1], _ =>
    obtain ⟨x0, h0⟩ := in_string_9 (m := m + 0) (hf 0 _ w0 rfl rfl)
    obtain ⟨x1, h1⟩ := in_string_9 (m := m + 0) (hf 1 _ w1 rfl rfl)
    refine ⟨⟨x0, x1⟩, ?_⟩
    rw [nfL_flat]
    simp only [Xan, Xa9, Xcd, List.flatten_nil, Xax, C.File, Xar, h0, h1]
set_option maxRecDepth 100000 in
theorem in_LFile_22 {m : Nat} {vs : List V} (h : HasT Tryz.prog (m + 3) 22 vs) : ∃ x : (List T.File), nfL vs = [(V.sl false 2 (List.map E.File x))] :=
  Qab (E := E.File) Tryz.underlying22 (by kernel_rfl) (fun ws hw => by
    obtain ⟨x, hx⟩ := in_File_39 hw
    exact ⟨x, Z4e (by kernel_rfl) hx⟩) h
set_option maxRecDepth 100000 in
theorem gl_ok {W : World} (hlm : laidMet Tryz.prog Rows.resolveNoneUptoRow.laid W) : GlOK (cxG gls W) := by
  intro g cs h
  have h : gls g = some cs := h
  unfold gls at h
  split at h
  · rename_i hb
    obtain rfl : g = 9 := Xag hb
    cases h
    exact Z25 (P := Tryz.prog) (n := "seiche/sha.table") (e := 243) (k := .u32) [1116352408, 1899447441, 3049323471, 3921009573, 961987163, 1508970993, 2453635748, 2870763221, 3624381080, 310598401, 607225278, 1426881987, 1925078388, 2162078206, 2614888103, 3248222580, 3835390401, 4022224774, 264347078, 604807628, 770255983, 1249150122, 1555081692, 1996064986, 2554220882, 2821834349, 2952996808, 3210313671, 3336571891, 3584528711, 113926993, 338241895, 666307205, 773529912, 1294757372, 1396182291, 1695183700, 1986661051, 2177026350, 2456956037, 2730485921, 2820302411, 3259730800, 3345764771, 3516065817, 3600352804, 4094571909, 275423344, 430227734, 506948616, 659060556, 883997877, 958139571, 1322822218, 1537002063, 1747873779, 1955562222, 2024104815, 2227730452, 2361852424, 2428436474, 2756734187, 3204031479, 3329325298] hlm (.tail _ (.tail _ (.tail _ (.head _)))) (by kernel_rfl) (by kernel_rfl) Tryz.underlying246 Tryz.underlying243 (by kernel_rfl) (by kernel_rfl) rfl
  split at h
  · rename_i hb
    obtain rfl : g = 0 := Xag hb
    cases h
    exact Zwi (P := Tryz.prog) (n := "seiche/suffix.systems") (e := 9) [[97, 105, 120], [97, 110, 100, 114, 111, 105, 100], [100, 97, 114, 119, 105, 110], [100, 114, 97, 103, 111, 110, 102, 108, 121], [102, 114, 101, 101, 98, 115, 100], [105, 108, 108, 117, 109, 111, 115], [105, 111, 115], [106, 115], [108, 105, 110, 117, 120], [110, 101, 116, 98, 115, 100], [111, 112, 101, 110, 98, 115, 100], [112, 108, 97, 110, 57], [115, 111, 108, 97, 114, 105, 115], [119, 97, 115, 105, 112, 49], [119, 105, 110, 100, 111, 119, 115]] hlm (.tail _ (.tail _ (.tail _ (.tail _ (.tail _ (.tail _ (.tail _ (.head _)))))))) (by kernel_rfl) (by kernel_rfl) Tryz.underlying52 Tryz.underlying9 (by kernel_rfl) ⟨_, rfl⟩ (by simp)
  split at h
  · rename_i hb
    obtain rfl : g = 1 := Xag hb
    cases h
    exact Zwi (P := Tryz.prog) (n := "seiche/suffix.processors") (e := 9) [[51, 56, 54], [97, 109, 100, 54, 52], [97, 114, 109], [97, 114, 109, 54, 52], [108, 111, 111, 110, 103, 54, 52], [109, 105, 112, 115], [109, 105, 112, 115, 54, 52], [109, 105, 112, 115, 54, 52, 108, 101], [109, 105, 112, 115, 108, 101], [112, 112, 99, 54, 52], [112, 112, 99, 54, 52, 108, 101], [114, 105, 115, 99, 118, 54, 52], [115, 51, 57, 48, 120], [119, 97, 115, 109]] hlm (.tail _ (.tail _ (.tail _ (.tail _ (.tail _ (.tail _ (.tail _ (.tail _ (.head _))))))))) (by kernel_rfl) (by kernel_rfl) Tryz.underlying52 Tryz.underlying9 (by kernel_rfl) ⟨_, rfl⟩ (by simp)
  · cases h
theorem gl_flat {g : Nat} {cs : List V} (h : gls g = some cs) : nfL cs = cs ∧ Zab cs = true := by
  unfold gls at h
  split at h
  · cases h; exact ⟨rfl, rfl⟩
  split at h
  · cases h; exact ⟨rfl, rfl⟩
  split at h
  · cases h; exact ⟨rfl, rfl⟩
  · cases h
theorem row_err (u : TypeId) (h : Tryz.prog.typeName? 3 u = some "*errors.errorString") : u = 408 := by
  have hs : "*" ++ "errors.errorString" = "*errors.errorString" := by decide
  exact typeName_ptr_named (nm := "errors.errorString") (by rw [hs]; kernel_rfl) (by kernel_rfl) (by decide) u (by rw [hs]; exact h)
set_option maxRecDepth 100000 in
theorem env_ok {W : World} (hmax : HasMax W) (h : laidMet Tryz.prog Rows.resolveNoneUptoRow.laid W) : EnvE W where
  max := hmax
  syn := by
    have hg : Tryz.prog.globalNamed "strconv.ErrSyntax" = some 10 := by kernel_rfl
    obtain ⟨a, s, hv, _⟩ := laid_sentinel (Zcx (Zcx (Zcx (Zcx (Zcx (Zcx h)))))) hg (by kernel_rfl) Tryz.underlying214 row_err Tryz.underlying408 Tryz.underlying410 rfl rfl Tryz.underlying9 (by kernel_rfl) (by kernel_rfl)
    exact Zr8 hg hv
  rng := by
    have hg : Tryz.prog.globalNamed "strconv.ErrRange" = some 11 := by kernel_rfl
    obtain ⟨a, s, hv, _⟩ := laid_sentinel (Zcx (Zcx (Zcx (Zcx (Zcx h))))) hg (by kernel_rfl) Tryz.underlying214 row_err Tryz.underlying408 Tryz.underlying410 rfl rfl Tryz.underlying9 (by kernel_rfl) (by kernel_rfl)
    exact Zr8 hg hv
  tab := Lib.tabIs_of_head (g := 12) (t := 412) (e := 195) (n := 20) (by kernel_rfl) (by kernel_rfl) Tryz.underlying412 Tryz.underlying195 (by kernel_rfl) (by kernel_rfl) (Zcx (Zcx h))
set_option maxRecDepth 100000 in
theorem laid_met (os : Os) : laidMet Tryz.prog Rows.resolveNoneUptoRow.laid ((World.laidAll Tryz.prog os Rows.resolveNoneUptoRow.laid).forCall (fun _ _ => 0) ⟨#[], #[.slice none 0 0, .string ⟨#[]⟩, .string ⟨#[]⟩], []⟩).memory :=
  laidMet_laidAll _ (by kernel_rfl) (by kernel_rfl)
set_option maxRecDepth 100000 in
theorem reads (os : Os) {H : Type} (enc : TypeId × Value → H) : ∃ Zm2, DataW.whole enc Tryz.prog ((World.laidAll Tryz.prog os Rows.resolveNoneUptoRow.laid).forCall (fun _ _ => 0) ⟨#[], #[.slice none 0 0, .string ⟨#[]⟩, .string ⟨#[]⟩], []⟩).memory Tryz.f4.params.toList Rows.resolveNoneSpec.vars false (#[.slice none 0 0, .string ⟨#[]⟩, .string ⟨#[]⟩] : Array Value).toList 8 = some ([.nil, .lit (.string []), .lit (.string [])], [], Zm2) :=
  ⟨[], by kernel_rfl⟩

set_option maxRecDepth 100000 in
theorem lifted (os : Os) (started : os.Started) (H : Type) (enc : TypeId × Value → H) (F : Stop.Interp) :
    ReturnsInHanded {} Tryz.checked os 4 .any ((Rows.OpenSpec.upto Rows.resolveNoneSpec).preRow enc Tryz.prog Tryz.f4 Rows.resolveNoneUptoRow.domain false Rows.resolveNoneUptoRow.laid) (((Rows.OpenSpec.upto Rows.resolveNoneSpec).at F).post enc Tryz.prog Tryz.f4 false true false false) := by
  obtain ⟨Zm2, hx⟩ := reads os enc
  refine returnsInHanded_of_row (C := Tryz.checked) (s := Rows.OpenSpec.upto Rows.resolveNoneSpec) ownK started (by kernel_rfl) Tryz.func4
    (witness_laid (enc := enc) (C := Tryz.checked) (World.laidAll Tryz.prog os Rows.resolveNoneUptoRow.laid) #[.slice none 0 0, .string ⟨#[]⟩, .string ⟨#[]⟩] (World.laidAll_os _ _ _) (World.shaped_of_ZipB (by kernel_rfl) (by kernel_rfl)) (by kernel_rfl)
      (OpenSpec.preRow_of_cond 8 hx (by kernel_rfl) (fun k hk => by cases hk; kernel_rfl) (by kernel_rfl) (laid_met os))) ?_
  intro W base args ds gs before hval0 hW _ hcond _ hlaid hsh _
  have hval : ∀ (j : Nat) t v, Tryz.f4.params[j]? = some t → args[j]? = some v → Value.okWide Tryz.prog W .any base t v := hval0
  have hW' := hW
  obtain ⟨p, q, hA0, hV, rfl, hfz, hnd⟩ := hW
  have hA : DataW.TrodAll enc Tryz.prog W 0 (fun _ => true) true Tryz.f4.params.toList args.toList ds p := hA0
  rw [Tryz.params4] at hA hval
  obtain ⟨v0, vs0, d0, ds0, p0, q0, hargs, rfl, rfl, h0, r0⟩ := trodAll_cons hA
  obtain ⟨v1, vs1, d1, ds1, p1, q1, rfl, rfl, rfl, h1, r1⟩ := trodAll_cons r0
  obtain ⟨v2, vs2, d2, ds2, p2, q2, rfl, rfl, rfl, h2, r2⟩ := trodAll_cons r1
  obtain ⟨rfl, rfl, rfl⟩ := trodAll_nil r2
  obtain rfl : args = #[v0, v1, v2] := by cases args; simp_all
  obtain ⟨rfl, rfl⟩ := trodVars_none hV
  have hb := hcond _ rfl
  have hb' : Rows.uptoBulkAll [d0, d1, d2] ≤ 1048576 := of_decide_eq_true hb
  simp only [Rows.uptoBulkAll] at hb'
  obtain ⟨w0, a0, b0, c0, _⟩ := Trod.rep (φ := fun _ => none) kids full (m := 3) (of_decide_eq_true (by kernel_rfl)) (by kernel_rfl) h0 (hval 0 _ v0 rfl rfl)
  obtain ⟨x0, e0⟩ := in_LFile_22 (m := 0) b0
  have e0 := Zty (P := Tryz.prog) (t := 22) (by kernel_rfl) e0
  obtain ⟨w1, a1, b1, c1, _⟩ := Trod.rep (φ := fun _ => none) kids full (m := 1) (of_decide_eq_true (by kernel_rfl)) (by kernel_rfl) h1 (hval 1 _ v1 rfl rfl)
  obtain ⟨x1, e1⟩ := in_string_9 (m := 0) b1
  have e1 := Zty (P := Tryz.prog) (t := 9) (by kernel_rfl) e1
  obtain ⟨w2, a2, b2, c2, _⟩ := Trod.rep (φ := fun _ => none) kids full (m := 1) (of_decide_eq_true (by kernel_rfl)) (by kernel_rfl) h2 (hval 2 _ v2 rfl rfl)
  obtain ⟨x2, e2⟩ := in_string_9 (m := 0) b2
  have e2 := Zty (P := Tryz.prog) (t := 9) (by kernel_rfl) e2
  have hmax : HasMax W := Tryz.laysM146.s1_3 W hsh
  have hg := Zll (e := Zs6 exts) envX x0 x1 x2 (Z24 e0 (Xba c0 (by omega))) (Z24 e1 (Xba c1 (by omega))) (Z24 e2 (Xba c2 (by omega)))
  have hcalls := Zy1 (cx := cxG gls W) (xs := #[v0, v1, v2]) (args := [elV Tryz.prog 22 w0, elV Tryz.prog 9 w1, elV Tryz.prog 9 w2]) (gl_ok (Zzv hlaid (by kernel_rfl))) mixed (Zys (ow := cfg) (fun c hc => Z3v (Z1f W (env_ok hmax (Zzv hlaid (by kernel_rfl))) c hc)) Zzk) (Zzo keys (fun _ _ h => ⟨h, gl_flat h⟩)) ((Zqa e0 (Zqa e1 (Zqa e2 rfl)))) (Zeg (Zfw (fun x => (E.File_clean x)) x0) (Zeg rfl (Zeg rfl rfl))) hg ⟨rfl, fun i c x hc hx => by
    match i with
    | 0 => simp at hc hx; subst hc; subst hx; exact a0
    | 1 => simp at hc hx; subst hc; subst hx; exact a1
    | 2 => simp at hc hx; subst hc; subst hx; exact a2
    | i + 3 => simp at hx⟩
  refine Calls.mono hcalls fun e W' h => ?_
  obtain ⟨rfl, hB⟩ := h
  exact ⟨_, rfl, Zv9 kids full (tb := 4) rfl rfl (by kernel_rfl) Tryz.underlying4 (by rw [Tryz.params4]; decide) hW' hB⟩

theorem j1 : (Rows.resolveNoneUptoRow.inPlace == Tryz.pinned.checked.prog.inPlace 4) = true := by kernel_rfl
theorem j2 : (Rows.resolveNoneUptoRow.unfollowed == Tryz.pinned.checked.prog.unfollowed 4) = true := by kernel_rfl
theorem j3 : (Rows.resolveNoneUptoRow.recurses == Tryz.pinned.checked.prog.recurses 4) = true := by kernel_rfl
theorem j4 : (Rows.resolveNoneUptoRow.named == Tryz.pinned.checked.prog.varsNamed 4) = true := by kernel_rfl
theorem jf : joinedFacts Tryz.pinned.checked.prog 4 Tryz.f4 (Rows.OpenSpec.upto Rows.resolveNoneSpec).bare Rows.resolveNoneUptoRow = true := by
  unfold joinedFacts
  rw [j1, j2, j3, j4]
  kernel_rfl

theorem saidUpto : Rows.ResolveNoneUptoSaid :=
  OpenClaim.holds_of_cond 4 Tryz.f4 rfl rfl rfl rfl rfl rfl rfl ⟨rfl, rfl, rfl, rfl, rfl⟩ rfl rfl rfl rfl rfl (by kernel_rfl) Tryz.func4 jf
    (of_decide_eq_true (by kernel_rfl)) (by unfold Func.isWrapper; first | (rw [if_pos (by decide +kernel)]; kernel_rfl) | (rw [if_neg (by decide +kernel)]; exact ⟨rfl, rfl⟩))
    (fun os started H enc _ F => by rw [OpenClaim.pre_eq_preRow]; exact lifted os started H enc F)

/-- No parameter wants a stand-in; the program's own looks are off. -/
theorem plain (f : FuncId) (fn : Func) (hf : Tryz.pinned.checked.prog.funcNamed "seiche/seichelaw18.ResolveNone" = some f) (hfn : Tryz.pinned.checked.prog.funcs[f]? = some fn) :
    true = Tryz.pinned.checked.prog.looks [] ∧ ∀ (j : Nat) t, fn.params[j]? = some t → Tryz.pinned.checked.prog.wantsStandIn t = false := by
  obtain rfl : f = 4 := Option.some.inj ((show Tryz.prog.funcNamed "seiche/seichelaw18.ResolveNone" = some 4 by kernel_rfl).symm.trans hf) |>.symm
  obtain rfl : fn = Tryz.f4 := (Option.some.inj (Tryz.func4.symm.trans hfn)).symm
  refine ⟨by kernel_rfl, fun j t ht => ?_⟩
  rw [Tryz.params4] at ht
  have := Array.mem_of_getElem? ht
  simp only [List.mem_toArray, Xap, Xb1, or_false] at this
  rcases this with rfl | rfl | rfl
  · exact (show Tryz.prog.wantsStandIn 22 = false by kernel_rfl)
  · exact (show Tryz.prog.wantsStandIn 9 = false by kernel_rfl)
  · exact (show Tryz.prog.wantsStandIn 9 = false by kernel_rfl)

/-- THE CARD -/
theorem cardUpto : Rows.ResolveNoneUptoCardSaid :=
  Claim7.holds_tied_plain_at .later [] _ _ _ _ saidUpto (fun _ h => by cases h) (by as_aux_lemma => kernel_rfl) (fun _ h => by cases h) resolveNoneUpto_row_tie rfl ⟨rfl, rfl⟩ (by as_aux_lemma => kernel_rfl) rfl plain (by as_aux_lemma => kernel_rfl)
#print axioms cardUpto
end Go.Proofs.YtegmegbanfkomaaGreatDoor.resolveNone
