/-
  What came in: lists of files. Own work of this seat.
-/
import Derived.Test.YtainplhaaklpeaaDoorDiffD
import Derived.Test.YtainplhaaklpeaaDoorCard
namespace Go.Proofs.YtainplhaaklpeaaDoor
open Go.ChangeShapes Go.WideShapes Go.RowKit Go.Abs

theorem u8_row : ∀ {wss : List (List V)}, (∀ ws ∈ wss, ∃ n : Int, ws = [.int .u8 n] ∧ IntKind.u8.min ≤ n ∧ n ≤ IntKind.u8.max) → ∃ l : Bytes, l.length = wss.length ∧ wss.flatten = encB l
  | [], _ => ⟨[], rfl, rfl⟩
  | w :: r, h => by
    obtain ⟨n, rfl, h1, h2⟩ := h w (by simp)
    obtain ⟨l, hl, hf⟩ := u8_row (wss := r) fun x hx => h x (by simp [hx])
    have h1 : 0 ≤ n := h1
    have h2 : n ≤ 255 := h2
    refine ⟨UInt8.ofNat n.toNat :: l, by simp [hl], ?_⟩
    have e : ((UInt8.ofNat n.toNat).toNat : Int) = n := by
      rw [UInt8.toNat_ofNat_of_lt' (show n.toNat < 256 by omega)]; omega
    show [V.int .u8 n] ++ r.flatten = _
    rw [hf]
    simp only [encB, List.map_cons, byteV]
    rw [e]; rfl

set_option maxRecDepth 100000 in
theorem inp_of {ws : List V} (h : HasT Tryd.prog 4 78 ws) : ∃ f : Inp, elV Tryd.prog 78 ws = f.v := by
  have ha : isAgT Tryd.prog 78 = true := by kernel_rfl
  unfold HasT at h
  rw [Tryd.underlying78] at h
  obtain ⟨wss, hl, hf, rfl⟩ := h
  match wss, hl with
  | [w0, w1], _ =>
    have h0 := hf 0 _ w0 rfl rfl
    have h1 := hf 1 _ w1 rfl rfl
    simp only [HasT, Tryd.underlying9] at h0
    obtain ⟨s, rfl⟩ := h0
    unfold HasT at h1
    simp only [Tryd.underlying58] at h1
    obtain ⟨xs, hx, hu, rfl⟩ := h1
    obtain ⟨l, hll, hfl⟩ := u8_row (wss := xs) fun w hw => by
      have := hu w hw
      simpa only [HasT, Tryd.underlying5] using this
    refine ⟨⟨s, l, by rw [hll, hx]⟩, ?_⟩
    simp only [elV, ha, if_true, Inp.v, List.flatten_cons, List.flatten_nil, List.append_nil, hfl]; rfl

set_option maxRecDepth 100000 in
theorem inps_of {vs : List V} (h : HasT Tryd.prog 5 22 vs) : ∃ nl l, elV Tryd.prog 22 vs = inps nl l ∧ (l ≠ [] → nl = false) := by
  have ha : isAgT Tryd.prog 22 = false := by kernel_rfl
  have hc : Tryd.prog.cellsOf 78 = 33 := by kernel_rfl
  unfold HasT at h
  simp only [Tryd.underlying22] at h
  rcases h with rfl | ⟨xs, rfl, hx⟩
  · refine ⟨true, [], ?_, fun h => absurd rfl h⟩
    simp only [elV, ha, hc]; rfl
  · have : ∃ l : List Inp, xs = l.map Inp.v := by
      clear ha hc
      induction xs with
      | nil => exact ⟨[], rfl⟩
      | cons x r ih =>
        obtain ⟨l, rfl⟩ := ih fun y hy => hx y (by simp [hy])
        obtain ⟨ws, hw, rfl⟩ := hx x (by simp)
        obtain ⟨f, hf⟩ := inp_of hw
        exact ⟨f :: l, by rw [hf]; rfl⟩
    obtain ⟨l, rfl⟩ := this
    refine ⟨false, l, ?_, fun _ => rfl⟩
    simp only [elV, ha, hc]; rfl
theorem wt_inps {nl : Bool} {l : List Inp} {n : Nat} (h : (inps nl l).wt ≤ n) : l.length ≤ n ∧ ∀ f ∈ l, f.path.length ≤ n := by
  simp only [inps, V.wt] at h
  refine ⟨?_, fun f hf => ?_⟩
  · have := wtL_length (l.map Inp.v); simp at this; omega
  · have := wtL_mem (List.mem_map_of_mem (f := Inp.v) hf)
    have h2 : f.path.length + 1 ≤ f.v.wt := by simp only [Inp.v, V.wt, wtL]; omega
    omega
theorem fine_of {nl : Bool} {l : List Inp} (h1 : l ≠ [] → nl = false) (h2 : (inps nl l).wt ≤ 1048576) : Fine nl l := by
  obtain ⟨h3, h4⟩ := wt_inps h2
  exact ⟨h1, by omega, fun f hf => by have := h4 f hf; omega⟩

set_option maxRecDepth 100000 in
/-- an argument that came in -/
theorem inps_in {H : Type} {enc : TypeId × Value → H} {W : World} {base : Nat} {v : Value} {d : DataW H} {ps : List MemPlace} (h : DataW.Trod enc Tryd.prog W 0 (fun _ => true) true 22 v d ps) (hv : Value.okWide Tryd.prog W .any base 22 v) (hb : Rows.uptoBulk d ≤ 1048576) :
    ∃ nl l, Rep W (G0 W) (fun _ => none) (inps nl l) v ∧ Fine nl l := by
  obtain ⟨vs, h1, h2, h3, _⟩ := Trod.rep (φ := fun _ => none) kids full (m := 5) (of_decide_eq_true (by kernel_rfl)) (by kernel_rfl) h hv
  obtain ⟨nl, l, he, hnl⟩ := inps_of h2
  rw [he] at h1 h3
  exact ⟨nl, l, h1, fine_of hnl (Nat.le_trans h3 hb)⟩
end Go.Proofs.YtainplhaaklpeaaDoor
