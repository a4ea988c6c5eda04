/-
  Parts of the proof, one behind the other. Own work of this seat; some printed by its programs.
-/
import Derived.Test.YtghjeddphkmciaaDoorCards
import Derived.Test.YtghjeddphkmciaaDoorTie
import Derived.ProofKit
import Derived.OpenShut
import Derived.Deep.DeepHandedRow
import Derived.Lib.LaidTab
import Derived.Test.YtghjeddphkmciaaDoorM4
/-
  What every card of this seat needs: the program's closed facts; a world for the witness; what came in. Own work of this seat, after the seat's worked example of a row that lists variables.
-/
namespace Go.Proofs.YtghjeddphkmciaaDoor
open Go.ChangeShapes Go.WideShapes Go.RowKit Go.Abs

theorem ownK : ownKnob Tryd.prog.godebug = none := by kernel_rfl
theorem kids : Kids Tryd.prog (· < Tryd.prog.types.size) := kids_rows (by kernel_rfl) (by kernel_rfl)
theorem full : ∀ t e, t < Tryd.prog.types.size → Tryd.prog.underlying t = some (.slice e) → 0 < Tryd.prog.cellsOf e := slices_full_of Tryd.prog (by kernel_rfl)

/-- the cells of plain data -/
def litCells : Nat → DataW Unit → List Value
  | 0, _ => []
  | _ + 1, .lit (.int k n) => [.int k n]
  | n + 1, .agg ps => ps.flatMap (litCells n)
  | _, _ => []
noncomputable def laidWorld (os : Os) (args : Array Value) : World :=
  { World.holding Tryd.prog os ⟨#[], #[], []⟩ with heap := (((World.holding Tryd.prog os ⟨#[], #[], []⟩).heap.modify 1 fun
      | .cells _ t frozen => .cells (litCells 5 Rows.laid_unicode_utf8_first).toArray t frozen
      | o => o).modify 2 fun
      | .cells _ t frozen => .cells (litCells 5 Rows.laid_unicode_utf8_acceptRanges).toArray t frozen
      | o => o) }

/-! ## what came in, of a type -/
theorem u8_row : ∀ {wss : List (List V)}, (∀ ws ∈ wss, ∃ n : Int, ws = [.int .u8 n] ∧ IntKind.u8.min ≤ n ∧ n ≤ IntKind.u8.max) → ∃ l : Bytes, l.length = wss.length ∧ wss.flatten = encB l
  | [], _ => ⟨[], rfl, rfl⟩
  | w :: r, h => by
    obtain ⟨n, rfl, h1, h2⟩ := h w (by simp)
    obtain ⟨l, hl, hf⟩ := u8_row (wss := r) fun x hx => h x (by simp [hx])
    have h1 : 0 ≤ n := h1
    have h2 : n ≤ 255 := h2
    refine ⟨UInt8.ofNat n.toNat :: l, by simp [hl], ?_⟩
    have e : ((UInt8.ofNat n.toNat).toNat : Int) = n := by
      rw [UInt8.toNat_ofNat_of_lt' (show n.toNat < 256 by omega)]; omega
    show [V.int .u8 n] ++ r.flatten = _
    rw [hf]
    simp only [encB, List.map_cons, byteV]
    rw [e]; rfl
section
variable {P : Program} {m : Nat} {t e : TypeId} {vs : List V}
theorem in_bool (hu : P.underlying t = some .bool) (h : HasT P (m + 1) t vs) : ∃ x : Bool, nfL vs = [V.bool x] := by
  simp only [HasT, hu] at h
  obtain ⟨b, rfl⟩ := h; exact ⟨b, rfl⟩
theorem in_int {k : IntKind} (hu : P.underlying t = some (.int k)) (h : HasT P (m + 1) t vs) : ∃ x : Int, nfL vs = [V.int k x] := by
  simp only [HasT, hu] at h
  obtain ⟨n, rfl, _⟩ := h; exact ⟨n, rfl⟩
theorem in_i64 (hu : P.underlying t = some (.int .i64)) (h : HasT P (m + 1) t vs) : ∃ x : Int, nfL vs = [V.int .i64 x] ∧ -9223372036854775808 ≤ x ∧ x ≤ 9223372036854775807 := by
  simp only [HasT, hu] at h
  obtain ⟨n, rfl, h1, h2⟩ := h; exact ⟨n, rfl, h1, h2⟩
theorem in_u8 (hu : P.underlying t = some (.int .u8)) (h : HasT P (m + 1) t vs) : ∃ x : UInt8, nfL vs = [byteV x] := by
  simp only [HasT, hu] at h
  obtain ⟨n, rfl, h1, h2⟩ := h
  have h1 : 0 ≤ n := h1
  have h2 : n ≤ 255 := h2
  refine ⟨UInt8.ofNat n.toNat, ?_⟩
  have e : ((UInt8.ofNat n.toNat).toNat : Int) = n := by
    rw [UInt8.toNat_ofNat_of_lt' (show n.toNat < 256 by omega)]; omega
  show [V.int .u8 n] = [V.int .u8 _]
  rw [e]
theorem in_str (hu : P.underlying t = some .string) (h : HasT P (m + 1) t vs) : ∃ x : Bytes, nfL vs = [V.str x] := by
  simp only [HasT, hu] at h
  obtain ⟨b, rfl⟩ := h; exact ⟨b, rfl⟩
theorem in_sl {α : Type} {E : α → V} {c : Nat} (hu : P.underlying t = some (.slice e)) (hc : P.cellsOf e = c) (he : ∀ ws, HasT P m e ws → ∃ x, (elV P e ws).nf = E x) (h : HasT P (m + 1) t vs) : ∃ l : List α, nfL vs = [V.sl false c (l.map E)] := by
  simp only [HasT, hu, hc] at h
  rcases h with rfl | ⟨xs, rfl, hx⟩
  · exact ⟨[], rfl⟩
  · have : ∃ l : List α, nfL xs = l.map E := by
      clear hc
      induction xs with
      | nil => exact ⟨[], rfl⟩
      | cons x r ih =>
        obtain ⟨l, hl⟩ := ih fun y hy => hx y (by simp [hy])
        obtain ⟨ws, hw, rfl⟩ := hx x (by simp)
        obtain ⟨a, ha⟩ := he ws hw
        exact ⟨a :: l, by rw [nfL, ha, hl]; rfl⟩
    obtain ⟨l, hl⟩ := this
    exact ⟨l, by show [V.sl false c (nfL xs)] = _; rw [hl]⟩
theorem in_arr {n : Nat} (hu : P.underlying t = some (.array n e)) (he : P.underlying e = some (.int .u8)) (h : HasT P (m + 2) t vs) : ∃ x : Arr n, nfL vs = encB x.1 := by
  unfold HasT at h
  simp only [hu] at h
  obtain ⟨wss, hl, hw, rfl⟩ := h
  obtain ⟨l, h1, h2⟩ := u8_row (wss := wss) fun ws hws => by
    have := hw ws hws
    simpa only [HasT, he] using this
  exact ⟨⟨l, by rw [h1, hl]⟩, by rw [h2, nf_encB]⟩
theorem el_agg (ha : isAgT P t = true) {l : List V} (h : nfL vs = l) : (elV P t vs).nf = .agg l := by
  unfold elV; rw [if_pos ha]; show V.agg (nfL vs) = _; rw [h]
theorem el_one (ha : isAgT P t = false) {v : V} (h : nfL vs = [v]) : (elV P t vs).nf = v := by
  unfold elV; rw [if_neg (by simp [ha])]
  cases vs with
  | nil => cases h
  | cons x r => rw [nfL] at h; exact (List.cons.inj h).1
theorem nfL_flat : ∀ {wss : List (List V)}, nfL wss.flatten = (wss.map nfL).flatten
  | [] => rfl
  | w :: r => by rw [List.flatten_cons, nfL_append, nfL_flat]; rfl
end

/-! ## weights -/
mutual
theorem nf_wt : ∀ v : V, v.nf.wt ≤ v.wt
  | .agg cs => by simp only [V.nf, V.wt]; have := nfL_wt cs; omega
  | .sl true sz [] => by simp [V.nf, V.wt]
  | .sl true _ (x :: xs) => by simp [V.nf, V.wt]
  | .sl false sz xs => by simp only [V.nf, V.wt]; have := nfL_wt xs; omega
  | .el cs off => by simp [V.nf, V.wt]
  | .tup cs => by simp [V.nf, V.wt]
  | .fn f cs => by simp [V.nf, V.wt]
  | .mfn f cs => by simp [V.nf, V.wt]
  | .iface t v => by simp [V.nf, V.wt]
  | .bool b => Nat.le_refl _
  | .int k n => Nat.le_refl _
  | .str s => Nat.le_refl _
  | .osl a b c d e => Nat.le_refl _
  | .gp g o => Nat.le_refl _
  | .ptr i o => Nat.le_refl _
  | .nilptr => Nat.le_refl _
  | .map i => Nat.le_refl _
  | .nilmap => Nat.le_refl _
  | .nilfn => Nat.le_refl _
  | .nilif => Nat.le_refl _
theorem nfL_wt : ∀ l : List V, wtL (nfL l) ≤ wtL l
  | [] => Nat.le_refl _
  | v :: r => by simp only [nfL, wtL]; have := nf_wt v; have := nfL_wt r; omega
end
theorem wt_of {v w : V} {n : Nat} (h : v.nf = w) (hn : v.wt ≤ n) : w.wt ≤ n := by rw [← h]; exact Nat.le_trans (nf_wt v) hn
theorem wt_sl {α : Type} {E : α → V} {c : Nat} {l : List α} {n : Nat} (h : (V.sl false c (l.map E)).wt ≤ n) : l.length ≤ n ∧ ∀ a ∈ l, (E a).wt ≤ n := by
  simp only [V.wt] at h
  refine ⟨by have := wtL_length (l.map E); simp at this; omega, fun a ha => ?_⟩
  have := wtL_mem (List.mem_map_of_mem (f := E) ha)
  omega
theorem wt_str {s : Bytes} {n : Nat} (h : (V.str s).wt ≤ n) : s.length ≤ n := by simp only [V.wt] at h; omega
theorem wt_mem {cs : List V} {v : V} {n : Nat} (h : (V.agg cs).wt ≤ n) (hv : v ∈ cs) : v.wt ≤ n := by
  simp only [V.wt] at h
  have := wtL_mem hv; omega

theorem law_end {cx : Cx} {c : FC} {args : List V} {xs : Array Value} (hc : c.Holds cx) (hr : c.rel (nfL args) (.bool true)) (hx : RepL cx.w0 (G0 cx.w0) (fun _ => none) args xs) :
    Calls cx.P c.f xs cx.w0 fun e W' => e = .returned (.bool true) ∧ Below cx.w0.heap.size cx.w0 W' := by
  obtain ⟨v, o, h1, h2, _⟩ := hc args _ hr
  rw [nf_bool h2] at h1
  exact law_calls h1 hx
end Go.Proofs.YtghjeddphkmciaaDoor
