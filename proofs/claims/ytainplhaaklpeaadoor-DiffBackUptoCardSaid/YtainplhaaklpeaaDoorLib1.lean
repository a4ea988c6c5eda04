/-
  Contracts of the library's functions on texts, out of the kit's. Own work of this seat.
-/
import Derived.Test.YtainplhaaklpeaaDoorDiffM
import Derived.Test.YtainplhaaklpeaaDoorShelf
namespace Go.Proofs.YtainplhaaklpeaaDoor
open Go.Abs Go.RowKit

noncomputable def cxD (w : World) : Cx := ⟨Tryd.prog, w, fun _ => none⟩
theorem mixed : Tryd.prog.follows .mixedOrders = true := by kernel_rfl
theorem glD (w : World) : GlOK (cxD w) := fun g cs h => by cases h

theorem holds_of (w : World) {cs : List (Nat × Ctr)} (hcs : ∀ p ∈ cs, p.2.Holds (cxD w) p.1) {f : FuncId} {F : AFn} {c : Ctr} (hf : cFn Tryd.prog f = some F) (hl : ∀ a, (c.args a).length ≤ F.n) (hc : ∀ a, cleanL (c.args a) = true) (hr : ∀ a, (c.res a).1.clean = true)
    (h : ∀ a, c.ok a → awp (ofC cs) (fun _ => none) F.body (retQ F.res (c.res a)) (St.init (c.args a))) : c.Holds (cxD w) f :=
  fun a ha => pc_of_awp (glD w) mixed (ofC_sound hcs) hf (hl a) (hc a) (hr a) (h a ha)

theorem callable_of {P : Program} {f : FuncId} {fn : Func} (hf : P.funcs[f]? = some fn) (h : (fn.name == "runtime.NumGoroutine") = false) (hb : fn.body.isNone = false) : Callable P f := ⟨fn, hf, by simpa using h, hb⟩
theorem rep_str {W : World} {G φ} {s : Bytes} {x : Value} (h : Rep W G φ (.str s) x) : ∃ t : ByteArray, x = .string t ∧ t.data.toList = s := by
  cases h with
  | str l t h => exact ⟨t, rfl, h⟩
theorem repL1 {W : World} {G φ} {v : V} {xs : Array Value} (h : RepL W G φ [v] xs) : ∃ x, xs = #[x] ∧ Rep W G φ v x := by
  obtain ⟨hl, h⟩ := h
  obtain ⟨l⟩ := xs
  match l, hl with
  | [x], _ => exact ⟨x, rfl, h 0 v x rfl rfl⟩
theorem repL2 {W : World} {G φ} {u v : V} {xs : Array Value} (h : RepL W G φ [u, v] xs) : ∃ x y, xs = #[x, y] ∧ Rep W G φ u x ∧ Rep W G φ v y := by
  obtain ⟨hl, h⟩ := h
  obtain ⟨l⟩ := xs
  match l, hl with
  | [x, y], _ => exact ⟨x, y, rfl, h 0 u x rfl rfl, h 1 v y rfl rfl⟩
theorem ba_eq {s t : ByteArray} (h : s.data.toList = t.data.toList) : s = t := by
  obtain ⟨a⟩ := s; obtain ⟨b⟩ := t
  simp only at h
  rw [Array.toList_inj.1 h]

def HasMax (w : World) : Prop := ∃ m, w.cell? ⟨0, 0, none⟩ = some (.int .i64 m)
theorem HasMax.at {w : World} (h : HasMax w) {W : World} {G : Nat → Nat} (hW : OKW (cxD w) W G) : ∃ m, W.cell? ⟨0, 0, none⟩ = some (.int .i64 m) := by
  obtain ⟨m, hm⟩ := h
  refine ⟨m, ?_⟩
  rw [hW.below.cell (p := ⟨0, 0, none⟩) ?_]
  · exact hm
  · rcases Nat.eq_zero_or_pos (cxD w).w0.heap.size with h0 | h0
    · exfalso
      have : w.heap[0]? = none := Array.getElem?_eq_none (Nat.le_of_eq h0)
      simp [World.cell?, this] at hm
    · exact h0

/-! ### strings.Split at one byte -/
theorem splitK_one (c : UInt8) : ∀ s : Bytes, Lib.splitK [c] 0 (s.count c) s = splitOn c s
  | [] => rfl
  | b :: r => by
    have ih := splitK_one c r
    simp only [splitOn]
    by_cases h : b = c
    · subst h
      rw [List.count_cons_self, if_pos rfl]
      simp only [Lib.splitK, Lib.index]
      simp [ih]
    · rw [if_neg h, List.count_cons_of_ne h]
      cases hk : r.count c with
      | zero => rw [hk] at ih; simp only [Lib.splitK] at ih ⊢; rw [← ih]
      | succ k =>
        rw [hk] at ih
        simp only [Lib.splitK, Lib.index] at ih ⊢
        have hp : List.isPrefixOf [c] (b :: r) = false := by simp [List.isPrefixOf, Ne.symm h]
        simp only [hp, Bool.false_eq_true, if_false]
        by_cases hi : Lib.index r [c] = -1
        · simp only [hi, beq_self_eq_true, if_true] at ih ⊢
          rw [← ih]
        · have hge := Lib.index_ge r [c]
          have e1 : (Lib.index r [c] == -1) = false := by simpa using hi
          have e2 : (Lib.index r [c] + 1 == -1) = false := by simp; omega
          simp only [e1, e2, Bool.false_eq_true, if_false] at ih ⊢
          rw [← ih]
          have e3 : (Lib.index r [c] + 1).toNat = (Lib.index r [c]).toNat + 1 := by omega
          simp [e3]

def K_split : Ctr := ⟨Bytes × UInt8, fun p => [.str p.1, .str [p.2]], fun p => (.sl false 1 ((splitOn p.2 p.1).map .str), true), fun p => p.1.length < 4294967281, fun ⟨a, b⟩ ⟨c, d⟩ h => by simp at h; simp [h]⟩
theorem split_pc (w : World) (hw : HasMax w) (f : Nat) (hf : f = 73) : K_split.Holds (cxD w) f := by
  subst hf
  intro ⟨s, c⟩ hs
  refine PC.texts (callable_of Tryd.func73 (by kernel_rfl) (by kernel_rfl)) fun W G φ xs hW hxs => ?_
  obtain ⟨x, y, rfl, hx, hy⟩ := repL2 hxs
  obtain ⟨t, rfl, rfl⟩ := rep_str hx
  obtain ⟨u, rfl, hu⟩ := rep_str hy
  obtain ⟨m, hm⟩ := hw.at hW
  have hu1 : u.size = 1 := by rw [Lib.size_eq, hu]; rfl
  have hsz : t.size < 4294967281 := by rw [Lib.size_eq]; exact hs
  refine (Tryd.strings_Split t u m W hsz hm (by omega)).mono fun e W' ⟨he, hW'⟩ => ?_
  have hlen := Lib.splitB_all u (by omega) 0 _ t rfl
  refine ⟨Lib.splitB u 0 (Lib.countB t u) t, _, ?_, by rw [he, hlen], hW'⟩
  rw [Lib.splitB_data, hu]
  have : Lib.countB t u = t.data.toList.count c := by
    unfold Lib.countB
    rw [hu, Lib.count_one]
  rw [this, splitK_one]
end Go.Proofs.YtainplhaaklpeaaDoor
