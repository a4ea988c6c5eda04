/-
  Ext: functions of the library on texts, out of the kit's contracts. Own work of this seat.
-/
import Derived.Test.YtainplhaaklpeaaDoorX2
import Derived.Test.YtainplhaaklpeaaDoorShelf
namespace Go.Proofs.YtainplhaaklpeaaDoor
open Go.Abs Go.RowKit

theorem callable_of {P : Program} {f : FuncId} {fn : Func} (hf : P.funcs[f]? = some fn) (h : (fn.name == "runtime.NumGoroutine") = false) (hb : fn.body.isNone = false) : Callable P f := ⟨fn, hf, by simpa using h, hb⟩
theorem rep_str {W : World} {G φ} {s : Bytes} {x : Value} (h : Rep W G φ (.str s) x) : ∃ t : ByteArray, x = .string t ∧ t.data.toList = s := by
  cases h with
  | str l t h => exact ⟨t, rfl, h⟩
theorem repL2 {W : World} {G φ} {u v : V} {xs : Array Value} (h : RepL W G φ [u, v] xs) : ∃ x y, xs = #[x, y] ∧ Rep W G φ u x ∧ Rep W G φ v y := by
  obtain ⟨hl, h⟩ := h
  obtain ⟨l⟩ := xs
  match l, hl with
  | [x, y], _ => exact ⟨x, y, rfl, h 0 u x rfl rfl, h 1 v y rfl rfl⟩
theorem HasMax.at {w : World} (h : HasMax w) {W : World} {G : Nat → Nat} (hW : OKW (cxD w) W G) : ∃ m, W.cell? ⟨0, 0, none⟩ = some (.int .i64 m) := by
  obtain ⟨m, hm⟩ := h
  refine ⟨m, ?_⟩
  rw [hW.below.cell (p := ⟨0, 0, none⟩) ?_]
  · exact hm
  · rcases Nat.lt_or_ge 0 (cxD w).w0.heap.size with h0 | h0
    · exact h0
    · exfalso
      have : w.heap[(0 : Nat)]? = none := Array.getElem?_eq_none h0
      simp only [World.cell?, this] at hm
      cases hm
theorem two_str {args : List V} {a b : Bytes} (h : nfL args = [V.str a, V.str b]) : args = [.str a, .str b] := by
  obtain ⟨u, v, rfl, h1, h2⟩ := nfL_cons h
  obtain ⟨u', v', rfl, h3, h4⟩ := nfL_cons h2
  obtain rfl := nfL_nil h4
  rw [nf_str h1, nf_str h3]
theorem nfL_strs (l : List Bytes) : nfL (l.map .str) = l.map .str := by rw [nfL_map, List.map_map]; rfl

/-! ### strings.Split at one byte -/
def splitOn (c : UInt8) : Bytes → List Bytes
  | [] => [[]]
  | b :: r => if b = c then [] :: splitOn c r else match splitOn c r with
    | [] => [[b]]
    | x :: xs => (b :: x) :: xs
theorem splitK_one (c : UInt8) : ∀ s : Bytes, Lib.splitK [c] 0 (s.count c) s = splitOn c s
  | [] => rfl
  | b :: r => by
    have ih := splitK_one c r
    simp only [splitOn]
    by_cases h : b = c
    · subst h
      rw [List.count_cons_self, if_pos rfl]
      simp only [Lib.splitK, Lib.index]
      simp [ih]
    · rw [if_neg h, List.count_cons_of_ne h]
      cases hk : r.count c with
      | zero => rw [hk] at ih; simp only [Lib.splitK] at ih ⊢; rw [← ih]
      | succ k =>
        rw [hk] at ih
        simp only [Lib.splitK, Lib.index] at ih ⊢
        have hp : List.isPrefixOf [c] (b :: r) = false := by simp [List.isPrefixOf, Ne.symm h]
        simp only [hp, Bool.false_eq_true, if_false]
        by_cases hi : Lib.index r [c] = -1
        · simp only [hi, beq_self_eq_true, if_true] at ih ⊢
          rw [← ih]
        · have hge := Lib.index_ge r [c]
          have e1 : (Lib.index r [c] == -1) = false := by simpa using hi
          have e2 : (Lib.index r [c] + 1 == -1) = false := by simp; omega
          simp only [e1, e2, Bool.false_eq_true, if_false] at ih ⊢
          rw [← ih]
          have e3 : (Lib.index r [c] + 1).toNat = (Lib.index r [c]).toNat + 1 := by omega
          simp [e3]

def g.strings_Split (s c : Bytes) : Option (List Bytes) := if s.length < 4294967281 ∧ c.length = 1 then some (splitOn (c.headD 0) s) else none
def K.strings_Split : FC := fc 73 (fun _ => true) true (fun (a : Bytes × Bytes) => [V.str a.1, V.str a.2]) (fun (y : List Bytes) => .sl false 1 (y.map .str)) (fun a => g.strings_Split a.1 a.2)
  (fun _ => rfl) (fun y => cleanL_map (fun _ => rfl) y) (fun ⟨a, b⟩ ⟨c, d⟩ h => by simp at h; simp [h])
theorem H.strings_Split (w : World) (hw : EnvOK w) : K.strings_Split.Holds (cxD w) := by
  rintro args y ⟨⟨s, c⟩, r, ha, hg, rfl⟩
  obtain rfl := two_str ha
  simp only [g.strings_Split] at hg
  split at hg
  · rename_i hc
    cases hg
    refine ⟨.sl false 1 ((splitOn (c.headD 0) s).map .str), true, ?_, by show V.sl false 1 (nfL _) = _; rw [nfL_strs], fun _ => .inl rfl⟩
    refine PC.texts (callable_of Tryd.func73 (by kernel_rfl) (by kernel_rfl)) fun W G φ xs hW hxs => ?_
    obtain ⟨x, y, rfl, hx, hy⟩ := repL2 hxs
    obtain ⟨t, rfl, rfl⟩ := rep_str hx
    obtain ⟨u, rfl, hu⟩ := rep_str hy
    obtain ⟨m, hm⟩ := hw.max.at hW
    have hu1 : u.size = 1 := by rw [Lib.size_eq, hu]; exact hc.2
    have hsz : t.size < 4294967281 := by rw [Lib.size_eq]; exact hc.1
    refine (Tryd.strings_Split t u m W hsz hm (by omega)).mono fun e W' ⟨he, hW'⟩ => ?_
    have hlen := Lib.splitB_all u (by omega) 0 _ t rfl
    refine ⟨Lib.splitB u 0 (Lib.countB t u) t, _, ?_, by rw [he, hlen], hW'⟩
    have hu2 : u.data.toList = [c.headD 0] := by
      rw [hu]
      match c, hc.2 with
      | [b], _ => rfl
    rw [Lib.splitB_data, hu2]
    have : Lib.countB t u = t.data.toList.count (c.headD 0) := by
      unfold Lib.countB
      rw [hu2, Lib.count_one]
    rw [this, splitK_one]
  · cases hg

/-! ### strings.Contains -/
def g.strings_Contains (s c : Bytes) : Option Bool := if s.length < 4294967281 ∧ c.length = 1 then some (decide (c.headD 0 ∈ s)) else none
def K.strings_Contains : FC := fc 97 (fun _ => true) false (fun (a : Bytes × Bytes) => [V.str a.1, V.str a.2]) (fun (y : Bool) => .bool y) (fun a => g.strings_Contains a.1 a.2)
  (fun _ => rfl) (fun y => rfl) (fun ⟨a, b⟩ ⟨c, d⟩ h => by simp at h; simp [h])
theorem index_one (c : UInt8) : ∀ s : Bytes, (Lib.index s [c] = -1) ↔ c ∉ s
  | [] => by simp [Lib.index]
  | b :: r => by
    have ih := index_one c r
    have hge := Lib.index_ge r [c]
    simp only [Lib.index]
    by_cases h : b = c
    · subst h; simp
    · have hp : List.isPrefixOf [c] (b :: r) = false := by simp [List.isPrefixOf, Ne.symm h]
      simp only [hp, Bool.false_eq_true, if_false]
      by_cases hi : Lib.index r [c] = -1
      · simp [hi, ih.1 hi, Ne.symm h]
      · have e1 : (Lib.index r [c] == -1) = false := by simpa using hi
        have hm : c ∈ r := Classical.not_not.1 fun hn => hi (ih.2 hn)
        simp [e1, hm]; omega
theorem H.strings_Contains (w : World) (hw : EnvOK w) : K.strings_Contains.Holds (cxD w) := by
  rintro args y ⟨⟨s, c⟩, r, ha, hg, rfl⟩
  obtain rfl := two_str ha
  simp only [g.strings_Contains] at hg
  split at hg
  · rename_i hc
    cases hg
    refine ⟨.bool (decide (c.headD 0 ∈ s)), false, ?_, rfl, fun h => nomatch h⟩
    refine PC.pure (callable_of Tryd.func97 (by kernel_rfl) (by kernel_rfl)) fun W G φ xs hW hxs => ?_
    obtain ⟨x, y, rfl, hx, hy⟩ := repL2 hxs
    obtain ⟨t, rfl, rfl⟩ := rep_str hx
    obtain ⟨u, rfl, hu⟩ := rep_str hy
    obtain ⟨m, hm⟩ := hw.max.at hW
    have hsz : t.size < 4294967281 := by rw [Lib.size_eq]; exact hc.1
    refine (Tryd.strings_Contains t u m W hsz hm).mono fun e W' ⟨he, hW'⟩ => ?_
    subst hW'
    refine ⟨_, he, .refl _ _, fun _ _ => ?_⟩
    have hu2 : u.data.toList = [c.headD 0] := by
      rw [hu]
      match c, hc.2 with
      | [b], _ => rfl
    rw [hu2]
    have e : decide (0 ≤ Lib.index t.data.toList [c.headD 0]) = decide (c.headD 0 ∈ t.data.toList) := by
      have := index_one (c.headD 0) t.data.toList
      have hge := Lib.index_ge t.data.toList [c.headD 0]
      rw [decide_eq_decide]
      constructor
      · intro h; exact Classical.not_not.1 fun hn => by have := this.2 hn; omega
      · intro h
        have : Lib.index t.data.toList [c.headD 0] ≠ -1 := fun h' => (this.1 h') h
        omega
    have e2 : Lib.contains t.data.toList [c.headD 0] = decide (c.headD 0 ∈ t.data.toList) := e
    rw [e2]
    exact .bool _
  · cases hg
end Go.Proofs.YtainplhaaklpeaaDoor
