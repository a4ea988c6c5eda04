/-
  Walks: the order of paths. Own work of this seat.
-/
import Derived.Test.YtainplhaaklpeaaDoorDiffC
import Derived.Test.YtainplhaaklpeaaDoorLib1
namespace Go.Proofs.YtainplhaaklpeaaDoor
open Go.Abs

variable {Γ : Abs.Spec} {gl : Glob}

/-! ### cmp.isNaN -/
def K_isNaN : Ctr := ⟨Bytes, fun s => [.str s], fun _ => (.bool false, false), fun _ => True, fun _ _ _ => rfl⟩
theorem isNaN_awp (s : Bytes) : awp Γ gl c_cmp_isNaN_string (retQ [2] (.bool false, false)) (St.init [.str s]) := by
  simp [c_cmp_isNaN_string]
theorem isNaN_pc (w : World) : K_isNaN.Holds (cxD w) F.cmp_isNaN_string :=
  holds_of w (cs := []) (by simp) cf_cmp_isNaN_string (fun _ => Nat.le_of_ble_eq_true rfl) (fun _ => rfl) (fun _ => rfl) fun s _ => isNaN_awp s

/-! ### cmp.Compare -/
def K_cmp : Ctr := ⟨Bytes × Bytes, fun p => [.str p.1, .str p.2], fun p => (.int .i64 (cmpB p.1 p.2), false), fun _ => True, fun ⟨a, b⟩ ⟨c, d⟩ h => by simp at h; simp [h]⟩
theorem cmp_awp (a b : Bytes) (hN : ∀ s, Γ F.cmp_isNaN_string [.str s] = some (.bool false, false)) : awp Γ gl c_cmp_Compare_string (retQ [4] (.int .i64 (cmpB a b), false)) (St.init [.str a, .str b]) := by
  unfold c_cmp_Compare_string cmpB
  cases h1 : Op.bytesLess a b <;> cases h2 : Op.bytesLess b a <;> simp [hN, h1, h2]
theorem cmp_pc (w : World) : K_cmp.Holds (cxD w) F.cmp_Compare_string :=
  holds_of w (cs := [(_, K_isNaN)]) (by simpa using isNaN_pc w) cf_cmp_Compare_string (fun _ => Nat.le_of_ble_eq_true rfl) (fun _ => rfl) (fun _ => rfl) fun p _ =>
    cmp_awp p.1 p.2 fun s => ofC_eq (c := K_isNaN) rfl s trivial

/-! ### slices.Compare -/
def strs (nl : Bool) (l : List Bytes) : V := .sl nl 1 (l.map .str)
theorem strs_inj {nl nl' : Bool} {l l' : List Bytes} (h : strs nl l = strs nl' l') : nl = nl' ∧ l = l' := by
  simp only [strs, V.sl.injEq] at h
  refine ⟨h.1, ?_⟩
  have := h.2.2
  exact (List.map_inj_right (fun x y h => by simpa using h)).1 this
@[simp] theorem strs_clean (nl : Bool) (l : List Bytes) : (strs nl l).clean = true := cleanL_map (fun _ => rfl) l

def K_slCmp : Ctr := ⟨(Bool × List Bytes) × (Bool × List Bytes), fun p => [strs p.1.1 p.1.2, strs p.2.1 p.2.2], fun p => (.int .i64 (cmpL p.1.2 p.2.2), false), fun p => (p.1.2 ≠ [] → p.1.1 = false) ∧ (p.2.2 ≠ [] → p.2.1 = false) ∧ p.1.2.length ≤ 1000000000,
  fun a b h => by
    simp only [List.cons.injEq, and_true] at h
    rw [(strs_inj h.1).2, (strs_inj h.2).2]⟩

theorem slCmp_loop (hC : ∀ a b, Γ F.cmp_Compare_string [.str a, .str b] = some (.int .i64 (cmpB a b), false)) (n1 n2 : Bool) (l1 l2 : List Bytes) (hn1 : l1 ≠ [] → n1 = false) (hn2 : l2 ≠ [] → n2 = false) (hl : l1.length ≤ 1000000000) {Q : Ex → St → Prop}
    (hret : ∀ s, s.tm 4 = .int .i64 (cmpL l1 l2) → s.own (.slot 4) = false → Q .ret s) (hex : ∀ s, s.tm 0 = strs n1 l1 → s.tm 1 = strs n2 l2 → s.own (.slot 4) = false → cmpL l1 l2 = cmpL [] (l2.drop l1.length) → Q (.exit 0) s) :
    ∀ (r : List Bytes) (k : Nat) (s : St), l1.drop k = r → k ≤ l1.length → s.tm 0 = strs n1 l1 → s.tm 1 = strs n2 l2 → s.tm 9 = strs n1 l1 → s.tm 10 = .int .i64 l1.length → s.tm 11 = .int .i64 k → s.own (.slot 4) = false → cmpL l1 l2 = cmpL r (l2.drop k) → awp Γ gl (.loop c_slices_Compare_Lstring_string_0) Q s := by
  intro r
  induction r with
  | nil =>
    intro k s hr hk h0 h1 h9 h10 h11 hw hc
    obtain rfl := drop_nil hr hk
    refine awp_roundK fun K hK => ?_
    simp [c_slices_Compare_Lstring_string_0, h10, h11]
    exact hex _ (by simp [h0]) (by simp [h1]) (by simp [hw]) hc
  | cons x r ih =>
    intro k s hr hk h0 h1 h9 h10 h11 hw hc
    obtain ⟨hlt, hxe, hx, hr', hne⟩ := drop_cons hr
    refine awp_roundK fun K hK => ?_
    simp [c_slices_Compare_Lstring_string_0, h10, h11, h9, strs, hn1 hne, hxe, hlt, h1]
    refine condA_dec (fun hge => ?_) (fun hlt2 => ?_)
    · simp
      refine hret _ ?_ (by simp)
      rw [hc, List.drop_eq_nil_of_le (by omega)]; simp [cmpL]
    · have hlt2' : k < l2.length := by omega
      obtain ⟨y, hy⟩ := getE hlt2'
      have hd : l2.drop k = y :: l2.drop (k + 1) := by
        rw [List.drop_eq_getElem_cons hlt2']
        rw [List.getElem?_eq_getElem hlt2'] at hy
        rw [Option.some.inj hy]
      have hne2 : l2 ≠ [] := by rintro rfl; simp at hlt2'
      have hye : l2[k] = y := by rw [List.getElem?_eq_getElem hlt2'] at hy; exact Option.some.inj hy
      rw [hd] at hc
      simp [h1, strs, hn2 hne2, hye, hlt2', hC]
      refine condA_ndec (fun he => ?_) (fun he => ?_)
      · simp
        refine hret _ ?_ (by simp)
        rw [hc]; simp [cmpL, he]
      · simp [h11, w64 ((k : Int) + 1) (by omega)]
        refine hK _ (ih (k + 1) _ hr' hlt (by simp [h0, strs]) (by simp [h1, strs, hn2 hne2]) (by simp [h9, strs, hn1 hne]) (by simp [h10]) (by simp) (by simp [hw]) ?_)
        rw [hc]; simp [cmpL, he]
theorem slCmp_awp (hC : ∀ a b, Γ F.cmp_Compare_string [.str a, .str b] = some (.int .i64 (cmpB a b), false)) (n1 n2 : Bool) (l1 l2 : List Bytes) (hn1 : l1 ≠ [] → n1 = false) (hn2 : l2 ≠ [] → n2 = false) (hl : l1.length ≤ 1000000000) :
    awp Γ gl c_slices_Compare_Lstring_string (retQ [4] (.int .i64 (cmpL l1 l2), false)) (St.init [strs n1 l1, strs n2 l2]) := by
  unfold c_slices_Compare_Lstring_string
  simp [strs]
  refine slCmp_loop hC n1 n2 l1 l2 hn1 hn2 hl (fun s h4 hw => by simp [h4, hw]) (fun s h0 h1 hw hc => ?_) l1 0 _ rfl (by omega) (by simp [strs]) (by simp [strs]) (by simp [strs]) (by simp) (by simp) (by simp) rfl
  simp [h0, h1, strs]
  rw [hc]
  refine condA_dec (fun hlt => ?_) (fun hge => ?_)
  · rw [List.drop_eq_getElem_cons hlt]; simp [cmpL]
  · rw [List.drop_eq_nil_of_le (by omega)]; simp [cmpL]
theorem slCmp_pc (w : World) : K_slCmp.Holds (cxD w) F.slices_Compare_Lstring_string :=
  holds_of w (cs := [(_, K_cmp)]) (by simpa using cmp_pc w) cf_slices_Compare_Lstring_string (fun _ => Nat.le_of_ble_eq_true rfl) (fun _ => by simp [K_slCmp]) (fun _ => rfl) fun p hp =>
    slCmp_awp (fun a b => ofC_eq (c := K_cmp) rfl (a, b) trivial) p.1.1 p.2.1 p.1.2 p.2.2 hp.1 hp.2.1 hp.2.2

/-! ### path.Split -/
def K_psplit : Ctr := ⟨Bytes, fun s => [.str s], fun s => (strs (s.isEmpty) (psplit s), !s.isEmpty), fun s => s.length < 4294967281, fun a b h => by simp at h; simp [h]⟩
theorem psplit_nonempty {s : Bytes} (h : s ≠ []) : psplit s = splitOn 47 s := if_neg h
theorem pathSplit_awp (s : Bytes) (hS : Γ F.strings_Split [.str s, .str [47]] = some (.sl false 1 ((splitOn 47 s).map .str), true)) : awp Γ gl c_path_Split (retQ [2] (strs s.isEmpty (psplit s), !s.isEmpty)) (St.init [.str s]) := by
  unfold c_path_Split
  by_cases h : s = []
  · subst h; simp [strs, psplit]
  · simp [strs, h, hS, psplit_nonempty h]
theorem pathSplit_pc (w : World) (hw : HasMax w) : K_psplit.Holds (cxD w) F.path_Split :=
  holds_of w (cs := [(_, K_split)]) (by simpa using split_pc w hw F.strings_Split rfl) cf_path_Split (fun _ => Nat.le_of_ble_eq_true rfl) (fun _ => rfl) (fun _ => strs_clean _ _) fun s hs =>
    pathSplit_awp s (ofC_eq (c := K_split) rfl (s, 47) hs)

/-! ### path.Compare -/
def K_pcmp : Ctr := ⟨Bytes × Bytes, fun p => [.str p.1, .str p.2], fun p => (.int .i64 (pcmp p.1 p.2), false), fun p => p.1.length ≤ 100000000 ∧ p.2.length ≤ 100000000, fun ⟨a, b⟩ ⟨c, d⟩ h => by simp at h; simp [h]⟩
theorem pcmp_awp (a b : Bytes) (hS : ∀ s, s = a ∨ s = b → Γ F.path_Split [.str s] = some (strs s.isEmpty (psplit s), !s.isEmpty)) (hC : Γ F.slices_Compare_Lstring_string [strs a.isEmpty (psplit a), strs b.isEmpty (psplit b)] = some (.int .i64 (pcmp a b), false)) : awp Γ gl c_path_Compare (retQ [4] (.int .i64 (pcmp a b), false)) (St.init [.str a, .str b]) := by
  unfold c_path_Compare
  simp [hS, hC]
theorem psplit_empty {s : Bytes} (h : psplit s ≠ []) : s.isEmpty = false := by
  cases s with
  | nil => exact absurd rfl h
  | cons _ _ => rfl
theorem splitOn_length (c : UInt8) : ∀ s : Bytes, (splitOn c s).length ≤ s.length + 1
  | [] => by simp [splitOn]
  | b :: r => by
    have := splitOn_length c r
    simp only [splitOn]
    split
    · simp; omega
    · split
      · simp
      · rename_i x xs h; rw [h] at this; simp at this ⊢; omega
theorem psplit_length (s : Bytes) : (psplit s).length ≤ s.length + 1 := by
  unfold psplit; split
  · simp
  · exact splitOn_length 47 s
theorem pcmp_pc (w : World) (hw : HasMax w) : K_pcmp.Holds (cxD w) F.path_Compare :=
  holds_of w (cs := [(_, K_psplit), (_, K_slCmp)]) (by simpa using ⟨pathSplit_pc w hw, slCmp_pc w⟩) cf_path_Compare (fun _ => Nat.le_of_ble_eq_true rfl) (fun _ => rfl) (fun _ => rfl) fun p hp =>
    pcmp_awp p.1 p.2 (fun s hs => ofC_eq (c := K_psplit) rfl s (by rcases hs with rfl | rfl <;> (have := hp; simp only [K_pcmp] at this; show _ < _; omega)))
      (ofC_eq (c := K_slCmp) rfl ((p.1.isEmpty, psplit p.1), (p.2.isEmpty, psplit p.2)) ⟨psplit_empty, psplit_empty, Nat.le_trans (psplit_length p.1) (by have := hp.1; omega)⟩)
end Go.Proofs.YtainplhaaklpeaaDoor
