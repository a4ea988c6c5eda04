/-
  Parts of the proof, one behind the other. Own work of this seat; some printed by its programs.
-/
import Derived.Test.YtanocopjancaiaaGreatDoorM4
import Derived.WalkKit
import Derived.Lib.OwnBridge
import Derived.Lib.SmallJoins
import Derived.Test.YtanocopjancaiaaGreatDoorM3
import Derived.Test.YtanocopjancaiaaGreatDoorCards
import Derived.Test.YtanocopjancaiaaGreatDoorTie
import Derived.ProofKit
import Derived.OpenShut
import Derived.Deep.DeepHandedRow
import Derived.Lib.LaidTab
/-
  B1: words about functions of the library and the documents that several laws use: prefixes, is a text among others. Own work of this seat.
-/
namespace Go.Proofs.YtanocopjancaiaaGreatDoor
open Go.Abs
set_option maxRecDepth 10000
theorem splitOn_ne (c : UInt8) (s : Bytes) : splitOn c s ≠ [] := by
  cases s with
  | nil => simp [splitOn]
  | cons b r => simp only [splitOn]; split <;> (try split) <;> simp
def addH (cur : Bytes) : List Bytes → List Bytes
  | [] => [cur]
  | x :: xs => (cur ++ x) :: xs
theorem addH_nil {l : List Bytes} (h : l ≠ []) : addH [] l = l := by
  cases l with
  | nil => exact absurd rfl h
  | cons x xs => rfl
theorem splitOn_eq_c (c : UInt8) (r cur : Bytes) : addH cur (splitOn c (c :: r)) = cur :: splitOn c r := by simp [splitOn, addH]
theorem splitOn_ne_c {c b : UInt8} (h : b ≠ c) (r cur : Bytes) : addH cur (splitOn c (b :: r)) = addH (cur ++ [b]) (splitOn c r) := by
  simp only [splitOn, if_neg h]
  cases h' : splitOn c r with
  | nil => exact absurd h' (splitOn_ne _ _)
  | cons x xs => simp [addH]
theorem take_one {α : Type} {l : List α} {i f : Nat} (h : i < l.length) (hf : f ≤ i) : (l.take (i + 1)).drop f = (l.take i).drop f ++ [l[i]] := by
  rw [List.take_add_one, List.getElem?_eq_getElem h, Option.toList_some, List.drop_append_of_le_length (by simp; omega)]
theorem splitOn_mid (c : UInt8) (b : Bytes) : ∀ a : Bytes, splitOn c (a ++ c :: b) = splitOn c a ++ splitOn c b
  | [] => by simp [splitOn]
  | x :: a => by
    have ih := splitOn_mid c b a
    simp only [List.cons_append, splitOn]
    split
    · rw [ih]; rfl
    · rw [ih]
      cases h : splitOn c a with
      | nil => exact absurd h (splitOn_ne _ _)
      | cons y ys => rfl
variable {e : Nat → List V → Option V}
/-! ## prefixes -/
theorem v.hasPrefix0 (s p : Bytes) : vl e 65 0 [.str s, .str p] = some (.bool (decide (s.take p.length = p))) := by
  rw [w.internal_stringslite_HasPrefix]; unfold y.internal_stringslite_HasPrefix
  by_cases h : p.length ≤ s.length
  · simp only [yy, if_pos (show (p.length : Int) ≤ (s.length : Int) by omega), v_sls0 h]
  · simp only [yy, if_neg (show ¬ ((p.length : Int) ≤ (s.length : Int)) by omega)]
    exact some_f fun h1 => by have := congrArg List.length h1; simp at this; omega
theorem v.hasPrefix (s p : Bytes) : vl e 44 0 [.str s, .str p] = some (.bool (decide (s.take p.length = p))) := by
  rw [w.strings_HasPrefix]; unfold y.strings_HasPrefix
  simp only [yy, v.hasPrefix0]
theorem take_le {s p : Bytes} (h : s.take p.length = p) : p.length ≤ s.length := by have := congrArg List.length h; simp at this; omega
theorem v.trimPrefix (s p : Bytes) : vl e 47 0 [.str s, .str p] = some (.str (if s.take p.length = p then s.drop p.length else s)) := by
  rw [w.strings_TrimPrefix]; unfold y.strings_TrimPrefix
  have h1 : vl e 69 0 [.str s, .str p] = some (.str (if s.take p.length = p then s.drop p.length else s)) := by
    rw [w.internal_stringslite_TrimPrefix]; unfold y.internal_stringslite_TrimPrefix
    by_cases h : s.take p.length = p
    · simp only [yy, v.hasPrefix0, if_pos h, v_sls1 (take_le h)]
    · simp only [yy, v.hasPrefix0, if_neg h]
  simp only [yy, h1]
theorem v.cutPrefix (s p : Bytes) : vl e 39 0 [.str s, .str p] = some (.tup [.str (if s.take p.length = p then s.drop p.length else s), .bool (decide (s.take p.length = p))]) := by
  rw [w.strings_CutPrefix]; unfold y.strings_CutPrefix
  have h1 : vl e 61 0 [.str s, .str p] = some (.tup [.str (if s.take p.length = p then s.drop p.length else s), .bool (decide (s.take p.length = p))]) := by
    rw [w.internal_stringslite_CutPrefix]; unfold y.internal_stringslite_CutPrefix
    by_cases h : s.take p.length = p
    · simp only [yy, v.hasPrefix0, if_pos h, v_sls1 (take_le h)]; rw [decide_eq_true h]
    · simp only [yy, v.hasPrefix0, if_neg h]; rw [decide_eq_false h]
  simp only [yy, h1]
/-! ## is a text among others? -/
def inB (on : List Bytes) (t : Bytes) : Bool := decide (t ∈ on)
theorem inB_cons (x t : Bytes) (on : List Bytes) : inB (x :: on) t = (decide (t = x) || inB on t) := by simp [inB]
theorem v.In (on : List Bytes) (t : Bytes) (hl : on.length ≤ 1000000000) : vl e 17 0 [strs on, .str t] = some (.bool (inB on t)) := by
  have key : ∀ (n i : Nat), i + n = on.length → vl e 17 8 [.str t, strs on, I on.length, I i] = some (.bool (inB (on.drop i) t)) := by
    intro n
    induction n with
    | zero =>
      intro i hi
      rw [w.seicheref13_In_8]; unfold y.seicheref13_In_8
      simp only [yy, if_neg (show ¬ ((i : Int) < (on.length : Int)) by omega)]
      rw [List.drop_eq_nil_of_le (by omega)]; rfl
    | succ n ih =>
      intro i hi
      have hlt : i < on.length := by omega
      rw [w.seicheref13_In_8]; unfold y.seicheref13_In_8
      rw [List.drop_eq_getElem_cons hlt, inB_cons]
      simp only [yy, if_pos (show (i : Int) < (on.length : Int) by omega), v_get hlt, v_lds, next64 hlt (by omega), ih (i + 1) (by omega)]
      by_cases h : on[i] = t
      · rw [if_pos h, decide_eq_true h.symm]; rfl
      · rw [if_neg h, decide_eq_false (fun h' => h h'.symm)]; rfl
  rw [w.seicheref13_In]; unfold y.seicheref13_In
  simp only [yy]
  exact key on.length 0 (by omega)
theorem v.Contains (on : List Bytes) (t : Bytes) (hl : on.length ≤ 1000000000) : vl e 22 0 [strs on, .str t] = some (.bool (inB on t)) := by
  have key : ∀ (n i : Nat), i + n = on.length → ∃ r : Int, vl e 42 8 [strs on, .str t, I on.length, I i] = some (I r) ∧ (0 ≤ r ↔ inB (on.drop i) t = true) := by
    intro n
    induction n with
    | zero =>
      intro i hi
      refine ⟨-1, ?_, ?_⟩
      · rw [w.slices_Index_Lstring_string_8]; unfold y.slices_Index_Lstring_string_8
        simp only [yy, if_neg (show ¬ ((i : Int) < (on.length : Int)) by omega)]
      · rw [List.drop_eq_nil_of_le (by omega)]; simp [inB]
    | succ n ih =>
      intro i hi
      have hlt : i < on.length := by omega
      obtain ⟨r, h1, h2⟩ := ih (i + 1) (by omega)
      by_cases h : t = on[i]
      · refine ⟨i, ?_, ?_⟩
        · rw [w.slices_Index_Lstring_string_8]; unfold y.slices_Index_Lstring_string_8
          simp only [yy, if_pos (show (i : Int) < (on.length : Int) by omega), v_get hlt, v_lds, if_pos h]
        · rw [List.drop_eq_getElem_cons hlt, inB_cons, decide_eq_true h]; simp
      · refine ⟨r, ?_, ?_⟩
        · rw [w.slices_Index_Lstring_string_8]; unfold y.slices_Index_Lstring_string_8
          simp only [yy, if_pos (show (i : Int) < (on.length : Int) by omega), v_get hlt, v_lds, if_neg h, next64 hlt (by omega), h1]
        · rw [List.drop_eq_getElem_cons hlt, inB_cons, decide_eq_false h, Bool.false_or]; exact h2
  obtain ⟨r, h1, h2⟩ := key on.length 0 (by omega)
  rw [w.slices_Contains_Lstring_string]; unfold y.slices_Contains_Lstring_string
  have hI : vl e 42 0 [strs on, .str t] = some (I r) := by
    rw [w.slices_Index_Lstring_string]; unfold y.slices_Index_Lstring_string
    simp only [yy]; exact h1
  simp only [yy, hI]
  rw [List.drop_zero] at h2
  cases h : inB on t
  · rw [h] at h2; rw [decide_eq_false (fun h' => absurd (h2.1 h') (by decide))]
  · rw [h] at h2; rw [decide_eq_true (h2.2 rfl)]
theorem v.Cut (p : Bytes) (c : UInt8) (hp : p.length ≤ 1000000000) : vl e 52 0 [.str p, byteV c] = some (strs (splitOn c p)) := by
  have hLim : Lim = 4294967296 := rfl
  have key : ∀ (n i f : Nat) (acc : List Bytes), p.length + 1 = n + i → f ≤ i → acc.length ≤ i →
      (i ≤ p.length → vl e 52 12 [.str p, byteV c, strs acc, I f, I i] = some (strs (acc ++ addH ((p.take i).drop f) (splitOn c (p.drop i))))) ∧ (i = p.length + 1 → vl e 52 12 [.str p, byteV c, strs acc, I f, I i] = some (strs acc)) := by
    intro n
    induction n with
    | zero =>
      intro i f acc hn hf ha
      refine ⟨fun h => by omega, fun h => ?_⟩
      rw [w.seicheref14_Cut_12]; unfold y.seicheref14_Cut_12
      simp only [yy, if_neg (show ¬ ((i : Int) ≤ (p.length : Int)) by omega)]
    | succ n ih =>
      intro i f acc hn hf ha
      refine ⟨fun hil => ?_, fun h => by omega⟩
      have e1 : IntKind.i64.wrap ((i : Int) + 1) = ((i + 1 : Nat) : Int) := w64 _ (by omega)
      rw [w.seicheref14_Cut_12]; unfold y.seicheref14_Cut_12
      by_cases he : i = p.length
      · have hih := (ih (i + 1) (i + 1) (acc ++ [(p.take i).drop f]) (by omega) (Nat.le_refl _) (by simp; omega)).2 (by omega)
        simp only [yy, if_pos (show (i : Int) ≤ (p.length : Int) by omega), if_pos (show (i : Int) = (p.length : Int) by omega), v_sls2 hf hil, v_bsl1, v_push (show acc.length + 1 ≤ Lim by omega), e1, hih]
        rw [List.drop_eq_nil_of_le (show p.length ≤ i by omega)]
        simp [splitOn, addH]
      · have hlt : i < p.length := by omega
        by_cases hc : p[i] = c
        · have hih := (ih (i + 1) (i + 1) (acc ++ [(p.take i).drop f]) (by omega) (Nat.le_refl _) (by simp; omega)).1 (by omega)
          simp only [yy, if_pos (show (i : Int) ≤ (p.length : Int) by omega), if_neg (show ¬ ((i : Int) = (p.length : Int)) by omega), v_idx (List.getElem?_eq_getElem hlt), hc, byteV, if_true, v_sls2 hf hil, v_bsl1, v_push (show acc.length + 1 ≤ Lim by omega), e1]
          refine hih.trans ?_
          rw [List.drop_eq_getElem_cons hlt, hc, splitOn_eq_c, List.append_assoc]
          congr 2
          rw [show (p.take (i + 1)).drop (i + 1) = [] from List.drop_eq_nil_of_le (by simp; omega), addH_nil (splitOn_ne _ _)]; rfl
        · have hih := (ih (i + 1) f acc (by omega) (by omega) (by omega)).1 (by omega)
          have hne : ¬ ((p[i].toNat : Int) = (c.toNat : Int)) := fun h => hc (UInt8.toNat_inj.1 (by omega))
          simp only [yy, if_pos (show (i : Int) ≤ (p.length : Int) by omega), if_neg (show ¬ ((i : Int) = (p.length : Int)) by omega), v_idx (List.getElem?_eq_getElem hlt), byteV, if_neg hne, e1]
          refine hih.trans ?_
          rw [List.drop_eq_getElem_cons hlt, splitOn_ne_c hc, take_one hlt hf]
  rw [w.seicheref14_Cut]; unfold y.seicheref14_Cut
  refine ((key (p.length + 1) 0 0 [] (by omega) (Nat.le_refl _) (Nat.le_refl _)).1 (Nat.zero_le _)).trans ?_
  simp [addH_nil (splitOn_ne _ _)]
end Go.Proofs.YtanocopjancaiaaGreatDoor
/-
  Ext: rows of texts. Own work of this seat.
-/
namespace Go.Proofs.YtanocopjancaiaaGreatDoor
open Go.Abs Go.RowKit Go.Shelf Go.Sort

theorem rep_texts {W : World} {G φ} {nl : Bool} {l : List Bytes} {x : Value} (h : Rep W G φ (.sl nl 1 (l.map .str)) x) :
    (x = .slice none 0 0 ∧ l = []) ∨ (∃ a, x = .slice (some a) 0 0 ∧ l = []) ∨ ∃ (b off cap : Nat) (zs : List ByteArray), x = .slice (some ⟨b, off, none⟩) zs.length cap ∧ zs.map (·.data.toList) = l ∧ zs.length ≤ cap ∧
      ∀ j, j < zs.length → W.cell? ⟨b, off + j, none⟩ = some (.string (zs.getD j ByteArray.empty)) := by
  generalize hv : l.map V.str = ys at h
  cases h with
  | slnil => exact .inl ⟨rfl, List.map_eq_nil_iff.1 hv⟩
  | sl0 _ a => exact .inr (.inl ⟨a, rfl, List.map_eq_nil_iff.1 hv⟩)
  | sl _ _ b off cap rd hcap hG hx hrd h =>
    subst hv
    right; right
    have hs : ∀ i s, l[i]? = some s → ∃ t : ByteArray, rd i = .string t ∧ t.data.toList = s := by
      intro i s hi
      have := h i (.str s) 0 (.str s) (by simp [hi]) rfl
      simp only [Nat.mul_one, Nat.add_zero] at this
      obtain ⟨t, h1, h2⟩ := rep_str this
      exact ⟨t, h1, h2⟩
    refine ⟨b, off, cap, (List.range l.length).map fun i => match rd i with | .string t => t | _ => ByteArray.empty, by simp, ?_, by simpa using hcap, fun j hj => ?_⟩
    · apply List.ext_getElem?
      intro i
      rcases Nat.lt_or_ge i l.length with hi | hi
      · obtain ⟨t, h1, h2⟩ := hs i _ (List.getElem?_eq_getElem hi)
        simp [hi, h1, h2]
      · simp [Nat.not_lt.2 hi, hi]
    · have hj' : j < l.length := by simpa using hj
      obtain ⟨t, h1, h2⟩ := hs j _ (List.getElem?_eq_getElem hj')
      rw [hrd j (by simpa using hj'), h1]
      simp [List.getD, hj', h1]

theorem nf_strs : ∀ {xs : List V} {l : List Bytes}, nfL xs = l.map V.str → xs = l.map V.str
  | [], [], _ => rfl
  | [], _ :: _, h => by simp [nfL] at h
  | _ :: _, [], h => by simp [nfL] at h
  | x :: xs, y :: l, h => by
    obtain ⟨h1, h2⟩ := List.cons.inj (show x.nf :: nfL xs = V.str y :: l.map V.str from h)
    rw [nf_str h1, nf_strs h2]; rfl
end Go.Proofs.YtanocopjancaiaaGreatDoor
/-
  Ext: strconv.Atoi, strconv.Itoa, out of the kit's contracts; what they ask of the world. Own work of this seat.
-/
namespace Go.Proofs.YtanocopjancaiaaGreatDoor
open Go.Abs Go.RowKit Go.Shelf Go.Sort

def IsErr (w : World) (g : Nat) : Prop := ∃ ev, w.cell? ⟨g, 0, none⟩ = some ev ∧ (ev = .nilIface ∨ ∃ te pe, ev = .iface te pe)
structure EnvE (w : World) : Prop where
  max : HasMax w
  syn : IsErr w 3
  rng : IsErr w 4
  tab : Lib.TabIs Tryz.prog w "internal/strconv.uint64pow10" .u64 Lib.pow10Tab
theorem EnvE.toOK {w : World} (h : EnvE w) : EnvOK w := ⟨h.max⟩
theorem IsErr.at {w W : World} {g : Nat} {G : Nat → Nat} (h : IsErr w g) (hW : OKW (cxD w) W G) : IsErr W g := by
  obtain ⟨ev, hc, he⟩ := h
  refine ⟨ev, ?_, he⟩
  rw [hW.below.cell (p := ⟨g, 0, none⟩) (show g < w.heap.size from Lib.lt_of_cell hc)]
  exact hc
theorem tab_at {w W : World} {G : Nat → Nat} (h : Lib.TabIs Tryz.prog w "internal/strconv.uint64pow10" .u64 Lib.pow10Tab) (hW : OKW (cxD w) W G) : Lib.TabIs Tryz.prog W "internal/strconv.uint64pow10" .u64 Lib.pow10Tab :=
  Go.Joins.tab_stays (g := 5) (by kernel_rfl) h hW.below (Nat.le_refl _)

/-! ### strconv.Atoi -/
def atoiV (s : Bytes) : Int × Bool := match Lib.atoiAll s with
  | .ok v => (v, true)
  | .«syntax» => (0, false)
  | .range => (Lib.atoiSat s, false)
def errV : V := .iface 100 (.el [] 0)
def atoiE (y : Int × Bool) : V := .tup [.int .i64 y.1, if y.2 then .nilif else errV]
def g.strconv_Atoi (s : Bytes) : Option (Int × Bool) := if s.length ≤ 281474976710656 then some (atoiV s) else none
theorem atoi_clean (y : Int × Bool) : (atoiE y).clean = true := by
  obtain ⟨n, b⟩ := y
  cases b <;> rfl
theorem atoi_nf (y : Int × Bool) : (atoiE y).nf = atoiE y := by
  obtain ⟨n, b⟩ := y
  cases b <;> rfl
def K.strconv_Atoi : FC := fc 40 (fun _ => true) false (fun (a : Bytes) => [V.str a]) atoiE g.strconv_Atoi
  (fun _ => rfl) atoi_clean (fun _ _ h => V.str.inj (List.cons.inj h).1)
theorem repL1 {W : World} {G φ} {u : V} {xs : Array Value} (h : RepL W G φ [u] xs) : ∃ x, xs = #[x] ∧ Rep W G φ u x := by
  obtain ⟨hl, h⟩ := h
  obtain ⟨l⟩ := xs
  match l, hl with
  | [x], _ => exact ⟨x, rfl, h 0 u x rfl rfl⟩
theorem rep_pair {W : World} {G φ} {u v : V} {x y : Value} (h : Rep W G φ u x) (k : Rep W G φ v y) : Rep W G φ (.tup [u, v]) (.tuple #[x, y]) :=
  .tup _ _ rfl fun i c z hc hz => by
    match i with
    | 0 => simp at hc hz; subst hc; subst hz; exact h
    | 1 => simp at hc hz; subst hc; subst hz; exact k
    | i + 2 => simp at hc
theorem rep_err (W : World) (G φ) (N : Nat) : Rep W G φ errV (.iface 100 (.pointer (some ⟨N, 0, none⟩))) := by
  refine .iface _ _ _ ?_
  exact .el [] 0 N 0 (fun _ => undef) (Nat.zero_le _) (fun c hc => by cases hc) (fun k hk => by simp at hk) (fun k c hc => by simp at hc)
theorem H.strconv_Atoi (w : World) (hw : EnvE w) : K.strconv_Atoi.Holds (cxD w) := by
  rintro args y ⟨s, r, ha, hg, rfl⟩
  obtain ⟨u, v, rfl, h1, h2⟩ := nfL_cons ha
  obtain rfl := nfL_nil h2
  obtain rfl := nf_str h1
  simp only [g.strconv_Atoi] at hg
  split at hg
  · rename_i hc
    cases hg
    refine ⟨atoiE (atoiV s), false, ?_, atoi_nf _, fun h => nomatch h⟩
    refine PC.pure (callable_of Tryz.func40 (by kernel_rfl) (by kernel_rfl)) fun W G φ xs hW hxs => ?_
    obtain ⟨x, rfl, hx⟩ := repL1 hxs
    obtain ⟨t, rfl, rfl⟩ := rep_str hx
    have hsz : t.size ≤ 281474976710656 := by rw [Lib.size_eq]; exact hc
    cases hA : Lib.atoiAll t.data.toList with
    | ok v =>
      refine (Tryz.strconv_Atoi_ok t (by omega) v hA W).mono fun e W' ⟨he, hW'⟩ => ⟨_, he, ?_, fun W'' G' => ?_⟩
      · rcases hW' with rfl | ⟨q, rfl⟩
        · exact .refl _ _
        · exact Lib.bytesWorld_below _ _ _
      · have e : atoiE (atoiV t.data.toList) = .tup [.int .i64 v, .nilif] := by unfold atoiE atoiV; rw [hA]; rfl
        rw [e]; exact rep_pair (.int _ _) .nilif
    | «syntax» =>
      obtain ⟨ev, hcell, hev⟩ := hw.syn.at hW
      refine (Tryz.strconv_Atoi_syntax t hsz hA ev W hcell hev).mono fun e W' ⟨N, he, _, _, hB⟩ => ⟨_, he, hB, fun W'' G' => ?_⟩
      have e : atoiE (atoiV t.data.toList) = .tup [.int .i64 0, errV] := by unfold atoiE atoiV; rw [hA]; rfl
      rw [e]; exact rep_pair (.int _ _) (rep_err _ _ _ _)
    | range =>
      obtain ⟨ev, hcell, hev⟩ := hw.rng.at hW
      refine (Tryz.strconv_Atoi_range t hsz hA ev W hcell hev).mono fun e W' ⟨N, he, _, _, hB⟩ => ⟨_, he, hB, fun W'' G' => ?_⟩
      have e : atoiE (atoiV t.data.toList) = .tup [.int .i64 (Lib.atoiSat t.data.toList), errV] := by unfold atoiE atoiV; rw [hA]; rfl
      rw [e]; exact rep_pair (.int _ _) (rep_err _ _ _ _)
  · cases hg

/-! ### strconv.Itoa -/
def g.strconv_Itoa (n : Int) : Option Bytes := if -9223372036854775808 ≤ n ∧ n ≤ 9223372036854775807 then some (Lib.itoa n) else none
def K.strconv_Itoa : FC := fc 41 (fun _ => true) false (fun (n : Int) => [V.int .i64 n]) (fun (y : Bytes) => .str y) g.strconv_Itoa
  (fun _ => rfl) (fun _ => rfl) (fun _ _ h => (V.int.inj (List.cons.inj h).1).2)
theorem H.strconv_Itoa (w : World) (hw : EnvE w) : K.strconv_Itoa.Holds (cxD w) := by
  rintro args y ⟨n, r, ha, hg, rfl⟩
  obtain ⟨u, v, rfl, h1, h2⟩ := nfL_cons ha
  obtain rfl := nfL_nil h2
  obtain rfl := nf_int h1
  simp only [g.strconv_Itoa] at hg
  split at hg
  · rename_i hc
    cases hg
    refine ⟨.str _, false, ?_, rfl, fun h => nomatch h⟩
    refine PC.pure (callable_of Tryz.func41 (by kernel_rfl) (by kernel_rfl)) fun W G φ xs hW hxs => ?_
    obtain ⟨x, rfl, hx⟩ := repL1 hxs
    cases hx
    refine (Tryz.strconv_Itoa n hc.1 hc.2 W (tab_at hw.tab hW)).mono fun e W' ⟨he, k, os, hW'⟩ => ⟨_, he, ?_, fun W'' G' => .str _ _ rfl⟩
    rw [hW']
    exact ⟨rfl, rfl, rfl, by show W.heap.size ≤ (W.heap ++ os).size; rw [Array.size_append]; omega, fun j hj => by show (W.heap ++ os)[j]? = W.heap[j]?; exact Array.getElem?_append_left hj⟩
  · cases hg

/-! ### the world of a row that lists the errors and the table -/
theorem laid_on {P : Program} {x : String × DataW Unit} {r : List (String × DataW Unit)} {W : World} (h : laidMet P (x :: r) W) : laidMet P r W := by
  obtain ⟨ps, hv, hnd, hrows⟩ := h
  obtain ⟨g, t, cs, fuel, p, q, _, _, _, _, hq, rfl⟩ := hv
  exact ⟨q, hq, List.Nodup.sublist (List.sublist_append_right _ _) hnd, fun b off hm => hrows b off (List.mem_append_right _ hm)⟩
theorem isErr_of {P : Program} {n : String} {g : Nat} {W : World} {tp : TypeId} {a : Addr} (hg : P.globalNamed n = some g) (h : W.var? P n = some #[.iface tp (.pointer (some a))]) : IsErr W g :=
  ⟨_, by have h0 := World.var?_cell hg h 0; simpa using h0, .inr ⟨_, _, rfl⟩⟩
end Go.Proofs.YtanocopjancaiaaGreatDoor
/-
  Structures for the types of the laws' parameters. Printed by a program of this seat (wip/y/types.py).
-/
namespace Go.Proofs.YtanocopjancaiaaGreatDoor
open Go.Abs
def E.Lstring (l : (List Bytes)) : V := .sl false 1 (l.map V.str)
theorem E.Lstring_clean (l : (List Bytes)) : (E.Lstring l).clean = true := cleanL_map (fun x => rfl) l
theorem E.Lstring_inj {a b : (List Bytes)} (h : E.Lstring a = E.Lstring b) : a = b := by
  simp only [E.Lstring, V.sl.injEq, true_and] at h
  exact map_inj (fun x y h => V.str.inj h) h
theorem E.Lstring_fit (l : (List Bytes)) : (E.Lstring l).cells.length = 1 ∧ (E.Lstring l).cells.all V.sc = true := ⟨rfl, rfl⟩
structure T.Config where
  OS : Bytes
  Arch : Bytes
  Cgo : Bool
  Level : Int
  Tags : (List Bytes)
  deriving DecidableEq
def C.Config (x : T.Config) : List V := [(V.str x.OS)] ++ [(V.str x.Arch)] ++ [(V.bool x.Cgo)] ++ [(V.int .i64 x.Level)] ++ [(V.sl false 1 (List.map V.str x.Tags))]
def E.Config (x : T.Config) : V := .agg (C.Config x)
theorem C.Config_len (x : T.Config) : (C.Config x).length = 5 := (len_app (len_app (len_app (len_app (show [(V.str x.OS)].length = 1 from rfl) (show [(V.str x.Arch)].length = 1 from rfl)) (show [(V.bool x.Cgo)].length = 1 from rfl)) (show [(V.int .i64 x.Level)].length = 1 from rfl)) (show [(V.sl false 1 (List.map V.str x.Tags))].length = 1 from rfl))
theorem C.Config_sc (x : T.Config) : (C.Config x).all V.sc = true := (sc_app (sc_app (sc_app (sc_app rfl rfl) rfl) rfl) rfl)
theorem E.Config_clean (x : T.Config) : (E.Config x).clean = true := (clean_app (clean_app (clean_app (clean_app (cleanL_mk rfl rfl) (cleanL_mk rfl rfl)) (cleanL_mk rfl rfl)) (cleanL_mk rfl rfl)) (cleanL_mk (E.Lstring_clean x.Tags) rfl))
theorem E.Config_inj {a b : T.Config} (h : E.Config a = E.Config b) : a = b := by
  obtain ⟨a0, a1, a2, a3, a4⟩ := a
  obtain ⟨b0, b1, b2, b3, b4⟩ := b
  simp only [E.Config, V.agg.injEq] at h
  dsimp only [C.Config] at h
  have h4 := append_inj_r h (by rfl)
  have h := append_inj_l h (by rfl)
  have e4 : a4 = b4 := E.Lstring_inj (List.cons.inj h4).1
  have h3 := append_inj_r h (by rfl)
  have h := append_inj_l h (by rfl)
  have e3 : a3 = b3 := (V.int.inj (List.cons.inj h3).1).2
  have h2 := append_inj_r h (by rfl)
  have h := append_inj_l h (by rfl)
  have e2 : a2 = b2 := V.bool.inj (List.cons.inj h2).1
  have h1 := append_inj_r h (by rfl)
  have h := append_inj_l h (by rfl)
  have e1 : a1 = b1 := V.str.inj (List.cons.inj h1).1
  have h0 := h
  have e0 : a0 = b0 := V.str.inj (List.cons.inj h0).1
  subst e0; subst e1; subst e2; subst e3; subst e4; rfl
theorem E.Config_fit (x : T.Config) : (E.Config x).cells.length = 5 ∧ (E.Config x).cells.all V.sc = true := ⟨C.Config_len x, C.Config_sc x⟩
structure T.Import where
  Name : Bytes
  Path : Bytes
  At : Int
  deriving DecidableEq
def C.Import (x : T.Import) : List V := [(V.str x.Name)] ++ [(V.str x.Path)] ++ [(V.int .i64 x.At)]
def E.Import (x : T.Import) : V := .agg (C.Import x)
theorem C.Import_len (x : T.Import) : (C.Import x).length = 3 := (len_app (len_app (show [(V.str x.Name)].length = 1 from rfl) (show [(V.str x.Path)].length = 1 from rfl)) (show [(V.int .i64 x.At)].length = 1 from rfl))
theorem C.Import_sc (x : T.Import) : (C.Import x).all V.sc = true := (sc_app (sc_app rfl rfl) rfl)
theorem E.Import_clean (x : T.Import) : (E.Import x).clean = true := (clean_app (clean_app (cleanL_mk rfl rfl) (cleanL_mk rfl rfl)) (cleanL_mk rfl rfl))
theorem E.Import_inj {a b : T.Import} (h : E.Import a = E.Import b) : a = b := by
  obtain ⟨a0, a1, a2⟩ := a
  obtain ⟨b0, b1, b2⟩ := b
  simp only [E.Import, V.agg.injEq] at h
  dsimp only [C.Import] at h
  have h2 := append_inj_r h (by rfl)
  have h := append_inj_l h (by rfl)
  have e2 : a2 = b2 := (V.int.inj (List.cons.inj h2).1).2
  have h1 := append_inj_r h (by rfl)
  have h := append_inj_l h (by rfl)
  have e1 : a1 = b1 := V.str.inj (List.cons.inj h1).1
  have h0 := h
  have e0 : a0 = b0 := V.str.inj (List.cons.inj h0).1
  subst e0; subst e1; subst e2; rfl
theorem E.Import_fit (x : T.Import) : (E.Import x).cells.length = 3 ∧ (E.Import x).cells.all V.sc = true := ⟨C.Import_len x, C.Import_sc x⟩
def E.LImport (l : (List T.Import)) : V := .sl false 3 (l.map E.Import)
theorem E.LImport_clean (l : (List T.Import)) : (E.LImport l).clean = true := cleanL_map (fun x => E.Import_clean x) l
theorem E.LImport_inj {a b : (List T.Import)} (h : E.LImport a = E.LImport b) : a = b := by
  simp only [E.LImport, V.sl.injEq, true_and] at h
  exact map_inj (fun x y h => E.Import_inj h) h
theorem E.LImport_fit (l : (List T.Import)) : (E.LImport l).cells.length = 1 ∧ (E.LImport l).cells.all V.sc = true := ⟨rfl, rfl⟩
structure T.Header where
  Name : Bytes
  Imports : (List T.Import)
  Build : Bytes
  Embeds : (List Bytes)
  Fault : Int
  At : Int
  deriving DecidableEq
def C.Header (x : T.Header) : List V := [(V.str x.Name)] ++ [(V.sl false 3 (List.map E.Import x.Imports))] ++ [(V.str x.Build)] ++ [(V.sl false 1 (List.map V.str x.Embeds))] ++ [(V.int .i64 x.Fault)] ++ [(V.int .i64 x.At)]
def E.Header (x : T.Header) : V := .agg (C.Header x)
theorem C.Header_len (x : T.Header) : (C.Header x).length = 6 := (len_app (len_app (len_app (len_app (len_app (show [(V.str x.Name)].length = 1 from rfl) (show [(V.sl false 3 (List.map E.Import x.Imports))].length = 1 from rfl)) (show [(V.str x.Build)].length = 1 from rfl)) (show [(V.sl false 1 (List.map V.str x.Embeds))].length = 1 from rfl)) (show [(V.int .i64 x.Fault)].length = 1 from rfl)) (show [(V.int .i64 x.At)].length = 1 from rfl))
theorem C.Header_sc (x : T.Header) : (C.Header x).all V.sc = true := (sc_app (sc_app (sc_app (sc_app (sc_app rfl rfl) rfl) rfl) rfl) rfl)
theorem E.Header_clean (x : T.Header) : (E.Header x).clean = true := (clean_app (clean_app (clean_app (clean_app (clean_app (cleanL_mk rfl rfl) (cleanL_mk (E.LImport_clean x.Imports) rfl)) (cleanL_mk rfl rfl)) (cleanL_mk (E.Lstring_clean x.Embeds) rfl)) (cleanL_mk rfl rfl)) (cleanL_mk rfl rfl))
theorem E.Header_inj {a b : T.Header} (h : E.Header a = E.Header b) : a = b := by
  obtain ⟨a0, a1, a2, a3, a4, a5⟩ := a
  obtain ⟨b0, b1, b2, b3, b4, b5⟩ := b
  simp only [E.Header, V.agg.injEq] at h
  dsimp only [C.Header] at h
  have h5 := append_inj_r h (by rfl)
  have h := append_inj_l h (by rfl)
  have e5 : a5 = b5 := (V.int.inj (List.cons.inj h5).1).2
  have h4 := append_inj_r h (by rfl)
  have h := append_inj_l h (by rfl)
  have e4 : a4 = b4 := (V.int.inj (List.cons.inj h4).1).2
  have h3 := append_inj_r h (by rfl)
  have h := append_inj_l h (by rfl)
  have e3 : a3 = b3 := E.Lstring_inj (List.cons.inj h3).1
  have h2 := append_inj_r h (by rfl)
  have h := append_inj_l h (by rfl)
  have e2 : a2 = b2 := V.str.inj (List.cons.inj h2).1
  have h1 := append_inj_r h (by rfl)
  have h := append_inj_l h (by rfl)
  have e1 : a1 = b1 := E.LImport_inj (List.cons.inj h1).1
  have h0 := h
  have e0 : a0 = b0 := V.str.inj (List.cons.inj h0).1
  subst e0; subst e1; subst e2; subst e3; subst e4; subst e5; rfl
theorem E.Header_fit (x : T.Header) : (E.Header x).cells.length = 6 ∧ (E.Header x).cells.all V.sc = true := ⟨C.Header_len x, C.Header_sc x⟩
end Go.Proofs.YtanocopjancaiaaGreatDoor
/-
  Y, part 13: what a function comes to at given values, by computation: functions in a table, rounds of calls. Own work of this seat.
-/
namespace Go.Abs
variable {P : Program} {tabs : List FE} {ow : Cfg}
structure Ent (P : Program) (tabs : List FE) (ow : Cfg) where
  f : Nat
  l : Nat
  g : Gam → List V → Option V
  ok : ∀ (e : Nat → List V → Option V) (Γ : Gam) (xs : List V) (r : V), g Γ xs = some r → Go.Abs.step P tabs e ow Γ f l xs = some r
/-! functions of n values -/
section
variable {f l : Nat}
def ar0 (a : Gam → Option V) : Gam → List V → Option V := fun Γ xs => match xs with | [] => a Γ  | _ => none
theorem ok0 {a : Gam → Option V} (h : ∀ (e : Nat → List V → Option V) (Γ : Gam), Go.Abs.step P tabs e ow Γ f l [] = a Γ ) (e : Nat → List V → Option V) (Γ : Gam) (xs : List V) (r : V) (hr : ar0 a Γ xs = some r) : Go.Abs.step P tabs e ow Γ f l xs = some r := by
  unfold ar0 at hr
  split at hr
  · rw [h]; exact hr
  · cases hr
def ar1 (a : Gam → V → Option V) : Gam → List V → Option V := fun Γ xs => match xs with | [v0] => a Γ v0 | _ => none
theorem ok1 {a : Gam → V → Option V} (h : ∀ (e : Nat → List V → Option V) (Γ : Gam) (v0 : V), Go.Abs.step P tabs e ow Γ f l [v0] = a Γ v0) (e : Nat → List V → Option V) (Γ : Gam) (xs : List V) (r : V) (hr : ar1 a Γ xs = some r) : Go.Abs.step P tabs e ow Γ f l xs = some r := by
  unfold ar1 at hr
  split at hr
  · rw [h]; exact hr
  · cases hr
def ar2 (a : Gam → V → V → Option V) : Gam → List V → Option V := fun Γ xs => match xs with | [v0, v1] => a Γ v0 v1 | _ => none
theorem ok2 {a : Gam → V → V → Option V} (h : ∀ (e : Nat → List V → Option V) (Γ : Gam) (v0 v1 : V), Go.Abs.step P tabs e ow Γ f l [v0, v1] = a Γ v0 v1) (e : Nat → List V → Option V) (Γ : Gam) (xs : List V) (r : V) (hr : ar2 a Γ xs = some r) : Go.Abs.step P tabs e ow Γ f l xs = some r := by
  unfold ar2 at hr
  split at hr
  · rw [h]; exact hr
  · cases hr
def ar3 (a : Gam → V → V → V → Option V) : Gam → List V → Option V := fun Γ xs => match xs with | [v0, v1, v2] => a Γ v0 v1 v2 | _ => none
theorem ok3 {a : Gam → V → V → V → Option V} (h : ∀ (e : Nat → List V → Option V) (Γ : Gam) (v0 v1 v2 : V), Go.Abs.step P tabs e ow Γ f l [v0, v1, v2] = a Γ v0 v1 v2) (e : Nat → List V → Option V) (Γ : Gam) (xs : List V) (r : V) (hr : ar3 a Γ xs = some r) : Go.Abs.step P tabs e ow Γ f l xs = some r := by
  unfold ar3 at hr
  split at hr
  · rw [h]; exact hr
  · cases hr
def ar4 (a : Gam → V → V → V → V → Option V) : Gam → List V → Option V := fun Γ xs => match xs with | [v0, v1, v2, v3] => a Γ v0 v1 v2 v3 | _ => none
theorem ok4 {a : Gam → V → V → V → V → Option V} (h : ∀ (e : Nat → List V → Option V) (Γ : Gam) (v0 v1 v2 v3 : V), Go.Abs.step P tabs e ow Γ f l [v0, v1, v2, v3] = a Γ v0 v1 v2 v3) (e : Nat → List V → Option V) (Γ : Gam) (xs : List V) (r : V) (hr : ar4 a Γ xs = some r) : Go.Abs.step P tabs e ow Γ f l xs = some r := by
  unfold ar4 at hr
  split at hr
  · rw [h]; exact hr
  · cases hr
def ar5 (a : Gam → V → V → V → V → V → Option V) : Gam → List V → Option V := fun Γ xs => match xs with | [v0, v1, v2, v3, v4] => a Γ v0 v1 v2 v3 v4 | _ => none
theorem ok5 {a : Gam → V → V → V → V → V → Option V} (h : ∀ (e : Nat → List V → Option V) (Γ : Gam) (v0 v1 v2 v3 v4 : V), Go.Abs.step P tabs e ow Γ f l [v0, v1, v2, v3, v4] = a Γ v0 v1 v2 v3 v4) (e : Nat → List V → Option V) (Γ : Gam) (xs : List V) (r : V) (hr : ar5 a Γ xs = some r) : Go.Abs.step P tabs e ow Γ f l xs = some r := by
  unfold ar5 at hr
  split at hr
  · rw [h]; exact hr
  · cases hr
def ar6 (a : Gam → V → V → V → V → V → V → Option V) : Gam → List V → Option V := fun Γ xs => match xs with | [v0, v1, v2, v3, v4, v5] => a Γ v0 v1 v2 v3 v4 v5 | _ => none
theorem ok6 {a : Gam → V → V → V → V → V → V → Option V} (h : ∀ (e : Nat → List V → Option V) (Γ : Gam) (v0 v1 v2 v3 v4 v5 : V), Go.Abs.step P tabs e ow Γ f l [v0, v1, v2, v3, v4, v5] = a Γ v0 v1 v2 v3 v4 v5) (e : Nat → List V → Option V) (Γ : Gam) (xs : List V) (r : V) (hr : ar6 a Γ xs = some r) : Go.Abs.step P tabs e ow Γ f l xs = some r := by
  unfold ar6 at hr
  split at hr
  · rw [h]; exact hr
  · cases hr
def ar7 (a : Gam → V → V → V → V → V → V → V → Option V) : Gam → List V → Option V := fun Γ xs => match xs with | [v0, v1, v2, v3, v4, v5, v6] => a Γ v0 v1 v2 v3 v4 v5 v6 | _ => none
theorem ok7 {a : Gam → V → V → V → V → V → V → V → Option V} (h : ∀ (e : Nat → List V → Option V) (Γ : Gam) (v0 v1 v2 v3 v4 v5 v6 : V), Go.Abs.step P tabs e ow Γ f l [v0, v1, v2, v3, v4, v5, v6] = a Γ v0 v1 v2 v3 v4 v5 v6) (e : Nat → List V → Option V) (Γ : Gam) (xs : List V) (r : V) (hr : ar7 a Γ xs = some r) : Go.Abs.step P tabs e ow Γ f l xs = some r := by
  unfold ar7 at hr
  split at hr
  · rw [h]; exact hr
  · cases hr
def ar8 (a : Gam → V → V → V → V → V → V → V → V → Option V) : Gam → List V → Option V := fun Γ xs => match xs with | [v0, v1, v2, v3, v4, v5, v6, v7] => a Γ v0 v1 v2 v3 v4 v5 v6 v7 | _ => none
theorem ok8 {a : Gam → V → V → V → V → V → V → V → V → Option V} (h : ∀ (e : Nat → List V → Option V) (Γ : Gam) (v0 v1 v2 v3 v4 v5 v6 v7 : V), Go.Abs.step P tabs e ow Γ f l [v0, v1, v2, v3, v4, v5, v6, v7] = a Γ v0 v1 v2 v3 v4 v5 v6 v7) (e : Nat → List V → Option V) (Γ : Gam) (xs : List V) (r : V) (hr : ar8 a Γ xs = some r) : Go.Abs.step P tabs e ow Γ f l xs = some r := by
  unfold ar8 at hr
  split at hr
  · rw [h]; exact hr
  · cases hr
def ar9 (a : Gam → V → V → V → V → V → V → V → V → V → Option V) : Gam → List V → Option V := fun Γ xs => match xs with | [v0, v1, v2, v3, v4, v5, v6, v7, v8] => a Γ v0 v1 v2 v3 v4 v5 v6 v7 v8 | _ => none
theorem ok9 {a : Gam → V → V → V → V → V → V → V → V → V → Option V} (h : ∀ (e : Nat → List V → Option V) (Γ : Gam) (v0 v1 v2 v3 v4 v5 v6 v7 v8 : V), Go.Abs.step P tabs e ow Γ f l [v0, v1, v2, v3, v4, v5, v6, v7, v8] = a Γ v0 v1 v2 v3 v4 v5 v6 v7 v8) (e : Nat → List V → Option V) (Γ : Gam) (xs : List V) (r : V) (hr : ar9 a Γ xs = some r) : Go.Abs.step P tabs e ow Γ f l xs = some r := by
  unfold ar9 at hr
  split at hr
  · rw [h]; exact hr
  · cases hr
def ar10 (a : Gam → V → V → V → V → V → V → V → V → V → V → Option V) : Gam → List V → Option V := fun Γ xs => match xs with | [v0, v1, v2, v3, v4, v5, v6, v7, v8, v9] => a Γ v0 v1 v2 v3 v4 v5 v6 v7 v8 v9 | _ => none
theorem ok10 {a : Gam → V → V → V → V → V → V → V → V → V → V → Option V} (h : ∀ (e : Nat → List V → Option V) (Γ : Gam) (v0 v1 v2 v3 v4 v5 v6 v7 v8 v9 : V), Go.Abs.step P tabs e ow Γ f l [v0, v1, v2, v3, v4, v5, v6, v7, v8, v9] = a Γ v0 v1 v2 v3 v4 v5 v6 v7 v8 v9) (e : Nat → List V → Option V) (Γ : Gam) (xs : List V) (r : V) (hr : ar10 a Γ xs = some r) : Go.Abs.step P tabs e ow Γ f l xs = some r := by
  unfold ar10 at hr
  split at hr
  · rw [h]; exact hr
  · cases hr
def ar11 (a : Gam → V → V → V → V → V → V → V → V → V → V → V → Option V) : Gam → List V → Option V := fun Γ xs => match xs with | [v0, v1, v2, v3, v4, v5, v6, v7, v8, v9, v10] => a Γ v0 v1 v2 v3 v4 v5 v6 v7 v8 v9 v10 | _ => none
theorem ok11 {a : Gam → V → V → V → V → V → V → V → V → V → V → V → Option V} (h : ∀ (e : Nat → List V → Option V) (Γ : Gam) (v0 v1 v2 v3 v4 v5 v6 v7 v8 v9 v10 : V), Go.Abs.step P tabs e ow Γ f l [v0, v1, v2, v3, v4, v5, v6, v7, v8, v9, v10] = a Γ v0 v1 v2 v3 v4 v5 v6 v7 v8 v9 v10) (e : Nat → List V → Option V) (Γ : Gam) (xs : List V) (r : V) (hr : ar11 a Γ xs = some r) : Go.Abs.step P tabs e ow Γ f l xs = some r := by
  unfold ar11 at hr
  split at hr
  · rw [h]; exact hr
  · cases hr
def ar12 (a : Gam → V → V → V → V → V → V → V → V → V → V → V → V → Option V) : Gam → List V → Option V := fun Γ xs => match xs with | [v0, v1, v2, v3, v4, v5, v6, v7, v8, v9, v10, v11] => a Γ v0 v1 v2 v3 v4 v5 v6 v7 v8 v9 v10 v11 | _ => none
theorem ok12 {a : Gam → V → V → V → V → V → V → V → V → V → V → V → V → Option V} (h : ∀ (e : Nat → List V → Option V) (Γ : Gam) (v0 v1 v2 v3 v4 v5 v6 v7 v8 v9 v10 v11 : V), Go.Abs.step P tabs e ow Γ f l [v0, v1, v2, v3, v4, v5, v6, v7, v8, v9, v10, v11] = a Γ v0 v1 v2 v3 v4 v5 v6 v7 v8 v9 v10 v11) (e : Nat → List V → Option V) (Γ : Gam) (xs : List V) (r : V) (hr : ar12 a Γ xs = some r) : Go.Abs.step P tabs e ow Γ f l xs = some r := by
  unfold ar12 at hr
  split at hr
  · rw [h]; exact hr
  · cases hr
def ar13 (a : Gam → V → V → V → V → V → V → V → V → V → V → V → V → V → Option V) : Gam → List V → Option V := fun Γ xs => match xs with | [v0, v1, v2, v3, v4, v5, v6, v7, v8, v9, v10, v11, v12] => a Γ v0 v1 v2 v3 v4 v5 v6 v7 v8 v9 v10 v11 v12 | _ => none
theorem ok13 {a : Gam → V → V → V → V → V → V → V → V → V → V → V → V → V → Option V} (h : ∀ (e : Nat → List V → Option V) (Γ : Gam) (v0 v1 v2 v3 v4 v5 v6 v7 v8 v9 v10 v11 v12 : V), Go.Abs.step P tabs e ow Γ f l [v0, v1, v2, v3, v4, v5, v6, v7, v8, v9, v10, v11, v12] = a Γ v0 v1 v2 v3 v4 v5 v6 v7 v8 v9 v10 v11 v12) (e : Nat → List V → Option V) (Γ : Gam) (xs : List V) (r : V) (hr : ar13 a Γ xs = some r) : Go.Abs.step P tabs e ow Γ f l xs = some r := by
  unfold ar13 at hr
  split at hr
  · rw [h]; exact hr
  · cases hr
def ar14 (a : Gam → V → V → V → V → V → V → V → V → V → V → V → V → V → V → Option V) : Gam → List V → Option V := fun Γ xs => match xs with | [v0, v1, v2, v3, v4, v5, v6, v7, v8, v9, v10, v11, v12, v13] => a Γ v0 v1 v2 v3 v4 v5 v6 v7 v8 v9 v10 v11 v12 v13 | _ => none
theorem ok14 {a : Gam → V → V → V → V → V → V → V → V → V → V → V → V → V → V → Option V} (h : ∀ (e : Nat → List V → Option V) (Γ : Gam) (v0 v1 v2 v3 v4 v5 v6 v7 v8 v9 v10 v11 v12 v13 : V), Go.Abs.step P tabs e ow Γ f l [v0, v1, v2, v3, v4, v5, v6, v7, v8, v9, v10, v11, v12, v13] = a Γ v0 v1 v2 v3 v4 v5 v6 v7 v8 v9 v10 v11 v12 v13) (e : Nat → List V → Option V) (Γ : Gam) (xs : List V) (r : V) (hr : ar14 a Γ xs = some r) : Go.Abs.step P tabs e ow Γ f l xs = some r := by
  unfold ar14 at hr
  split at hr
  · rw [h]; exact hr
  · cases hr
def ar15 (a : Gam → V → V → V → V → V → V → V → V → V → V → V → V → V → V → V → Option V) : Gam → List V → Option V := fun Γ xs => match xs with | [v0, v1, v2, v3, v4, v5, v6, v7, v8, v9, v10, v11, v12, v13, v14] => a Γ v0 v1 v2 v3 v4 v5 v6 v7 v8 v9 v10 v11 v12 v13 v14 | _ => none
theorem ok15 {a : Gam → V → V → V → V → V → V → V → V → V → V → V → V → V → V → V → Option V} (h : ∀ (e : Nat → List V → Option V) (Γ : Gam) (v0 v1 v2 v3 v4 v5 v6 v7 v8 v9 v10 v11 v12 v13 v14 : V), Go.Abs.step P tabs e ow Γ f l [v0, v1, v2, v3, v4, v5, v6, v7, v8, v9, v10, v11, v12, v13, v14] = a Γ v0 v1 v2 v3 v4 v5 v6 v7 v8 v9 v10 v11 v12 v13 v14) (e : Nat → List V → Option V) (Γ : Gam) (xs : List V) (r : V) (hr : ar15 a Γ xs = some r) : Go.Abs.step P tabs e ow Γ f l xs = some r := by
  unfold ar15 at hr
  split at hr
  · rw [h]; exact hr
  · cases hr
def ar16 (a : Gam → V → V → V → V → V → V → V → V → V → V → V → V → V → V → V → V → Option V) : Gam → List V → Option V := fun Γ xs => match xs with | [v0, v1, v2, v3, v4, v5, v6, v7, v8, v9, v10, v11, v12, v13, v14, v15] => a Γ v0 v1 v2 v3 v4 v5 v6 v7 v8 v9 v10 v11 v12 v13 v14 v15 | _ => none
theorem ok16 {a : Gam → V → V → V → V → V → V → V → V → V → V → V → V → V → V → V → V → Option V} (h : ∀ (e : Nat → List V → Option V) (Γ : Gam) (v0 v1 v2 v3 v4 v5 v6 v7 v8 v9 v10 v11 v12 v13 v14 v15 : V), Go.Abs.step P tabs e ow Γ f l [v0, v1, v2, v3, v4, v5, v6, v7, v8, v9, v10, v11, v12, v13, v14, v15] = a Γ v0 v1 v2 v3 v4 v5 v6 v7 v8 v9 v10 v11 v12 v13 v14 v15) (e : Nat → List V → Option V) (Γ : Gam) (xs : List V) (r : V) (hr : ar16 a Γ xs = some r) : Go.Abs.step P tabs e ow Γ f l xs = some r := by
  unfold ar16 at hr
  split at hr
  · rw [h]; exact hr
  · cases hr
def ar17 (a : Gam → V → V → V → V → V → V → V → V → V → V → V → V → V → V → V → V → V → Option V) : Gam → List V → Option V := fun Γ xs => match xs with | [v0, v1, v2, v3, v4, v5, v6, v7, v8, v9, v10, v11, v12, v13, v14, v15, v16] => a Γ v0 v1 v2 v3 v4 v5 v6 v7 v8 v9 v10 v11 v12 v13 v14 v15 v16 | _ => none
theorem ok17 {a : Gam → V → V → V → V → V → V → V → V → V → V → V → V → V → V → V → V → V → Option V} (h : ∀ (e : Nat → List V → Option V) (Γ : Gam) (v0 v1 v2 v3 v4 v5 v6 v7 v8 v9 v10 v11 v12 v13 v14 v15 v16 : V), Go.Abs.step P tabs e ow Γ f l [v0, v1, v2, v3, v4, v5, v6, v7, v8, v9, v10, v11, v12, v13, v14, v15, v16] = a Γ v0 v1 v2 v3 v4 v5 v6 v7 v8 v9 v10 v11 v12 v13 v14 v15 v16) (e : Nat → List V → Option V) (Γ : Gam) (xs : List V) (r : V) (hr : ar17 a Γ xs = some r) : Go.Abs.step P tabs e ow Γ f l xs = some r := by
  unfold ar17 at hr
  split at hr
  · rw [h]; exact hr
  · cases hr
def ar18 (a : Gam → V → V → V → V → V → V → V → V → V → V → V → V → V → V → V → V → V → V → Option V) : Gam → List V → Option V := fun Γ xs => match xs with | [v0, v1, v2, v3, v4, v5, v6, v7, v8, v9, v10, v11, v12, v13, v14, v15, v16, v17] => a Γ v0 v1 v2 v3 v4 v5 v6 v7 v8 v9 v10 v11 v12 v13 v14 v15 v16 v17 | _ => none
theorem ok18 {a : Gam → V → V → V → V → V → V → V → V → V → V → V → V → V → V → V → V → V → V → Option V} (h : ∀ (e : Nat → List V → Option V) (Γ : Gam) (v0 v1 v2 v3 v4 v5 v6 v7 v8 v9 v10 v11 v12 v13 v14 v15 v16 v17 : V), Go.Abs.step P tabs e ow Γ f l [v0, v1, v2, v3, v4, v5, v6, v7, v8, v9, v10, v11, v12, v13, v14, v15, v16, v17] = a Γ v0 v1 v2 v3 v4 v5 v6 v7 v8 v9 v10 v11 v12 v13 v14 v15 v16 v17) (e : Nat → List V → Option V) (Γ : Gam) (xs : List V) (r : V) (hr : ar18 a Γ xs = some r) : Go.Abs.step P tabs e ow Γ f l xs = some r := by
  unfold ar18 at hr
  split at hr
  · rw [h]; exact hr
  · cases hr
def ar19 (a : Gam → V → V → V → V → V → V → V → V → V → V → V → V → V → V → V → V → V → V → V → Option V) : Gam → List V → Option V := fun Γ xs => match xs with | [v0, v1, v2, v3, v4, v5, v6, v7, v8, v9, v10, v11, v12, v13, v14, v15, v16, v17, v18] => a Γ v0 v1 v2 v3 v4 v5 v6 v7 v8 v9 v10 v11 v12 v13 v14 v15 v16 v17 v18 | _ => none
theorem ok19 {a : Gam → V → V → V → V → V → V → V → V → V → V → V → V → V → V → V → V → V → V → V → Option V} (h : ∀ (e : Nat → List V → Option V) (Γ : Gam) (v0 v1 v2 v3 v4 v5 v6 v7 v8 v9 v10 v11 v12 v13 v14 v15 v16 v17 v18 : V), Go.Abs.step P tabs e ow Γ f l [v0, v1, v2, v3, v4, v5, v6, v7, v8, v9, v10, v11, v12, v13, v14, v15, v16, v17, v18] = a Γ v0 v1 v2 v3 v4 v5 v6 v7 v8 v9 v10 v11 v12 v13 v14 v15 v16 v17 v18) (e : Nat → List V → Option V) (Γ : Gam) (xs : List V) (r : V) (hr : ar19 a Γ xs = some r) : Go.Abs.step P tabs e ow Γ f l xs = some r := by
  unfold ar19 at hr
  split at hr
  · rw [h]; exact hr
  · cases hr
def ar20 (a : Gam → V → V → V → V → V → V → V → V → V → V → V → V → V → V → V → V → V → V → V → V → Option V) : Gam → List V → Option V := fun Γ xs => match xs with | [v0, v1, v2, v3, v4, v5, v6, v7, v8, v9, v10, v11, v12, v13, v14, v15, v16, v17, v18, v19] => a Γ v0 v1 v2 v3 v4 v5 v6 v7 v8 v9 v10 v11 v12 v13 v14 v15 v16 v17 v18 v19 | _ => none
theorem ok20 {a : Gam → V → V → V → V → V → V → V → V → V → V → V → V → V → V → V → V → V → V → V → V → Option V} (h : ∀ (e : Nat → List V → Option V) (Γ : Gam) (v0 v1 v2 v3 v4 v5 v6 v7 v8 v9 v10 v11 v12 v13 v14 v15 v16 v17 v18 v19 : V), Go.Abs.step P tabs e ow Γ f l [v0, v1, v2, v3, v4, v5, v6, v7, v8, v9, v10, v11, v12, v13, v14, v15, v16, v17, v18, v19] = a Γ v0 v1 v2 v3 v4 v5 v6 v7 v8 v9 v10 v11 v12 v13 v14 v15 v16 v17 v18 v19) (e : Nat → List V → Option V) (Γ : Gam) (xs : List V) (r : V) (hr : ar20 a Γ xs = some r) : Go.Abs.step P tabs e ow Γ f l xs = some r := by
  unfold ar20 at hr
  split at hr
  · rw [h]; exact hr
  · cases hr
def ar21 (a : Gam → V → V → V → V → V → V → V → V → V → V → V → V → V → V → V → V → V → V → V → V → V → Option V) : Gam → List V → Option V := fun Γ xs => match xs with | [v0, v1, v2, v3, v4, v5, v6, v7, v8, v9, v10, v11, v12, v13, v14, v15, v16, v17, v18, v19, v20] => a Γ v0 v1 v2 v3 v4 v5 v6 v7 v8 v9 v10 v11 v12 v13 v14 v15 v16 v17 v18 v19 v20 | _ => none
theorem ok21 {a : Gam → V → V → V → V → V → V → V → V → V → V → V → V → V → V → V → V → V → V → V → V → V → Option V} (h : ∀ (e : Nat → List V → Option V) (Γ : Gam) (v0 v1 v2 v3 v4 v5 v6 v7 v8 v9 v10 v11 v12 v13 v14 v15 v16 v17 v18 v19 v20 : V), Go.Abs.step P tabs e ow Γ f l [v0, v1, v2, v3, v4, v5, v6, v7, v8, v9, v10, v11, v12, v13, v14, v15, v16, v17, v18, v19, v20] = a Γ v0 v1 v2 v3 v4 v5 v6 v7 v8 v9 v10 v11 v12 v13 v14 v15 v16 v17 v18 v19 v20) (e : Nat → List V → Option V) (Γ : Gam) (xs : List V) (r : V) (hr : ar21 a Γ xs = some r) : Go.Abs.step P tabs e ow Γ f l xs = some r := by
  unfold ar21 at hr
  split at hr
  · rw [h]; exact hr
  · cases hr
def ar22 (a : Gam → V → V → V → V → V → V → V → V → V → V → V → V → V → V → V → V → V → V → V → V → V → V → Option V) : Gam → List V → Option V := fun Γ xs => match xs with | [v0, v1, v2, v3, v4, v5, v6, v7, v8, v9, v10, v11, v12, v13, v14, v15, v16, v17, v18, v19, v20, v21] => a Γ v0 v1 v2 v3 v4 v5 v6 v7 v8 v9 v10 v11 v12 v13 v14 v15 v16 v17 v18 v19 v20 v21 | _ => none
theorem ok22 {a : Gam → V → V → V → V → V → V → V → V → V → V → V → V → V → V → V → V → V → V → V → V → V → V → Option V} (h : ∀ (e : Nat → List V → Option V) (Γ : Gam) (v0 v1 v2 v3 v4 v5 v6 v7 v8 v9 v10 v11 v12 v13 v14 v15 v16 v17 v18 v19 v20 v21 : V), Go.Abs.step P tabs e ow Γ f l [v0, v1, v2, v3, v4, v5, v6, v7, v8, v9, v10, v11, v12, v13, v14, v15, v16, v17, v18, v19, v20, v21] = a Γ v0 v1 v2 v3 v4 v5 v6 v7 v8 v9 v10 v11 v12 v13 v14 v15 v16 v17 v18 v19 v20 v21) (e : Nat → List V → Option V) (Γ : Gam) (xs : List V) (r : V) (hr : ar22 a Γ xs = some r) : Go.Abs.step P tabs e ow Γ f l xs = some r := by
  unfold ar22 at hr
  split at hr
  · rw [h]; exact hr
  · cases hr
def ar23 (a : Gam → V → V → V → V → V → V → V → V → V → V → V → V → V → V → V → V → V → V → V → V → V → V → V → Option V) : Gam → List V → Option V := fun Γ xs => match xs with | [v0, v1, v2, v3, v4, v5, v6, v7, v8, v9, v10, v11, v12, v13, v14, v15, v16, v17, v18, v19, v20, v21, v22] => a Γ v0 v1 v2 v3 v4 v5 v6 v7 v8 v9 v10 v11 v12 v13 v14 v15 v16 v17 v18 v19 v20 v21 v22 | _ => none
theorem ok23 {a : Gam → V → V → V → V → V → V → V → V → V → V → V → V → V → V → V → V → V → V → V → V → V → V → V → Option V} (h : ∀ (e : Nat → List V → Option V) (Γ : Gam) (v0 v1 v2 v3 v4 v5 v6 v7 v8 v9 v10 v11 v12 v13 v14 v15 v16 v17 v18 v19 v20 v21 v22 : V), Go.Abs.step P tabs e ow Γ f l [v0, v1, v2, v3, v4, v5, v6, v7, v8, v9, v10, v11, v12, v13, v14, v15, v16, v17, v18, v19, v20, v21, v22] = a Γ v0 v1 v2 v3 v4 v5 v6 v7 v8 v9 v10 v11 v12 v13 v14 v15 v16 v17 v18 v19 v20 v21 v22) (e : Nat → List V → Option V) (Γ : Gam) (xs : List V) (r : V) (hr : ar23 a Γ xs = some r) : Go.Abs.step P tabs e ow Γ f l xs = some r := by
  unfold ar23 at hr
  split at hr
  · rw [h]; exact hr
  · cases hr
def ar24 (a : Gam → V → V → V → V → V → V → V → V → V → V → V → V → V → V → V → V → V → V → V → V → V → V → V → V → Option V) : Gam → List V → Option V := fun Γ xs => match xs with | [v0, v1, v2, v3, v4, v5, v6, v7, v8, v9, v10, v11, v12, v13, v14, v15, v16, v17, v18, v19, v20, v21, v22, v23] => a Γ v0 v1 v2 v3 v4 v5 v6 v7 v8 v9 v10 v11 v12 v13 v14 v15 v16 v17 v18 v19 v20 v21 v22 v23 | _ => none
theorem ok24 {a : Gam → V → V → V → V → V → V → V → V → V → V → V → V → V → V → V → V → V → V → V → V → V → V → V → V → Option V} (h : ∀ (e : Nat → List V → Option V) (Γ : Gam) (v0 v1 v2 v3 v4 v5 v6 v7 v8 v9 v10 v11 v12 v13 v14 v15 v16 v17 v18 v19 v20 v21 v22 v23 : V), Go.Abs.step P tabs e ow Γ f l [v0, v1, v2, v3, v4, v5, v6, v7, v8, v9, v10, v11, v12, v13, v14, v15, v16, v17, v18, v19, v20, v21, v22, v23] = a Γ v0 v1 v2 v3 v4 v5 v6 v7 v8 v9 v10 v11 v12 v13 v14 v15 v16 v17 v18 v19 v20 v21 v22 v23) (e : Nat → List V → Option V) (Γ : Gam) (xs : List V) (r : V) (hr : ar24 a Γ xs = some r) : Go.Abs.step P tabs e ow Γ f l xs = some r := by
  unfold ar24 at hr
  split at hr
  · rw [h]; exact hr
  · cases hr
end
def look (f l : Nat) : List (Ent P tabs ow) → Option (Ent P tabs ow)
  | [] => none
  | q :: r => match Nat.beq q.f f && Nat.beq q.l l with | true => some q | false => look f l r
theorem look_ok {f l : Nat} : ∀ {T : List (Ent P tabs ow)} {q : Ent P tabs ow}, look f l T = some q → q.f = f ∧ q.l = l
  | [], _, h => by cases h
  | p :: r, q, h => by
    unfold look at h
    split at h
    · rename_i hb
      cases h
      simp only [Bool.and_eq_true] at hb
      exact ⟨Nat.eq_of_beq_eq_true hb.1, Nat.eq_of_beq_eq_true hb.2⟩
    · exact look_ok h
def runY (T : List (Ent P tabs ow)) (e0 : Nat → List V → Option V) : Nat → Gam
  | 0 => fun _ _ _ => none
  | n + 1 => fun f l xs => match look f l T with
    | some q => q.g (runY T e0 n) xs
    | none => match l with | 0 => e0 f xs | _ + 1 => none
theorem run_ok {T : List (Ent P tabs ow)} {e0 e : Nat → List V → Option V} (h0 : ∀ f xs r, e0 f xs = some r → val P tabs e ow f 0 xs = some r) : ∀ n, Le (runY T e0 n) (val P tabs e ow)
  | 0 => fun _ _ _ _ h => by cases h
  | n + 1 => fun f l xs r h => by
    unfold runY at h
    split at h
    · rename_i q hq
      obtain ⟨rfl, rfl⟩ := look_ok hq
      have h1 := q.ok e _ xs r h
      rw [val_step]
      exact step_mono (run_ok h0 n) _ _ _ _ h1
    · split at h
      · exact h0 _ _ _ h
      · cases h
theorem run_eq {T : List (Ent P tabs ow)} {e0 e : Nat → List V → Option V} (h0 : ∀ f xs r, e0 f xs = some r → val P tabs e ow f 0 xs = some r) (n : Nat) {f l : Nat} {xs : List V} {r : V} (h : runY T e0 n f l xs = some r) : val P tabs e ow f l xs = some r := run_ok h0 n f l xs r h
end Go.Abs
/-
  The functions of the program in a table, for computation. Printed by programs of this seat.
-/
namespace Go.Proofs.YtanocopjancaiaaGreatDoor
open Go.Abs
noncomputable def ents0 : List (Ent Tryz.prog tabs cfg) := [
  ⟨8, 0, ar4 y.seichelaw16_CondNames, ok4 s.seichelaw16_CondNames⟩,
  ⟨8, 32, ar5 y.seichelaw16_CondNames_32, ok5 s.seichelaw16_CondNames_32⟩,
  ⟨20, 0, ar1 y.cond_level, ok1 s.cond_level⟩,
  ⟨28, 0, ar1 y.slices_Clone_Lstring_string, ok1 s.slices_Clone_Lstring_string⟩,
  ⟨32, 0, ar1 y.suffix_Of, ok1 s.suffix_Of⟩,
  ⟨32, 9, ar6 y.suffix_Of_9, ok6 s.suffix_Of_9⟩,
  ⟨32, 26, ar11 y.suffix_Of_26, ok11 s.suffix_Of_26⟩,
  ⟨44, 0, ar2 y.strings_HasPrefix, ok2 s.strings_HasPrefix⟩,
  ⟨48, 0, ar1 y.plus_Lines, ok1 s.plus_Lines⟩,
  ⟨52, 0, ar2 y.seicheref14_Cut, ok2 s.seicheref14_Cut⟩,
  ⟨52, 12, ar5 y.seicheref14_Cut_12, ok5 s.seicheref14_Cut_12⟩,
  ⟨56, 0, ar1 y.suffix_System, ok1 s.suffix_System⟩,
  ⟨72, 0, ar2 y.slices_ContainsFunc_Lbyte_byte, ok2 s.slices_ContainsFunc_Lbyte_byte⟩,
  ⟨96, 0, ar1 y.plus_option, ok1 s.plus_option⟩,
  ⟨9, 0, ar0 y.seichelaw16_alive, ok0 s.seichelaw16_alive⟩,
  ⟨13, 0, ar2 y.cond_Holds, ok2 s.cond_Holds⟩,
  ⟨17, 0, ar2 y.seicheref13_In, ok2 s.seicheref13_In⟩,
  ⟨17, 8, ar4 y.seicheref13_In_8, ok4 s.seicheref13_In_8⟩,
  ⟨21, 0, ar1 y.suffix_Unix, ok1 s.suffix_Unix⟩,
  ⟨25, 0, ar1 y.plus_Parse, ok1 s.plus_Parse⟩,
  ⟨25, 18, ar4 y.plus_Parse_18, ok4 s.plus_Parse_18⟩,
  ⟨33, 0, ar2 y.slices_ContainsFunc_Lseiche_api_Import_seiche_api_Import, ok2 s.slices_ContainsFunc_Lseiche_api_Import_seiche_api_Import⟩,
  ⟨45, 0, ar1 y.expr_Parse, ok1 s.expr_Parse⟩,
  ⟨49, 0, ar1 y.expr_Tag, ok1 s.expr_Tag⟩,
  ⟨57, 0, ar1 y.suffix_Processor, ok1 s.suffix_Processor⟩,
  ⟨61, 0, ar2 y.internal_stringslite_CutPrefix, ok2 s.internal_stringslite_CutPrefix⟩,
  ⟨65, 0, ar2 y.internal_stringslite_HasPrefix, ok2 s.internal_stringslite_HasPrefix⟩,
  ⟨69, 0, ar2 y.internal_stringslite_TrimPrefix, ok2 s.internal_stringslite_TrimPrefix⟩,
  ⟨73, 0, ar1 y.expr_Tag_1, ok1 s.expr_Tag_1⟩,
  ⟨81, 0, ar2 y.internal_stringslite_CutSuffix, ok2 s.internal_stringslite_CutSuffix⟩]
noncomputable def ents1 : List (Ent Tryz.prog tabs cfg) := [
  ⟨97, 0, ar2 y.slices_IndexFunc_Lbyte_byte, ok2 s.slices_IndexFunc_Lbyte_byte⟩,
  ⟨97, 8, ar4 y.slices_IndexFunc_Lbyte_byte_8, ok4 s.slices_IndexFunc_Lbyte_byte_8⟩,
  ⟨117, 0, ar1 y.plus_term, ok1 s.plus_term⟩,
  ⟨6, 0, ar4 y.seichelaw16_CondLevels, ok4 s.seichelaw16_CondLevels⟩,
  ⟨6, 15, ar5 y.seichelaw16_CondLevels_15, ok5 s.seichelaw16_CondLevels_15⟩,
  ⟨6, 46, ar4 y.seichelaw16_CondLevels_46, ok4 s.seichelaw16_CondLevels_46⟩,
  ⟨10, 0, ar1 y.seicheref16_Great, ok1 s.seicheref16_Great⟩,
  ⟨10, 10, ar5 y.seicheref16_Great_10, ok5 s.seicheref16_Great_10⟩,
  ⟨18, 0, ar0 y.seicheref15_Systems, ok0 s.seicheref15_Systems⟩,
  ⟨22, 0, ar2 y.slices_Contains_Lstring_string, ok2 s.slices_Contains_Lstring_string⟩,
  ⟨26, 0, ar2 y.expr_Eval, ok2 s.expr_Eval⟩,
  ⟨26, 10, ar6 y.expr_Eval_10, ok6 s.expr_Eval_10⟩,
  ⟨26, 26, ar9 y.expr_Eval_26, ok9 s.expr_Eval_26⟩,
  ⟨34, 0, ar1 y.cond_In_1, ok1 s.cond_In_1⟩,
  ⟨38, 0, ar1 y.seicheref14_Words, ok1 s.seicheref14_Words⟩,
  ⟨38, 10, ar4 y.seicheref14_Words_10, ok4 s.seicheref14_Words_10⟩,
  ⟨38, 24, ar7 y.seicheref14_Words_24, ok7 s.seicheref14_Words_24⟩,
  ⟨42, 0, ar2 y.slices_Index_Lstring_string, ok2 s.slices_Index_Lstring_string⟩,
  ⟨42, 8, ar4 y.slices_Index_Lstring_string_8, ok4 s.slices_Index_Lstring_string_8⟩,
  ⟨58, 0, ar2 y.slices_IndexFunc_Lseiche_api_Import_seiche_api_Import, ok2 s.slices_IndexFunc_Lseiche_api_Import_seiche_api_Import⟩,
  ⟨58, 8, ar4 y.slices_IndexFunc_Lseiche_api_Import_seiche_api_Import_8, ok4 s.slices_IndexFunc_Lseiche_api_Import_seiche_api_Import_8⟩,
  ⟨70, 0, ar3 y.plus_joined, ok3 s.plus_joined⟩,
  ⟨70, 10, ar6 y.plus_joined_10, ok6 s.plus_joined_10⟩,
  ⟨74, 0, ar1 y.expr_tag, ok1 s.expr_tag⟩,
  ⟨11, 0, ar2 y.cond_On, ok2 s.cond_On⟩,
  ⟨11, 9, ar3 y.cond_On_9, ok3 s.cond_On_9⟩,
  ⟨11, 34, ar4 y.cond_On_34, ok4 s.cond_On_34⟩,
  ⟨15, 0, ar3 y.cond_In, ok3 s.cond_In⟩,
  ⟨15, 9, ar4 y.cond_In_9, ok4 s.cond_In_9⟩,
  ⟨19, 0, ar0 y.seicheref15_Processors, ok0 s.seicheref15_Processors⟩]
noncomputable def ents2 : List (Ent Tryz.prog tabs cfg) := [
  ⟨35, 0, ar2 y.strings_HasSuffix, ok2 s.strings_HasSuffix⟩,
  ⟨39, 0, ar2 y.strings_CutPrefix, ok2 s.strings_CutPrefix⟩,
  ⟨47, 0, ar2 y.strings_TrimPrefix, ok2 s.strings_TrimPrefix⟩,
  ⟨55, 0, ar2 y.strings_CutSuffix, ok2 s.strings_CutSuffix⟩,
  ⟨59, 0, ar2 y.internal_stringslite_HasSuffix, ok2 s.internal_stringslite_HasSuffix⟩,
  ⟨71, 0, ar1 y.plus_Line, ok1 s.plus_Line⟩,
  ⟨95, 0, ar1 y.plus_Line_1, ok1 s.plus_Line_1⟩,
  ⟨10432, 1, ar2 y.slices_DeleteFunc_Lstring_string_h0, ok2 s.slices_DeleteFunc_Lstring_string_h0⟩,
  ⟨10432, 18, ar4 y.slices_DeleteFunc_Lstring_string_h0_18, ok4 s.slices_DeleteFunc_Lstring_string_h0_18⟩,
  ⟨11056, 1, ar4 y.seiche_expr_parser_or_h0, ok4 s.seiche_expr_parser_or_h0⟩,
  ⟨10800, 1, ar2 y.slices_IndexFunc_Lstring_string_h0, ok2 s.slices_IndexFunc_Lstring_string_h0⟩,
  ⟨10800, 8, ar4 y.slices_IndexFunc_Lstring_string_h0_8, ok4 s.slices_IndexFunc_Lstring_string_h0_8⟩,
  ⟨11408, 1, ar5 y.seiche_expr_parser_list_h0, ok5 s.seiche_expr_parser_list_h0⟩,
  ⟨11408, 16, ar5 y.seiche_expr_parser_list_h0_16, ok5 s.seiche_expr_parser_list_h0_16⟩,
  ⟨10464, 1, ar2 y.cond_Holds_1_h0, ok2 s.cond_Holds_1_h0⟩,
  ⟨11424, 1, ar4 y.seiche_expr_parser_and_h0, ok4 s.seiche_expr_parser_and_h0⟩,
  ⟨11409, 1, ar5 y.seiche_expr_parser_list_h1, ok5 s.seiche_expr_parser_list_h1⟩,
  ⟨11409, 16, ar5 y.seiche_expr_parser_list_h1_16, ok5 s.seiche_expr_parser_list_h1_16⟩,
  ⟨11744, 1, ar4 y.seiche_expr_parser_not_h0, ok4 s.seiche_expr_parser_not_h0⟩,
  ⟨11728, 1, ar5 y.seiche_expr_parser_takes_h0, ok5 s.seiche_expr_parser_takes_h0⟩,
  ⟨11072, 1, ar4 y.seiche_expr_parser_blanks_h0, ok4 s.seiche_expr_parser_blanks_h0⟩,
  ⟨11072, 3, ar4 y.seiche_expr_parser_blanks_h0_3, ok4 s.seiche_expr_parser_blanks_h0_3⟩,
  ⟨12016, 1, ar4 y.seiche_expr_parser_part_h0, ok4 s.seiche_expr_parser_part_h0⟩,
  ⟨12016, 48, ar5 y.seiche_expr_parser_part_h0_48, ok5 s.seiche_expr_parser_part_h0_48⟩]
noncomputable def ents : List (Ent Tryz.prog tabs cfg) := ents0 ++ ents1 ++ ents2
end Go.Proofs.YtanocopjancaiaaGreatDoor
/-
  U1: tags of a platform: what On comes to; the law CondLevels. Own work of this seat.
-/
namespace Go.Proofs.YtanocopjancaiaaGreatDoor
open Go.Abs
set_option maxRecDepth 10000
/-- functions of the library that are given by contracts -/
structure EnvC (e : Nat → List V → Option V) : Prop where
  split : ∀ (s : Bytes) (c : UInt8), s.length < 4294967281 → e 46 [.str s, .str [c]] = some (strs (splitOn c s))
  atoi : ∀ s : Bytes, s.length ≤ 281474976710656 → e 40 [.str s] = some (atoiE (atoiV s))
  itoa : ∀ n : Int, -9223372036854775808 ≤ n → n ≤ 9223372036854775807 → e 41 [I n] = some (.str (Lib.itoa n))
variable {e : Nat → List V → Option V}
theorem v.atoi (he : EnvC e) (s : Bytes) (hs : s.length ≤ 281474976710656) : vl e 40 0 [.str s] = some (atoiE (atoiV s)) := val_ext (by kernel_rfl) (he.atoi s hs)
theorem v.splitC (he : EnvC e) (s : Bytes) (c : UInt8) (hs : s.length < 4294967281) : vl e 46 0 [.str s, .str [c]] = some (strs (splitOn c s)) := val_ext (by kernel_rfl) (he.split s c hs)
theorem v.itoa (he : EnvC e) (n : Int) (h0 : -9223372036854775808 ≤ n) (h1 : n ≤ 9223372036854775807) : vl e 41 0 [I n] = some (.str (Lib.itoa n)) := val_ext (by kernel_rfl) (he.itoa n h0 h1)

/-! ## what alive tells -/
def e16 : Nat → List V → Option V := fun f xs => match f, xs with
  | 46, [.str s, .str [c]] => if s.length < 4294967281 then some (strs (splitOn c s)) else none
  | 40, [.str [50, 48]] => some (.tup [I 20, .nilif])
  | 40, [.str [50, 49]] => some (.tup [I 21, .nilif])
  | 41, [.int .i64 20] => some (.str [50, 48])
  | 41, [.int .i64 21] => some (.str [50, 49])
  | _, _ => none
theorem itoa20 : Lib.itoa 20 = [50, 48] := by simp [Lib.itoa, Lib.decDigits]
theorem itoa21 : Lib.itoa 21 = [50, 49] := by simp [Lib.itoa, Lib.decDigits]
theorem e16_ok (he : EnvC e) (f : Nat) (xs : List V) (r : V) (h : e16 f xs = some r) : vl e f 0 xs = some r := by
  unfold e16 at h
  split at h
  · split at h
    · cases h; rename_i hlt; exact v.splitC he _ _ hlt
    · cases h
  · cases h; exact v.atoi he _ (by simp)
  · cases h; exact v.atoi he _ (by simp)
  · cases h; rw [← itoa20]; exact v.itoa he _ (by omega) (by omega)
  · cases h; rw [← itoa21]; exact v.itoa he _ (by omega) (by omega)
  · cases h
theorem v.alive16 (he : EnvC e) : vl e 9 0 [] = some (.bool true) := run_eq (T := ents) (e16_ok he) 100 (by kernel_rfl)

/-! ## platforms -/
abbrev cfV (o a : Bytes) (g : Bool) (lv : Int) (t : List Bytes) : V := .agg [.str o, .str a, .bool g, I lv, strs t]
theorem v_scs5 {o a : Bytes} {g : Bool} {lv : Int} {t : List Bytes} : evp .scs [cfV o a g lv t] = some (cfV o a g lv t) := rfl
def lvB (t : Bytes) : Int × Bool :=
  if t.take 4 = [103, 111, 49, 46] then
    (if t.drop 4 = [] then (0, false) else if 4 < (t.drop 4).length then (0, false) else if (t.drop 4).headD 0 = 48 then (0, false)
     else ((atoiV (t.drop 4)).1, (atoiV (t.drop 4)).2 && decide (Lib.itoa (atoiV (t.drop 4)).1 = t.drop 4)))
  else (0, false)
theorem mag_le : ∀ (l : Bytes) (a u : Nat), Lib.parseUint10 a l = .ok u → a < 18446744073709551616 → u < 18446744073709551616 := fun l a u h ha => Lib.parseUint10_lt l a u ha h
theorem atoi_bounds (s : Bytes) : -9223372036854775808 ≤ (atoiV s).1 ∧ (atoiV s).1 ≤ 9223372036854775807 := by
  unfold atoiV
  cases h : Lib.atoiAll s with
  | ok v => exact Lib.atoiAll_bounds h
  | «syntax» => simp
  | range => exact Lib.atoiSat_bounds s
theorem v.level (he : EnvC e) (t : Bytes) (ht : t.length ≤ 1000000) : vl e 20 0 [.str t] = some (.tup [I (lvB t).1, .bool (lvB t).2]) := by
  rw [w.cond_level]; unfold y.cond_level
  have hcp := v.cutPrefix (e := e) t [103, 111, 49, 46]
  unfold lvB
  by_cases h1 : t.take 4 = [103, 111, 49, 46]
  · rw [if_pos h1]
    have e4 : ([103, 111, 49, 46] : Bytes).length = 4 := rfl
    rw [e4, if_pos h1, decide_eq_true h1] at hcp
    generalize hs : t.drop 4 = s at hcp ⊢
    have hsl : s.length ≤ 1000000 := by rw [← hs, List.length_drop]; omega
    by_cases h2 : s = []
    · simp only [yy, hcp, if_pos h2]
    · by_cases h3 : 4 < s.length
      · simp only [yy, hcp, if_neg h2, if_pos h3, if_pos (show (4 : Int) < (s.length : Int) by omega)]
      · obtain ⟨b, q, rfl⟩ : ∃ b q, s = b :: q := by
          cases s with
          | nil => exact absurd rfl h2
          | cons b q => exact ⟨b, q, rfl⟩
        have hi : evp .idx [.str (b :: q), .int .i64 0] = some (byteV b) := v_idx (i := 0) rfl
        by_cases h4 : b = 48
        · subst h4
          simp only [yy, hcp, if_neg h2, if_neg h3, if_neg (show ¬ (4 : Int) < (((48 : UInt8) :: q).length : Int) by omega), hi, byteV, List.headD_cons, if_true]
          rfl
        · have hne : ¬ ((b.toNat : Int) = 48) := fun h => h4 (UInt8.toNat_inj.1 (by rw [show (48 : UInt8).toNat = 48 from rfl]; omega))
          obtain ⟨b1, b2⟩ := atoi_bounds (b :: q)
          have hat := v.atoi he (b :: q) (by omega)
          have hit := v.itoa he _ b1 b2
          generalize atoiV (b :: q) = z at hat hit b1 b2 ⊢
          obtain ⟨m, ok⟩ := z
          cases ok with
          | false =>
            have hn : evp (.bin .eql .iface) [errV, .nilif] = some (.bool false) := rfl
            simp only [yy, hcp, if_neg h2, if_neg h3, if_neg (show ¬ (4 : Int) < (((b :: q).length : Nat) : Int) by omega), hi, byteV, if_neg hne, List.headD_cons, if_neg h4, hat, atoiE, hn, Bool.false_eq_true, if_false, Bool.false_and]
          | true =>
            have hn : evp (.bin .eql .iface) [.nilif, .nilif] = some (.bool true) := rfl
            simp only [yy, hcp, if_neg h2, if_neg h3, if_neg (show ¬ (4 : Int) < (((b :: q).length : Nat) : Int) by omega), hi, byteV, if_neg hne, List.headD_cons, if_neg h4, hat, atoiE, hn, if_true, hit, Bool.true_and]
  · rw [if_neg h1]
    have e4 : ([103, 111, 49, 46] : Bytes).length = 4 := rfl
    rw [e4, if_neg h1, decide_eq_false h1] at hcp
    simp only [yy, hcp]
def alikeL : List Bytes := [[97, 105, 120], [97, 110, 100, 114, 111, 105, 100], [100, 97, 114, 119, 105, 110], [100, 114, 97, 103, 111, 110, 102, 108, 121], [102, 114, 101, 101, 98, 115, 100], [105, 108, 108, 117, 109, 111, 115], [105, 111, 115], [108, 105, 110, 117, 120], [110, 101, 116, 98, 115, 100], [111, 112, 101, 110, 98, 115, 100], [115, 111, 108, 97, 114, 105, 115]]
theorem v.Unix (o : Bytes) : vl e 21 0 [.str o] = some (.bool (inB alikeL o)) := by
  rw [w.suffix_Unix]; unfold y.suffix_Unix
  have h := v.Contains (e := e) alikeL o (by decide)
  refine bind_eq (v := strs alikeL) rfl ?_
  simp only [yy, h]
/-- what holds -/
def plainB (o a : Bytes) (g : Bool) (ts : List Bytes) (t : Bytes) : Bool :=
  if t = [] then false else if t = o ∨ t = a ∨ t = [103, 99] then true
  else if t = [117, 110, 105, 120] then inB alikeL o else if t = [99, 103, 111] then g
  else if t = [108, 105, 110, 117, 120] then (if o = [97, 110, 100, 114, 111, 105, 100] then true else inB ts t)
  else if t = [115, 111, 108, 97, 114, 105, 115] then (if o = [105, 108, 108, 117, 109, 111, 115] then true else inB ts t)
  else if t = [100, 97, 114, 119, 105, 110] then (if o = [105, 111, 115] then true else inB ts t)
  else inB ts t
def onB (o a : Bytes) (g : Bool) (lv : Int) (ts : List Bytes) (t : Bytes) : Bool := ((lvB t).2 && decide ((lvB t).1 ≤ lv)) || plainB o a g ts t
theorem v.On34 (o a : Bytes) (g : Bool) (lv : Int) (ts : List Bytes) (hl : ts.length ≤ 1000000000) (t : Bytes) (h0 : t ≠ []) (b : Bool) (hb : b = decide (t = o ∨ t = a ∨ t = [103, 99])) :
    vl e 11 34 [.str t, .str t, .bool b, cfV o a g lv ts] = some (.bool (plainB o a g ts t)) := by
  rw [w.cond_On_34]; unfold y.cond_On_34 plainB
  rw [if_neg h0]
  have hc := v.Contains (e := e) ts t hl
  by_cases h1 : t = o ∨ t = a ∨ t = [103, 99]
  · rw [hb, decide_eq_true h1, if_pos h1]; simp only [yy, ]
  · rw [hb, decide_eq_false h1, if_neg h1]
    have e0 : evp (.ld none 0) [cfV o a g lv ts] = some (.str o) := rfl
    have e2 : evp (.ld none 2) [cfV o a g lv ts] = some (.bool g) := rfl
    have e4 : evp (.ld none 4) [cfV o a g lv ts] = some (strs ts) := rfl
    simp only [yy, e0, e2, e4, v.Unix, hc]
    by_cases h2 : t = [117, 110, 105, 120]
    · simp only [if_pos h2]
    · by_cases h3 : t = [99, 103, 111]
      · simp only [if_neg h2, if_pos h3]
      · by_cases h4 : t = [108, 105, 110, 117, 120]
        · simp only [if_neg h2, if_neg h3, if_pos h4]; split <;> rfl
        · by_cases h5 : t = [115, 111, 108, 97, 114, 105, 115]
          · simp only [if_neg h2, if_neg h3, if_neg h4, if_pos h5]; split <;> rfl
          · by_cases h6 : t = [100, 97, 114, 119, 105, 110]
            · simp only [if_neg h2, if_neg h3, if_neg h4, if_neg h5, if_pos h6]; split <;> rfl
            · simp only [if_neg h2, if_neg h3, if_neg h4, if_neg h5, if_neg h6]
theorem v.On (he : EnvC e) (o a : Bytes) (g : Bool) (lv : Int) (ts : List Bytes) (hl : ts.length ≤ 1000000000) (t : Bytes) (ht : t.length ≤ 1000000) :
    vl e 11 0 [cfV o a g lv ts, .str t] = some (.bool (onB o a g lv ts t)) := by
  rw [w.cond_On]; unfold y.cond_On onB
  have h9 : ∀ b : Bool, vl e 11 9 [.str t, .bool b, cfV o a g lv ts] = some (.bool (b || plainB o a g ts t)) := by
    intro b
    rw [w.cond_On_9]; unfold y.cond_On_9
    cases b with
    | true => simp only [yy, Bool.true_or]
    | false =>
      have e0 : evp (.ld none 0) [cfV o a g lv ts] = some (.str o) := rfl
      have e1 : evp (.ld none 1) [cfV o a g lv ts] = some (.str a) := rfl
      by_cases h0 : t = []
      · simp only [yy, if_pos h0, Bool.false_or]; unfold plainB; rw [if_pos h0]
      · by_cases h1 : t = o
        · simp only [yy, if_neg h0, e0, if_pos h1, Bool.false_or, v.On34 o a g lv ts hl t h0 true (by simp [h1])]
        · by_cases h2 : t = a
          · simp only [yy, if_neg h0, e0, if_neg h1, e1, if_pos h2, Bool.false_or, v.On34 o a g lv ts hl t h0 true (by simp [h2])]
          · simp only [yy, if_neg h0, e0, if_neg h1, e1, if_neg h2, Bool.false_or]
            exact v.On34 o a g lv ts hl t h0 _ (by simp [h1, h2])
  have e3 : evp (.ld none 3) [cfV o a g lv ts] = some (I lv) := rfl
  simp only [yy, v_scs5, v.level he t ht]
  cases hb : (lvB t).2 with
  | false => simp only [h9, Bool.false_and]; rfl
  | true => simp only [e3, Option.bind_some, v_leq, h9, Bool.true_and]; rfl
end Go.Proofs.YtanocopjancaiaaGreatDoor
/-
  D1: decimal digits of small numbers. Own work of this seat.
-/
namespace Go.Proofs.YtanocopjancaiaaGreatDoor
open Go.Abs
set_option maxRecDepth 10000
def dg : Nat → Nat → Bytes
  | 0, _ => []
  | f + 1, n => if n = 0 then [] else dg f (n / 10) ++ [UInt8.ofNat (48 + n % 10)]
theorem dg_ok : (List.range 10000).all (fun n => n == 0 || (decide (atoiV (dg 4 n) = ((n : Int), true)) && decide ((dg 4 n).length ≤ 4) && decide (dg 4 n ≠ []) && decide ((dg 4 n).headD 0 ≠ 48))) = true := by kernel_rfl
theorem dg_dec : ∀ (f n : Nat), 1 ≤ n → n < 10 ^ f → Lib.decDigits n = dg f n
  | 0, n, h0, h1 => by simp at h1; omega
  | f + 1, n, h0, h1 => by
    rw [Lib.decDigits, dg, if_neg (by omega)]
    by_cases h : n < 10
    · rw [dif_pos h, Nat.div_eq_of_lt h, Nat.mod_eq_of_lt h]
      have : dg f 0 = [] := by cases f <;> simp [dg]
      rw [this]; rfl
    · rw [dif_neg h, dg_dec f (n / 10) (by omega) (by rw [Nat.pow_succ] at h1; omega)]
theorem byte48 (d : Nat) (hd : d < 10) : IntKind.u8.wrap (IntKind.i64.wrap (48 + ((d : Nat) : Int))) = ((UInt8.ofNat (48 + d)).toNat : Int) := by
  rw [UInt8.toNat_ofNat_of_lt' (show 48 + d < 256 by omega)]
  have : ∀ d, d < 10 → IntKind.u8.wrap (IntKind.i64.wrap (48 + ((d : Nat) : Int))) = ((48 + d : Nat) : Int) := by decide
  exact this d hd
theorem v_one8 {c : UInt8} : evp (.bsl 1) [.int .u8 (c.toNat : Int)] = some (.sl false 1 [byteV c]) := rfl
end Go.Proofs.YtanocopjancaiaaGreatDoor
/-
  U1d: decimal digits of small numbers. Own work of this seat.
-/
namespace Go.Proofs.YtanocopjancaiaaGreatDoor
open Go.Abs
set_option maxRecDepth 10000
/-! ## digits -/
theorem lv_dg {n : Nat} (h0 : 1 ≤ n) (h1 : n < 10000) : lvB ([103, 111, 49, 46] ++ dg 4 n) = ((n : Int), true) := by
  have h := List.all_eq_true.1 dg_ok n (List.mem_range.2 h1)
  have hz : (n == 0) = false := by simp; omega
  simp only [hz, Bool.false_or, Bool.and_eq_true, decide_eq_true_eq] at h
  obtain ⟨⟨⟨q1, q2⟩, q3⟩, q4⟩ := h
  unfold lvB
  have hd : ([103, 111, 49, 46] ++ dg 4 n : Bytes).drop 4 = dg 4 n := rfl
  have ht : ([103, 111, 49, 46] ++ dg 4 n : Bytes).take 4 = [103, 111, 49, 46] := rfl
  have hi : Lib.itoa ((n : Int)) = dg 4 n := by
    unfold Lib.itoa
    rw [if_neg (by omega), Int.toNat_natCast]
    exact dg_dec 4 n h0 (by omega)
  rw [if_pos ht, hd, if_neg q3, if_neg (by omega), if_neg q4, q1]
  simp only [hi, decide_true, Bool.and_true]
end Go.Proofs.YtanocopjancaiaaGreatDoor
/-
  What every card of this seat needs: the program's closed facts; a world for the witness; what came in. Own work of this seat, after the seat's worked example of a row that lists variables.
-/
namespace Go.Proofs.YtanocopjancaiaaGreatDoor
open Go.ChangeShapes Go.WideShapes Go.RowKit Go.Abs

theorem ownK : ownKnob Tryz.prog.godebug = none := by kernel_rfl
theorem kids : Kids Tryz.prog (· < Tryz.prog.types.size) := kids_rows (by kernel_rfl) (by kernel_rfl)
theorem full : ∀ t e, t < Tryz.prog.types.size → Tryz.prog.underlying t = some (.slice e) → 0 < Tryz.prog.cellsOf e := slices_full_of Tryz.prog (by kernel_rfl)

/-- the cells of plain data -/
def litCells : Nat → DataW Unit → List Value
  | 0, _ => []
  | _ + 1, .lit (.int k n) => [.int k n]
  | n + 1, .agg ps => ps.flatMap (litCells n)
  | _, _ => []
noncomputable def laidWorld (os : Os) (args : Array Value) : World :=
  { World.holding Tryz.prog os ⟨#[], #[], []⟩ with heap := (((World.holding Tryz.prog os ⟨#[], #[], []⟩).heap.modify 1 fun
      | .cells _ t frozen => .cells (litCells 5 Rows.laid_unicode_utf8_first).toArray t frozen
      | o => o).modify 2 fun
      | .cells _ t frozen => .cells (litCells 5 Rows.laid_unicode_utf8_acceptRanges).toArray t frozen
      | o => o) }

/-! ## what came in, of a type -/
theorem u8_row : ∀ {wss : List (List V)}, (∀ ws ∈ wss, ∃ n : Int, ws = [.int .u8 n] ∧ IntKind.u8.min ≤ n ∧ n ≤ IntKind.u8.max) → ∃ l : Bytes, l.length = wss.length ∧ wss.flatten = encB l
  | [], _ => ⟨[], rfl, rfl⟩
  | w :: r, h => by
    obtain ⟨n, rfl, h1, h2⟩ := h w (by simp)
    obtain ⟨l, hl, hf⟩ := u8_row (wss := r) fun x hx => h x (by simp [hx])
    have h1 : 0 ≤ n := h1
    have h2 : n ≤ 255 := h2
    refine ⟨UInt8.ofNat n.toNat :: l, by simp [hl], ?_⟩
    have e : ((UInt8.ofNat n.toNat).toNat : Int) = n := by
      rw [UInt8.toNat_ofNat_of_lt' (show n.toNat < 256 by omega)]; omega
    show [V.int .u8 n] ++ r.flatten = _
    rw [hf]
    simp only [encB, List.map_cons, byteV]
    rw [e]; rfl
section
variable {P : Program} {m : Nat} {t e : TypeId} {vs : List V}
theorem in_bool (hu : P.underlying t = some .bool) (h : HasT P (m + 1) t vs) : ∃ x : Bool, nfL vs = [V.bool x] := by
  simp only [HasT, hu] at h
  obtain ⟨b, rfl⟩ := h; exact ⟨b, rfl⟩
theorem in_int {k : IntKind} (hu : P.underlying t = some (.int k)) (h : HasT P (m + 1) t vs) : ∃ x : Int, nfL vs = [V.int k x] := by
  simp only [HasT, hu] at h
  obtain ⟨n, rfl, _⟩ := h; exact ⟨n, rfl⟩
theorem in_i64 (hu : P.underlying t = some (.int .i64)) (h : HasT P (m + 1) t vs) : ∃ x : Int, nfL vs = [V.int .i64 x] ∧ -9223372036854775808 ≤ x ∧ x ≤ 9223372036854775807 := by
  simp only [HasT, hu] at h
  obtain ⟨n, rfl, h1, h2⟩ := h; exact ⟨n, rfl, h1, h2⟩
theorem in_u8 (hu : P.underlying t = some (.int .u8)) (h : HasT P (m + 1) t vs) : ∃ x : UInt8, nfL vs = [byteV x] := by
  simp only [HasT, hu] at h
  obtain ⟨n, rfl, h1, h2⟩ := h
  have h1 : 0 ≤ n := h1
  have h2 : n ≤ 255 := h2
  refine ⟨UInt8.ofNat n.toNat, ?_⟩
  have e : ((UInt8.ofNat n.toNat).toNat : Int) = n := by
    rw [UInt8.toNat_ofNat_of_lt' (show n.toNat < 256 by omega)]; omega
  show [V.int .u8 n] = [V.int .u8 _]
  rw [e]
theorem in_str (hu : P.underlying t = some .string) (h : HasT P (m + 1) t vs) : ∃ x : Bytes, nfL vs = [V.str x] := by
  simp only [HasT, hu] at h
  obtain ⟨b, rfl⟩ := h; exact ⟨b, rfl⟩
theorem in_sl {α : Type} {E : α → V} {c : Nat} (hu : P.underlying t = some (.slice e)) (hc : P.cellsOf e = c) (he : ∀ ws, HasT P m e ws → ∃ x, (elV P e ws).nf = E x) (h : HasT P (m + 1) t vs) : ∃ l : List α, nfL vs = [V.sl false c (l.map E)] := by
  simp only [HasT, hu, hc] at h
  rcases h with rfl | ⟨xs, rfl, hx⟩
  · exact ⟨[], rfl⟩
  · have : ∃ l : List α, nfL xs = l.map E := by
      clear hc
      induction xs with
      | nil => exact ⟨[], rfl⟩
      | cons x r ih =>
        obtain ⟨l, hl⟩ := ih fun y hy => hx y (by simp [hy])
        obtain ⟨ws, hw, rfl⟩ := hx x (by simp)
        obtain ⟨a, ha⟩ := he ws hw
        exact ⟨a :: l, by rw [nfL, ha, hl]; rfl⟩
    obtain ⟨l, hl⟩ := this
    exact ⟨l, by show [V.sl false c (nfL xs)] = _; rw [hl]⟩
theorem in_arr {n : Nat} (hu : P.underlying t = some (.array n e)) (he : P.underlying e = some (.int .u8)) (h : HasT P (m + 2) t vs) : ∃ x : Arr n, nfL vs = encB x.1 := by
  unfold HasT at h
  simp only [hu] at h
  obtain ⟨wss, hl, hw, rfl⟩ := h
  obtain ⟨l, h1, h2⟩ := u8_row (wss := wss) fun ws hws => by
    have := hw ws hws
    simpa only [HasT, he] using this
  exact ⟨⟨l, by rw [h1, hl]⟩, by rw [h2, nf_encB]⟩
theorem el_agg (ha : isAgT P t = true) {l : List V} (h : nfL vs = l) : (elV P t vs).nf = .agg l := by
  unfold elV; rw [if_pos ha]; show V.agg (nfL vs) = _; rw [h]
theorem el_one (ha : isAgT P t = false) {v : V} (h : nfL vs = [v]) : (elV P t vs).nf = v := by
  unfold elV; rw [if_neg (by simp [ha])]
  cases vs with
  | nil => cases h
  | cons x r => rw [nfL] at h; exact (List.cons.inj h).1
theorem nfL_flat : ∀ {wss : List (List V)}, nfL wss.flatten = (wss.map nfL).flatten
  | [] => rfl
  | w :: r => by rw [List.flatten_cons, nfL_append, nfL_flat]; rfl
end

/-! ## weights -/
mutual
theorem nf_wt : ∀ v : V, v.nf.wt ≤ v.wt
  | .agg cs => by simp only [V.nf, V.wt]; have := nfL_wt cs; omega
  | .sl true sz [] => by simp [V.nf, V.wt]
  | .sl true _ (x :: xs) => by simp [V.nf, V.wt]
  | .sl false sz xs => by simp only [V.nf, V.wt]; have := nfL_wt xs; omega
  | .el cs off => by simp [V.nf, V.wt]
  | .tup cs => by simp [V.nf, V.wt]
  | .fn f cs => by simp [V.nf, V.wt]
  | .mfn f cs => by simp [V.nf, V.wt]
  | .iface t v => by simp [V.nf, V.wt]
  | .bool b => Nat.le_refl _
  | .int k n => Nat.le_refl _
  | .str s => Nat.le_refl _
  | .osl a b c d e => Nat.le_refl _
  | .gp g o => Nat.le_refl _
  | .ptr i o => Nat.le_refl _
  | .nilptr => Nat.le_refl _
  | .map i => Nat.le_refl _
  | .nilmap => Nat.le_refl _
  | .nilfn => Nat.le_refl _
  | .nilif => Nat.le_refl _
theorem nfL_wt : ∀ l : List V, wtL (nfL l) ≤ wtL l
  | [] => Nat.le_refl _
  | v :: r => by simp only [nfL, wtL]; have := nf_wt v; have := nfL_wt r; omega
end
theorem wt_of {v w : V} {n : Nat} (h : v.nf = w) (hn : v.wt ≤ n) : w.wt ≤ n := by rw [← h]; exact Nat.le_trans (nf_wt v) hn
theorem wt_sl {α : Type} {E : α → V} {c : Nat} {l : List α} {n : Nat} (h : (V.sl false c (l.map E)).wt ≤ n) : l.length ≤ n ∧ ∀ a ∈ l, (E a).wt ≤ n := by
  simp only [V.wt] at h
  refine ⟨by have := wtL_length (l.map E); simp at this; omega, fun a ha => ?_⟩
  have := wtL_mem (List.mem_map_of_mem (f := E) ha)
  omega
theorem wt_str {s : Bytes} {n : Nat} (h : (V.str s).wt ≤ n) : s.length ≤ n := by simp only [V.wt] at h; omega
theorem wt_mem {cs : List V} {v : V} {n : Nat} (h : (V.agg cs).wt ≤ n) (hv : v ∈ cs) : v.wt ≤ n := by
  simp only [V.wt] at h
  have := wtL_mem hv; omega

theorem law_end {cx : Cx} {c : FC} {args : List V} {xs : Array Value} (hc : c.Holds cx) (hr : c.rel (nfL args) (.bool true)) (hx : RepL cx.w0 (G0 cx.w0) (fun _ => none) args xs) :
    Calls cx.P c.f xs cx.w0 fun e W' => e = .returned (.bool true) ∧ Below cx.w0.heap.size cx.w0 W' := by
  obtain ⟨v, o, h1, h2, _⟩ := hc args _ hr
  rw [nf_bool h2] at h1
  exact law_calls h1 hx
end Go.Proofs.YtanocopjancaiaaGreatDoor
/-
  U2: the law CondLevels. Own work of this seat.
-/
namespace Go.Proofs.YtanocopjancaiaaGreatDoor
open Go.Abs
set_option maxRecDepth 10000
variable {e : Nat → List V → Option V}
/-- Great: true or false; if it is false there are few tags -/
theorem v.Great (o a : Bytes) (g : Bool) (lv : Int) (ts : List Bytes) (ho : o.length ≤ 1048576) (ha : a.length ≤ 1048576) (hl : ts.length ≤ 1048576) (hb : ∀ t ∈ ts, t.length ≤ 1048576) :
    ∃ b, vl e 10 0 [cfV o a g lv ts] = some (.bool b) ∧ (b = false → ts.length ≤ 20) := by
  have key : ∀ (n i m : Nat), i + n = ts.length → m ≤ 2097664 → ∃ b, vl e 10 10 [I m, strs ts, I ts.length, I i, cfV o a g lv ts] = some (.bool b) ∧ (b = false → ts.length ≤ 20) := by
    intro n
    induction n with
    | zero =>
      intro i m hi hm
      have e4 : evp (.ld none 4) [cfV o a g lv ts] = some (strs ts) := rfl
      rw [w.seicheref16_Great_10]; unfold y.seicheref16_Great_10
      by_cases h20 : (20 : Int) < (ts.length : Int)
      · exact ⟨true, by simp only [yy, if_neg (show ¬ ((i : Int) < (ts.length : Int)) by omega), e4, v_lenS, if_pos h20], fun h => nomatch h⟩
      · exact ⟨decide ((512 : Int) < (m : Int)), by simp only [yy, if_neg (show ¬ ((i : Int) < (ts.length : Int)) by omega), e4, v_lenS, if_neg h20], fun _ => by omega⟩
    | succ n ih =>
      intro i m hi hm
      have hlt : i < ts.length := by omega
      have hti := hb ts[i] (List.getElem_mem hlt)
      rw [w.seicheref16_Great_10]; unfold y.seicheref16_Great_10
      have hw : IntKind.i64.wrap ((m : Int) + (ts[i].length : Int)) = ((m + ts[i].length : Nat) : Int) := by rw [← Int.natCast_add]; exact w64 _ (by omega)
      by_cases hgt : (512 : Int) < ((m + ts[i].length : Nat) : Int)
      · exact ⟨true, by simp only [yy, if_pos (show (i : Int) < (ts.length : Int) by omega), v_get hlt, v_lds, hw, if_pos hgt], fun h => nomatch h⟩
      · obtain ⟨b, h1, h2⟩ := ih (i + 1) (m + ts[i].length) (by omega) (by omega)
        exact ⟨b, by simp only [yy, if_pos (show (i : Int) < (ts.length : Int) by omega), v_get hlt, v_lds, hw, if_neg hgt, next64 hlt (by omega)]; exact h1, h2⟩
  rw [w.seicheref16_Great]; unfold y.seicheref16_Great
  obtain ⟨b, h1, h2⟩ := key ts.length 0 (o.length + a.length) (by omega) (by omega)
  refine ⟨b, ?_, h2⟩
  have e0 : evp (.ld none 0) [cfV o a g lv ts] = some (.str o) := rfl
  have e1 : evp (.ld none 1) [cfV o a g lv ts] = some (.str a) := rfl
  have e4 : evp (.ld none 4) [cfV o a g lv ts] = some (strs ts) := rfl
  have hw : IntKind.i64.wrap ((o.length : Int) + (a.length : Int)) = ((o.length + a.length : Nat) : Int) := by rw [← Int.natCast_add]; exact w64 _ (by omega)
  simp only [yy, v_scs5, e0, e1, e4, hw, v_lenS]
  exact h1

theorem v.L46 (o a : Bytes) (g : Bool) (lv : Int) (ts : List Bytes) (hl : ts.length ≤ 1000000000) (he : EnvC e) (k : Nat) (hk0 : 1 ≤ k) (hk : k < 10000) : ∀ (f n : Nat) (t : Bytes), f ≤ 4 → n < 10 ^ f → dg f n ++ t = dg 4 k → t.length ≤ 4 →
    vl e 6 46 [I k, .str t, I n, cfV o a g lv ts] = some (.bool true) := by
  have fin : vl e 6 46 [I k, .str (dg 4 k), I (0 : Nat), cfV o a g lv ts] = some (.bool true) := by
    have hlen : (dg 4 k).length ≤ 4 := by
      have h := List.all_eq_true.1 dg_ok k (List.mem_range.2 hk)
      have hz : (k == 0) = false := by simp; omega
      simp only [hz, Bool.false_or, Bool.and_eq_true, decide_eq_true_eq] at h
      exact h.1.1.2
    rw [w.seichelaw16_CondLevels_46]; unfold y.seichelaw16_CondLevels_46
    have e5 : evp (.ld (some 5) 0) [cfV o a g lv ts] = some (cfV o a g lv ts) := rfl
    have e0 : evp (.ld none 0) [cfV o a g lv ts] = some (.str o) := rfl
    have e1 : evp (.ld none 1) [cfV o a g lv ts] = some (.str a) := rfl
    have e3 : evp (.ld none 3) [cfV o a g lv ts] = some (I lv) := rfl
    have e4 : evp (.ld none 4) [cfV o a g lv ts] = some (strs ts) := rfl
    have hadd : evp (.bin .add .no) [.str [103, 111, 49, 46], .str (dg 4 k)] = some (.str ([103, 111, 49, 46] ++ dg 4 k)) := v_sadd (by simp; omega)
    have hon := v.On he o a g lv ts hl ([103, 111, 49, 46] ++ dg 4 k) (by simp; omega)
    have hin := v.In (e := e) ts ([103, 111, 49, 46] ++ dg 4 k) hl
    generalize hs : ([103, 111, 49, 46] ++ dg 4 k : Bytes) = s at hadd hon hin
    have hon' : onB o a g lv ts s = (decide ((k : Int) ≤ lv) || (decide (s = o) || (decide (s = a) || inB ts s))) := by
      unfold onB
      rw [← hs, lv_dg hk0 hk, Bool.true_and]
      congr 1
      rw [hs]
      unfold plainB
      have hne : ∀ r : Bytes, r.take 4 ≠ [103, 111, 49, 46] → s ≠ r := fun r hr h => hr (by rw [← h, ← hs]; rfl)
      rw [if_neg (hne [] (by decide)), if_neg (hne [117, 110, 105, 120] (by decide)), if_neg (hne [99, 103, 111] (by decide)), if_neg (hne [108, 105, 110, 117, 120] (by decide)), if_neg (hne [115, 111, 108, 97, 114, 105, 115] (by decide)), if_neg (hne [100, 97, 114, 119, 105, 110] (by decide))]
      have hgc := hne [103, 99] (by decide)
      by_cases h1 : s = o
      · simp [h1]
      · by_cases h2 : s = a
        · simp [h2]
        · simp [h1, h2, hgc]
    rw [hon'] at hon
    simp only [yy, if_neg (show ¬ ((0 : Int) < ((0 : Nat) : Int)) by omega), hadd, e5, hon, e3, e0, e1, e4, hin]
    by_cases q1 : (k : Int) ≤ lv
    · rw [if_pos q1]; simp [q1]
    · rw [if_neg q1]
      by_cases q2 : o = s
      · rw [if_pos q2]; simp [q2]
      · rw [if_neg q2]
        by_cases q3 : a = s
        · rw [if_pos q3]; simp [q3]
        · rw [if_neg q3]; simp [q1, Ne.symm q2, Ne.symm q3, show ¬ s = o from fun h => q2 h.symm, show ¬ s = a from fun h => q3 h.symm]
  intro f
  induction f with
  | zero =>
    intro n t _ hn ht _
    have hn0 : n = 0 := by simpa using hn
    subst hn0
    rw [show dg 0 0 = [] from rfl, List.nil_append] at ht
    rw [ht]; exact fin
  | succ f ih =>
    intro n t hf hn ht hlt
    by_cases h0 : n = 0
    · subst h0
      rw [show dg (f + 1) 0 = [] from rfl, List.nil_append] at ht
      rw [ht]; exact fin
    · have hlen : t.length + 1 ≤ 4 := by
        have h := List.all_eq_true.1 dg_ok k (List.mem_range.2 hk)
        have hz : (k == 0) = false := by simp; omega
        simp only [hz, Bool.false_or, Bool.and_eq_true, decide_eq_true_eq] at h
        have := congrArg List.length ht
        rw [dg, if_neg h0] at this
        simp at this; omega
      have hn2 : n < 10000 := Nat.lt_of_lt_of_le hn (by have := Nat.pow_le_pow_right (n := 10) (by decide) hf; simpa using this)
      rw [w.seichelaw16_CondLevels_46]; unfold y.seichelaw16_CondLevels_46
      have hrem : evp (.bin .rem .no) [I n, .int .i64 10] = some (I ((n % 10 : Nat) : Int)) := v_rem (k := 10) (by decide)
      have hquo : evp (.bin .quo .no) [I n, .int .i64 10] = some (I ((n / 10 : Nat) : Int)) := v_quo (k := 10) (by decide) (by omega)
      have hi2 : evp (.i2i .u8) [.int .i64 (IntKind.i64.wrap (48 + ((n % 10 : Nat) : Int)))] = some (.int .u8 ((UInt8.ofNat (48 + n % 10)).toNat : Int)) := by
        rw [← byte48 _ (Nat.mod_lt _ (by omega))]; rfl
      have hb2s : evp .b2s [.sl false 1 [byteV (UInt8.ofNat (48 + n % 10))]] = some (.str [UInt8.ofNat (48 + n % 10)]) := by
        exact v_b2s (l := [UInt8.ofNat (48 + n % 10)])
      have hadd : evp (.bin .add .no) [.str [UInt8.ofNat (48 + n % 10)], .str t] = some (.str ([UInt8.ofNat (48 + n % 10)] ++ t)) := v_sadd (by simp; omega)
      simp only [yy, if_pos (show (0 : Int) < (n : Int) by omega), hrem, hi2, v_one8, hb2s, hadd, hquo]
      refine ih (n / 10) _ (by omega) (by rw [Nat.pow_succ] at hn; omega) ?_ (by simp; omega)
      rw [dg, if_neg h0] at ht
      rw [← ht]; simp
theorem lenS {l : List Bytes} (h : (strs l).wt ≤ 1048576) : l.length ≤ 1048576 ∧ ∀ t ∈ l, t.length ≤ 1048576 := by
  obtain ⟨h1, h2⟩ := wt_sl (E := V.str) h
  exact ⟨h1, fun t ht => wt_str (h2 t ht)⟩
theorem p_condLevels (he : EnvC e) (c : T.Config) (more : Int) (tag : Bytes) (n : Int) (hc : (E.Config c).wt ≤ 1048576) (_ : -9223372036854775808 ≤ more) (_ : more ≤ 9223372036854775807) (htag : (V.str tag).wt ≤ 1048576) (_ : -9223372036854775808 ≤ n) (_ : n ≤ 9223372036854775807) :
    vl e 6 0 [E.Config c, I more, .str tag, I n] = some (.bool true) := by
  obtain ⟨o, a, g, lv, ts⟩ := c
  have hc' : (cfV o a g lv ts).wt ≤ 1048576 := hc
  show vl e 6 0 [cfV o a g lv ts, I more, .str tag, I n] = _
  have ho := wt_str (wt_mem hc' (v := .str o) (by simp))
  have ha := wt_str (wt_mem hc' (v := .str a) (by simp))
  obtain ⟨hl, hb⟩ := lenS (wt_mem hc' (v := strs ts) (by simp))
  have ht := wt_str htag
  obtain ⟨b, hG, _⟩ := v.Great (e := e) o a g lv ts ho ha hl hb
  rw [w.seichelaw16_CondLevels]; unfold y.seichelaw16_CondLevels
  have e5 : evp (.ld (some 5) 0) [cfV o a g lv ts] = some (cfV o a g lv ts) := rfl
  have e3 : evp (.ld none 3) [cfV o a g lv ts] = some (I lv) := rfl
  have out : ∀ v, vl e 6 15 [I more, .str tag, I n, .bool true, v] = some (.bool true) := fun v => by
    rw [w.seichelaw16_CondLevels_15]; unfold y.seichelaw16_CondLevels_15; simp only [yy, ]
  simp only [yy, v_scs5, v.alive16 he, e5, hG, e3]
  cases b with
  | true => exact out _
  | false =>
    simp only [vif_f]
    by_cases h512 : (512 : Int) < (tag.length : Int)
    · rw [if_pos h512]; exact out _
    · rw [if_neg h512]
      by_cases hlt : more < lv
      · rw [decide_eq_true hlt]; exact out _
      · rw [decide_eq_false hlt]
        rw [w.seichelaw16_CondLevels_15]; unfold y.seichelaw16_CondLevels_15
        have ec : evp (.cat [some 5]) [cfV o a g lv ts] = some (cfV o a g lv ts) := rfl
        have es : evp (.set 1 3) [cfV o a g lv ts, I more] = some (cfV o a g more ts) := rfl
        have on1 := v.On he o a g lv ts (by omega) tag (by omega)
        have on2 := v.On he o a g more ts (by omega) tag (by omega)
        have fin : vl e 6 46 [I n, .str [], I n, cfV o a g lv ts] = some (.bool true) ∨ n < 1 ∨ 9999 < n := by
          by_cases h1 : n < 1
          · exact .inr (.inl h1)
          · by_cases h2 : 9999 < n
            · exact .inr (.inr h2)
            · obtain ⟨k, rfl⟩ : ∃ k : Nat, n = k := ⟨n.toNat, by omega⟩
              exact .inl (v.L46 o a g lv ts (by omega) he k (by omega) (by omega) 4 k [] (by omega) (by omega) (by simp) (by simp))
        have mono : onB o a g lv ts tag = true → onB o a g more ts tag = true := by
          unfold onB
          simp only [Bool.or_eq_true, Bool.and_eq_true, decide_eq_true_eq]
          rintro (⟨h1, h2⟩ | h)
          · exact .inl ⟨h1, by omega⟩
          · exact .inr h
        simp only [yy, e5, ec, es, on1, on2]
        have tail : (if n < 1 then some (V.bool true) else if 9999 < n then some (V.bool true) else vl e 6 46 [I n, .str [], I n, cfV o a g lv ts]) = some (.bool true) := by
          rcases fin with h | h | h
          · split
            · rfl
            · split
              · rfl
              · exact h
          · rw [if_pos h]
          · rw [if_neg (by omega), if_pos h]
        cases hb1 : onB o a g lv ts tag with
        | false => exact tail
        | true => rw [mono hb1]; exact tail
end Go.Proofs.YtanocopjancaiaaGreatDoor
/-
  U3: what a file's name says, at the names of the law CondNames; the law. Own work of this seat.
-/
namespace Go.Proofs.YtanocopjancaiaaGreatDoor
open Go.Abs
set_option maxRecDepth 20000
variable {e : Nat → List V → Option V}
abbrev nameV (t : Bool) (o a : Bytes) : V := .agg [.bool true, .bool t, .str o, .str a]
def endB : Bool → Bytes
  | true => [95, 116, 101, 115, 116, 46, 103, 111]
  | false => [46, 103, 111]
def sysL : List Bytes := [[97,105,120],[97,110,100,114,111,105,100],[100,97,114,119,105,110],[100,114,97,103,111,110,102,108,121],[102,114,101,101,98,115,100],[105,108,108,117,109,111,115],[105,111,115],[106,115],[108,105,110,117,120],[110,101,116,98,115,100],[111,112,101,110,98,115,100],[112,108,97,110,57],[115,111,108,97,114,105,115],[119,97,115,105,112,49],[119,105,110,100,111,119,115]]
def procL : List Bytes := [[51,56,54],[97,109,100,54,52],[97,114,109],[97,114,109,54,52],[108,111,111,110,103,54,52],[109,105,112,115],[109,105,112,115,54,52],[109,105,112,115,54,52,108,101],[109,105,112,115,108,101],[112,112,99,54,52],[112,112,99,54,52,108,101],[114,105,115,99,118,54,52],[115,51,57,48,120],[119,97,115,109]]
theorem v.Systems (he : EnvC e) : vl e 18 0 [] = some (strs sysL) := run_eq (T := ents) (e16_ok he) 400 (by kernel_rfl)
theorem v.Processors (he : EnvC e) : vl e 19 0 [] = some (strs procL) := run_eq (T := ents) (e16_ok he) 400 (by kernel_rfl)
/-- does Of say this of a name? -/
noncomputable def ofOk (s : Bytes) (t : Bool) (o a : Bytes) : Bool := match runY ents e16 100 32 0 [.str s] with
  | some (.agg [.bool true, .bool t', .str o', .str a']) => (t == t') && decide (o = o') && decide (a = a')
  | _ => false
theorem of_eq (he : EnvC e) {s : Bytes} {t : Bool} {o a : Bytes} (h : ofOk s t o a = true) : vl e 32 0 [.str s] = some (nameV t o a) := by
  unfold ofOk at h
  split at h
  · rename_i hr
    simp only [Bool.and_eq_true, beq_iff_eq, decide_eq_true_eq] at h
    obtain ⟨⟨rfl, rfl⟩, rfl⟩ := h
    exact run_eq (T := ents) (e16_ok he) 100 hr
  · cases h
theorem of1_ok : ([false, true].all fun t => ofOk ([120] ++ endB t) t [] []) = true := by kernel_rfl
theorem of2_ok : ([false, true].all fun t => sysL.all fun o => ofOk (([120, 95] ++ o) ++ endB t) t o []) = true := by kernel_rfl
theorem of3_ok : ([false, true].all fun t => procL.all fun a => ofOk (([120, 95] ++ a) ++ endB t) t [] a) = true := by kernel_rfl
theorem of4_ok : ([false, true].all fun t => sysL.all fun o => procL.all fun a => ofOk (((([120, 95] ++ o) ++ [95]) ++ a) ++ endB t) t o a) = true := by kernel_rfl
theorem len_ok : (sysL.all fun o => decide (o.length ≤ 20) && decide (o ≠ [])) = true ∧ (procL.all fun o => decide (o.length ≤ 20) && decide (o ≠ [])) = true := ⟨by decide, by decide⟩
theorem mem_ft (t : Bool) : t ∈ [false, true] := by cases t <;> simp
abbrev hdP : V := .agg [.str [112], .sl false 3 [], .str [], .sl false 1 [], I 0, I 0]
def kindB (t : Bool) : Int := if t then 2 else 1
def okB (o : Bytes) (b : Bool) : Bool := if o = [] then true else b
theorem v.cf34 (he : EnvC e) : vl e 33 0 [.sl false 3 [], .fn 34 []] = some (.bool false) := run_eq (T := ents) (e16_ok he) 100 (by kernel_rfl)
theorem v.suf (he : EnvC e) : vl e 35 0 [.str [112], .str [95, 116, 101, 115, 116]] = some (.bool false) := run_eq (T := ents) (e16_ok he) 100 (by kernel_rfl)
theorem v.HoldsE (o a : Bytes) (g : Bool) (lv : Int) (ts : List Bytes) : vl e 13 0 [cfV o a g lv ts, .str []] = some (.tup [.bool true, I 0]) := by
  rw [w.cond_Holds]; unfold y.cond_Holds
  simp only [yy, v_scs5]; rfl
theorem v.In9 (he : EnvC e) (o a : Bytes) (g : Bool) (lv : Int) (ts : List Bytes) (b t : Bool) (x z : Bytes) :
    vl e 15 9 [.bool b, cfV o a g lv ts, hdP, nameV t x z] = some (.tup [I (if b then 0 else kindB t), I 0]) := by
  rw [w.cond_In_9]; unfold y.cond_In_9
  cases b with
  | true => simp only [yy, ]; rfl
  | false =>
    have n1 : evp (.ld none 1) [nameV t x z] = some (.bool t) := rfl
    have h4 : evp (.ld none 4) [hdP] = some (I 0) := rfl
    have h2 : evp (.ld none 2) [hdP] = some (.str []) := rfl
    have h1 : evp (.ld none 1) [hdP] = some (.sl false 3 []) := rfl
    have h0 : evp (.ld none 0) [hdP] = some (.str [112]) := rfl
    have e5 : evp (.ld (some 5) 0) [cfV o a g lv ts] = some (cfV o a g lv ts) := rfl
    have e2 : evp (.ld none 2) [cfV o a g lv ts] = some (.bool g) := rfl
    cases t <;> cases g <;> simp only [vif_t, vif_f, yy, n1, h4, h2, h1, h0, e5, e2, v.HoldsE, v.cf34 he, v.suf he, decide_true, Bool.not_true, Bool.not_false, if_true, if_false, kindB, Bool.false_eq_true, List.getElem?_cons_zero, List.getElem?_cons_succ, Option.bind_some]
theorem v.InP (he : EnvC e) (o a : Bytes) (g : Bool) (lv : Int) (ts : List Bytes) (hl : ts.length ≤ 1000000000) (s : Bytes) (t : Bool) (x z : Bytes) (hs : vl e 32 0 [.str s] = some (nameV t x z)) (hx : x.length ≤ 20) (hy : z.length ≤ 20) :
    vl e 15 0 [cfV o a g lv ts, .str s, hdP] = some (.tup [I (if okB x (onB o a g lv ts x) && okB z (onB o a g lv ts z) then kindB t else 0), I 0]) := by
  rw [w.cond_In]; unfold y.cond_In
  have sh : evp .scs [hdP] = some hdP := rfl
  have c4 : evp (.cat [some 4]) [nameV t x z] = some (nameV t x z) := rfl
  have n0 : evp (.ld none 0) [nameV t x z] = some (.bool true) := rfl
  have n2 : evp (.ld none 2) [nameV t x z] = some (.str x) := rfl
  have n3 : evp (.ld none 3) [nameV t x z] = some (.str z) := rfl
  have e5 : evp (.ld (some 5) 0) [cfV o a g lv ts] = some (cfV o a g lv ts) := rfl
  have hox := v.On he o a g lv ts hl x (by omega)
  have hoy := v.On he o a g lv ts hl z (by omega)
  generalize onB o a g lv ts x = bx at *
  generalize onB o a g lv ts z = by' at *
  unfold okB
  by_cases h1 : x = []
  · by_cases h2 : z = []
    · simp only [yy, v_scs5, sh, hs, c4, n0, n2, n3, e5, if_pos h1, if_pos h2, v.In9 he]; simp
    · simp only [yy, v_scs5, sh, hs, c4, n0, n2, n3, e5, if_pos h1, if_neg h2, hoy, v.In9 he]
      cases by' <;> simp
  · by_cases h2 : z = []
    · simp only [yy, v_scs5, sh, hs, c4, n0, n2, n3, e5, if_neg h1, if_pos h2, hox, v.In9 he]
      cases bx <;> simp [vif, v.In9 he]
    · simp only [yy, v_scs5, sh, hs, c4, n0, n2, n3, e5, if_neg h1, if_neg h2, hox, hoy, v.In9 he]
      cases bx <;> cases by' <;> simp [vif, v.In9 he]
theorem u64w (n : Int) : IntKind.u64.wrap n = n % 18446744073709551616 := by simp [IntKind.wrap, IntKind.signed, IntKind.bits]
theorem idx_mod (i : Int) (L : Nat) (h0 : 0 < L) (hL : L < 1000) : ∃ n : Nat, n < L ∧ evp (.bin .rem .no) [.int .u64 (IntKind.u64.wrap i), .int .u64 (IntKind.u64.wrap (L : Int))] = some (.int .u64 (n : Int)) ∧ evp (.i2i .i64) [.int .u64 (n : Int)] = some (I n) := by
  refine ⟨(IntKind.u64.wrap i).toNat % L, Nat.mod_lt _ h0, ?_, ?_⟩
  · have hm : 0 ≤ IntKind.u64.wrap i := by rw [u64w]; omega
    obtain ⟨m, hm'⟩ := Int.eq_ofNat_of_zero_le hm
    have hw : IntKind.u64.wrap (L : Int) = (L : Int) := by rw [u64w]; omega
    rw [hw, hm']
    show (if (L : Int) = 0 then none else some (V.int .u64 ((m : Int).tmod (L : Int)))) = _
    rw [if_neg (by omega), ← Int.ofNat_tmod]; rfl
  · have hlt := Nat.mod_lt (IntKind.u64.wrap i).toNat h0
    show some (V.int .i64 (IntKind.i64.wrap _)) = _
    rw [w64 _ (by omega)]
theorem kind_ne (t : Bool) : (0 : Int) ≠ kindB t := by cases t <;> decide
theorem v.Names32 (he : EnvC e) (o a : Bytes) (g : Bool) (lv : Int) (ts : List Bytes) (hl : ts.length ≤ 1000000000) (x z : Bytes) (hx : x ∈ sysL) (hy : z ∈ procL) (t : Bool) :
    vl e 8 32 [.str x, .str z, .str (endB t), I (kindB t), cfV o a g lv ts] = some (.bool true) := by
  rw [w.seichelaw16_CondNames_32]; unfold y.seichelaw16_CondNames_32
  have lx := List.all_eq_true.1 len_ok.1 x hx
  have ly := List.all_eq_true.1 len_ok.2 z hy
  simp only [Bool.and_eq_true, decide_eq_true_eq] at lx ly
  have lt : (endB t).length ≤ 20 := by cases t <;> decide
  have f1 := of_eq he (List.all_eq_true.1 of1_ok t (mem_ft t))
  have f2 := of_eq he (List.all_eq_true.1 (List.all_eq_true.1 of2_ok t (mem_ft t)) x hx)
  have f3 := of_eq he (List.all_eq_true.1 (List.all_eq_true.1 of3_ok t (mem_ft t)) z hy)
  have f4 := of_eq he (List.all_eq_true.1 (List.all_eq_true.1 (List.all_eq_true.1 of4_ok t (mem_ft t)) x hx) z hy)
  have g1 := v.InP he o a g lv ts hl _ t _ _ f1 (by simp) (by simp)
  have g2 := v.InP he o a g lv ts hl _ t _ _ f2 lx.1 (by simp)
  have g3 := v.InP he o a g lv ts hl _ t _ _ f3 (by simp) ly.1
  have g4 := v.InP he o a g lv ts hl _ t _ _ f4 lx.1 ly.1
  have hox := v.On he o a g lv ts hl x (by omega)
  have hoy := v.On he o a g lv ts hl z (by omega)
  generalize onB o a g lv ts x = bx at *
  generalize onB o a g lv ts z = by' at *
  simp only [okB, if_neg lx.2, if_neg ly.2, if_true, Bool.true_and, Bool.and_true] at g1 g2 g3 g4
  have e5 : evp (.ld (some 5) 0) [cfV o a g lv ts] = some (cfV o a g lv ts) := rfl
  have c1 : evp (.cat [none]) [.str [112]] = some (.agg [.str [112]]) := rfl
  have c6 : evp (.cat [none, none, none, none, none, none]) [.str [112], .sl false 3 [], .str [], .sl false 1 [], I 0, I 0] = some hdP := rfl
  have a1 : evp (.bin .add .no) [.str [120], .str (endB t)] = some (.str ([120] ++ endB t)) := v_sadd (by simp; omega)
  have a2 : evp (.bin .add .no) [.str [120, 95], .str x] = some (.str ([120, 95] ++ x)) := v_sadd (by simp; omega)
  have a3 : evp (.bin .add .no) [.str [120, 95], .str z] = some (.str ([120, 95] ++ z)) := v_sadd (by simp; omega)
  have a4 : evp (.bin .add .no) [.str ([120, 95] ++ x), .str (endB t)] = some (.str (([120, 95] ++ x) ++ endB t)) := v_sadd (by simp; omega)
  have a5 : evp (.bin .add .no) [.str ([120, 95] ++ z), .str (endB t)] = some (.str (([120, 95] ++ z) ++ endB t)) := v_sadd (by simp; omega)
  have a6 : evp (.bin .add .no) [.str ([120, 95] ++ x), .str [95]] = some (.str (([120, 95] ++ x) ++ [95])) := v_sadd (by simp; omega)
  have a7 : evp (.bin .add .no) [.str (([120, 95] ++ x) ++ [95]), .str z] = some (.str ((([120, 95] ++ x) ++ [95]) ++ z)) := v_sadd (by simp; omega)
  have a8 : evp (.bin .add .no) [.str ((([120, 95] ++ x) ++ [95]) ++ z), .str (endB t)] = some (.str (((([120, 95] ++ x) ++ [95]) ++ z) ++ endB t)) := v_sadd (by simp; omega)
  have kn := kind_ne t
  simp only [yy, c1, c6, e5, a1, a2, a3, a4, a5, a6, a7, a8, g1, g2, g3, g4, hox, hoy]
  generalize kindB t = K at kn
  cases bx <;> cases by' <;> simp [vif, evp, abin, aint, kn]
theorem p_condNames (he : EnvC e) (c : T.Config) (i k : Int) (t : Bool) (hc : (E.Config c).wt ≤ 1048576) (_ : -9223372036854775808 ≤ i) (_ : i ≤ 9223372036854775807) (_ : -9223372036854775808 ≤ k) (_ : k ≤ 9223372036854775807) :
    vl e 8 0 [E.Config c, I i, I k, .bool t] = some (.bool true) := by
  obtain ⟨o, a, g, lv, ts⟩ := c
  have hc' : (cfV o a g lv ts).wt ≤ 1048576 := hc
  show vl e 8 0 [cfV o a g lv ts, I i, I k, .bool t] = _
  have ho := wt_str (wt_mem hc' (v := .str o) (by simp))
  have ha := wt_str (wt_mem hc' (v := .str a) (by simp))
  obtain ⟨hl, hb⟩ := lenS (wt_mem hc' (v := strs ts) (by simp))
  obtain ⟨b, hG, _⟩ := v.Great (e := e) o a g lv ts ho ha hl hb
  rw [w.seichelaw16_CondNames]; unfold y.seichelaw16_CondNames
  have e5 : evp (.ld (some 5) 0) [cfV o a g lv ts] = some (cfV o a g lv ts) := rfl
  simp only [yy, v_scs5, v.alive16 he, e5, hG]
  cases b with
  | true => rfl
  | false =>
    simp only [vif_f]
    obtain ⟨n, hn, r1, r2⟩ := idx_mod i sysL.length (by decide) (by decide)
    obtain ⟨m, hm, r3, r4⟩ := idx_mod k procL.length (by decide) (by decide)
    have i1 : ∀ z : Int, evp (.i2i .u64) [I z] = some (.int .u64 (IntKind.u64.wrap z)) := fun z => rfl
    have l1 : evp (.len false) [strs sysL] = some (I (sysL.length : Int)) := v_lenS
    have l2 : evp (.len false) [strs procL] = some (I (procL.length : Int)) := v_lenS
    have q1 := v.Names32 he o a g lv ts (by omega) sysL[n] procL[m] (List.getElem_mem hn) (List.getElem_mem hm) t
    have s1 := v.Systems he
    have s2 := v.Processors he
    have g1 := v_get hn
    have g2 := v_get hm
    generalize hS : sysL = S at *
    generalize hP : procL = P at *
    simp only [yy, s1, s2, i1, l1, l2, r1, r2, r3, r4, g1, g2, v_lds]
    cases t with
    | true => exact q1
    | false => exact q1
end Go.Proofs.YtanocopjancaiaaGreatDoor
/-
  YEc: functions that are given by contracts: strings.Split, strconv.Atoi, strconv.Itoa. Own work of this seat.
-/
namespace Go.Proofs.YtanocopjancaiaaGreatDoor
open Go.Abs Go.RowKit
def exts : List FC := [K.strings_Split, K.strconv_Atoi, K.strconv_Itoa]
theorem exts_ok (w : World) (hw : EnvE w) : ∀ c ∈ exts, c.Holds (cxD w) := by
  intro c hc
  simp only [exts, List.mem_cons, List.not_mem_nil, or_false] at hc
  rcases hc with rfl | rfl | rfl
  · exact H.strings_Split w hw.toOK
  · exact H.strconv_Atoi w hw
  · exact H.strconv_Itoa w hw
theorem exts_own : ∀ c ∈ exts, cfg.ow c.f = true → c.own = true := by
  intro c hc h
  simp only [exts, List.mem_cons, List.not_mem_nil, or_false] at hc
  rcases hc with rfl | rfl | rfl
  · rfl
  · exact absurd h (by rw [show cfg.ow K.strconv_Atoi.f = false by kernel_rfl]; decide)
  · exact absurd h (by rw [show cfg.ow K.strconv_Itoa.f = false by kernel_rfl]; decide)
theorem envX : EnvC (extOf exts) where
  split s c hs := extOf_eq (cs := exts) (c := K.strings_Split) rfl ⟨(s, [c]), splitOn c s, rfl, by simp [g.strings_Split, hs], rfl⟩
  atoi s hs := extOf_eq (cs := exts) (c := K.strconv_Atoi) rfl ⟨s, atoiV s, rfl, by simp [g.strconv_Atoi, hs], rfl⟩
  itoa n h0 h1 := extOf_eq (cs := exts) (c := K.strconv_Itoa) rfl ⟨n, Lib.itoa n, rfl, by simp [g.strconv_Itoa, h0, h1], rfl⟩
end Go.Proofs.YtanocopjancaiaaGreatDoor
/-
  GL: package tables that a row's premise lays: what they read as. Own work of this seat.
-/
namespace Go.Proofs.YtanocopjancaiaaGreatDoor
open Go.Abs Go.RowKit Go.ChangeShapes Go.WideShapes
section
variable {P : Program} {w : World}
theorem laid_mem {n : String} {d : DataW Unit} : ∀ {l : List (String × DataW Unit)} {ps : List MemPlace}, DataW.LaidVars P w l ps → (n, d) ∈ l →
    ∃ g t cs fuel p, P.globalNamed n = some g ∧ (P.globals[g]?).map (·.type) = some t ∧ w.var? P n = some cs ∧ DataW.trod (fun _ => ()) P w 0 (fun _ => true) false fuel t cs.toList = some (d, p)
  | [], _, _, h => by cases h
  | (m, c) :: r, ps, hl, h => by
    obtain ⟨g, t, cs, fuel, p, q, h1, h2, h3, h4, h5, _⟩ := hl
    rcases List.mem_cons.1 h with e | h
    · cases e; exact ⟨g, t, cs, fuel, p, h1, h2, h3, h4⟩
    · exact laid_mem h5 h
theorem var_cells {n : String} {g : Nat} {cs : Array Value} (hg : P.globalNamed n = some g) (h : w.var? P n = some cs) : ∃ t x, w.heap[g]? = some (.cells cs t x) := by
  unfold World.var? at h
  rw [hg, Option.bind_some] at h
  split at h
  · rename_i c t x hx; cases h; exact ⟨t, x, hx⟩
  · cases h
theorem trod_int {enc : TypeId × Value → Unit} {held : Bool} {fuel : Nat} {e : TypeId} {k k' : IntKind} {cs : List Value} {n : Int} {p : List MemPlace} (he : P.underlying e = some (.int k)) (h : DataW.trod enc P w 0 (fun _ => true) held fuel e cs = some (.lit (.int k' n), p)) : cs = [.int k n] ∧ k' = k := by
  cases fuel with
  | zero => simp [DataW.trod] at h
  | succ m =>
    unfold DataW.trod at h
    rw [he] at h
    split at h <;> simp_all
theorem trod_str {enc : TypeId × Value → Unit} {held : Bool} {fuel : Nat} {e : TypeId} {cs : List Value} {s : Bytes} {p : List MemPlace} (he : P.underlying e = some .string) (h : DataW.trod enc P w 0 (fun _ => true) held fuel e cs = some (.lit (.string s), p)) : ∃ b : ByteArray, cs = [.string b] ∧ b.data.toList = s := by
  cases fuel with
  | zero => simp [DataW.trod] at h
  | succ m =>
    unfold DataW.trod at h
    rw [he] at h
    split at h <;> simp_all
/-- a table of numbers -/
theorem gl_ints {laid : List (String × DataW Unit)} {n : String} {d : DataW Unit} {g : Nat} {t e : TypeId} {k : IntKind} {m : Nat} (ns : List Int) (h : laidMet P laid w) (hm : (n, d) ∈ laid) (hg : P.globalNamed n = some g) (ht : (P.globals[g]?).map (·.type) = some t)
    (hu : P.underlying t = some (.array m e)) (he : P.underlying e = some (.int k)) (hc : P.cellsOf e = 1) (hct : P.cellsOf t = ns.length) (hd : d = .agg (ns.map fun i => .lit (.int k i))) : Row w (G0 w) (fun _ => none) (ns.map (V.int k)) g 0 ∧ (ns.map (V.int k)).length ≤ G0 w g := by
  obtain ⟨ps, hl, _, _⟩ := h
  obtain ⟨g', t', cs, fuel, p, h1, h2, h3, h4⟩ := laid_mem hl hm
  rw [hg] at h1; cases h1
  rw [ht] at h2; cases h2
  obtain ⟨t1, x1, hh⟩ := var_cells hg h3
  obtain ⟨xs, fu, _, hx, hlen, hxl, hel⟩ := DataW.trod_array hu h4
  have hxs : xs.map (·.1) = ns.map fun i => (DataW.lit (.int k i) : DataW Unit) := by
    have := (Prod.mk.inj hx).1
    rw [hd] at this
    exact (DataW.agg.inj this).symm
  have hnl : xs.length = ns.length := by have := congrArg List.length hxs; simpa using this
  have hsz : cs.size = ns.length := by rw [← hct, ← hlen]; simp
  have hcell : ∀ i, (hi : i < ns.length) → cs[i]? = some (.int k ns[i]) := by
    intro i hi
    have h5 := hel i (by omega)
    rw [hc, Nat.mul_one, List.getElem?_eq_getElem (by omega)] at h5
    have h6 : xs[i].1 = DataW.lit (.int k ns[i]) := by
      have h7 : (xs.map (·.1))[i]? = (ns.map fun i => (DataW.lit (.int k i) : DataW Unit))[i]? := by rw [hxs]
      rw [List.getElem?_map, List.getElem?_map, List.getElem?_eq_getElem (by omega), List.getElem?_eq_getElem hi] at h7
      simpa using h7
    obtain ⟨h8, _⟩ := trod_int (n := ns[i]) (p := xs[i].2) (k' := k) he (by rw [h5]; exact congrArg some (Prod.ext h6 rfl))
    have hi' : i < cs.toList.length := by simp; omega
    rw [List.drop_eq_getElem_cons hi', List.take_succ_cons, List.take_zero] at h8
    have h9 := (List.cons.inj h8).1
    rw [Array.getElem?_eq_getElem (by omega)]
    simpa using h9
  refine ⟨⟨fun c hc => ?_, fun i c hc => ?_⟩, ?_⟩
  · obtain ⟨j, _, rfl⟩ := List.mem_map.1 hc; rfl
  · rw [List.getElem?_map] at hc
    obtain ⟨j, hj, rfl⟩ := Option.map_eq_some_iff.1 hc
    obtain ⟨hi, hj⟩ := List.getElem?_eq_some_iff.1 hj
    refine ⟨.int k j, ?_, .int k j⟩
    rw [Nat.zero_add]
    simp only [World.cell?, hh]
    rw [← hj]; exact hcell i hi
  · simp only [List.length_map, G0, hh]; omega
/-- a table of texts -/
theorem gl_strs {laid : List (String × DataW Unit)} {n : String} {d : DataW Unit} {g : Nat} {t e : TypeId} (ss : List Bytes) (h : laidMet P laid w) (hm : (n, d) ∈ laid) (hg : P.globalNamed n = some g) (ht : (P.globals[g]?).map (·.type) = some t)
    (hu : P.underlying t = some (.slice e)) (he : P.underlying e = some .string) (hc : P.cellsOf e = 1) (hd : ∃ r, d = .slice (ss.map fun s => .lit (.string s)) r) (hne : ss ≠ []) : Row w (G0 w) (fun _ => none) [.sl false 1 (ss.map V.str)] g 0 ∧ ([V.sl false 1 (ss.map V.str)] : List V).length ≤ G0 w g := by
  obtain ⟨ps, hl, _, _⟩ := h
  obtain ⟨g', t', cs, fuel, p, h1, h2, h3, h4⟩ := laid_mem hl hm
  rw [hg] at h1; cases h1
  rw [ht] at h2; cases h2
  obtain ⟨t1, x1, hh⟩ := var_cells hg h3
  obtain ⟨rr, hd⟩ := hd
  rcases DataW.trod_slice hu h4 with ⟨_, hx⟩ | ⟨a, len, cap, elems, rest, fu, _, hcs, hx, _, hlc, _, hel, hget, _, _⟩
  · have := (Prod.mk.inj hx).1; rw [hd] at this; cases this
  · have hxs : elems.map (·.1) = ss.map fun s => (DataW.lit (.string s) : DataW Unit) := by
      have := (Prod.mk.inj hx).1
      rw [hd] at this
      exact (DataW.slice.inj this).1.symm
    have hnl : elems.length = ss.length := by have := congrArg List.length hxs; simpa using this
    have hcell : ∀ i, (hi : i < ss.length) → ∃ b : ByteArray, w.cell? ((a.add i).add 0) = some (.string b) ∧ b.data.toList = ss[i] := by
      intro i hi
      have h5 := hget i (by omega)
      rw [hc, Nat.mul_one, List.getElem?_eq_getElem (by omega)] at h5
      obtain ⟨cc, h51, h52⟩ := Option.bind_eq_some_iff.1 h5
      have h6 : elems[i].1 = DataW.lit (.string ss[i]) := by
        have h7 : (elems.map (·.1))[i]? = (ss.map fun s => (DataW.lit (.string s) : DataW Unit))[i]? := by rw [hxs]
        rw [List.getElem?_map, List.getElem?_map, List.getElem?_eq_getElem (by omega), List.getElem?_eq_getElem hi] at h7
        simpa using h7
      obtain ⟨b, rfl, hb⟩ := trod_str (s := ss[i]) (p := elems[i].2) he (by rw [h52]; exact congrArg some (Prod.ext h6 rfl))
      refine ⟨b, ?_, hb⟩
      have h8 := (World.cells?_some h51).2.2 0 (by decide)
      simpa using h8
    have hpos : 0 < ss.length := List.length_pos_iff.2 hne
    obtain ⟨ab, ao, am⟩ := a
    have ham : am = none := by
      obtain ⟨b, hb, _⟩ := hcell 0 hpos
      unfold World.cell? at hb
      split at hb
      · cases am with
        | none => rfl
        | some _ => simp [Addr.add] at hb
      · cases hb
    subst ham
    have hcell : ∀ i, (hi : i < ss.length) → ∃ b : ByteArray, w.cell? ⟨ab, ao + i, none⟩ = some (.string b) ∧ b.data.toList = ss[i] := by
      intro i hi
      obtain ⟨b, h1, h2⟩ := hcell i hi
      rw [addr_add, addr_add, Nat.add_zero] at h1
      exact ⟨b, h1, h2⟩
    have hsz : cs = #[.slice (some ⟨ab, ao, none⟩) len cap] := by cases cs; simp_all
    refine ⟨⟨fun c hc => ?_, fun i c hc => ?_⟩, ?_⟩
    · obtain rfl := List.mem_singleton.1 hc; rfl
    · cases i with
      | succ i => simp at hc
      | zero =>
        simp at hc; subst hc
        refine ⟨.slice (some ⟨ab, ao, none⟩) len cap, by simp [World.cell?, hh, hsz], ?_⟩
        have hlen : (ss.map V.str).length = len := by simp; omega
        have hrep := Rep.sl (W := w) (G := G0 w) (φ := fun _ => none) 1 (ss.map V.str) ab ao cap (fun k => (w.cell? ⟨ab, ao + k, none⟩).getD undef) (by omega) ?_ ?_ ?_ ?_
        · rw [hlen] at hrep; exact hrep
        · obtain ⟨b, hb, _⟩ := hcell (ss.length - 1) (by omega)
          have := (cell_lt hb).2
          simp only [List.length_map, Nat.mul_one]; omega
        · intro x hx
          obtain ⟨s, _, rfl⟩ := List.mem_map.1 hx
          exact ⟨rfl, fun c hc => by obtain rfl := List.mem_singleton.1 hc; rfl⟩
        · intro k hk
          simp only [List.length_map, Nat.mul_one] at hk
          obtain ⟨b, hb, _⟩ := hcell k hk
          have hb' : w.cell? ⟨ab, ao + k, none⟩ = some (.string b) := hb
          rw [hb']; rfl
        · intro i x j c hx hj
          rw [List.getElem?_map] at hx
          obtain ⟨s, hs, rfl⟩ := Option.map_eq_some_iff.1 hx
          obtain ⟨hi, hs⟩ := List.getElem?_eq_some_iff.1 hs
          cases j with
          | succ j => simp [V.cells] at hj
          | zero =>
            simp [V.cells] at hj; subst hj
            obtain ⟨b, hb, hbs⟩ := hcell i hi
            have hb' : w.cell? ⟨ab, ao + (i * 1 + 0), none⟩ = some (.string b) := by rw [Nat.mul_one]; exact hb
            show Rep _ _ _ _ ((w.cell? ⟨ab, ao + (i * 1 + 0), none⟩).getD undef)
            rw [hb']; exact .str s b (by rw [hbs, hs])
    · simp only [G0, hh, hsz]; simp
end
/-! ## a world with tables -/
noncomputable def cxG (gls : Nat → Option (List V)) (w : World) : Cx := ⟨Tryz.prog, w, gls⟩
theorem okw_gl {gls : Nat → Option (List V)} {w W : World} {G : Nat → Nat} (h : OKW (cxG gls w) W G) : OKW (cxD w) W G := ⟨h.below, h.Glo, h.Gz⟩
theorem pc_gl {gls : Nat → Option (List V)} {w : World} {f : FuncId} {args : List V} {r : V × Bool} (h : PC (cxD w) f args r) : PC (cxG gls w) f args r := ⟨h.1, fun W G φ xs ho hr => h.2 W G φ xs (okw_gl ho) hr⟩
theorem hold_gl {gls : Nat → Option (List V)} {w : World} {c : FC} (h : c.Holds (cxD w)) : c.Holds (cxG gls w) := fun args y hr => by
  obtain ⟨v, o, h1, h2⟩ := h args y hr
  exact ⟨v, o, pc_gl h1, h2⟩
theorem gl_met {laid : List (String × DataW Unit)} {w : World} (h : laidMetH Tryz.prog laid w) (hn : (laid.filter fun x => x.2.handleName?.isSome) = []) : laidMet Tryz.prog laid w := by
  unfold laidMetH at h
  rw [hn] at h; exact h
end Go.Proofs.YtanocopjancaiaaGreatDoor
