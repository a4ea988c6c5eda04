/-
  Parts of the proof, one behind the other. Own work of this seat; some printed by its programs.
-/
import Derived.Test.YtanocopjancaiaaDoorM4
import Derived.Test.YtanocopjancaiaaDoorM3
import Derived.Test.YtanocopjancaiaaDoorCards
import Derived.Test.YtanocopjancaiaaDoorTie
import Derived.ProofKit
import Derived.OpenShut
import Derived.Deep.DeepHandedRow
import Derived.Lib.LaidTab
/-
  V1: the reader of go.mod: what its functions come to. Own work of this seat.
-/
namespace Go.Proofs.YtanocopjancaiaaDoor
open Go.Abs
set_option maxRecDepth 10000
def chars9 : Bytes := [34, 39, 96, 92, 40, 41, 44, 61, 62]
/-- texts of which strings.ContainsAny is known -/
def okC (_ : Bytes) : Bool := true
structure EnvM (e : Nat → List V → Option V) : Prop where
  split : ∀ (s : Bytes) (c : UInt8), s.length < 4294967281 → e 11 [.str s, .str [c]] = some (strs (splitOn c s))
  index : ∀ s c : Bytes, s.length < 4294967281 → e 14 [.str s, .str c] = some (I (Lib.index s c))
  fields : ∀ s : Bytes, s.length ≤ 4294967296 → e 15 [.str s, .fn 16 []] = some (strs (fldB blankB3 s []))
  cany : ∀ s : Bytes, s.length < 4294967281 → okC s = true → e 33 [.str s, .str chars9] = some (.bool (s.any fun b => chars9.contains b))
  atoi : ∀ s : Bytes, s.length ≤ 281474976710656 → e 34 [.str s] = some (atoiE (atoiV s))
  itoa : ∀ n : Int, -9223372036854775808 ≤ n → n ≤ 9223372036854775807 → e 35 [I n] = some (.str (Lib.itoa n))
variable {e : Nat → List V → Option V}
theorem v.split (he : EnvM e) (s : Bytes) (c : UInt8) (hs : s.length < 4294967281) : vl e 11 0 [.str s, .str [c]] = some (strs (splitOn c s)) := val_ext (by kernel_rfl) (he.split s c hs)
theorem v.index (he : EnvM e) (s c : Bytes) (hs : s.length < 4294967281) : vl e 14 0 [.str s, .str c] = some (I (Lib.index s c)) := val_ext (by kernel_rfl) (he.index s c hs)
theorem v.fields (he : EnvM e) (s : Bytes) (hs : s.length < 4294967281) : vl e 15 0 [.str s, .fn 16 []] = some (strs (fldB blankB3 s [])) := val_ext (by kernel_rfl) (he.fields s (by omega))
theorem v.atoi (he : EnvM e) (s : Bytes) (hs : s.length ≤ 281474976710656) : vl e 34 0 [.str s] = some (atoiE (atoiV s)) := val_ext (by kernel_rfl) (he.atoi s hs)
theorem v.itoa (he : EnvM e) (n : Int) (h0 : -9223372036854775808 ≤ n) (h1 : n ≤ 9223372036854775807) : vl e 35 0 [I n] = some (.str (Lib.itoa n)) := val_ext (by kernel_rfl) (he.itoa n h0 h1)
theorem atoi_bounds (s : Bytes) : -9223372036854775808 ≤ (atoiV s).1 ∧ (atoiV s).1 ≤ 9223372036854775807 := by
  unfold atoiV
  cases h : Lib.atoiAll s with
  | ok v => exact Lib.atoiAll_bounds h
  | «syntax» => simp
  | range => exact Lib.atoiSat_bounds s

/-! ## small functions -/
def goodB (s : Bytes) : Bool := decide (s ≠ []) && !(s.any fun b => chars9.contains b)
theorem v.good (he : EnvM e) (s : Bytes) (hs : s.length < 4294967281) (hc : okC s = true) : vl e 22 0 [.str s] = some (.bool (goodB s)) := by
  rw [w.modfile_good]; unfold y.modfile_good goodB
  have h : vl e 33 0 [.str s, .str [34, 39, 96, 92, 40, 41, 44, 61, 62]] = some (.bool (s.any fun b => chars9.contains b)) := val_ext (by kernel_rfl) (he.cany s hs hc)
  by_cases h0 : s = []
  · simp only [yy, if_pos h0, if_neg (fun h : s ≠ [] => h h0)]; simp [h0]
  · simp only [yy, if_neg h0, if_pos h0, h]; simp [h0]
def hereB (s : Bytes) : Bool := decide (s = [46]) || (decide (s = [46, 46]) || (decide (s.take 2 = [46, 47]) || decide (s.take 3 = [46, 46, 47])))
theorem v.here (s : Bytes) : vl e 36 0 [.str s] = some (.bool (hereB s)) := by
  rw [w.modfile_here]; unfold y.modfile_here hereB
  have h1 := v.hasPrefix (e := e) s [46, 47]
  have h2 := v.hasPrefix (e := e) s [46, 46, 47]
  simp only [List.length_cons, List.length_nil, Nat.zero_add, Nat.reduceAdd] at h1 h2
  simp only [yy, h1, h2]
  by_cases q1 : s = [46]
  · rw [if_pos q1]; simp [q1]
  · rw [if_neg q1]
    by_cases q2 : s = [46, 46]
    · rw [if_pos q2]; simp [q2]
    · rw [if_neg q2]
      by_cases q3 : s.take 2 = [46, 47]
      · rw [if_pos q3]; simp [q1, q2, q3]
      · rw [if_neg q3]; simp [q1, q2, q3]
def numOK (x : Bytes) : Bool := (atoiV x).2 && (decide (0 ≤ (atoiV x).1) && (decide (Lib.itoa (atoiV x).1 = x) && decide (x.length ≤ 4)))
def levelO (s : Bytes) : Int × Bool :=
  let p := splitOn 46 s
  if 2 ≤ p.length ∧ p.length ≤ 3 ∧ p.headD [] = [49] ∧ p.all numOK = true then ((atoiV (p.getD 1 [])).1, true) else (0, false)
theorem splitOn_le (c : UInt8) : ∀ s : Bytes, ∀ x ∈ splitOn c s, x.length ≤ s.length
  | [], x, hx => by simp [splitOn] at hx; simp [hx]
  | b :: r, x, hx => by
    have ih := splitOn_le c r
    unfold splitOn at hx
    split at hx
    · rcases List.mem_cons.1 hx with rfl | hx
      · simp
      · have := ih x hx; simp; omega
    · split at hx
      · simp at hx; simp [hx]
      · rename_i y ys he
        rcases List.mem_cons.1 hx with rfl | hx
        · have := ih y (by rw [he]; simp); simp; omega
        · have := ih x (by rw [he]; simp [hx]); simp; omega
theorem splitOn_num (c : UInt8) : ∀ s : Bytes, (splitOn c s).length ≤ s.length + 1
  | [] => by simp [splitOn]
  | b :: r => by
    have ih := splitOn_num c r
    unfold splitOn
    split
    · simp; omega
    · split
      · simp
      · rename_i y ys he; rw [he] at ih; simp at ih ⊢; omega
theorem v.level18 (he : EnvM e) (p : List Bytes) (h2 : 2 ≤ p.length) (h3 : p.length ≤ 3) (hx : ∀ x ∈ p, x.length ≤ 4294967281) : ∀ (n i : Nat), i + n = p.length →
    vl e 23 18 [strs p, strs p, I p.length, I i] = some (if (p.drop i).all numOK = true then .tup [I (atoiV (p.getD 1 [])).1, .bool true] else .tup [I 0, .bool false]) := by
  intro n
  induction n with
  | zero =>
    intro i hi
    rw [w.modfile_level_18]; unfold y.modfile_level_18
    have h1 : p.getD 1 [] = p[1] := by rw [List.getD, List.getElem?_eq_getElem (by omega)]; rfl
    have hat := v.atoi he p[1] (by have := hx p[1] (List.getElem_mem _); omega)
    have hg : evp (.elem 1) [strs p, .int .i64 1] = some (.str p[1]) := v_get (i := 1) h2
    simp only [yy, if_neg (show ¬ ((i : Int) < (p.length : Int)) by omega), hg, v_lds, hat, atoiE]
    rw [List.drop_eq_nil_of_le (by omega), h1]; rfl
  | succ n ih =>
    intro i hi
    have hlt : i < p.length := by omega
    rw [w.modfile_level_18]; unfold y.modfile_level_18
    rw [List.drop_eq_getElem_cons hlt, List.all_cons]
    have hxi := hx p[i] (List.getElem_mem _)
    have hat := v.atoi he p[i] (by omega)
    obtain ⟨b1, b2⟩ := atoi_bounds p[i]
    have hit := v.itoa he _ b1 b2
    have hnum : numOK p[i] = ((atoiV p[i]).2 && (decide (0 ≤ (atoiV p[i]).1) && (decide (Lib.itoa (atoiV p[i]).1 = p[i]) && decide (p[i].length ≤ 4)))) := rfl
    rw [hnum]
    generalize atoiV p[i] = z at hat hit b1 b2 ⊢
    obtain ⟨m, ok⟩ := z
    cases ok with
    | false =>
      have hn : evp (.bin .neq .iface) [errV, .nilif] = some (.bool true) := rfl
      simp only [yy, if_pos (show (i : Int) < (p.length : Int) by omega), v_get hlt, v_lds, hat, atoiE, Bool.false_eq_true, if_false, hn, Bool.false_and]
    | true =>
      have hn : evp (.bin .neq .iface) [.nilif, .nilif] = some (.bool false) := rfl
      have hih := ih (i + 1) (by omega)
      dsimp only at hit
      by_cases h0 : m < 0
      · simp only [yy, if_pos (show (i : Int) < (p.length : Int) by omega), v_get hlt, v_lds, hat, atoiE, if_true, hn, if_pos h0]
        have : ¬ (0 ≤ m) := by omega
        simp [this]
      · by_cases h1 : Lib.itoa m = p[i]
        · by_cases h4 : (4 : Int) < (p[i].length : Int)
          · simp only [yy, if_pos (show (i : Int) < (p.length : Int) by omega), v_get hlt, v_lds, hat, atoiE, if_true, hn, if_neg h0, hit, if_pos h1, if_pos h4]
            have : ¬ p[i].length ≤ 4 := by omega
            simp [this]
          · simp only [yy, if_pos (show (i : Int) < (p.length : Int) by omega), v_get hlt, v_lds, hat, atoiE, if_true, hn, if_neg h0, hit, if_pos h1, if_neg h4, next64 hlt (by omega), hih]
            have e1 : decide (0 ≤ m) = true := decide_eq_true (by omega)
            have e2 : decide (p[i].length ≤ 4) = true := decide_eq_true (by omega)
            have e3 : decide (Lib.itoa m = p[i]) = true := decide_eq_true h1
            rw [e1, e2, e3]; rfl
        · simp only [yy, if_pos (show (i : Int) < (p.length : Int) by omega), v_get hlt, v_lds, hat, atoiE, if_true, hn, if_neg h0, hit, if_neg h1]
          simp [h1]
theorem v.level (he : EnvM e) (s : Bytes) (hs : s.length < 4294967281) : vl e 23 0 [.str s] = some (.tup [I (levelO s).1, .bool (levelO s).2]) := by
  rw [w.modfile_level]; unfold y.modfile_level
  have h9 : ∀ p : List Bytes, vl e 23 9 [strs p, .bool true] = some (.tup [I 0, .bool false]) := fun p => by
    rw [w.modfile_level_9]; unfold y.modfile_level_9; simp only [yy, ]
  have hsp := v.split he s 46 hs
  have hx : ∀ x ∈ splitOn 46 s, x.length ≤ 4294967281 := fun x hx => by have := splitOn_le 46 s x hx; omega
  unfold levelO
  generalize splitOn 46 s = p at hsp hx ⊢
  dsimp only
  by_cases h2 : 2 ≤ p.length
  · by_cases h3 : p.length ≤ 3
    · obtain ⟨x, q, rfl⟩ : ∃ x q, p = x :: q := by
        cases p with
        | nil => simp at h2
        | cons x q => exact ⟨x, q, rfl⟩
      by_cases h1 : x = [49]
      · have h18 := v.level18 he (x :: q) h2 h3 hx (x :: q).length 0 (by omega)
        simp only [yy, hsp, v_lenS, if_neg (show ¬ (((x :: q).length : Int) < 2) by omega), if_neg (show ¬ (3 : Int) < ((x :: q).length : Int) by omega), v_get0, v_lds, if_pos h1]
        rw [decide_eq_true h1]
        have h9' : vl e 23 9 [strs (x :: q), .bool (!true)] = some (if (x :: q).all numOK = true then .tup [I (atoiV ((x :: q).getD 1 [])).1, .bool true] else .tup [I 0, .bool false]) := by
          rw [w.modfile_level_9]; unfold y.modfile_level_9
          simp only [yy, Bool.not_true, v_lenS]
          exact h18
        rw [h9']
        by_cases hall : (x :: q).all numOK = true
        · rw [if_pos hall, if_pos ⟨h2, h3, h1, hall⟩]
        · rw [if_neg hall, if_neg (fun h => hall h.2.2.2)]
      · simp only [yy, hsp, v_lenS, if_neg (show ¬ (((x :: q).length : Int) < 2) by omega), if_neg (show ¬ (3 : Int) < ((x :: q).length : Int) by omega), v_get0, v_lds]
        rw [decide_eq_false h1]
        rw [show (!false) = true from rfl, h9, if_neg (fun h => h1 h.2.2.1)]
    · simp only [yy, hsp, v_lenS, if_neg (show ¬ ((p.length : Int) < 2) by omega), if_pos (show (3 : Int) < (p.length : Int) by omega), h9]
      rw [if_neg (fun h => h3 h.2.1)]
  · simp only [yy, hsp, v_lenS, if_pos (show (p.length : Int) < 2 by omega), h9]
    rw [if_neg (fun h => h2 h.1)]
end Go.Proofs.YtanocopjancaiaaDoor
/-
  V2: the reader of go.mod: lines, and the whole. Own work of this seat.
-/
namespace Go.Proofs.YtanocopjancaiaaDoor
open Go.Abs
set_option maxRecDepth 10000
variable {e : Nat → List V → Option V}
structure MSt where
  path : Bytes
  level : Int
  reps : List (Bytes × Bytes)
  block : Bytes
  gone : Bool
abbrev rpV (p : Bytes × Bytes) : V := .agg [.str p.1, .str p.2]
abbrev rps (l : List (Bytes × Bytes)) : V := .sl false 2 (l.map rpV)
def mV (m : MSt) : List V := [.str m.path, I m.level, rps m.reps, I 0, .str m.block, .bool m.gone]
/-- an answer, with what is read behind it -/
def outV (r : Bool × MSt) : V := .tup [.bool r.1, .str r.2.path, I r.2.level, rps r.2.reps, I 0, .str r.2.block, .bool r.2.gone]

/-! ## replace -/
def idxA (s : Bytes) : List Bytes → Nat → Int
  | [], _ => -1
  | x :: r, i => if s = x then (i : Int) else idxA s r (i + 1)
theorem idxA_b (s : Bytes) : ∀ (l : List Bytes) (i : Nat), idxA s l i = -1 ∨ ((i : Int) ≤ idxA s l i ∧ idxA s l i < i + l.length)
  | [], i => .inl rfl
  | x :: r, i => by
    unfold idxA
    split
    · right; simp; omega
    · rcases idxA_b s r (i + 1) with h | h
      · exact .inl h
      · right; simp; omega
theorem v.idx8 (l : List Bytes) (s : Bytes) (hl : l.length ≤ 1000000000) : ∀ (n i : Nat), i + n = l.length → vl e 25 8 [strs l, .str s, I l.length, I i] = some (I (idxA s (l.drop i) i)) := by
  intro n
  induction n with
  | zero =>
    intro i hi
    rw [w.slices_Index_Lstring_string_8]; unfold y.slices_Index_Lstring_string_8
    simp only [yy, if_neg (show ¬ ((i : Int) < (l.length : Int)) by omega)]
    rw [List.drop_eq_nil_of_le (by omega)]; rfl
  | succ n ih =>
    intro i hi
    have hlt : i < l.length := by omega
    rw [w.slices_Index_Lstring_string_8]; unfold y.slices_Index_Lstring_string_8
    rw [List.drop_eq_getElem_cons hlt, idxA]
    by_cases h : s = l[i]
    · simp only [yy, if_pos (show (i : Int) < (l.length : Int) by omega), v_get hlt, v_lds, if_pos h]
    · simp only [yy, if_pos (show (i : Int) < (l.length : Int) by omega), v_get hlt, v_lds, if_neg h, next64 hlt (by omega), ih (i + 1) (by omega)]
theorem v.idx (l : List Bytes) (s : Bytes) (hl : l.length ≤ 1000000000) : vl e 25 0 [strs l, .str s] = some (I (idxA s l 0)) := by
  rw [w.slices_Index_Lstring_string]; unfold y.slices_Index_Lstring_string
  simp only [yy, v_lenS]
  exact v.idx8 l s hl l.length 0 (by omega)
theorem v_getR {l : List (Bytes × Bytes)} {i : Nat} (h : i < l.length) : evp (.elem 2) [rps l, .int .i64 i] = some (rpV l[i]) := v_elem (by simp [h])
theorem v.cf8 (l : List (Bytes × Bytes)) (ws : List Bytes) (x : Bytes) (q : List Bytes) (hw : ws = x :: q) (hl : l.length ≤ 1000000000) : ∀ (n i : Nat), i + n = l.length →
    ∃ r : Int, vl e 10752 8 [rps l, I l.length, I i, strs ws] = some (.tup [I r, strs ws]) ∧ (0 ≤ r ↔ ((l.drop i).any fun p => decide (p.1 = x)) = true) := by
  intro n
  induction n with
  | zero =>
    intro i hi
    refine ⟨-1, ?_, ?_⟩
    · rw [w.slices_IndexFunc_Lseiche_api_Replace_seiche_api_Replace_h0_8]; unfold y.slices_IndexFunc_Lseiche_api_Replace_seiche_api_Replace_h0_8
      simp only [yy, if_neg (show ¬ ((i : Int) < (l.length : Int)) by omega)]
    · rw [List.drop_eq_nil_of_le (by omega)]; simp
  | succ n ih =>
    intro i hi
    have hlt : i < l.length := by omega
    obtain ⟨r, h1, h2⟩ := ih (i + 1) (by omega)
    have e2 : evp (.ld (some 2) 0) [rpV l[i]] = some (rpV l[i]) := rfl
    have hc : vl e 10608 1 [rpV l[i], strs ws] = some (.tup [.bool (decide (l[i].1 = x)), strs ws]) := by
      rw [w.seiche_modfile_reader_replace_1_h0]; unfold y.seiche_modfile_reader_replace_1_h0
      have s1 : evp .scs [rpV l[i]] = some (rpV l[i]) := rfl
      have s2 : evp (.ld none 0) [rpV l[i]] = some (.str l[i].1) := rfl
      have s3 : evp (.ld none 0) [strs ws] = some (strs ws) := rfl
      have s4 : evp (.elem 1) [strs ws, .int .i64 0] = some (.str x) := by rw [hw]; exact v_get0
      simp only [yy, s1, s2, s3, s4, v_lds]
    rw [List.drop_eq_getElem_cons hlt, List.any_cons]
    by_cases h : l[i].1 = x
    · refine ⟨i, ?_, ?_⟩
      · rw [w.slices_IndexFunc_Lseiche_api_Replace_seiche_api_Replace_h0_8]; unfold y.slices_IndexFunc_Lseiche_api_Replace_seiche_api_Replace_h0_8
        simp only [yy, if_pos (show (i : Int) < (l.length : Int) by omega), v_getR hlt, e2, hc, if_pos h]
      · rw [decide_eq_true h]; simp
    · refine ⟨r, ?_, ?_⟩
      · rw [w.slices_IndexFunc_Lseiche_api_Replace_seiche_api_Replace_h0_8]; unfold y.slices_IndexFunc_Lseiche_api_Replace_seiche_api_Replace_h0_8
        simp only [yy, if_pos (show (i : Int) < (l.length : Int) by omega), v_getR hlt, e2, hc, if_neg h, next64 hlt (by omega), h1]
      · rw [decide_eq_false h, h2]; simp
theorem v.cf (l : List (Bytes × Bytes)) (ws : List Bytes) (x : Bytes) (q : List Bytes) (hw : ws = x :: q) (hl : l.length ≤ 1000000000) :
    vl e 10592 1 [rps l, strs ws] = some (.tup [.bool (l.any fun p => decide (p.1 = x)), strs ws]) := by
  obtain ⟨r, h1, h2⟩ := v.cf8 (e := e) l ws x q hw hl l.length 0 (by omega)
  rw [List.drop_zero] at h2
  have hi : vl e 10752 1 [rps l, strs ws] = some (.tup [I r, strs ws]) := by
    rw [w.slices_IndexFunc_Lseiche_api_Replace_seiche_api_Replace_h0]; unfold y.slices_IndexFunc_Lseiche_api_Replace_seiche_api_Replace_h0
    simp only [yy, List.length_map]; exact h1
  rw [w.slices_ContainsFunc_Lseiche_api_Replace_seiche_api_Replace_h0]; unfold y.slices_ContainsFunc_Lseiche_api_Replace_seiche_api_Replace_h0
  simp only [yy, hi]
  cases h : l.any fun p => decide (p.1 = x)
  · rw [h] at h2; rw [decide_eq_false (fun h' => absurd (h2.1 h') (by decide))]
  · rw [h] at h2; rw [decide_eq_true (h2.2 rfl)]
def repB (ws : List Bytes) (m : MSt) : Bool × MSt :=
  let a := idxA [61, 62] ws 0
  let tw := ws.drop (a + 1).toNat
  if a < 1 ∨ 2 < a ∨ tw.length < 1 ∨ 2 < tw.length ∨ goodB (ws.headD []) = false then (false, m)
  else if hereB (tw.headD []) = false then (true, m)
  else if 1 < tw.length then (false, m)
  else if (m.reps.any fun p => decide (p.1 = ws.headD [])) = true then (false, m)
  else (true, { m with reps := m.reps ++ [(ws.headD [], tw.headD [])] })
theorem v.rep11 (m : MSt) (ws tw : List Bytes) (x : Bytes) (q : List Bytes) (hw : ws = x :: q) (hr : m.reps.length ≤ 1000000) (y0 : Bytes) (r0 : List Bytes) (ht : tw = y0 :: r0) :
    vl e 10384 11 [strs tw, .bool false, .str m.path, I m.level, rps m.reps, I 0, .str m.block, .bool m.gone, strs ws] = some (outV
      (if hereB y0 = false then (true, m) else if 1 < tw.length then (false, m) else if (m.reps.any fun p => decide (p.1 = x)) = true then (false, m) else (true, { m with reps := m.reps ++ [(x, y0)] }))) := by
  rw [w.seiche_modfile_reader_replace_h0_11]; unfold y.seiche_modfile_reader_replace_h0_11
  have g0 : evp (.elem 1) [strs tw, .int .i64 0] = some (.str y0) := by rw [ht]; exact v_get0
  have hc := v.cf (e := e) m.reps ws x q hw (by omega)
  have s3 : evp (.ld none 0) [strs ws] = some (strs ws) := rfl
  have s4 : evp (.elem 1) [strs ws, .int .i64 0] = some (.str x) := by rw [hw]; exact v_get0
  have c1 : evp (.cat [none, none]) [.str x, .str y0] = some (rpV (x, y0)) := rfl
  have c2 : evp (.bsl 2) [rpV (x, y0)] = some (rps [(x, y0)]) := rfl
  have c3 : evp (.app 2) [rps m.reps, rps [(x, y0)]] = some (rps (m.reps ++ [(x, y0)])) := by
    rw [rps, v_app (by simp [Lim]; omega)]; simp
  simp only [yy, g0, v_lds, v.here]
  cases hh : hereB y0 with
  | false => simp; rfl
  | true =>
    by_cases h1 : (1 : Int) < (tw.length : Int)
    · rw [if_neg (show ¬ (true = false) by decide), if_pos (show 1 < tw.length by omega)]
      simp only [Bool.not_true, vif_f]
      simp only [yy, v_lenS, if_pos h1]; rfl
    · rw [if_neg (show ¬ (true = false) by decide), if_neg (show ¬ 1 < tw.length by omega)]
      simp only [Bool.not_true, vif_f]
      simp only [yy, v_lenS, if_neg h1, hc]
      cases ha : m.reps.any fun p => decide (p.1 = x) with
      | true => simp; rfl
      | false => simp only [Bool.false_eq_true, if_false, vif_f]; simp only [yy, s3, s4, v_lds, g0, c1, c2, c3]; rfl
theorem v.rep (he : EnvM e) (m : MSt) (ws : List Bytes) (hl : ws.length ≤ 1000000) (hr : m.reps.length ≤ 1000000) (hb : ∀ x ∈ ws, x.length < 4294967281 ∧ okC x = true) :
    vl e 10384 1 (strs ws :: mV m) = some (outV (repB ws m)) := by
  show vl e 10384 1 [strs ws, .str m.path, I m.level, rps m.reps, I 0, .str m.block, .bool m.gone] = _
  rw [w.seiche_modfile_reader_replace_h0]; unfold y.seiche_modfile_reader_replace_h0 repB
  have s1 : evp .scs [strs ws] = some (strs ws) := rfl
  have s3 : evp (.ld none 0) [strs ws] = some (strs ws) := rfl
  have hi := v.idx (e := e) ws [61, 62] (by omega)
  have hbd := idxA_b [61, 62] ws 0
  generalize hA : idxA [61, 62] ws 0 = a at hi hbd
  have hw : IntKind.i64.wrap (a + 1) = (((a + 1).toNat : Nat) : Int) := by
    rw [show a + 1 = (((a + 1).toNat : Nat) : Int) by omega]
    exact w64 _ (by omega)
  have hs : evp (.slc 1 true false false) [strs ws, .int .i64 (((a + 1).toNat : Nat) : Int)] = some (strs (ws.drop (a + 1).toNat)) := by
    rw [strs, v_slcD (by simp; omega)]; simp [List.map_drop]
  have bad : ∀ tw : List Bytes, vl e 10384 11 [strs tw, .bool true, .str m.path, I m.level, rps m.reps, I 0, .str m.block, .bool m.gone, strs ws] = some (outV (false, m)) := fun tw => by
    rw [w.seiche_modfile_reader_replace_h0_11]; unfold y.seiche_modfile_reader_replace_h0_11; simp only [yy, ]; rfl
  dsimp only
  generalize hto : ws.drop (a + 1).toNat = tw at hs
  by_cases h1 : a < 1
  · simp only [yy, s1, s3, hi, hw, hs, if_pos h1, bad]
    rw [if_pos (.inl h1)]
  · by_cases h2 : 2 < a
    · simp only [yy, s1, s3, hi, hw, hs, if_neg h1, if_pos h2, bad]
      rw [if_pos (.inr (.inl h2))]
    · by_cases h3 : (tw.length : Int) < 1
      · simp only [yy, s1, s3, hi, hw, hs, if_neg h1, if_neg h2, v_lenS, if_pos h3, bad]
        rw [if_pos (.inr (.inr (.inl (by omega))))]
      · by_cases h4 : (2 : Int) < (tw.length : Int)
        · simp only [yy, s1, s3, hi, hw, hs, if_neg h1, if_neg h2, v_lenS, if_neg h3, if_pos h4, bad]
          rw [if_pos (.inr (.inr (.inr (.inl (by omega)))))]
        · obtain ⟨x, q, rfl⟩ : ∃ x q, ws = x :: q := by
            cases ws with
            | nil =>
              rcases hbd with h | h
              · omega
              · simp at h; omega
            | cons x q => exact ⟨x, q, rfl⟩
          obtain ⟨y0, r0, rfl⟩ : ∃ y r, tw = y :: r := by
            cases tw with
            | nil => simp at h3
            | cons x q => exact ⟨x, q, rfl⟩
          obtain ⟨hx1, hx2⟩ := hb x (by simp)
          have hg := v.good he x hx1 hx2
          have h11 := v.rep11 (e := e) m (x :: q) (y0 :: r0) x q rfl hr y0 r0 rfl
          simp only [yy, s1, s3, hi, hw, hs, if_neg h1, if_neg h2, v_lenS, if_neg h3, if_neg h4, v_get0, v_lds, hg]
          simp only [List.headD_cons]
          by_cases hgb : goodB x = true
          · have hno : ¬ (a < 1 ∨ 2 < a ∨ (y0 :: r0).length < 1 ∨ 2 < (y0 :: r0).length ∨ goodB x = false) := by
              rintro (h | h | h | h | h)
              · exact h1 h
              · exact h2 h
              · exact h3 (by omega)
              · exact h4 (by omega)
              · rw [hgb] at h; cases h
            have hn : (!goodB x) = false := by rw [hgb]; rfl
            rw [hn, h11]
            exact congrArg (fun z => some (outV z)) (if_neg hno).symm
          · have hf : goodB x = false := by simpa using hgb
            have hn : (!goodB x) = true := by rw [hf]; rfl
            rw [hn, bad]
            exact congrArg (fun z => some (outV z)) (if_pos (.inr (.inr (.inr (.inr hf))))).symm

/-! ## a verb -/
def words4 : List Bytes := [[114, 101, 113, 117, 105, 114, 101], [101, 120, 99, 108, 117, 100, 101], [114, 101, 116, 114, 97, 99, 116], [116, 111, 111, 108, 99, 104, 97, 105, 110]]
def verbB (b : Bytes) (ws : List Bytes) (m : MSt) : Bool × MSt :=
  if b = [109, 111, 100, 117, 108, 101] then
    (if ws.length = 1 ∧ goodB (ws.headD []) = true ∧ m.path = [] then (true, { m with path := ws.headD [] }) else (false, m))
  else if b = [103, 111] then
    (if ws.length ≠ 1 then (false, m) else if m.gone = true then (false, m) else ((levelO (ws.headD [])).2, { m with level := (levelO (ws.headD [])).1, gone := true }))
  else if b = [114, 101, 112, 108, 97, 99, 101] then repB ws m
  else if b = [114, 101, 113, 117, 105, 114, 101] ∨ b = [101, 120, 99, 108, 117, 100, 101] ∨ b = [114, 101, 116, 114, 97, 99, 116] ∨ b = [116, 111, 111, 108, 99, 104, 97, 105, 110] then (decide (0 < ws.length), m)
  else (false, m)
theorem v.verb (he : EnvM e) (m : MSt) (b : Bytes) (ws : List Bytes) (hl : ws.length ≤ 1000000) (hr : m.reps.length ≤ 1000000) (hb : ∀ x ∈ ws, x.length < 4294967281 ∧ okC x = true) :
    vl e 10272 1 (.str b :: strs ws :: mV m) = some (outV (verbB b ws m)) := by
  show vl e 10272 1 [.str b, strs ws, .str m.path, I m.level, rps m.reps, I 0, .str m.block, .bool m.gone] = _
  rw [w.seiche_modfile_reader_verb_h0]; unfold y.seiche_modfile_reader_verb_h0 verbB
  by_cases b1 : b = [109, 111, 100, 117, 108, 101]
  · rw [if_pos b1]
    by_cases h1 : (ws.length : Int) = 1
    · obtain ⟨x, rfl⟩ : ∃ x, ws = [x] := by
        match ws, h1 with
        | [x], _ => exact ⟨x, rfl⟩
        | [], h => simp at h
        | _ :: _ :: _, h => simp at h; omega
      obtain ⟨hx1, hx2⟩ := hb x (by simp)
      have hg := v.good he x hx1 hx2
      have g0 : evp (.elem 1) [strs [x], .int .i64 0] = some (.str x) := v_get0
      have hsc : evp .sc [.str x] = some (.str x) := rfl
      simp only [yy, if_pos b1, v_lenS, if_pos h1, g0, v_lds, hg]
      rw [List.headD_cons]
      cases hgb : goodB x with
      | false => simp; rfl
      | true =>
        by_cases hp : m.path = []
        · simp only [Bool.not_true, vif_f, if_pos hp, hsc, Option.bind_some]
          rw [if_pos ⟨rfl, trivial, hp⟩]; rfl
        · simp only [Bool.not_true, vif_f, if_neg hp]
          rw [if_neg (fun h => hp h.2.2)]; rfl
    · simp only [yy, if_pos b1, v_lenS, if_neg h1]
      rw [if_neg (fun h => h1 (by omega))]; rfl
  · rw [if_neg b1]
    by_cases b2 : b = [103, 111]
    · rw [if_pos b2]
      by_cases h1 : (ws.length : Int) = 1
      · obtain ⟨x, rfl⟩ : ∃ x, ws = [x] := by
          match ws, h1 with
          | [x], _ => exact ⟨x, rfl⟩
          | [], h => simp at h
          | _ :: _ :: _, h => simp at h; omega
        obtain ⟨hx1, hx2⟩ := hb x (by simp)
        have hg := v.level he x hx1
        have g0 : evp (.elem 1) [strs [x], .int .i64 0] = some (.str x) := v_get0
        have hsc : ∀ n : Int, evp .sc [I n] = some (I n) := fun _ => rfl
        rw [if_neg (show ¬ ([x] : List Bytes).length ≠ 1 by simp), List.headD_cons]
        simp only [yy, if_neg b1, if_pos b2, v_lenS, if_pos h1]
        cases hgo : m.gone with
        | true => rw [if_pos rfl]; simp only [vif_t]; unfold outV; rw [hgo]
        | false => rw [if_neg (by decide)]; simp only [vif_f]; simp only [yy, g0, v_lds, hg, hsc]; rfl
      · rw [if_pos (fun h : ws.length = 1 => h1 (by omega))]
        simp only [yy, if_neg b1, if_pos b2, v_lenS, if_neg h1]; rfl
    · rw [if_neg b2]
      by_cases b3 : b = [114, 101, 112, 108, 97, 99, 101]
      · rw [if_pos b3]
        have hrp : vl e 10384 1 [strs ws, .str m.path, I m.level, rps m.reps, I 0, .str m.block, .bool m.gone] = _ := v.rep he m ws hl hr hb
        simp only [yy, if_neg b1, if_neg b2, if_pos b3, hrp, outV]
      · rw [if_neg b3]
        by_cases b4 : b = [114, 101, 113, 117, 105, 114, 101]
        · rw [if_pos (.inl b4)]
          simp only [yy, if_neg b1, if_neg b2, if_neg b3, if_pos b4, v_lenS]
          have : decide ((0 : Int) < (ws.length : Int)) = decide (0 < ws.length) := by rw [decide_eq_decide]; omega
          rw [this]; rfl
        · by_cases b5 : b = [101, 120, 99, 108, 117, 100, 101]
          · rw [if_pos (.inr (.inl b5))]
            simp only [yy, if_neg b1, if_neg b2, if_neg b3, if_neg b4, if_pos b5, v_lenS]
            have : decide ((0 : Int) < (ws.length : Int)) = decide (0 < ws.length) := by rw [decide_eq_decide]; omega
            rw [this]; rfl
          · by_cases b6 : b = [114, 101, 116, 114, 97, 99, 116]
            · rw [if_pos (.inr (.inr (.inl b6)))]
              simp only [yy, if_neg b1, if_neg b2, if_neg b3, if_neg b4, if_neg b5, if_pos b6, v_lenS]
              have : decide ((0 : Int) < (ws.length : Int)) = decide (0 < ws.length) := by rw [decide_eq_decide]; omega
              rw [this]; rfl
            · by_cases b7 : b = [116, 111, 111, 108, 99, 104, 97, 105, 110]
              · rw [if_pos (.inr (.inr (.inr b7)))]
                simp only [yy, if_neg b1, if_neg b2, if_neg b3, if_neg b4, if_neg b5, if_neg b6, if_pos b7, v_lenS]
                have : decide ((0 : Int) < (ws.length : Int)) = decide (0 < ws.length) := by rw [decide_eq_decide]; omega
                rw [this]; rfl
              · rw [if_neg (by simp [b4, b5, b6, b7])]
                simp only [yy, if_neg b1, if_neg b2, if_neg b3, if_neg b4, if_neg b5, if_neg b6, if_neg b7]; rfl
end Go.Proofs.YtanocopjancaiaaDoor
/-
  Y, part 13: what a function comes to at given values, by computation: functions in a table, rounds of calls. Own work of this seat.
-/
namespace Go.Abs
variable {P : Program} {tabs : List FE} {ow : Cfg}
structure Ent (P : Program) (tabs : List FE) (ow : Cfg) where
  f : Nat
  l : Nat
  g : Gam → List V → Option V
  ok : ∀ (e : Nat → List V → Option V) (Γ : Gam) (xs : List V) (r : V), g Γ xs = some r → Go.Abs.step P tabs e ow Γ f l xs = some r
/-! functions of n values -/
section
variable {f l : Nat}
def ar0 (a : Gam → Option V) : Gam → List V → Option V := fun Γ xs => match xs with | [] => a Γ  | _ => none
theorem ok0 {a : Gam → Option V} (h : ∀ (e : Nat → List V → Option V) (Γ : Gam), Go.Abs.step P tabs e ow Γ f l [] = a Γ ) (e : Nat → List V → Option V) (Γ : Gam) (xs : List V) (r : V) (hr : ar0 a Γ xs = some r) : Go.Abs.step P tabs e ow Γ f l xs = some r := by
  unfold ar0 at hr
  split at hr
  · rw [h]; exact hr
  · cases hr
def ar1 (a : Gam → V → Option V) : Gam → List V → Option V := fun Γ xs => match xs with | [v0] => a Γ v0 | _ => none
theorem ok1 {a : Gam → V → Option V} (h : ∀ (e : Nat → List V → Option V) (Γ : Gam) (v0 : V), Go.Abs.step P tabs e ow Γ f l [v0] = a Γ v0) (e : Nat → List V → Option V) (Γ : Gam) (xs : List V) (r : V) (hr : ar1 a Γ xs = some r) : Go.Abs.step P tabs e ow Γ f l xs = some r := by
  unfold ar1 at hr
  split at hr
  · rw [h]; exact hr
  · cases hr
def ar2 (a : Gam → V → V → Option V) : Gam → List V → Option V := fun Γ xs => match xs with | [v0, v1] => a Γ v0 v1 | _ => none
theorem ok2 {a : Gam → V → V → Option V} (h : ∀ (e : Nat → List V → Option V) (Γ : Gam) (v0 v1 : V), Go.Abs.step P tabs e ow Γ f l [v0, v1] = a Γ v0 v1) (e : Nat → List V → Option V) (Γ : Gam) (xs : List V) (r : V) (hr : ar2 a Γ xs = some r) : Go.Abs.step P tabs e ow Γ f l xs = some r := by
  unfold ar2 at hr
  split at hr
  · rw [h]; exact hr
  · cases hr
def ar3 (a : Gam → V → V → V → Option V) : Gam → List V → Option V := fun Γ xs => match xs with | [v0, v1, v2] => a Γ v0 v1 v2 | _ => none
theorem ok3 {a : Gam → V → V → V → Option V} (h : ∀ (e : Nat → List V → Option V) (Γ : Gam) (v0 v1 v2 : V), Go.Abs.step P tabs e ow Γ f l [v0, v1, v2] = a Γ v0 v1 v2) (e : Nat → List V → Option V) (Γ : Gam) (xs : List V) (r : V) (hr : ar3 a Γ xs = some r) : Go.Abs.step P tabs e ow Γ f l xs = some r := by
  unfold ar3 at hr
  split at hr
  · rw [h]; exact hr
  · cases hr
def ar4 (a : Gam → V → V → V → V → Option V) : Gam → List V → Option V := fun Γ xs => match xs with | [v0, v1, v2, v3] => a Γ v0 v1 v2 v3 | _ => none
theorem ok4 {a : Gam → V → V → V → V → Option V} (h : ∀ (e : Nat → List V → Option V) (Γ : Gam) (v0 v1 v2 v3 : V), Go.Abs.step P tabs e ow Γ f l [v0, v1, v2, v3] = a Γ v0 v1 v2 v3) (e : Nat → List V → Option V) (Γ : Gam) (xs : List V) (r : V) (hr : ar4 a Γ xs = some r) : Go.Abs.step P tabs e ow Γ f l xs = some r := by
  unfold ar4 at hr
  split at hr
  · rw [h]; exact hr
  · cases hr
def ar5 (a : Gam → V → V → V → V → V → Option V) : Gam → List V → Option V := fun Γ xs => match xs with | [v0, v1, v2, v3, v4] => a Γ v0 v1 v2 v3 v4 | _ => none
theorem ok5 {a : Gam → V → V → V → V → V → Option V} (h : ∀ (e : Nat → List V → Option V) (Γ : Gam) (v0 v1 v2 v3 v4 : V), Go.Abs.step P tabs e ow Γ f l [v0, v1, v2, v3, v4] = a Γ v0 v1 v2 v3 v4) (e : Nat → List V → Option V) (Γ : Gam) (xs : List V) (r : V) (hr : ar5 a Γ xs = some r) : Go.Abs.step P tabs e ow Γ f l xs = some r := by
  unfold ar5 at hr
  split at hr
  · rw [h]; exact hr
  · cases hr
def ar6 (a : Gam → V → V → V → V → V → V → Option V) : Gam → List V → Option V := fun Γ xs => match xs with | [v0, v1, v2, v3, v4, v5] => a Γ v0 v1 v2 v3 v4 v5 | _ => none
theorem ok6 {a : Gam → V → V → V → V → V → V → Option V} (h : ∀ (e : Nat → List V → Option V) (Γ : Gam) (v0 v1 v2 v3 v4 v5 : V), Go.Abs.step P tabs e ow Γ f l [v0, v1, v2, v3, v4, v5] = a Γ v0 v1 v2 v3 v4 v5) (e : Nat → List V → Option V) (Γ : Gam) (xs : List V) (r : V) (hr : ar6 a Γ xs = some r) : Go.Abs.step P tabs e ow Γ f l xs = some r := by
  unfold ar6 at hr
  split at hr
  · rw [h]; exact hr
  · cases hr
def ar7 (a : Gam → V → V → V → V → V → V → V → Option V) : Gam → List V → Option V := fun Γ xs => match xs with | [v0, v1, v2, v3, v4, v5, v6] => a Γ v0 v1 v2 v3 v4 v5 v6 | _ => none
theorem ok7 {a : Gam → V → V → V → V → V → V → V → Option V} (h : ∀ (e : Nat → List V → Option V) (Γ : Gam) (v0 v1 v2 v3 v4 v5 v6 : V), Go.Abs.step P tabs e ow Γ f l [v0, v1, v2, v3, v4, v5, v6] = a Γ v0 v1 v2 v3 v4 v5 v6) (e : Nat → List V → Option V) (Γ : Gam) (xs : List V) (r : V) (hr : ar7 a Γ xs = some r) : Go.Abs.step P tabs e ow Γ f l xs = some r := by
  unfold ar7 at hr
  split at hr
  · rw [h]; exact hr
  · cases hr
def ar8 (a : Gam → V → V → V → V → V → V → V → V → Option V) : Gam → List V → Option V := fun Γ xs => match xs with | [v0, v1, v2, v3, v4, v5, v6, v7] => a Γ v0 v1 v2 v3 v4 v5 v6 v7 | _ => none
theorem ok8 {a : Gam → V → V → V → V → V → V → V → V → Option V} (h : ∀ (e : Nat → List V → Option V) (Γ : Gam) (v0 v1 v2 v3 v4 v5 v6 v7 : V), Go.Abs.step P tabs e ow Γ f l [v0, v1, v2, v3, v4, v5, v6, v7] = a Γ v0 v1 v2 v3 v4 v5 v6 v7) (e : Nat → List V → Option V) (Γ : Gam) (xs : List V) (r : V) (hr : ar8 a Γ xs = some r) : Go.Abs.step P tabs e ow Γ f l xs = some r := by
  unfold ar8 at hr
  split at hr
  · rw [h]; exact hr
  · cases hr
def ar9 (a : Gam → V → V → V → V → V → V → V → V → V → Option V) : Gam → List V → Option V := fun Γ xs => match xs with | [v0, v1, v2, v3, v4, v5, v6, v7, v8] => a Γ v0 v1 v2 v3 v4 v5 v6 v7 v8 | _ => none
theorem ok9 {a : Gam → V → V → V → V → V → V → V → V → V → Option V} (h : ∀ (e : Nat → List V → Option V) (Γ : Gam) (v0 v1 v2 v3 v4 v5 v6 v7 v8 : V), Go.Abs.step P tabs e ow Γ f l [v0, v1, v2, v3, v4, v5, v6, v7, v8] = a Γ v0 v1 v2 v3 v4 v5 v6 v7 v8) (e : Nat → List V → Option V) (Γ : Gam) (xs : List V) (r : V) (hr : ar9 a Γ xs = some r) : Go.Abs.step P tabs e ow Γ f l xs = some r := by
  unfold ar9 at hr
  split at hr
  · rw [h]; exact hr
  · cases hr
def ar10 (a : Gam → V → V → V → V → V → V → V → V → V → V → Option V) : Gam → List V → Option V := fun Γ xs => match xs with | [v0, v1, v2, v3, v4, v5, v6, v7, v8, v9] => a Γ v0 v1 v2 v3 v4 v5 v6 v7 v8 v9 | _ => none
theorem ok10 {a : Gam → V → V → V → V → V → V → V → V → V → V → Option V} (h : ∀ (e : Nat → List V → Option V) (Γ : Gam) (v0 v1 v2 v3 v4 v5 v6 v7 v8 v9 : V), Go.Abs.step P tabs e ow Γ f l [v0, v1, v2, v3, v4, v5, v6, v7, v8, v9] = a Γ v0 v1 v2 v3 v4 v5 v6 v7 v8 v9) (e : Nat → List V → Option V) (Γ : Gam) (xs : List V) (r : V) (hr : ar10 a Γ xs = some r) : Go.Abs.step P tabs e ow Γ f l xs = some r := by
  unfold ar10 at hr
  split at hr
  · rw [h]; exact hr
  · cases hr
def ar11 (a : Gam → V → V → V → V → V → V → V → V → V → V → V → Option V) : Gam → List V → Option V := fun Γ xs => match xs with | [v0, v1, v2, v3, v4, v5, v6, v7, v8, v9, v10] => a Γ v0 v1 v2 v3 v4 v5 v6 v7 v8 v9 v10 | _ => none
theorem ok11 {a : Gam → V → V → V → V → V → V → V → V → V → V → V → Option V} (h : ∀ (e : Nat → List V → Option V) (Γ : Gam) (v0 v1 v2 v3 v4 v5 v6 v7 v8 v9 v10 : V), Go.Abs.step P tabs e ow Γ f l [v0, v1, v2, v3, v4, v5, v6, v7, v8, v9, v10] = a Γ v0 v1 v2 v3 v4 v5 v6 v7 v8 v9 v10) (e : Nat → List V → Option V) (Γ : Gam) (xs : List V) (r : V) (hr : ar11 a Γ xs = some r) : Go.Abs.step P tabs e ow Γ f l xs = some r := by
  unfold ar11 at hr
  split at hr
  · rw [h]; exact hr
  · cases hr
def ar12 (a : Gam → V → V → V → V → V → V → V → V → V → V → V → V → Option V) : Gam → List V → Option V := fun Γ xs => match xs with | [v0, v1, v2, v3, v4, v5, v6, v7, v8, v9, v10, v11] => a Γ v0 v1 v2 v3 v4 v5 v6 v7 v8 v9 v10 v11 | _ => none
theorem ok12 {a : Gam → V → V → V → V → V → V → V → V → V → V → V → V → Option V} (h : ∀ (e : Nat → List V → Option V) (Γ : Gam) (v0 v1 v2 v3 v4 v5 v6 v7 v8 v9 v10 v11 : V), Go.Abs.step P tabs e ow Γ f l [v0, v1, v2, v3, v4, v5, v6, v7, v8, v9, v10, v11] = a Γ v0 v1 v2 v3 v4 v5 v6 v7 v8 v9 v10 v11) (e : Nat → List V → Option V) (Γ : Gam) (xs : List V) (r : V) (hr : ar12 a Γ xs = some r) : Go.Abs.step P tabs e ow Γ f l xs = some r := by
  unfold ar12 at hr
  split at hr
  · rw [h]; exact hr
  · cases hr
def ar13 (a : Gam → V → V → V → V → V → V → V → V → V → V → V → V → V → Option V) : Gam → List V → Option V := fun Γ xs => match xs with | [v0, v1, v2, v3, v4, v5, v6, v7, v8, v9, v10, v11, v12] => a Γ v0 v1 v2 v3 v4 v5 v6 v7 v8 v9 v10 v11 v12 | _ => none
theorem ok13 {a : Gam → V → V → V → V → V → V → V → V → V → V → V → V → V → Option V} (h : ∀ (e : Nat → List V → Option V) (Γ : Gam) (v0 v1 v2 v3 v4 v5 v6 v7 v8 v9 v10 v11 v12 : V), Go.Abs.step P tabs e ow Γ f l [v0, v1, v2, v3, v4, v5, v6, v7, v8, v9, v10, v11, v12] = a Γ v0 v1 v2 v3 v4 v5 v6 v7 v8 v9 v10 v11 v12) (e : Nat → List V → Option V) (Γ : Gam) (xs : List V) (r : V) (hr : ar13 a Γ xs = some r) : Go.Abs.step P tabs e ow Γ f l xs = some r := by
  unfold ar13 at hr
  split at hr
  · rw [h]; exact hr
  · cases hr
def ar14 (a : Gam → V → V → V → V → V → V → V → V → V → V → V → V → V → V → Option V) : Gam → List V → Option V := fun Γ xs => match xs with | [v0, v1, v2, v3, v4, v5, v6, v7, v8, v9, v10, v11, v12, v13] => a Γ v0 v1 v2 v3 v4 v5 v6 v7 v8 v9 v10 v11 v12 v13 | _ => none
theorem ok14 {a : Gam → V → V → V → V → V → V → V → V → V → V → V → V → V → V → Option V} (h : ∀ (e : Nat → List V → Option V) (Γ : Gam) (v0 v1 v2 v3 v4 v5 v6 v7 v8 v9 v10 v11 v12 v13 : V), Go.Abs.step P tabs e ow Γ f l [v0, v1, v2, v3, v4, v5, v6, v7, v8, v9, v10, v11, v12, v13] = a Γ v0 v1 v2 v3 v4 v5 v6 v7 v8 v9 v10 v11 v12 v13) (e : Nat → List V → Option V) (Γ : Gam) (xs : List V) (r : V) (hr : ar14 a Γ xs = some r) : Go.Abs.step P tabs e ow Γ f l xs = some r := by
  unfold ar14 at hr
  split at hr
  · rw [h]; exact hr
  · cases hr
def ar15 (a : Gam → V → V → V → V → V → V → V → V → V → V → V → V → V → V → V → Option V) : Gam → List V → Option V := fun Γ xs => match xs with | [v0, v1, v2, v3, v4, v5, v6, v7, v8, v9, v10, v11, v12, v13, v14] => a Γ v0 v1 v2 v3 v4 v5 v6 v7 v8 v9 v10 v11 v12 v13 v14 | _ => none
theorem ok15 {a : Gam → V → V → V → V → V → V → V → V → V → V → V → V → V → V → V → Option V} (h : ∀ (e : Nat → List V → Option V) (Γ : Gam) (v0 v1 v2 v3 v4 v5 v6 v7 v8 v9 v10 v11 v12 v13 v14 : V), Go.Abs.step P tabs e ow Γ f l [v0, v1, v2, v3, v4, v5, v6, v7, v8, v9, v10, v11, v12, v13, v14] = a Γ v0 v1 v2 v3 v4 v5 v6 v7 v8 v9 v10 v11 v12 v13 v14) (e : Nat → List V → Option V) (Γ : Gam) (xs : List V) (r : V) (hr : ar15 a Γ xs = some r) : Go.Abs.step P tabs e ow Γ f l xs = some r := by
  unfold ar15 at hr
  split at hr
  · rw [h]; exact hr
  · cases hr
def ar16 (a : Gam → V → V → V → V → V → V → V → V → V → V → V → V → V → V → V → V → Option V) : Gam → List V → Option V := fun Γ xs => match xs with | [v0, v1, v2, v3, v4, v5, v6, v7, v8, v9, v10, v11, v12, v13, v14, v15] => a Γ v0 v1 v2 v3 v4 v5 v6 v7 v8 v9 v10 v11 v12 v13 v14 v15 | _ => none
theorem ok16 {a : Gam → V → V → V → V → V → V → V → V → V → V → V → V → V → V → V → V → Option V} (h : ∀ (e : Nat → List V → Option V) (Γ : Gam) (v0 v1 v2 v3 v4 v5 v6 v7 v8 v9 v10 v11 v12 v13 v14 v15 : V), Go.Abs.step P tabs e ow Γ f l [v0, v1, v2, v3, v4, v5, v6, v7, v8, v9, v10, v11, v12, v13, v14, v15] = a Γ v0 v1 v2 v3 v4 v5 v6 v7 v8 v9 v10 v11 v12 v13 v14 v15) (e : Nat → List V → Option V) (Γ : Gam) (xs : List V) (r : V) (hr : ar16 a Γ xs = some r) : Go.Abs.step P tabs e ow Γ f l xs = some r := by
  unfold ar16 at hr
  split at hr
  · rw [h]; exact hr
  · cases hr
def ar17 (a : Gam → V → V → V → V → V → V → V → V → V → V → V → V → V → V → V → V → V → Option V) : Gam → List V → Option V := fun Γ xs => match xs with | [v0, v1, v2, v3, v4, v5, v6, v7, v8, v9, v10, v11, v12, v13, v14, v15, v16] => a Γ v0 v1 v2 v3 v4 v5 v6 v7 v8 v9 v10 v11 v12 v13 v14 v15 v16 | _ => none
theorem ok17 {a : Gam → V → V → V → V → V → V → V → V → V → V → V → V → V → V → V → V → V → Option V} (h : ∀ (e : Nat → List V → Option V) (Γ : Gam) (v0 v1 v2 v3 v4 v5 v6 v7 v8 v9 v10 v11 v12 v13 v14 v15 v16 : V), Go.Abs.step P tabs e ow Γ f l [v0, v1, v2, v3, v4, v5, v6, v7, v8, v9, v10, v11, v12, v13, v14, v15, v16] = a Γ v0 v1 v2 v3 v4 v5 v6 v7 v8 v9 v10 v11 v12 v13 v14 v15 v16) (e : Nat → List V → Option V) (Γ : Gam) (xs : List V) (r : V) (hr : ar17 a Γ xs = some r) : Go.Abs.step P tabs e ow Γ f l xs = some r := by
  unfold ar17 at hr
  split at hr
  · rw [h]; exact hr
  · cases hr
def ar18 (a : Gam → V → V → V → V → V → V → V → V → V → V → V → V → V → V → V → V → V → V → Option V) : Gam → List V → Option V := fun Γ xs => match xs with | [v0, v1, v2, v3, v4, v5, v6, v7, v8, v9, v10, v11, v12, v13, v14, v15, v16, v17] => a Γ v0 v1 v2 v3 v4 v5 v6 v7 v8 v9 v10 v11 v12 v13 v14 v15 v16 v17 | _ => none
theorem ok18 {a : Gam → V → V → V → V → V → V → V → V → V → V → V → V → V → V → V → V → V → V → Option V} (h : ∀ (e : Nat → List V → Option V) (Γ : Gam) (v0 v1 v2 v3 v4 v5 v6 v7 v8 v9 v10 v11 v12 v13 v14 v15 v16 v17 : V), Go.Abs.step P tabs e ow Γ f l [v0, v1, v2, v3, v4, v5, v6, v7, v8, v9, v10, v11, v12, v13, v14, v15, v16, v17] = a Γ v0 v1 v2 v3 v4 v5 v6 v7 v8 v9 v10 v11 v12 v13 v14 v15 v16 v17) (e : Nat → List V → Option V) (Γ : Gam) (xs : List V) (r : V) (hr : ar18 a Γ xs = some r) : Go.Abs.step P tabs e ow Γ f l xs = some r := by
  unfold ar18 at hr
  split at hr
  · rw [h]; exact hr
  · cases hr
def ar19 (a : Gam → V → V → V → V → V → V → V → V → V → V → V → V → V → V → V → V → V → V → V → Option V) : Gam → List V → Option V := fun Γ xs => match xs with | [v0, v1, v2, v3, v4, v5, v6, v7, v8, v9, v10, v11, v12, v13, v14, v15, v16, v17, v18] => a Γ v0 v1 v2 v3 v4 v5 v6 v7 v8 v9 v10 v11 v12 v13 v14 v15 v16 v17 v18 | _ => none
theorem ok19 {a : Gam → V → V → V → V → V → V → V → V → V → V → V → V → V → V → V → V → V → V → V → Option V} (h : ∀ (e : Nat → List V → Option V) (Γ : Gam) (v0 v1 v2 v3 v4 v5 v6 v7 v8 v9 v10 v11 v12 v13 v14 v15 v16 v17 v18 : V), Go.Abs.step P tabs e ow Γ f l [v0, v1, v2, v3, v4, v5, v6, v7, v8, v9, v10, v11, v12, v13, v14, v15, v16, v17, v18] = a Γ v0 v1 v2 v3 v4 v5 v6 v7 v8 v9 v10 v11 v12 v13 v14 v15 v16 v17 v18) (e : Nat → List V → Option V) (Γ : Gam) (xs : List V) (r : V) (hr : ar19 a Γ xs = some r) : Go.Abs.step P tabs e ow Γ f l xs = some r := by
  unfold ar19 at hr
  split at hr
  · rw [h]; exact hr
  · cases hr
def ar20 (a : Gam → V → V → V → V → V → V → V → V → V → V → V → V → V → V → V → V → V → V → V → V → Option V) : Gam → List V → Option V := fun Γ xs => match xs with | [v0, v1, v2, v3, v4, v5, v6, v7, v8, v9, v10, v11, v12, v13, v14, v15, v16, v17, v18, v19] => a Γ v0 v1 v2 v3 v4 v5 v6 v7 v8 v9 v10 v11 v12 v13 v14 v15 v16 v17 v18 v19 | _ => none
theorem ok20 {a : Gam → V → V → V → V → V → V → V → V → V → V → V → V → V → V → V → V → V → V → V → V → Option V} (h : ∀ (e : Nat → List V → Option V) (Γ : Gam) (v0 v1 v2 v3 v4 v5 v6 v7 v8 v9 v10 v11 v12 v13 v14 v15 v16 v17 v18 v19 : V), Go.Abs.step P tabs e ow Γ f l [v0, v1, v2, v3, v4, v5, v6, v7, v8, v9, v10, v11, v12, v13, v14, v15, v16, v17, v18, v19] = a Γ v0 v1 v2 v3 v4 v5 v6 v7 v8 v9 v10 v11 v12 v13 v14 v15 v16 v17 v18 v19) (e : Nat → List V → Option V) (Γ : Gam) (xs : List V) (r : V) (hr : ar20 a Γ xs = some r) : Go.Abs.step P tabs e ow Γ f l xs = some r := by
  unfold ar20 at hr
  split at hr
  · rw [h]; exact hr
  · cases hr
def ar21 (a : Gam → V → V → V → V → V → V → V → V → V → V → V → V → V → V → V → V → V → V → V → V → V → Option V) : Gam → List V → Option V := fun Γ xs => match xs with | [v0, v1, v2, v3, v4, v5, v6, v7, v8, v9, v10, v11, v12, v13, v14, v15, v16, v17, v18, v19, v20] => a Γ v0 v1 v2 v3 v4 v5 v6 v7 v8 v9 v10 v11 v12 v13 v14 v15 v16 v17 v18 v19 v20 | _ => none
theorem ok21 {a : Gam → V → V → V → V → V → V → V → V → V → V → V → V → V → V → V → V → V → V → V → V → V → Option V} (h : ∀ (e : Nat → List V → Option V) (Γ : Gam) (v0 v1 v2 v3 v4 v5 v6 v7 v8 v9 v10 v11 v12 v13 v14 v15 v16 v17 v18 v19 v20 : V), Go.Abs.step P tabs e ow Γ f l [v0, v1, v2, v3, v4, v5, v6, v7, v8, v9, v10, v11, v12, v13, v14, v15, v16, v17, v18, v19, v20] = a Γ v0 v1 v2 v3 v4 v5 v6 v7 v8 v9 v10 v11 v12 v13 v14 v15 v16 v17 v18 v19 v20) (e : Nat → List V → Option V) (Γ : Gam) (xs : List V) (r : V) (hr : ar21 a Γ xs = some r) : Go.Abs.step P tabs e ow Γ f l xs = some r := by
  unfold ar21 at hr
  split at hr
  · rw [h]; exact hr
  · cases hr
def ar22 (a : Gam → V → V → V → V → V → V → V → V → V → V → V → V → V → V → V → V → V → V → V → V → V → V → Option V) : Gam → List V → Option V := fun Γ xs => match xs with | [v0, v1, v2, v3, v4, v5, v6, v7, v8, v9, v10, v11, v12, v13, v14, v15, v16, v17, v18, v19, v20, v21] => a Γ v0 v1 v2 v3 v4 v5 v6 v7 v8 v9 v10 v11 v12 v13 v14 v15 v16 v17 v18 v19 v20 v21 | _ => none
theorem ok22 {a : Gam → V → V → V → V → V → V → V → V → V → V → V → V → V → V → V → V → V → V → V → V → V → V → Option V} (h : ∀ (e : Nat → List V → Option V) (Γ : Gam) (v0 v1 v2 v3 v4 v5 v6 v7 v8 v9 v10 v11 v12 v13 v14 v15 v16 v17 v18 v19 v20 v21 : V), Go.Abs.step P tabs e ow Γ f l [v0, v1, v2, v3, v4, v5, v6, v7, v8, v9, v10, v11, v12, v13, v14, v15, v16, v17, v18, v19, v20, v21] = a Γ v0 v1 v2 v3 v4 v5 v6 v7 v8 v9 v10 v11 v12 v13 v14 v15 v16 v17 v18 v19 v20 v21) (e : Nat → List V → Option V) (Γ : Gam) (xs : List V) (r : V) (hr : ar22 a Γ xs = some r) : Go.Abs.step P tabs e ow Γ f l xs = some r := by
  unfold ar22 at hr
  split at hr
  · rw [h]; exact hr
  · cases hr
def ar23 (a : Gam → V → V → V → V → V → V → V → V → V → V → V → V → V → V → V → V → V → V → V → V → V → V → V → Option V) : Gam → List V → Option V := fun Γ xs => match xs with | [v0, v1, v2, v3, v4, v5, v6, v7, v8, v9, v10, v11, v12, v13, v14, v15, v16, v17, v18, v19, v20, v21, v22] => a Γ v0 v1 v2 v3 v4 v5 v6 v7 v8 v9 v10 v11 v12 v13 v14 v15 v16 v17 v18 v19 v20 v21 v22 | _ => none
theorem ok23 {a : Gam → V → V → V → V → V → V → V → V → V → V → V → V → V → V → V → V → V → V → V → V → V → V → V → Option V} (h : ∀ (e : Nat → List V → Option V) (Γ : Gam) (v0 v1 v2 v3 v4 v5 v6 v7 v8 v9 v10 v11 v12 v13 v14 v15 v16 v17 v18 v19 v20 v21 v22 : V), Go.Abs.step P tabs e ow Γ f l [v0, v1, v2, v3, v4, v5, v6, v7, v8, v9, v10, v11, v12, v13, v14, v15, v16, v17, v18, v19, v20, v21, v22] = a Γ v0 v1 v2 v3 v4 v5 v6 v7 v8 v9 v10 v11 v12 v13 v14 v15 v16 v17 v18 v19 v20 v21 v22) (e : Nat → List V → Option V) (Γ : Gam) (xs : List V) (r : V) (hr : ar23 a Γ xs = some r) : Go.Abs.step P tabs e ow Γ f l xs = some r := by
  unfold ar23 at hr
  split at hr
  · rw [h]; exact hr
  · cases hr
def ar24 (a : Gam → V → V → V → V → V → V → V → V → V → V → V → V → V → V → V → V → V → V → V → V → V → V → V → V → Option V) : Gam → List V → Option V := fun Γ xs => match xs with | [v0, v1, v2, v3, v4, v5, v6, v7, v8, v9, v10, v11, v12, v13, v14, v15, v16, v17, v18, v19, v20, v21, v22, v23] => a Γ v0 v1 v2 v3 v4 v5 v6 v7 v8 v9 v10 v11 v12 v13 v14 v15 v16 v17 v18 v19 v20 v21 v22 v23 | _ => none
theorem ok24 {a : Gam → V → V → V → V → V → V → V → V → V → V → V → V → V → V → V → V → V → V → V → V → V → V → V → V → Option V} (h : ∀ (e : Nat → List V → Option V) (Γ : Gam) (v0 v1 v2 v3 v4 v5 v6 v7 v8 v9 v10 v11 v12 v13 v14 v15 v16 v17 v18 v19 v20 v21 v22 v23 : V), Go.Abs.step P tabs e ow Γ f l [v0, v1, v2, v3, v4, v5, v6, v7, v8, v9, v10, v11, v12, v13, v14, v15, v16, v17, v18, v19, v20, v21, v22, v23] = a Γ v0 v1 v2 v3 v4 v5 v6 v7 v8 v9 v10 v11 v12 v13 v14 v15 v16 v17 v18 v19 v20 v21 v22 v23) (e : Nat → List V → Option V) (Γ : Gam) (xs : List V) (r : V) (hr : ar24 a Γ xs = some r) : Go.Abs.step P tabs e ow Γ f l xs = some r := by
  unfold ar24 at hr
  split at hr
  · rw [h]; exact hr
  · cases hr
end
def look (f l : Nat) : List (Ent P tabs ow) → Option (Ent P tabs ow)
  | [] => none
  | q :: r => match Nat.beq q.f f && Nat.beq q.l l with | true => some q | false => look f l r
theorem look_ok {f l : Nat} : ∀ {T : List (Ent P tabs ow)} {q : Ent P tabs ow}, look f l T = some q → q.f = f ∧ q.l = l
  | [], _, h => by cases h
  | p :: r, q, h => by
    unfold look at h
    split at h
    · rename_i hb
      cases h
      simp only [Bool.and_eq_true] at hb
      exact ⟨Nat.eq_of_beq_eq_true hb.1, Nat.eq_of_beq_eq_true hb.2⟩
    · exact look_ok h
def runY (T : List (Ent P tabs ow)) (e0 : Nat → List V → Option V) : Nat → Gam
  | 0 => fun _ _ _ => none
  | n + 1 => fun f l xs => match look f l T with
    | some q => q.g (runY T e0 n) xs
    | none => match l with | 0 => e0 f xs | _ + 1 => none
theorem run_ok {T : List (Ent P tabs ow)} {e0 e : Nat → List V → Option V} (h0 : ∀ f xs r, e0 f xs = some r → val P tabs e ow f 0 xs = some r) : ∀ n, Le (runY T e0 n) (val P tabs e ow)
  | 0 => fun _ _ _ _ h => by cases h
  | n + 1 => fun f l xs r h => by
    unfold runY at h
    split at h
    · rename_i q hq
      obtain ⟨rfl, rfl⟩ := look_ok hq
      have h1 := q.ok e _ xs r h
      rw [val_step]
      exact step_mono (run_ok h0 n) _ _ _ _ h1
    · split at h
      · exact h0 _ _ _ h
      · cases h
theorem run_eq {T : List (Ent P tabs ow)} {e0 e : Nat → List V → Option V} (h0 : ∀ f xs r, e0 f xs = some r → val P tabs e ow f 0 xs = some r) (n : Nat) {f l : Nat} {xs : List V} {r : V} (h : runY T e0 n f l xs = some r) : val P tabs e ow f l xs = some r := run_ok h0 n f l xs r h
end Go.Abs
/-
  The functions of the program in a table, for computation. Printed by programs of this seat.
-/
namespace Go.Proofs.YtanocopjancaiaaDoor
open Go.Abs
noncomputable def ents0 : List (Ent Tryd.prog tabs cfg) := [
  ⟨4, 0, ar5 y.seichelaw17_ModfileMakes, ok5 s.seichelaw17_ModfileMakes⟩,
  ⟨4, 15, ar6 y.seichelaw17_ModfileMakes_15, ok6 s.seichelaw17_ModfileMakes_15⟩,
  ⟨4, 26, ar7 y.seichelaw17_ModfileMakes_26, ok7 s.seichelaw17_ModfileMakes_26⟩,
  ⟨4, 37, ar6 y.seichelaw17_ModfileMakes_37, ok6 s.seichelaw17_ModfileMakes_37⟩,
  ⟨4, 47, ar8 y.seichelaw17_ModfileMakes_47, ok8 s.seichelaw17_ModfileMakes_47⟩,
  ⟨4, 51, ar11 y.seichelaw17_ModfileMakes_51, ok11 s.seichelaw17_ModfileMakes_51⟩,
  ⟨4, 74, ar14 y.seichelaw17_ModfileMakes_74, ok14 s.seichelaw17_ModfileMakes_74⟩,
  ⟨6, 0, ar0 y.seichelaw17_alive, ok0 s.seichelaw17_alive⟩,
  ⟨8, 0, ar1 y.modfile_Parse, ok1 s.modfile_Parse⟩,
  ⟨8, 12, ar14 y.modfile_Parse_12, ok14 s.modfile_Parse_12⟩,
  ⟨10, 0, ar1 y.seichelaw17_word, ok1 s.seichelaw17_word⟩,
  ⟨10, 8, ar2 y.seichelaw17_word_8, ok2 s.seichelaw17_word_8⟩,
  ⟨16, 0, ar1 y.seiche_modfile_reader_line_1, ok1 s.seiche_modfile_reader_line_1⟩,
  ⟨18, 0, ar2 y.slices_Contains_Lstring_string, ok2 s.slices_Contains_Lstring_string⟩,
  ⟨22, 0, ar1 y.modfile_good, ok1 s.modfile_good⟩,
  ⟨36, 0, ar1 y.modfile_here, ok1 s.modfile_here⟩,
  ⟨46, 0, ar2 y.strings_HasPrefix, ok2 s.strings_HasPrefix⟩,
  ⟨58, 0, ar2 y.internal_stringslite_HasPrefix, ok2 s.internal_stringslite_HasPrefix⟩,
  ⟨3, 0, ar2 y.seichelaw17_ModfileBlank, ok2 s.seichelaw17_ModfileBlank⟩,
  ⟨3, 15, ar3 y.seichelaw17_ModfileBlank_15, ok3 s.seichelaw17_ModfileBlank_15⟩,
  ⟨3, 24, ar3 y.seichelaw17_ModfileBlank_24, ok3 s.seichelaw17_ModfileBlank_24⟩,
  ⟨3, 47, ar6 y.seichelaw17_ModfileBlank_47, ok6 s.seichelaw17_ModfileBlank_47⟩,
  ⟨5, 0, ar4 y.seichelaw17_ModfileOrder, ok4 s.seichelaw17_ModfileOrder⟩,
  ⟨5, 15, ar5 y.seichelaw17_ModfileOrder_15, ok5 s.seichelaw17_ModfileOrder_15⟩,
  ⟨5, 28, ar10 y.seichelaw17_ModfileOrder_28, ok10 s.seichelaw17_ModfileOrder_28⟩,
  ⟨5, 51, ar13 y.seichelaw17_ModfileOrder_51, ok13 s.seichelaw17_ModfileOrder_51⟩,
  ⟨5, 76, ar8 y.seichelaw17_ModfileOrder_76, ok8 s.seichelaw17_ModfileOrder_76⟩,
  ⟨7, 0, ar2 y.seicheref14_Cut, ok2 s.seicheref14_Cut⟩,
  ⟨7, 12, ar5 y.seicheref14_Cut_12, ok5 s.seicheref14_Cut_12⟩,
  ⟨9, 0, ar2 y.seicheref17_Same, ok2 s.seicheref17_Same⟩]
noncomputable def ents1 : List (Ent Tryd.prog tabs cfg) := [
  ⟨9, 7, ar3 y.seicheref17_Same_7, ok3 s.seicheref17_Same_7⟩,
  ⟨9, 16, ar4 y.seicheref17_Same_16, ok4 s.seicheref17_Same_16⟩,
  ⟨23, 0, ar1 y.modfile_level, ok1 s.modfile_level⟩,
  ⟨23, 9, ar2 y.modfile_level_9, ok2 s.modfile_level_9⟩,
  ⟨23, 18, ar4 y.modfile_level_18, ok4 s.modfile_level_18⟩,
  ⟨25, 0, ar2 y.slices_Index_Lstring_string, ok2 s.slices_Index_Lstring_string⟩,
  ⟨25, 8, ar4 y.slices_Index_Lstring_string_8, ok4 s.slices_Index_Lstring_string_8⟩,
  ⟨10192, 1, ar7 y.seiche_modfile_reader_line_h0, ok7 s.seiche_modfile_reader_line_h0⟩,
  ⟨10192, 12, ar7 y.seiche_modfile_reader_line_h0_12, ok7 s.seiche_modfile_reader_line_h0_12⟩,
  ⟨10192, 24, ar8 y.seiche_modfile_reader_line_h0_24, ok8 s.seiche_modfile_reader_line_h0_24⟩,
  ⟨10272, 1, ar8 y.seiche_modfile_reader_verb_h0, ok8 s.seiche_modfile_reader_verb_h0⟩,
  ⟨10384, 1, ar7 y.seiche_modfile_reader_replace_h0, ok7 s.seiche_modfile_reader_replace_h0⟩,
  ⟨10384, 11, ar9 y.seiche_modfile_reader_replace_h0_11, ok9 s.seiche_modfile_reader_replace_h0_11⟩,
  ⟨10592, 1, ar2 y.slices_ContainsFunc_Lseiche_api_Replace_seiche_api_Replace_h0, ok2 s.slices_ContainsFunc_Lseiche_api_Replace_seiche_api_Replace_h0⟩,
  ⟨10752, 1, ar2 y.slices_IndexFunc_Lseiche_api_Replace_seiche_api_Replace_h0, ok2 s.slices_IndexFunc_Lseiche_api_Replace_seiche_api_Replace_h0⟩,
  ⟨10752, 8, ar4 y.slices_IndexFunc_Lseiche_api_Replace_seiche_api_Replace_h0_8, ok4 s.slices_IndexFunc_Lseiche_api_Replace_seiche_api_Replace_h0_8⟩,
  ⟨10608, 1, ar2 y.seiche_modfile_reader_replace_1_h0, ok2 s.seiche_modfile_reader_replace_1_h0⟩]
noncomputable def ents : List (Ent Tryd.prog tabs cfg) := ents0 ++ ents1
end Go.Proofs.YtanocopjancaiaaDoor
/-
  V3: the reader of go.mod: lines, the whole file. Own work of this seat.
-/
namespace Go.Proofs.YtanocopjancaiaaDoor
open Go.Abs
set_option maxRecDepth 10000
variable {e : Nat → List V → Option V}
def words3 : List Bytes := [[114, 101, 113, 117, 105, 114, 101], [101, 120, 99, 108, 117, 100, 101], [114, 101, 116, 114, 97, 99, 116], [114, 101, 112, 108, 97, 99, 101]]
def lineB (ws : List Bytes) (m : MSt) : Bool × MSt :=
  match ws with
  | [] => (true, m)
  | x :: q =>
    if m.block ≠ [] then (if x = [41] then (decide (q = []), { m with block := [] }) else verbB m.block ws m)
    else if q = [[40]] then (inB words3 x, { m with block := x })
    else verbB x q m
theorem lineB_cons (x : Bytes) (q : List Bytes) (m : MSt) : lineB (x :: q) m = if m.block ≠ [] then (if x = [41] then (decide (q = []), { m with block := [] }) else verbB m.block (x :: q) m)
    else if q = [[40]] then (inB words3 x, { m with block := x }) else verbB x q m := rfl
theorem v_dropW {x : Bytes} {q : List Bytes} : evp (.slc 1 true false false) [strs (x :: q), .int .i64 1] = some (strs q) := by
  rw [strs, List.map_cons]; exact v_slcD (l := .str x :: q.map .str) (i := 1) (by simp)
theorem v.line24 (he : EnvM e) (m : MSt) (x : Bytes) (q : List Bytes) (hl : (x :: q).length ≤ 1000000) (hr : m.reps.length ≤ 1000000) (hb : ∀ y ∈ x :: q, y.length < 4294967281 ∧ okC y = true) :
    vl e 10192 24 [strs (x :: q), .bool (decide (m.block ≠ []) && decide (x = [41])), .str m.path, I m.level, rps m.reps, I 0, .str m.block, .bool m.gone] = some (outV (lineB (x :: q) m)) := by
  rw [w.seiche_modfile_reader_line_h0_24]; unfold y.seiche_modfile_reader_line_h0_24
  rw [lineB_cons]
  have hv := fun b (ws : List Bytes) (h1 : ws.length ≤ 1000000) (h2 : ∀ y ∈ ws, y.length < 4294967281 ∧ okC y = true) => v.verb he m b ws h1 hr h2
  have g0 : evp (.elem 1) [strs (x :: q), .int .i64 0] = some (.str x) := v_get0
  by_cases h1 : m.block = []
  · have e1 : (decide (m.block ≠ []) && decide (x = [41])) = false := by simp [h1]
    rw [e1, if_neg (fun h => h h1)]
    have hvq : vl e 10272 1 [.str x, strs q, .str m.path, I m.level, rps m.reps, I 0, .str m.block, .bool m.gone] = _ := hv x q (by simp at hl; omega) (fun y hy => hb y (by simp [hy]))
    by_cases h2 : ((x :: q).length : Int) = 2
    · obtain ⟨z, rfl⟩ : ∃ z, q = [z] := by
        match q, h2 with
        | [z], _ => exact ⟨z, rfl⟩
        | [], h => simp at h
        | _ :: _ :: _, h => simp at h; omega
      have g1 : evp (.elem 1) [strs [x, z], .int .i64 1] = some (.str z) := v_get (l := [x, z]) (i := 1) (by simp)
      by_cases h3 : z = [40]
      · subst h3
        have hc := v.Contains (e := e) words3 x (by decide)
        have hbs : evp (.bsl 1) [.str [114, 101, 113, 117, 105, 114, 101], .str [101, 120, 99, 108, 117, 100, 101], .str [114, 101, 116, 114, 97, 99, 116], .str [114, 101, 112, 108, 97, 99, 101]] = some (strs words3) := rfl
        have hsc : evp .sc [.str x] = some (.str x) := rfl
        simp only [yy, h1, if_true, v_lenS, if_pos h2, g1, v_lds, g0, hsc, hbs, hc]
        rfl
      · simp only [yy, h1, if_true, v_lenS, if_pos h2, g1, v_lds, if_neg h3, g0, v_dropW]
        rw [if_neg (by simpa using h3)]
        rw [h1] at hvq
        simp only [yy, hvq, outV]
    · have h3 : q ≠ [[40]] := fun h => h2 (by rw [h]; rfl)
      rw [h1] at hvq
      simp only [yy, h1, if_true, v_lenS, if_neg h2, g0, v_lds, v_dropW, hvq, outV]
      rw [if_neg h3]
  · rw [if_pos h1]
    by_cases h2 : x = [41]
    · have e1 : (decide (m.block ≠ []) && decide (x = [41])) = true := by simp [h1, h2]
      rw [e1, if_pos h2]
      simp only [yy, v_lenS]
      have : decide (((x :: q).length : Int) = 1) = decide (q = []) := by
        rw [decide_eq_decide]
        constructor
        · intro h; exact List.eq_nil_of_length_eq_zero (by simp at h; omega)
        · intro h; rw [h]; rfl
      rw [this]; rfl
    · have e1 : (decide (m.block ≠ []) && decide (x = [41])) = false := by simp [h2]
      have hvq : vl e 10272 1 [.str m.block, strs (x :: q), .str m.path, I m.level, rps m.reps, I 0, .str m.block, .bool m.gone] = _ := hv m.block (x :: q) hl hb
      rw [e1, if_neg h2]
      simp only [yy, if_neg h1, hvq, outV]
theorem v.line12 (he : EnvM e) (m : MSt) (s : Bytes) (hs : s.length < 4294967281) (hl : (fldB blankB3 s []).length ≤ 1000000) (hr : m.reps.length ≤ 1000000) (hb : ∀ y ∈ fldB blankB3 s [], y.length < 4294967281 ∧ okC y = true) :
    vl e 10192 12 (.str s :: mV m) = some (outV (lineB (fldB blankB3 s []) m)) := by
  show vl e 10192 12 [.str s, .str m.path, I m.level, rps m.reps, I 0, .str m.block, .bool m.gone] = _
  rw [w.seiche_modfile_reader_line_h0_12]; unfold y.seiche_modfile_reader_line_h0_12
  have hf : vl e 15 0 [.str s, .fn 16 []] = _ := v.fields he s hs
  generalize fldB blankB3 s [] = ws at hf hl hb ⊢
  cases ws with
  | nil => simp only [yy, hf, strs, List.map_nil, List.length_nil, Int.natCast_zero, if_true]; rfl
  | cons x q =>
    have h24 := v.line24 he m x q hl hr hb
    have g0 : evp (.elem 1) [strs (x :: q), .int .i64 0] = some (.str x) := v_get0
    by_cases h1 : m.block = []
    · have e1 : (decide (m.block ≠ []) && decide (x = [41])) = false := by simp [h1]
      rw [e1] at h24
      simp only [yy, hf, v_lenS, if_neg (show ¬ (((x :: q).length : Int) = 0) by simp), if_pos h1, h24]
    · have e1 : (decide (m.block ≠ []) && decide (x = [41])) = decide (x = [41]) := by simp [h1]
      rw [e1] at h24
      simp only [yy, hf, v_lenS, if_neg (show ¬ (((x :: q).length : Int) = 0) by simp), if_neg h1, g0, v_lds, h24]
/-- without what stands behind a // -/
def cutI (s : Bytes) : Bytes := if 0 ≤ Lib.index s [47, 47] then s.take (Lib.index s [47, 47]).toNat else s
def wordsOf (s : Bytes) : List Bytes := fldB blankB3 (cutI s) []
theorem fld_len {q : UInt8 → Bool} : ∀ (s cur : Bytes), (fldB q s cur).length ≤ s.length + 1 ∧ ∀ x ∈ fldB q s cur, x.length ≤ cur.length + s.length
  | [], cur => by
    unfold fldB
    split
    · exact ⟨by simp, fun x hx => by cases hx⟩
    · exact ⟨by simp, fun x hx => by simp at hx; simp [hx]⟩
  | b :: r, cur => by
    unfold fldB
    split
    · obtain ⟨h1, h2⟩ := fld_len (q := q) r ([] : Bytes)
      split
      · exact ⟨by simp; omega, fun x hx => by have := h2 x hx; simp at this ⊢; omega⟩
      · refine ⟨by simp; omega, fun x hx => ?_⟩
        rcases List.mem_cons.1 hx with rfl | hx
        · simp
        · have := h2 x hx; simp at this ⊢; omega
    · obtain ⟨h1, h2⟩ := fld_len (q := q) r (cur ++ [b])
      exact ⟨by simp; omega, fun x hx => by have := h2 x hx; simp at this ⊢; omega⟩
theorem cutI_len (s : Bytes) : (cutI s).length ≤ s.length := by
  unfold cutI; split
  · simp; omega
  · exact Nat.le_refl _
theorem index_lt (c : Bytes) (hc : c ≠ []) : ∀ s : Bytes, Lib.index s c < s.length ∨ Lib.index s c = -1
  | [] => by
    right
    cases c with
    | nil => exact absurd rfl hc
    | cons x r => simp [Lib.index]
  | b :: r => by
    have ih := index_lt c hc r
    have hge := Lib.index_ge r c
    unfold Lib.index
    split
    · left; simp only [List.length_cons]; omega
    · split
      · right; rfl
      · rename_i h
        have : Lib.index r c ≠ -1 := by simpa using h
        left; simp; omega
theorem v.line (he : EnvM e) (m : MSt) (s : Bytes) (hs : s.length ≤ 999999) (hr : m.reps.length ≤ 1000000) (hb : ∀ y ∈ wordsOf s, okC y = true) :
    vl e 10192 1 (.str s :: mV m) = some (outV (lineB (wordsOf s) m)) := by
  show vl e 10192 1 [.str s, .str m.path, I m.level, rps m.reps, I 0, .str m.block, .bool m.gone] = _
  rw [w.seiche_modfile_reader_line_h0]; unfold y.seiche_modfile_reader_line_h0
  have hix := v.index he s [47, 47] (by omega)
  have hcl := cutI_len s
  obtain ⟨f1, f2⟩ := fld_len (q := blankB3) (cutI s) []
  have h12 := v.line12 he m (cutI s) (by omega) (by omega) hr (fun y hy => ⟨by have := f2 y hy; simp at this; omega, hb y hy⟩)
  have hge := Lib.index_ge s [47, 47]
  have hlt := index_lt [47, 47] (by simp) s
  unfold wordsOf cutI at *
  generalize Lib.index s [47, 47] = a at *
  by_cases h0 : 0 ≤ a
  · rw [if_pos h0] at h12
    have hsl : evp (.sls false true) [.str s, .int .i64 a] = some (.str (s.take a.toNat)) := by
      have := v_sls0 (s := s) (h := a.toNat) (by omega)
      rw [Int.toNat_of_nonneg h0] at this; exact this
    simp only [yy, hix, if_pos h0, hsl]
    exact h12
  · rw [if_neg h0] at h12
    simp only [yy, hix, if_neg h0]
    exact h12

/-! ## the whole -/
structure MRes where
  path : Bytes
  level : Int
  reps : List (Bytes × Bytes)
  fault : Int
abbrev resM (r : MRes) : V := .agg [.str r.path, I r.level, rps r.reps, I r.fault]
def m0 : MSt := ⟨[], 0, [], [], false⟩
def goM (n : Nat) : List (List Bytes) → Nat → MSt → MRes
  | [], _, m => if m.block ≠ [] ∨ m.path = [] then ⟨[], 0, [], n⟩ else ⟨m.path, m.level, m.reps, 0⟩
  | w :: r, i, m => if (lineB w m).1 = true then goM n r (i + 1) (lineB w m).2 else ⟨[], 0, [], ((i + 1 : Nat) : Int)⟩
theorem reps_line (ws : List Bytes) (m : MSt) : (lineB ws m).2.reps.length ≤ m.reps.length + 1 := by
  have hv : ∀ b q, (verbB b q m).2.reps.length ≤ m.reps.length + 1 := by
    intro b q
    unfold verbB
    have hr : (repB q m).2.reps.length ≤ m.reps.length + 1 := by
      unfold repB
      dsimp only
      split
      · simp
      · split
        · simp
        · split
          · simp
          · split <;> simp
    repeat' split
    all_goals first | exact hr | simp
  unfold lineB
  split
  · simp
  · split
    · split
      · simp
      · exact hv _ _
    · split
      · simp
      · exact hv _ _
theorem v.parse12 (he : EnvM e) (ls : List Bytes) (a b c d : V) (hl : ls.length ≤ 900000) (hs : ∀ s ∈ ls, s.length ≤ 999999 ∧ ∀ y ∈ wordsOf s, okC y = true) : ∀ (n i : Nat) (m : MSt), i + n = ls.length → m.reps.length ≤ i →
    vl e 8 12 ([strs ls, strs ls, I ls.length, I i, a, b, c, d] ++ mV m) = some (resM (goM ls.length ((ls.drop i).map wordsOf) i m)) := by
  intro n
  induction n with
  | zero =>
    intro i m hi hr
    show vl e 8 12 [strs ls, strs ls, I ls.length, I i, a, b, c, d, .str m.path, I m.level, rps m.reps, I 0, .str m.block, .bool m.gone] = _
    rw [w.modfile_Parse_12]; unfold y.modfile_Parse_12
    rw [List.drop_eq_nil_of_le (by omega), List.map_nil, goM]
    have c1 : ∀ n : Int, evp (.cat [none]) [I n] = some (.agg [I n]) := fun _ => rfl
    have c4 : ∀ n : Int, evp (.cat [none, none, none, none]) [.str [], .int .i64 0, .sl false 2 [], I n] = some (resM ⟨[], 0, [], n⟩) := fun _ => rfl
    have c5 : evp (.cat [none, none, none, none]) [.str m.path, I m.level, rps m.reps, I 0] = some (resM ⟨m.path, m.level, m.reps, 0⟩) := rfl
    by_cases h1 : m.block = []
    · by_cases h2 : m.path = []
      · simp only [yy, if_neg (show ¬ ((i : Int) < (ls.length : Int)) by omega), if_pos h1, if_pos h2, v_lenS, c1, c4]
        rw [if_pos (.inr h2)]
      · simp only [yy, if_neg (show ¬ ((i : Int) < (ls.length : Int)) by omega), if_pos h1, if_neg h2, c5]
        rw [if_neg (by rintro (h | h); exact h h1; exact h2 h)]
    · simp only [yy, if_neg (show ¬ ((i : Int) < (ls.length : Int)) by omega), if_neg h1, v_lenS, c1, c4]
      rw [if_pos (.inl h1)]
  | succ n ih =>
    intro i m hi hr
    have hlt : i < ls.length := by omega
    show vl e 8 12 [strs ls, strs ls, I ls.length, I i, a, b, c, d, .str m.path, I m.level, rps m.reps, I 0, .str m.block, .bool m.gone] = _
    obtain ⟨q1, q2⟩ := hs ls[i] (List.getElem_mem hlt)
    have hln : vl e 10192 1 [.str ls[i], .str m.path, I m.level, rps m.reps, I 0, .str m.block, .bool m.gone] = _ := v.line he m ls[i] q1 (by omega) q2
    rw [w.modfile_Parse_12]; unfold y.modfile_Parse_12
    rw [List.drop_eq_getElem_cons hlt, List.map_cons, goM]
    have hrl := reps_line (wordsOf ls[i]) m
    have hih := ih (i + 1) (lineB (wordsOf ls[i]) m).2 (by omega) (by omega)
    generalize lineB (wordsOf ls[i]) m = r at hln hih
    obtain ⟨ok, m'⟩ := r
    have c1 : ∀ n : Int, evp (.cat [none]) [I n] = some (.agg [I n]) := fun _ => rfl
    have c4 : ∀ n : Int, evp (.cat [none, none, none, none]) [.str [], .int .i64 0, .sl false 2 [], I n] = some (resM ⟨[], 0, [], n⟩) := fun _ => rfl
    simp only [yy, if_pos (show (i : Int) < (ls.length : Int) by omega), v_get hlt, v_lds, hln, outV, next64 hlt (by omega), c1, c4]
    cases ok with
    | true => rw [if_pos rfl]; exact hih
    | false => rw [if_neg (by decide)]; rfl
def parseM (s : Bytes) : MRes := goM (splitOn 10 s).length ((splitOn 10 s).map wordsOf) 0 m0
theorem v.ParseL (he : EnvM e) (s : Bytes) (hs : s.length < 4294967281) (hn : (splitOn 10 s).length ≤ 900000) (hb : ∀ x ∈ splitOn 10 s, x.length ≤ 999999 ∧ ∀ y ∈ wordsOf x, okC y = true) : vl e 8 0 [.str s] = some (resM (parseM s)) := by
  rw [w.modfile_Parse]; unfold y.modfile_Parse
  have h12 := v.parse12 he (splitOn 10 s) (.str []) (I 0) (.sl false 2 []) (I 0) hn hb (splitOn 10 s).length 0 m0 (by omega) (by simp [m0])
  have c0 : evp (.cat []) [] = some (.agg []) := rfl
  have c6 : evp (.cat [none, none, none, none, none, none]) [.str [], .int .i64 0, .sl false 2 [], .int .i64 0, .str [], .bool false] = some (.agg [.str [], I 0, .sl false 2 [], I 0, .str [], .bool false]) := rfl
  simp only [yy, c0, c6, v.split he s 10 (by omega), v_lenS]
  exact h12
theorem v.Parse (he : EnvM e) (s : Bytes) (hs : s.length ≤ 899998) (hb : ∀ x ∈ splitOn 10 s, ∀ y ∈ wordsOf x, okC y = true) : vl e 8 0 [.str s] = some (resM (parseM s)) :=
  v.ParseL he s (by omega) (by have := splitOn_num 10 s; omega) (fun x hx => ⟨by have := splitOn_le 10 s x hx; omega, hb x hx⟩)
end Go.Proofs.YtanocopjancaiaaDoor
/-
  V4: lines and words of texts that are put together. Own work of this seat.
-/
namespace Go.Proofs.YtanocopjancaiaaDoor
open Go.Abs
set_option maxRecDepth 10000
/-! ## lines -/
def unl : List Bytes → Bytes
  | [] => []
  | l :: r => l ++ 10 :: unl r
theorem unl_app : ∀ (a b : List Bytes), unl (a ++ b) = unl a ++ unl b
  | [], b => rfl
  | l :: r, b => by simp [unl, unl_app r b]
theorem split_app (c : UInt8) : ∀ (l r : Bytes), c ∉ l → splitOn c (l ++ c :: r) = l :: splitOn c r
  | [], r, _ => by simp [splitOn]
  | b :: l, r, h => by
    have ih := split_app c l r (fun h' => h (by simp [h']))
    have hb : ¬ b = c := fun h' => h (by simp [h'])
    rw [List.cons_append, splitOn, if_neg hb, ih]
theorem split_unl (x : Bytes) : ∀ ls : List Bytes, (∀ l ∈ ls, (10 : UInt8) ∉ l) → splitOn 10 (unl ls ++ x) = ls ++ splitOn 10 x
  | [], _ => rfl
  | l :: r, h => by
    have ih := split_unl x r (fun y hy => h y (by simp [hy]))
    rw [unl, List.append_assoc, List.cons_append, split_app 10 l _ (h l (by simp)), ih]; rfl
theorem split_one (c : UInt8) : ∀ l : Bytes, c ∉ l → splitOn c l = [l]
  | [], _ => rfl
  | b :: l, h => by
    have hb : ¬ b = c := fun h' => h (by simp [h'])
    rw [splitOn, if_neg hb, split_one c l (fun h' => h (by simp [h']))]
def runL : List Bytes → MSt → Option MSt
  | [], m => some m
  | l :: r, m => if (lineB (wordsOf l) m).1 = true then runL r (lineB (wordsOf l) m).2 else none
theorem runL_app : ∀ (a b : List Bytes) (m : MSt), runL (a ++ b) m = (runL a m).bind (runL b)
  | [], b, m => rfl
  | l :: r, b, m => by
    show (if _ then _ else _) = _
    rw [runL]
    split
    · exact runL_app r b _
    · rfl
theorem goM_run (n : Nat) (rest : List (List Bytes)) : ∀ (ls : List Bytes) (i : Nat) (m m' : MSt), runL ls m = some m' → goM n (ls.map wordsOf ++ rest) i m = goM n rest (i + ls.length) m'
  | [], i, m, m', h => by cases h; rfl
  | l :: r, i, m, m', h => by
    rw [runL] at h
    split at h
    · rename_i h1
      rw [List.map_cons, List.cons_append, goM, if_pos h1, goM_run n rest r (i + 1) _ m' h]
      simp only [List.length_cons]
      rw [show i + 1 + r.length = i + (r.length + 1) by omega]
    · cases h
theorem words_nil : wordsOf [] = [] := rfl
theorem parse_unl {ls : List Bytes} {m : MSt} (h10 : ∀ l ∈ ls, (10 : UInt8) ∉ l) (h : runL ls m0 = some m) (hb : m.block = []) (hp : m.path ≠ []) : parseM (unl ls) = ⟨m.path, m.level, m.reps, 0⟩ := by
  unfold parseM
  have hs := split_unl [] ls h10
  rw [List.append_nil] at hs
  rw [hs, List.map_append, goM_run _ _ ls 0 m0 m h]
  show goM _ [wordsOf []] _ m = _
  rw [words_nil, goM]
  rw [if_pos (by rfl)]
  show goM _ [] _ m = _
  rw [goM, if_neg (by rintro (h | h); exact h hb; exact hp h)]

/-! ## no // -/
def dbl : Bytes → Bool
  | [] => false
  | a :: r => (decide (a = 47) && decide (r.headD 0 = 47)) || dbl r
theorem index_dbl : ∀ s : Bytes, dbl s = false → Lib.index s [47, 47] = -1
  | [], _ => rfl
  | a :: r, h => by
    rw [dbl, Bool.or_eq_false_iff] at h
    have ih := index_dbl r h.2
    unfold Lib.index
    have hp : List.isPrefixOf [47, 47] (a :: r) = false := by
      cases r with
      | nil => simp [List.isPrefixOf]
      | cons b q =>
        have h1 := h.1
        simp only [List.headD_cons, Bool.and_eq_false_iff, decide_eq_false_iff_not] at h1
        simp only [List.isPrefixOf, Bool.and_true, Bool.and_eq_false_iff, beq_eq_false_iff_ne]
        rcases h1 with h1 | h1
        · exact .inl (Ne.symm h1)
        · exact .inr (fun h' => by rw [← h'] at h1; simp at h1)
    simp only [hp, Bool.false_eq_true, if_false, ih]
    rfl
theorem dbl_app : ∀ (a b : Bytes), b.headD 0 ≠ 47 → dbl (a ++ b) = (dbl a || dbl b)
  | [], b, _ => by simp [dbl]
  | x :: a, b, h => by
    have ih := dbl_app a b h
    rw [List.cons_append, dbl, dbl, ih]
    cases a with
    | nil =>
      have h1 : decide (b.headD 0 = 47) = false := decide_eq_false h
      rw [List.nil_append, h1]; simp
    | cons y a => simp [Bool.or_assoc]
theorem cut_id {s : Bytes} (h : dbl s = false) : cutI s = s := by
  unfold cutI
  rw [index_dbl s h, if_neg (by decide)]

/-! ## words -/
theorem fld_w (q : UInt8 → Bool) (w : Bytes) (hw : ∀ c ∈ w, q c = false) (hne : w ≠ []) (b : UInt8) (hb : q b = true) (r : Bytes) : fldB q (w ++ b :: r) [] = w :: fldB q r [] := by
  rw [fld_run hw, List.nil_append, fldB, if_pos hb, if_neg hne]
theorem fld_e (q : UInt8 → Bool) (w : Bytes) (hw : ∀ c ∈ w, q c = false) (hne : w ≠ []) : fldB q w [] = [w] := by
  have := fld_run (r := []) (cur := []) hw
  rw [List.append_nil, List.nil_append] at this
  rw [this, fldB, if_neg hne]
theorem fld_b (q : UInt8 → Bool) (b : UInt8) (hb : q b = true) (r : Bytes) : fldB q (b :: r) [] = fldB q r [] := by
  rw [fldB, if_pos hb, if_pos rfl]
theorem fld_mem {q : UInt8 → Bool} : ∀ (s cur : Bytes), ∀ y ∈ fldB q s cur, ∀ b ∈ y, b ∈ cur ∨ b ∈ s
  | [], cur, y, hy, b, hb => by
    unfold fldB at hy
    split at hy
    · cases hy
    · simp at hy; subst hy; exact .inl hb
  | c :: r, cur, y, hy, b, hb => by
    unfold fldB at hy
    split at hy
    · split at hy
      · rcases fld_mem r [] y hy b hb with h | h
        · cases h
        · exact .inr (by simp [h])
      · rcases List.mem_cons.1 hy with rfl | hy
        · exact .inl hb
        · rcases fld_mem r [] y hy b hb with h | h
          · cases h
          · exact .inr (by simp [h])
    · rcases fld_mem r (cur ++ [c]) y hy b hb with h | h
      · rcases List.mem_append.1 h with h | h
        · exact .inl h
        · exact .inr (by simp at h; simp [h])
      · exact .inr (by simp [h])
theorem split_mem (c : UInt8) : ∀ (s : Bytes), ∀ x ∈ splitOn c s, ∀ b ∈ x, b ∈ s
  | [], x, hx, b, hb => by simp [splitOn] at hx; subst hx; exact hb
  | a :: r, x, hx, b, hb => by
    unfold splitOn at hx
    split at hx
    · rcases List.mem_cons.1 hx with rfl | hx
      · cases hb
      · exact List.mem_cons_of_mem _ (split_mem c r x hx b hb)
    · split at hx
      · simp at hx; subst hx; simp at hb; simp [hb]
      · rename_i z zs he
        rcases List.mem_cons.1 hx with rfl | hx
        · rcases List.mem_cons.1 hb with rfl | hb
          · simp
          · exact List.mem_cons_of_mem _ (split_mem c r z (by rw [he]; simp) b hb)
        · exact List.mem_cons_of_mem _ (split_mem c r x (by rw [he]; simp [hx]) b hb)
theorem ok_text {s : Bytes} (_ : ascB s = true) : ∀ x ∈ splitOn 10 s, ∀ y ∈ wordsOf x, okC y = true := fun _ _ _ _ => rfl
theorem asc_app (a b : Bytes) : ascB (a ++ b) = (ascB a && ascB b) := by unfold ascB; rw [List.all_append]
end Go.Proofs.YtanocopjancaiaaDoor
/-
  V5: words of letters, digits, points and slashes; Same; what alive tells. Own work of this seat.
-/
namespace Go.Proofs.YtanocopjancaiaaDoor
open Go.Abs
set_option maxRecDepth 10000
variable {e : Nat → List V → Option V}
def al (c : Nat) : Bool := (decide (97 ≤ c) && decide (c ≤ 122)) || ((decide (48 ≤ c) && decide (c ≤ 57)) || decide (c = 46))
/-- p: may a slash stand here? -/
def wordL : Bool → Bytes → Bool
  | _, [] => true
  | p, c :: r => if al c.toNat = true then wordL true r else if c.toNat = 47 then (if p = true then wordL false r else false) else false
def wordB (s : Bytes) : Bool := wordL false s && (decide (s ≠ []) && decide (s.length ≤ 100))
def mayB (s : Bytes) (i : Nat) : Bool := decide (0 < i) && decide (s.getD (i - 1) 0 ≠ 47)
theorem v.word8 (s : Bytes) (hs : s.length ≤ 1048576) : ∀ (n i : Nat), i + n = s.length → vl e 10 8 [.str s, I i] = some (.bool (wordL (mayB s i) (s.drop i) && (decide (s ≠ []) && decide (s.length ≤ 100)))) := by
  intro n
  induction n with
  | zero =>
    intro i hi
    rw [w.seichelaw17_word_8]; unfold y.seichelaw17_word_8
    rw [List.drop_eq_nil_of_le (by omega), wordL, Bool.true_and]
    by_cases h0 : s = []
    · simp only [yy, if_neg (show ¬ ((i : Int) < (s.length : Int)) by omega), if_pos h0]; simp [h0]
    · simp only [yy, if_neg (show ¬ ((i : Int) < (s.length : Int)) by omega), if_neg h0]
      have : decide ((s.length : Int) ≤ 100) = decide (s.length ≤ 100) := by rw [decide_eq_decide]; omega
      rw [this]; simp [h0]
  | succ n ih =>
    intro i hi
    have hlt : i < s.length := by omega
    have hih := ih (i + 1) (by omega)
    have hn := next64 hlt (by omega)
    rw [w.seichelaw17_word_8]; unfold y.seichelaw17_word_8
    rw [List.drop_eq_getElem_cons hlt]
    have hidx : evp .idx [.str s, .int .i64 (i : Int)] = some (.int .u8 (s[i].toNat : Int)) := v_idx (by simp [hlt])
    have hmay : mayB s (i + 1) = decide (s[i].toNat ≠ 47) := by
      unfold mayB
      rw [show i + 1 - 1 = i from rfl, List.getD, List.getElem?_eq_getElem hlt]
      have : (s[i] ≠ 47) ↔ s[i].toNat ≠ 47 := by
        constructor
        · intro h h'; exact h (UInt8.toNat_inj.1 h')
        · intro h h'; exact h (by rw [h']; rfl)
      simp [this]
    rw [hmay] at hih
    have hprev : 0 < i → evp .idx [.str s, .int .i64 ((i : Int) - 1)] = some (.int .u8 ((s.getD (i - 1) 0).toNat : Int)) := fun h => by
      have h1 : i - 1 < s.length := by omega
      rw [show ((i : Int) - 1) = (((i - 1 : Nat)) : Int) by omega]
      exact v_idx (by simp [List.getD, h1])
    have hsub : IntKind.i64.wrap ((i : Int) - 1) = (i : Int) - 1 := by
      by_cases h : 0 < i
      · rw [show ((i : Int) - 1) = (((i - 1 : Nat)) : Int) by omega]; exact w64 _ (by omega)
      · have : i = 0 := by omega
        subst this; decide
    have hm : mayB s i = (decide (0 < i) && decide ((s.getD (i - 1) 0).toNat ≠ 47)) := by
      unfold mayB
      have : (s.getD (i - 1) 0 ≠ 47) ↔ (s.getD (i - 1) 0).toNat ≠ 47 := by
        constructor
        · intro h h'; exact h (UInt8.toNat_inj.1 h')
        · intro h h'; exact h (by rw [h']; rfl)
      simp only [this]
    rw [hm]
    generalize (s.getD (i - 1) 0).toNat = pv at hprev ⊢
    rw [wordL]
    generalize s[i].toNat = c at hidx hih ⊢
    by_cases hA : al c = true
    · rw [if_pos hA]
      have h47 : decide (c ≠ 47) = true := decide_eq_true (fun h => by subst h; exact absurd hA (by decide))
      rw [h47] at hih
      unfold al at hA
      simp only [Bool.or_eq_true, Bool.and_eq_true, decide_eq_true_eq] at hA
      simp only [yy, if_pos (show (i : Int) < (s.length : Int) by omega), hidx, hn, hih]
      repeat' split
      all_goals first | rfl | (exfalso; omega)
    · rw [if_neg hA]
      unfold al at hA
      simp only [Bool.or_eq_true, Bool.and_eq_true, decide_eq_true_eq] at hA
      by_cases h47 : c = 47
      · subst h47
        rw [if_pos rfl]
        rw [decide_eq_false (by decide)] at hih
        by_cases h0 : 0 < i
        · rw [decide_eq_true h0, Bool.true_and]
          by_cases hp : pv = 47
          · simp only [yy, if_pos (show (i : Int) < (s.length : Int) by omega), hidx, hn, hih, if_pos (show (0 : Int) < (i : Int) by omega), hsub, hprev h0]
            subst hp
            simp; rfl
          · simp only [yy, if_pos (show (i : Int) < (s.length : Int) by omega), hidx, hn, hih, if_pos (show (0 : Int) < (i : Int) by omega), hsub, hprev h0]
            have : ¬ ((pv : Int) = 47) := by omega
            simp [hp, this]; rfl
        · simp only [yy, if_pos (show (i : Int) < (s.length : Int) by omega), hidx, hn, hih, if_neg (show ¬ (0 : Int) < (i : Int) by omega)]
          simp [h0]
      · rw [if_neg h47, Bool.false_and]
        simp only [yy, if_pos (show (i : Int) < (s.length : Int) by omega), hidx, hn]
        repeat' split
        all_goals first | rfl | (exfalso; omega)
theorem v.word (s : Bytes) (hs : s.length ≤ 1048576) : vl e 10 0 [.str s] = some (.bool (wordB s)) := by
  rw [w.seichelaw17_word]; unfold y.seichelaw17_word wordB
  exact v.word8 s hs s.length 0 (by omega)
/-! ## Same -/
theorem v.Same (r : MRes) (hl : r.reps.length ≤ 1000000) : vl e 9 0 [resM r, resM r] = some (.bool true) := by
  have s1 : evp .scs [resM r] = some (resM r) := rfl
  have l0 : evp (.ld none 0) [resM r] = some (.str r.path) := rfl
  have l1 : evp (.ld none 1) [resM r] = some (I r.level) := rfl
  have l2 : evp (.ld none 2) [resM r] = some (rps r.reps) := rfl
  have l3 : evp (.ld none 3) [resM r] = some (I r.fault) := rfl
  have key : ∀ (n i : Nat), i + n = r.reps.length → vl e 9 16 [I r.reps.length, I i, resM r, resM r] = some (.bool true) := by
    intro n
    induction n with
    | zero =>
      intro i hi
      rw [w.seicheref17_Same_16]; unfold y.seicheref17_Same_16
      simp only [yy, if_neg (show ¬ ((i : Int) < (r.reps.length : Int)) by omega)]
    | succ n ih =>
      intro i hi
      have hlt : i < r.reps.length := by omega
      rw [w.seicheref17_Same_16]; unfold y.seicheref17_Same_16
      have e2 : evp (.ld (some 2) 0) [rpV r.reps[i]] = some (rpV r.reps[i]) := rfl
      have e3 : evp (.bin .neq (.flat [(none, true), (none, true)])) [rpV r.reps[i], rpV r.reps[i]] = some (.bool false) := by
        simp [evp, abin, aeq, flatEq, kdEq, rpV]; rfl
      simp only [yy, if_pos (show (i : Int) < (r.reps.length : Int) by omega), l2, v_getR hlt, e2, e3, next64 hlt (by omega), ih (i + 1) (by omega)]
  rw [w.seicheref17_Same]; unfold y.seicheref17_Same
  simp only [yy, s1, l0, l1, l2, l3, if_true]
  rw [w.seicheref17_Same_7]; unfold y.seicheref17_Same_7
  simp only [yy, l2, List.length_map]
  exact key r.reps.length 0 (by omega)

/-! ## what alive tells -/
def e17 : Nat → List V → Option V := fun f xs => match f, xs with
  | 11, [.str s, .str [c]] => if s.length < 4294967281 then some (strs (splitOn c s)) else none
  | 14, [.str s, .str c] => if s.length < 4294967281 then some (I (Lib.index s c)) else none
  | 15, [.str s, .fn 16 []] => if s.length < 4294967281 then some (strs (fldB blankB3 s [])) else none
  | 33, [.str s, .str [34, 39, 96, 92, 40, 41, 44, 61, 62]] => if s.length < 4294967281 ∧ okC s = true then some (.bool (s.any fun b => chars9.contains b)) else none
  | 34, [.str s] => if s.length ≤ 281474976710656 then some (atoiE (atoiV s)) else none
  | 35, [.int .i64 1] => some (.str [49])
  | 35, [.int .i64 21] => some (.str [50, 49])
  | _, _ => none
theorem itoa1 : Lib.itoa 1 = [49] := by simp [Lib.itoa, Lib.decDigits]
theorem itoa21 : Lib.itoa 21 = [50, 49] := by simp [Lib.itoa, Lib.decDigits]
theorem e17_ok (he : EnvM e) (f : Nat) (xs : List V) (r : V) (h : e17 f xs = some r) : vl e f 0 xs = some r := by
  unfold e17 at h
  split at h
  · split at h
    · rename_i hc; cases h; exact v.split he _ _ hc
    · cases h
  · split at h
    · rename_i hc; cases h; exact v.index he _ _ hc
    · cases h
  · split at h
    · rename_i hc; cases h; exact v.fields he _ hc
    · cases h
  · split at h
    · rename_i hc; cases h; exact val_ext (by kernel_rfl) (he.cany _ hc.1 hc.2)
    · cases h
  · split at h
    · rename_i hc; cases h; exact v.atoi he _ hc
    · cases h
  · cases h; rw [← itoa1]; exact v.itoa he _ (by omega) (by omega)
  · cases h; rw [← itoa21]; exact v.itoa he _ (by omega) (by omega)
  · cases h
theorem v.alive17 (he : EnvM e) : vl e 6 0 [] = some (.bool true) := run_eq (T := ents) (e17_ok he) 200 (by kernel_rfl)

/-! ## what a word is -/
theorem wordL_al : ∀ {s : Bytes} {p : Bool}, wordL p s = true → ∀ c ∈ s, al c.toNat = true ∨ c.toNat = 47
  | [], _, _, c, hc => by cases hc
  | a :: r, p, h, c, hc => by
    rw [wordL] at h
    split at h
    · rename_i ha
      rcases List.mem_cons.1 hc with rfl | hc
      · exact .inl ha
      · exact wordL_al h c hc
    · split at h
      · rename_i h47
        split at h
        · rcases List.mem_cons.1 hc with rfl | hc
          · exact .inr h47
          · exact wordL_al h c hc
        · cases h
      · cases h
theorem wordL_hd {s : Bytes} (h : wordL false s = true) : s.headD 0 ≠ 47 := by
  cases s with
  | nil => decide
  | cons a r =>
    intro h'
    rw [List.headD_cons] at h'
    subst h'
    rw [wordL] at h
    simp [al] at h
theorem wordL_dbl : ∀ {s : Bytes} {p : Bool}, wordL p s = true → dbl s = false
  | [], _, _ => rfl
  | a :: r, p, h => by
    rw [wordL] at h
    rw [dbl]
    split at h
    · rename_i ha
      rw [wordL_dbl h, Bool.or_false]
      have : ¬ a = 47 := fun h' => by subst h'; exact absurd ha (by decide)
      rw [decide_eq_false this]; rfl
    · split at h
      · split at h
        · rw [wordL_dbl h, Bool.or_false]
          have := wordL_hd h
          rw [decide_eq_false this, Bool.and_false]
        · cases h
      · cases h
structure Wd (s : Bytes) : Prop where
  ne : s ≠ []
  len : s.length ≤ 100
  ch : ∀ c ∈ s, al c.toNat = true ∨ c.toNat = 47
  hd : s.headD 0 ≠ 47
  db : dbl s = false
theorem wd_of {s : Bytes} (h : wordB s = true) : Wd s := by
  unfold wordB at h
  simp only [Bool.and_eq_true, decide_eq_true_eq] at h
  exact ⟨h.2.1, h.2.2, wordL_al h.1, wordL_hd h.1, wordL_dbl h.1⟩
theorem Wd.range {s : Bytes} (h : Wd s) : ∀ c ∈ s, (97 ≤ c.toNat ∧ c.toNat ≤ 122) ∨ (46 ≤ c.toNat ∧ c.toNat ≤ 57) := fun c hc => by
  have := h.ch c hc
  unfold al at this
  simp only [Bool.or_eq_true, Bool.and_eq_true, decide_eq_true_eq] at this
  omega
theorem Wd.nb {s : Bytes} (h : Wd s) : ∀ c ∈ s, blankB3 c = false := fun c hc => by
  have := h.range c hc
  unfold blankB3
  simp only [Bool.or_eq_false_iff, decide_eq_false_iff_not]
  refine ⟨?_, ?_, ?_⟩ <;> (rintro rfl; simp at this)
theorem Wd.n10 {s : Bytes} (h : Wd s) : (10 : UInt8) ∉ s := fun hc => by have := h.range _ hc; simp at this
theorem Wd.asc {s : Bytes} (h : Wd s) : ascB s = true := by
  unfold ascB
  rw [List.all_eq_true]
  intro c hc
  have := h.range c hc
  simp; omega
theorem Wd.good {s : Bytes} (h : Wd s) : goodB s = true := by
  unfold goodB
  rw [decide_eq_true h.ne, Bool.true_and]
  have : (s.any fun b => chars9.contains b) = false := by
    rw [List.any_eq_false]
    intro c hc h'
    have := h.range c hc
    have h2 := List.contains_iff_mem.1 h'
    simp only [chars9, List.mem_cons, List.not_mem_nil, or_false] at h2
    rcases h2 with rfl | rfl | rfl | rfl | rfl | rfl | rfl | rfl | rfl <;> simp at this
  rw [this]; rfl
end Go.Proofs.YtanocopjancaiaaDoor
/-
  What every card of this seat needs: the program's closed facts; a world for the witness; what came in. Own work of this seat, after the seat's worked example of a row that lists variables.
-/
namespace Go.Proofs.YtanocopjancaiaaDoor
open Go.ChangeShapes Go.WideShapes Go.RowKit Go.Abs

theorem ownK : ownKnob Tryd.prog.godebug = none := by kernel_rfl
theorem kids : Kids Tryd.prog (· < Tryd.prog.types.size) := kids_rows (by kernel_rfl) (by kernel_rfl)
theorem full : ∀ t e, t < Tryd.prog.types.size → Tryd.prog.underlying t = some (.slice e) → 0 < Tryd.prog.cellsOf e := slices_full_of Tryd.prog (by kernel_rfl)

/-- the cells of plain data -/
def litCells : Nat → DataW Unit → List Value
  | 0, _ => []
  | _ + 1, .lit (.int k n) => [.int k n]
  | n + 1, .agg ps => ps.flatMap (litCells n)
  | _, _ => []
noncomputable def laidWorld (os : Os) (args : Array Value) : World :=
  { World.holding Tryd.prog os ⟨#[], #[], []⟩ with heap := (((World.holding Tryd.prog os ⟨#[], #[], []⟩).heap.modify 1 fun
      | .cells _ t frozen => .cells (litCells 5 Rows.laid_unicode_utf8_first).toArray t frozen
      | o => o).modify 2 fun
      | .cells _ t frozen => .cells (litCells 5 Rows.laid_unicode_utf8_acceptRanges).toArray t frozen
      | o => o) }

/-! ## what came in, of a type -/
theorem u8_row : ∀ {wss : List (List V)}, (∀ ws ∈ wss, ∃ n : Int, ws = [.int .u8 n] ∧ IntKind.u8.min ≤ n ∧ n ≤ IntKind.u8.max) → ∃ l : Bytes, l.length = wss.length ∧ wss.flatten = encB l
  | [], _ => ⟨[], rfl, rfl⟩
  | w :: r, h => by
    obtain ⟨n, rfl, h1, h2⟩ := h w (by simp)
    obtain ⟨l, hl, hf⟩ := u8_row (wss := r) fun x hx => h x (by simp [hx])
    have h1 : 0 ≤ n := h1
    have h2 : n ≤ 255 := h2
    refine ⟨UInt8.ofNat n.toNat :: l, by simp [hl], ?_⟩
    have e : ((UInt8.ofNat n.toNat).toNat : Int) = n := by
      rw [UInt8.toNat_ofNat_of_lt' (show n.toNat < 256 by omega)]; omega
    show [V.int .u8 n] ++ r.flatten = _
    rw [hf]
    simp only [encB, List.map_cons, byteV]
    rw [e]; rfl
section
variable {P : Program} {m : Nat} {t e : TypeId} {vs : List V}
theorem in_bool (hu : P.underlying t = some .bool) (h : HasT P (m + 1) t vs) : ∃ x : Bool, nfL vs = [V.bool x] := by
  simp only [HasT, hu] at h
  obtain ⟨b, rfl⟩ := h; exact ⟨b, rfl⟩
theorem in_int {k : IntKind} (hu : P.underlying t = some (.int k)) (h : HasT P (m + 1) t vs) : ∃ x : Int, nfL vs = [V.int k x] := by
  simp only [HasT, hu] at h
  obtain ⟨n, rfl, _⟩ := h; exact ⟨n, rfl⟩
theorem in_i64 (hu : P.underlying t = some (.int .i64)) (h : HasT P (m + 1) t vs) : ∃ x : Int, nfL vs = [V.int .i64 x] ∧ -9223372036854775808 ≤ x ∧ x ≤ 9223372036854775807 := by
  simp only [HasT, hu] at h
  obtain ⟨n, rfl, h1, h2⟩ := h; exact ⟨n, rfl, h1, h2⟩
theorem in_u8 (hu : P.underlying t = some (.int .u8)) (h : HasT P (m + 1) t vs) : ∃ x : UInt8, nfL vs = [byteV x] := by
  simp only [HasT, hu] at h
  obtain ⟨n, rfl, h1, h2⟩ := h
  have h1 : 0 ≤ n := h1
  have h2 : n ≤ 255 := h2
  refine ⟨UInt8.ofNat n.toNat, ?_⟩
  have e : ((UInt8.ofNat n.toNat).toNat : Int) = n := by
    rw [UInt8.toNat_ofNat_of_lt' (show n.toNat < 256 by omega)]; omega
  show [V.int .u8 n] = [V.int .u8 _]
  rw [e]
theorem in_str (hu : P.underlying t = some .string) (h : HasT P (m + 1) t vs) : ∃ x : Bytes, nfL vs = [V.str x] := by
  simp only [HasT, hu] at h
  obtain ⟨b, rfl⟩ := h; exact ⟨b, rfl⟩
theorem in_sl {α : Type} {E : α → V} {c : Nat} (hu : P.underlying t = some (.slice e)) (hc : P.cellsOf e = c) (he : ∀ ws, HasT P m e ws → ∃ x, (elV P e ws).nf = E x) (h : HasT P (m + 1) t vs) : ∃ l : List α, nfL vs = [V.sl false c (l.map E)] := by
  simp only [HasT, hu, hc] at h
  rcases h with rfl | ⟨xs, rfl, hx⟩
  · exact ⟨[], rfl⟩
  · have : ∃ l : List α, nfL xs = l.map E := by
      clear hc
      induction xs with
      | nil => exact ⟨[], rfl⟩
      | cons x r ih =>
        obtain ⟨l, hl⟩ := ih fun y hy => hx y (by simp [hy])
        obtain ⟨ws, hw, rfl⟩ := hx x (by simp)
        obtain ⟨a, ha⟩ := he ws hw
        exact ⟨a :: l, by rw [nfL, ha, hl]; rfl⟩
    obtain ⟨l, hl⟩ := this
    exact ⟨l, by show [V.sl false c (nfL xs)] = _; rw [hl]⟩
theorem in_arr {n : Nat} (hu : P.underlying t = some (.array n e)) (he : P.underlying e = some (.int .u8)) (h : HasT P (m + 2) t vs) : ∃ x : Arr n, nfL vs = encB x.1 := by
  unfold HasT at h
  simp only [hu] at h
  obtain ⟨wss, hl, hw, rfl⟩ := h
  obtain ⟨l, h1, h2⟩ := u8_row (wss := wss) fun ws hws => by
    have := hw ws hws
    simpa only [HasT, he] using this
  exact ⟨⟨l, by rw [h1, hl]⟩, by rw [h2, nf_encB]⟩
theorem el_agg (ha : isAgT P t = true) {l : List V} (h : nfL vs = l) : (elV P t vs).nf = .agg l := by
  unfold elV; rw [if_pos ha]; show V.agg (nfL vs) = _; rw [h]
theorem el_one (ha : isAgT P t = false) {v : V} (h : nfL vs = [v]) : (elV P t vs).nf = v := by
  unfold elV; rw [if_neg (by simp [ha])]
  cases vs with
  | nil => cases h
  | cons x r => rw [nfL] at h; exact (List.cons.inj h).1
theorem nfL_flat : ∀ {wss : List (List V)}, nfL wss.flatten = (wss.map nfL).flatten
  | [] => rfl
  | w :: r => by rw [List.flatten_cons, nfL_append, nfL_flat]; rfl
end

/-! ## weights -/
mutual
theorem nf_wt : ∀ v : V, v.nf.wt ≤ v.wt
  | .agg cs => by simp only [V.nf, V.wt]; have := nfL_wt cs; omega
  | .sl true sz [] => by simp [V.nf, V.wt]
  | .sl true _ (x :: xs) => by simp [V.nf, V.wt]
  | .sl false sz xs => by simp only [V.nf, V.wt]; have := nfL_wt xs; omega
  | .el cs off => by simp [V.nf, V.wt]
  | .tup cs => by simp [V.nf, V.wt]
  | .fn f cs => by simp [V.nf, V.wt]
  | .mfn f cs => by simp [V.nf, V.wt]
  | .iface t v => by simp [V.nf, V.wt]
  | .bool b => Nat.le_refl _
  | .int k n => Nat.le_refl _
  | .str s => Nat.le_refl _
  | .osl a b c d e => Nat.le_refl _
  | .gp g o => Nat.le_refl _
  | .ptr i o => Nat.le_refl _
  | .nilptr => Nat.le_refl _
  | .map i => Nat.le_refl _
  | .nilmap => Nat.le_refl _
  | .nilfn => Nat.le_refl _
  | .nilif => Nat.le_refl _
theorem nfL_wt : ∀ l : List V, wtL (nfL l) ≤ wtL l
  | [] => Nat.le_refl _
  | v :: r => by simp only [nfL, wtL]; have := nf_wt v; have := nfL_wt r; omega
end
theorem wt_of {v w : V} {n : Nat} (h : v.nf = w) (hn : v.wt ≤ n) : w.wt ≤ n := by rw [← h]; exact Nat.le_trans (nf_wt v) hn
theorem wt_sl {α : Type} {E : α → V} {c : Nat} {l : List α} {n : Nat} (h : (V.sl false c (l.map E)).wt ≤ n) : l.length ≤ n ∧ ∀ a ∈ l, (E a).wt ≤ n := by
  simp only [V.wt] at h
  refine ⟨by have := wtL_length (l.map E); simp at this; omega, fun a ha => ?_⟩
  have := wtL_mem (List.mem_map_of_mem (f := E) ha)
  omega
theorem wt_str {s : Bytes} {n : Nat} (h : (V.str s).wt ≤ n) : s.length ≤ n := by simp only [V.wt] at h; omega
theorem wt_mem {cs : List V} {v : V} {n : Nat} (h : (V.agg cs).wt ≤ n) (hv : v ∈ cs) : v.wt ≤ n := by
  simp only [V.wt] at h
  have := wtL_mem hv; omega

theorem law_end {cx : Cx} {c : FC} {args : List V} {xs : Array Value} (hc : c.Holds cx) (hr : c.rel (nfL args) (.bool true)) (hx : RepL cx.w0 (G0 cx.w0) (fun _ => none) args xs) :
    Calls cx.P c.f xs cx.w0 fun e W' => e = .returned (.bool true) ∧ Below cx.w0.heap.size cx.w0 W' := by
  obtain ⟨v, o, h1, h2, _⟩ := hc args _ hr
  rw [nf_bool h2] at h1
  exact law_calls h1 hx
end Go.Proofs.YtanocopjancaiaaDoor
/-
  V9: the law ModfileBlank. Own work of this seat.
-/
namespace Go.Proofs.YtanocopjancaiaaDoor
open Go.Abs
set_option maxRecDepth 10000
variable {e : Nat → List V → Option V}
/-! ## blanks, and what stands behind a // -/
theorem cutI_cons (a : UInt8) (s : Bytes) : cutI (a :: s) = if a = 47 ∧ s.headD 0 = 47 then [] else a :: cutI s := by
  have hp : List.isPrefixOf [47, 47] (a :: s) = decide (a = 47 ∧ s.headD 0 = 47) := by
    cases s with
    | nil => simp [List.isPrefixOf]
    | cons b q =>
      show ((47 == a) && ((47 == b) && true)) = _
      by_cases h1 : a = 47
      · subst h1
        by_cases h2 : b = 47
        · subst h2; rfl
        · have : ((47 : UInt8) == b) = false := by simpa using Ne.symm h2
          simp [this, h2]
      · have : ((47 : UInt8) == a) = false := by simpa using Ne.symm h1
        simp [this, h1]
  have hi : Lib.index (a :: s) [47, 47] = if List.isPrefixOf [47, 47] (a :: s) then 0 else if Lib.index s [47, 47] == -1 then -1 else Lib.index s [47, 47] + 1 := by rw [Lib.index]
  have hge := Lib.index_ge s [47, 47]
  rw [hp] at hi
  by_cases h : a = 47 ∧ s.headD 0 = 47
  · rw [decide_eq_true h, if_pos rfl] at hi
    unfold cutI
    rw [hi, if_pos h]; rfl
  · rw [decide_eq_false h, if_neg (show ¬ (false = true) by decide)] at hi
    rw [if_neg h]
    by_cases h1 : Lib.index s [47, 47] = -1
    · rw [h1] at hi
      have hi' : Lib.index (a :: s) [47, 47] = -1 := hi
      unfold cutI
      rw [hi', h1]; rfl
    · have e1 : (Lib.index s [47, 47] == -1) = false := by simpa using h1
      rw [e1, if_neg (show ¬ (false = true) by decide)] at hi
      unfold cutI
      rw [hi, if_pos (show 0 ≤ Lib.index s [47, 47] + 1 by omega), if_pos (show 0 ≤ Lib.index s [47, 47] by omega)]
      rw [show (Lib.index s [47, 47] + 1).toNat = (Lib.index s [47, 47]).toNat + 1 by omega, List.take_succ_cons]
theorem cutI_nil : cutI [] = [] := rfl
theorem cutI_end (note : Bytes) : ∀ l : Bytes, cutI (l ++ 32 :: 47 :: 47 :: note) = if dbl l = true then cutI l else l ++ [32]
  | [] => by
    show cutI (32 :: 47 :: 47 :: note) = _
    rw [cutI_cons, if_neg (by simp), cutI_cons, if_pos ⟨rfl, rfl⟩]; rfl
  | a :: r => by
    have ih := cutI_end note r
    rw [List.cons_append, cutI_cons, cutI_cons a r, dbl]
    have hh : (r ++ 32 :: 47 :: 47 :: note).headD 0 = 47 ↔ r.headD 0 = 47 := by
      cases r with
      | nil => simp
      | cons b q => simp
    by_cases h : a = 47 ∧ r.headD 0 = 47
    · have h2 : a = 47 ∧ (r ++ 32 :: 47 :: 47 :: note).headD 0 = 47 := ⟨h.1, hh.2 h.2⟩
      rw [if_pos h2]
      rw [decide_eq_true h.1, decide_eq_true h.2]
      simp only [Bool.and_true, Bool.true_or, if_true]
      rw [if_pos h]
    · rw [if_neg (fun h2 => h ⟨h2.1, hh.1 h2.2⟩), ih, if_neg h]
      have hd : (decide (a = 47) && decide (r.headD 0 = 47)) = false := by
        rw [Bool.and_eq_false_iff]
        by_cases h1 : a = 47
        · exact .inr (decide_eq_false (fun h2 => h ⟨h1, h2⟩))
        · exact .inl (decide_eq_false h1)
      rw [hd, Bool.false_or]
      split <;> simp
theorem fld_last (q : UInt8 → Bool) (b : UInt8) (hb : q b = true) : ∀ (s cur : Bytes), fldB q (s ++ [b]) cur = fldB q s cur
  | [], cur => by
    have e : fldB q [b] cur = if q b then (if cur = [] then fldB q [] [] else cur :: fldB q [] []) else fldB q [] (cur ++ [b]) := rfl
    show fldB q [b] cur = _
    rw [e, if_pos hb]; rfl
  | c :: s, cur => by
    rw [List.cons_append, fldB, fldB, fld_last q b hb s [], fld_last q b hb s (cur ++ [c])]
theorem words_A (note : Bytes) : wordsOf ([9, 32, 13, 47, 47] ++ note) = [] := by
  have h : cutI ([9, 32, 13, 47, 47] ++ note) = [9, 32, 13] := by
    show cutI (9 :: 32 :: 13 :: 47 :: 47 :: note) = _
    rw [cutI_cons, if_neg (by simp), cutI_cons, if_neg (by simp), cutI_cons, if_neg (by simp), cutI_cons, if_pos ⟨rfl, rfl⟩]
  unfold wordsOf
  rw [h]; rfl
theorem words_B (l note : Bytes) : wordsOf ([32, 9] ++ l ++ [32, 47, 47] ++ note) = wordsOf l := by
  have h : cutI ([32, 9] ++ l ++ [32, 47, 47] ++ note) = 32 :: 9 :: (if dbl l = true then cutI l else l ++ [32]) := by
    show cutI (32 :: 9 :: ((l ++ [32, 47, 47]) ++ note)) = _
    have e1 : (l ++ [32, 47, 47] ++ note : Bytes) = l ++ 32 :: 47 :: 47 :: note := by simp
    rw [e1, cutI_cons, if_neg (by simp), cutI_cons, if_neg (by simp), cutI_end]
  unfold wordsOf
  rw [h, fld_b blankB3 32 (by decide), fld_b blankB3 9 (by decide)]
  by_cases hd : dbl l = true
  · rw [if_pos hd]
  · rw [if_neg hd, fld_last blankB3 32 (by decide), cut_id (by simpa using hd)]

/-! ## twice as many lines -/
def twice (r : MRes) : MRes := { r with fault := 2 * r.fault }
theorem goM_twice (n : Nat) : ∀ (ws : List (List Bytes)) (i : Nat) (m : MSt), goM (2 * n) (ws.flatMap fun w => [[], w]) (2 * i) m = twice (goM n ws i m)
  | [], i, m => by
    show goM (2 * n) [] (2 * i) m = _
    rw [goM, goM]
    split
    · unfold twice; simp
    · unfold twice; simp
  | w :: r, i, m => by
    show goM (2 * n) ([] :: w :: (r.flatMap fun w => [[], w])) (2 * i) m = _
    rw [goM]
    have h0 : lineB [] m = (true, m) := rfl
    rw [h0, if_pos rfl, goM, goM]
    by_cases h : (lineB w m).1 = true
    · rw [if_pos h, if_pos h, ← goM_twice n r (i + 1) _]; rfl
    · rw [if_neg h, if_neg h]
      unfold twice
      congr 1
theorem goM_b (n : Nat) : ∀ (ws : List (List Bytes)) (i : Nat) (m : MSt), i + ws.length = n → 0 ≤ (goM n ws i m).fault ∧ (goM n ws i m).fault ≤ n
  | [], i, m, h => by
    rw [goM]
    split <;> simp
  | w :: r, i, m, h => by
    rw [goM]
    rw [List.length_cons] at h
    split
    · exact goM_b n r (i + 1) _ (by omega)
    · refine ⟨?_, ?_⟩
      · show (0 : Int) ≤ ((i + 1 : Nat) : Int)
        omega
      · show ((i + 1 : Nat) : Int) ≤ (n : Int)
        omega
theorem goM_reps (n : Nat) : ∀ (ws : List (List Bytes)) (i : Nat) (m : MSt), (goM n ws i m).reps.length ≤ m.reps.length + ws.length
  | [], i, m => by
    rw [goM]
    split <;> simp
  | w :: r, i, m => by
    rw [goM]
    split
    · have h1 := goM_reps n r (i + 1) (lineB w m).2
      have h2 := reps_line w m
      simp; omega
    · simp
abbrev two (note l : Bytes) : List Bytes := [[9, 32, 13, 47, 47] ++ note, [32, 9] ++ l ++ [32, 47, 47] ++ note]
theorem words_two (note : Bytes) (ls : List Bytes) : (ls.flatMap (two note)).map wordsOf = (ls.map wordsOf).flatMap fun w => [[], w] := by
  induction ls with
  | nil => rfl
  | cons l r ih =>
    simp only [List.flatMap_cons, List.map_append, List.map_cons, List.map_nil, words_A, words_B, ih]
theorem parse_two {t s note : Bytes} (h : splitOn 10 t = (splitOn 10 s).flatMap (two note)) : parseM t = twice (parseM s) := by
  have hl : ∀ ls : List Bytes, (ls.flatMap (two note)).length = 2 * ls.length := by
    intro ls
    induction ls with
    | nil => rfl
    | cons l r ih => simp only [List.flatMap_cons, List.length_append, ih, List.length_cons, List.length_nil]; omega
  unfold parseM
  rw [h, hl, words_two]
  exact goM_twice _ _ 0 m0
theorem v.B47 (he : EnvM e) (s note : Bytes) (hs : s.length ≤ 1024) (hn : note.length ≤ 512) (h10 : (10 : UInt8) ∉ note) : ∀ (n i : Nat) (t : Bytes), i + n = (splitOn 10 s).length → (i = 0 ∧ t = [] ∨ 0 < i ∧ splitOn 10 t = ((splitOn 10 s).take i).flatMap (two note)) → t.length ≤ 3000 * i →
    vl e 3 47 [.str s, .str note, .str t, strs (splitOn 10 s), I (splitOn 10 s).length, I i] = some (.bool true) := by
  have hnum := splitOn_num 10 s
  have hpos : 0 < (splitOn 10 s).length := List.length_pos_iff.2 (splitOn_ne 10 s)
  have hle := splitOn_le 10 s
  have h10s : ∀ l ∈ splitOn 10 s, (10 : UInt8) ∉ l := by
    have key : ∀ s : Bytes, ∀ l ∈ splitOn 10 s, (10 : UInt8) ∉ l := by
      intro s
      induction s with
      | nil => intro l hl; simp [splitOn] at hl; simp [hl]
      | cons b r ih =>
        intro l hl
        unfold splitOn at hl
        split at hl
        · rcases List.mem_cons.1 hl with rfl | hl
          · simp
          · exact ih l hl
        · rename_i hb
          split at hl
          · simp at hl; subst hl; simp; exact fun h => hb h.symm
          · rename_i z zs hz
            rcases List.mem_cons.1 hl with rfl | hl
            · have := ih z (by rw [hz]; simp)
              simp only [List.mem_cons, not_or]
              exact ⟨fun h => hb h.symm, this⟩
            · exact ih l (by rw [hz]; simp [hl])
    exact key s
  have hw : ∀ x : Bytes, ∀ y ∈ wordsOf x, okC y = true := fun _ _ _ => rfl
  intro n
  induction n with
  | zero =>
    intro i t hi ht htl
    rw [w.seichelaw17_ModfileBlank_47]; unfold y.seichelaw17_ModfileBlank_47
    have hsp : splitOn 10 t = (splitOn 10 s).flatMap (two note) := by
      rcases ht with ⟨h, _⟩ | ⟨_, h⟩
      · omega
      · rw [h, List.take_of_length_le (by omega)]
    have p1 := v.Parse he s (by omega) (fun x _ => hw x)
    have hmem : ∀ x ∈ splitOn 10 t, x.length ≤ 999999 := by
      intro x hx
      rw [hsp] at hx
      obtain ⟨l, hl, hx⟩ := List.mem_flatMap.1 hx
      have := hle l hl
      simp only [two, List.mem_cons, List.not_mem_nil, or_false] at hx
      rcases hx with rfl | rfl
      · simp; omega
      · simp; omega
    have hlen2 : (splitOn 10 t).length ≤ 900000 := by
      have hl : ∀ ls : List Bytes, (ls.flatMap (two note)).length = 2 * ls.length := by
        intro ls
        induction ls with
        | nil => rfl
        | cons l r ih => simp only [List.flatMap_cons, List.length_append, ih, List.length_cons, List.length_nil]; omega
      rw [hsp, hl]; omega
    have p2 := v.ParseL he t (by omega) hlen2 (fun x hx => ⟨hmem x hx, hw x⟩)
    rw [parse_two hsp] at p2
    have hb := goM_b (splitOn 10 s).length ((splitOn 10 s).map wordsOf) 0 m0 (by simp)
    have hr := goM_reps (splitOn 10 s).length ((splitOn 10 s).map wordsOf) 0 m0
    have hr2 : (parseM s).reps.length ≤ 1000000 := by
      have : (parseM s).reps.length ≤ m0.reps.length + ((splitOn 10 s).map wordsOf).length := hr
      simp [m0] at this; omega
    have hb2 : 0 ≤ (parseM s).fault ∧ (parseM s).fault ≤ ((splitOn 10 s).length : Int) := hb
    generalize parseM s = r at p1 p2 hr2 hb2
    have c1 : evp (.cat [some 4]) [resM r] = some (resM r) := rfl
    have c2 : evp (.cat [some 4]) [resM (twice r)] = some (resM (twice r)) := rfl
    have l1 : evp (.ld none 3) [resM r] = some (I r.fault) := rfl
    have l2 : evp (.ld none 3) [resM (twice r)] = some (I (2 * r.fault)) := rfl
    have hwm : IntKind.i64.wrap (2 * r.fault) = 2 * r.fault := by
      obtain ⟨k, hk⟩ : ∃ k : Nat, r.fault = k := ⟨r.fault.toNat, by omega⟩
      rw [hk, show (2 * (k : Int)) = (((2 * k : Nat)) : Int) by omega]; exact w64 _ (by omega)
    by_cases h0 : 0 < r.fault
    · simp only [yy, if_neg (show ¬ ((i : Int) < ((splitOn 10 s).length : Int)) by omega), p1, p2, c1, c2, l1, l2, if_pos h0, v_mul, hwm, decide_true]
    · have htw : twice r = r := by
        have : r.fault = 0 := by omega
        unfold twice; cases r; simp at this ⊢; omega
      have hsame := v.Same (e := e) r hr2
      rw [htw] at p2
      simp only [yy, if_neg (show ¬ ((i : Int) < ((splitOn 10 s).length : Int)) by omega), p1, p2, c1, l1, if_neg h0, hsame]
  | succ n ih =>
    intro i t hi ht htl
    have hlt : i < (splitOn 10 s).length := by omega
    have hl1 := hle _ (List.getElem_mem hlt)
    have hl10 := h10s _ (List.getElem_mem hlt)
    have htake : (splitOn 10 s).take (i + 1) = (splitOn 10 s).take i ++ [(splitOn 10 s)[i]] := by rw [List.take_add_one, List.getElem?_eq_getElem hlt]; rfl
    rw [w.seichelaw17_ModfileBlank_47]; unfold y.seichelaw17_ModfileBlank_47
    have hih := fun t' => ih (i + 1) t' (by omega)
    rw [htake] at hih
    have hgt := v_get hlt
    have hnx := next64 hlt (by omega)
    generalize (splitOn 10 s)[i] = l at hl1 hl10 hih hgt
    have hA : (10 : UInt8) ∉ ([9, 32, 13, 47, 47] ++ note : Bytes) := by
      intro h; rcases List.mem_append.1 h with h | h
      · simp at h
      · exact h10 h
    have hB : (10 : UInt8) ∉ ([32, 9] ++ l ++ [32, 47, 47] ++ note : Bytes) := by
      intro h
      simp only [List.mem_append] at h
      rcases h with ((h | h) | h) | h
      · simp at h
      · exact hl10 h
      · simp at h
      · exact h10 h
    have add : ∀ a b : Bytes, a.length + b.length ≤ 4611686018427387904 → evp (.bin .add .no) [.str a, .str b] = some (.str (a ++ b)) := fun a b h => v_sadd h
    have hslash : 0 < l.length → ∃ c, evp .idx [.str l, .int .i64 ((l.length : Int) - 1)] = some (byteV c) := fun h => by
      refine ⟨l[l.length - 1], ?_⟩
      rw [show ((l.length : Int) - 1) = (((l.length - 1 : Nat)) : Int) by omega]
      exact v_idx (by rw [List.getElem?_eq_getElem])
    have hsub : 0 < l.length → IntKind.i64.wrap ((l.length : Int) - 1) = (l.length : Int) - 1 := fun h => by
      rw [show ((l.length : Int) - 1) = (((l.length - 1 : Nat)) : Int) by omega]; exact w64 _ (by omega)
    -- the text, and what comes behind it
    have go : ∀ T : Bytes, T.length ≤ 3000 * i + 1 → (i = 0 ∧ T = [] ∨ 0 < i ∧ T = t ++ [10]) →
        vl e 3 47 [.str s, .str note, .str (T ++ [9, 32, 13, 47, 47] ++ note ++ [10, 32, 9] ++ l ++ [32, 47, 47] ++ note), strs (splitOn 10 s), I (splitOn 10 s).length, I (i + 1 : Nat)] = some (.bool true) := by
      intro T hT hTT
      refine hih _ (.inr ⟨by omega, ?_⟩) (by simp; omega)
      have e1 : (T ++ [9, 32, 13, 47, 47] ++ note ++ [10, 32, 9] ++ l ++ [32, 47, 47] ++ note : Bytes) = T ++ (([9, 32, 13, 47, 47] ++ note) ++ 10 :: ([32, 9] ++ l ++ [32, 47, 47] ++ note)) := by simp
      have e2 : splitOn 10 (([9, 32, 13, 47, 47] ++ note) ++ 10 :: ([32, 9] ++ l ++ [32, 47, 47] ++ note)) = two note l := by
        rw [split_app 10 _ _ hA, split_one 10 _ hB]
      rw [e1, List.flatMap_append]
      rcases hTT with ⟨h0, rfl⟩ | ⟨h0, rfl⟩
      · subst h0
        rw [List.nil_append, e2]; simp
      · rcases ht with ⟨h, _⟩ | ⟨_, h⟩
        · omega
        · rw [List.append_assoc, List.singleton_append, splitOn_mid, h, e2]; simp
    by_cases hi0 : 0 < i
    · have hgo := go (t ++ [10]) (by simp; omega) (.inr ⟨hi0, rfl⟩)
      generalize hT : (t ++ [10] : Bytes) = T at *
      have hTl : T.length ≤ 3100000 := by rw [← hT]; simp; omega
      have a0 : evp (.bin .add .no) [.str t, .str [10]] = some (.str T) := by rw [← hT]; exact add _ _ (by simp; omega)
      have a1 := add T [9, 32, 13, 47, 47] (by simp; omega)
      have a2 := add (T ++ [9, 32, 13, 47, 47]) note (by simp; omega)
      have a3 := add (T ++ [9, 32, 13, 47, 47] ++ note) [10, 32, 9] (by simp; omega)
      have a4 := add (T ++ [9, 32, 13, 47, 47] ++ note ++ [10, 32, 9]) l (by simp; omega)
      have a5 := add (T ++ [9, 32, 13, 47, 47] ++ note ++ [10, 32, 9] ++ l) [32, 47, 47] (by simp; omega)
      have a6 := add (T ++ [9, 32, 13, 47, 47] ++ note ++ [10, 32, 9] ++ l ++ [32, 47, 47]) note (by simp; omega)
      by_cases hl0 : 0 < l.length
      · obtain ⟨c, hc⟩ := hslash hl0
        have hsb := hsub hl0
        by_cases h47 : (c.toNat : Int) = 47
        · simp only [yy, if_pos (show (i : Int) < ((splitOn 10 s).length : Int) by omega), hgt, v_lds, if_pos (show (0 : Int) < (i : Int) by omega), a0, if_pos (show (0 : Int) < (l.length : Int) by omega), hsb, hc, byteV, if_pos h47]
        · simp only [yy, if_pos (show (i : Int) < ((splitOn 10 s).length : Int) by omega), hgt, v_lds, if_pos (show (0 : Int) < (i : Int) by omega), a0, if_pos (show (0 : Int) < (l.length : Int) by omega), hsb, hc, byteV, if_neg h47, a1, a2, a3, a4, a5, a6, hnx]
          exact hgo
      · simp only [yy, if_pos (show (i : Int) < ((splitOn 10 s).length : Int) by omega), hgt, v_lds, if_pos (show (0 : Int) < (i : Int) by omega), a0, if_neg (show ¬ (0 : Int) < (l.length : Int) by omega), a1, a2, a3, a4, a5, a6, hnx]
        exact hgo
    · have hi1 : i = 0 := by omega
      have htt : t = [] := by
        rcases ht with ⟨_, h⟩ | ⟨h, _⟩
        · exact h
        · omega
      have hgo := go t (by rw [htt]; simp) (.inl ⟨hi1, htt⟩)
      have hTl : t.length ≤ 3100000 := by rw [htt]; simp
      have a1 := add t [9, 32, 13, 47, 47] (by simp; omega)
      have a2 := add (t ++ [9, 32, 13, 47, 47]) note (by simp; omega)
      have a3 := add (t ++ [9, 32, 13, 47, 47] ++ note) [10, 32, 9] (by simp; omega)
      have a4 := add (t ++ [9, 32, 13, 47, 47] ++ note ++ [10, 32, 9]) l (by simp; omega)
      have a5 := add (t ++ [9, 32, 13, 47, 47] ++ note ++ [10, 32, 9] ++ l) [32, 47, 47] (by simp; omega)
      have a6 := add (t ++ [9, 32, 13, 47, 47] ++ note ++ [10, 32, 9] ++ l ++ [32, 47, 47]) note (by simp; omega)
      by_cases hl0 : 0 < l.length
      · obtain ⟨c, hc⟩ := hslash hl0
        have hsb := hsub hl0
        by_cases h47 : (c.toNat : Int) = 47
        · simp only [yy, if_pos (show (i : Int) < ((splitOn 10 s).length : Int) by omega), hgt, v_lds, if_neg (show ¬ (0 : Int) < (i : Int) by omega), if_pos (show (0 : Int) < (l.length : Int) by omega), hsb, hc, byteV, if_pos h47]
        · simp only [yy, if_pos (show (i : Int) < ((splitOn 10 s).length : Int) by omega), hgt, v_lds, if_neg (show ¬ (0 : Int) < (i : Int) by omega), if_pos (show (0 : Int) < (l.length : Int) by omega), hsb, hc, byteV, if_neg h47, a1, a2, a3, a4, a5, a6, hnx]
          exact hgo
      · simp only [yy, if_pos (show (i : Int) < ((splitOn 10 s).length : Int) by omega), hgt, v_lds, if_neg (show ¬ (0 : Int) < (i : Int) by omega), if_neg (show ¬ (0 : Int) < (l.length : Int) by omega), a1, a2, a3, a4, a5, a6, hnx]
        exact hgo
theorem p_modfileBlank (he : EnvM e) (s note : Bytes) (hs : (V.str s).wt ≤ 1048576) (hn : (V.str note).wt ≤ 1048576) : vl e 3 0 [.str s, .str note] = some (.bool true) := by
  have hsl := wt_str hs
  have hnl := wt_str hn
  rw [w.seichelaw17_ModfileBlank]; unfold y.seichelaw17_ModfileBlank
  have out : vl e 3 15 [.str s, .str note, .bool true] = some (.bool true) := by
    rw [w.seichelaw17_ModfileBlank_15]; unfold y.seichelaw17_ModfileBlank_15; simp only [yy, ]
  have key : s.length ≤ 1024 → note.length ≤ 512 → ∀ (n i : Nat), i + n = note.length → (10 : UInt8) ∉ note.take i → vl e 3 24 [.str s, .str note, I i] = some (.bool true) := by
    intro h1 h2 n
    induction n with
    | zero =>
      intro i hi hno
      rw [w.seichelaw17_ModfileBlank_24]; unfold y.seichelaw17_ModfileBlank_24
      rw [List.take_of_length_le (by omega)] at hno
      have hc : vl e 7 0 [.str s, .int .u8 10] = _ := v.Cut s 10 (by omega)
      simp only [yy, if_neg (show ¬ ((i : Int) < (note.length : Int)) by omega), hc, v_lenS]
      exact v.B47 he s note h1 h2 hno (splitOn 10 s).length 0 [] (by omega) (.inl ⟨rfl, rfl⟩) (by simp)
    | succ n ih =>
      intro i hi hno
      have hlt : i < note.length := by omega
      have hidx : evp .idx [.str note, .int .i64 (i : Int)] = some (.int .u8 (note[i].toNat : Int)) := v_idx (by simp [hlt])
      rw [w.seichelaw17_ModfileBlank_24]; unfold y.seichelaw17_ModfileBlank_24
      by_cases h : (note[i].toNat : Int) = 10
      · simp only [yy, if_pos (show (i : Int) < (note.length : Int) by omega), hidx, if_pos h]
      · simp only [yy, if_pos (show (i : Int) < (note.length : Int) by omega), hidx, if_neg h, next64 hlt (by omega)]
        refine ih (i + 1) (by omega) ?_
        rw [List.take_add_one, List.getElem?_eq_getElem hlt]
        intro hm
        rcases List.mem_append.1 hm with hm | hm
        · exact hno hm
        · simp at hm
          exact h (by rw [← hm]; rfl)
  simp only [yy, v.alive17 he]
  by_cases h1 : (1024 : Int) < (s.length : Int)
  · rw [if_pos h1]; exact out
  · rw [if_neg h1]
    by_cases h2 : (512 : Int) < (note.length : Int)
    · rw [decide_eq_true h2]; exact out
    · rw [decide_eq_false h2]
      rw [w.seichelaw17_ModfileBlank_15]; unfold y.seichelaw17_ModfileBlank_15
      simp only [yy, ]
      exact key (by omega) (by omega) note.length 0 (by omega) (by simp)
end Go.Proofs.YtanocopjancaiaaDoor
/-
  YEm: functions that are given by contracts, for the reader of go.mod. Own work of this seat.
-/
namespace Go.Proofs.YtanocopjancaiaaDoor
open Go.Abs Go.RowKit
def exts : List FC := [K.strings_Split, K.strings_Index, K.strings_FieldsFunc_3, K.strings_ContainsAny, K.strconv_Atoi, K.strconv_Itoa]
theorem exts_ok (w : World) (hw : EnvE w) : ∀ c ∈ exts, c.Holds (cxD w) := by
  intro c hc
  simp only [exts, List.mem_cons, List.not_mem_nil, or_false] at hc
  rcases hc with rfl | rfl | rfl | rfl | rfl | rfl
  · exact H.strings_Split w hw.toOK
  · exact H.strings_Index w hw.toOK
  · exact H.strings_FieldsFunc_3 w hw.toOK
  · exact H.strings_ContainsAny w hw.toOK
  · exact H.strconv_Atoi w hw
  · exact H.strconv_Itoa w hw
theorem exts_own : ∀ c ∈ exts, cfg.ow c.f = true → c.own = true := by
  intro c hc h
  simp only [exts, List.mem_cons, List.not_mem_nil, or_false] at hc
  rcases hc with rfl | rfl | rfl | rfl | rfl | rfl
  · rfl
  · exact absurd h (by rw [show cfg.ow K.strings_Index.f = false by kernel_rfl]; decide)
  · rfl
  · exact absurd h (by rw [show cfg.ow K.strings_ContainsAny.f = false by kernel_rfl]; decide)
  · exact absurd h (by rw [show cfg.ow K.strconv_Atoi.f = false by kernel_rfl]; decide)
  · exact absurd h (by rw [show cfg.ow K.strconv_Itoa.f = false by kernel_rfl]; decide)
theorem envX : EnvM (extOf exts) where
  split s c hs := extOf_eq (cs := exts) (c := K.strings_Split) rfl ⟨(s, [c]), splitOn c s, rfl, by simp [g.strings_Split, hs], rfl⟩
  index s c hs := extOf_eq (cs := exts) (c := K.strings_Index) rfl ⟨(s, c), Lib.index s c, rfl, by simp [g.strings_Index, hs], rfl⟩
  fields s hs := extOf_eq (cs := exts) (c := K.strings_FieldsFunc_3) rfl ⟨s, fldB blankB3 s [], rfl, by simp [g.strings_FieldsFunc_3, hs], rfl⟩
  cany s hs _ := extOf_eq (cs := exts) (c := K.strings_ContainsAny) rfl ⟨(s, chars9), s.any fun b => chars9.contains b, rfl, if_pos ⟨hs, by show chars9.length < _; decide, by show 4 ≤ chars9.length; decide, by show ascB chars9 = true; decide⟩, rfl⟩
  atoi s hs := extOf_eq (cs := exts) (c := K.strconv_Atoi) rfl ⟨s, atoiV s, rfl, by simp [g.strconv_Atoi, hs], rfl⟩
  itoa n h0 h1 := extOf_eq (cs := exts) (c := K.strconv_Itoa) rfl ⟨n, Lib.itoa n, rfl, by simp [g.strconv_Itoa, h0, h1], rfl⟩
end Go.Proofs.YtanocopjancaiaaDoor
/-
  GL: package tables that a row's premise lays: what they read as. Own work of this seat.
-/
namespace Go.Proofs.YtanocopjancaiaaDoor
open Go.Abs Go.RowKit Go.ChangeShapes Go.WideShapes
section
variable {P : Program} {w : World}
theorem laid_mem {n : String} {d : DataW Unit} : ∀ {l : List (String × DataW Unit)} {ps : List MemPlace}, DataW.LaidVars P w l ps → (n, d) ∈ l →
    ∃ g t cs fuel p, P.globalNamed n = some g ∧ (P.globals[g]?).map (·.type) = some t ∧ w.var? P n = some cs ∧ DataW.trod (fun _ => ()) P w 0 (fun _ => true) false fuel t cs.toList = some (d, p)
  | [], _, _, h => by cases h
  | (m, c) :: r, ps, hl, h => by
    obtain ⟨g, t, cs, fuel, p, q, h1, h2, h3, h4, h5, _⟩ := hl
    rcases List.mem_cons.1 h with e | h
    · cases e; exact ⟨g, t, cs, fuel, p, h1, h2, h3, h4⟩
    · exact laid_mem h5 h
theorem var_cells {n : String} {g : Nat} {cs : Array Value} (hg : P.globalNamed n = some g) (h : w.var? P n = some cs) : ∃ t x, w.heap[g]? = some (.cells cs t x) := by
  unfold World.var? at h
  rw [hg, Option.bind_some] at h
  split at h
  · rename_i c t x hx; cases h; exact ⟨t, x, hx⟩
  · cases h
theorem trod_int {enc : TypeId × Value → Unit} {held : Bool} {fuel : Nat} {e : TypeId} {k k' : IntKind} {cs : List Value} {n : Int} {p : List MemPlace} (he : P.underlying e = some (.int k)) (h : DataW.trod enc P w 0 (fun _ => true) held fuel e cs = some (.lit (.int k' n), p)) : cs = [.int k n] ∧ k' = k := by
  cases fuel with
  | zero => simp [DataW.trod] at h
  | succ m =>
    unfold DataW.trod at h
    rw [he] at h
    split at h <;> simp_all
theorem trod_str {enc : TypeId × Value → Unit} {held : Bool} {fuel : Nat} {e : TypeId} {cs : List Value} {s : Bytes} {p : List MemPlace} (he : P.underlying e = some .string) (h : DataW.trod enc P w 0 (fun _ => true) held fuel e cs = some (.lit (.string s), p)) : ∃ b : ByteArray, cs = [.string b] ∧ b.data.toList = s := by
  cases fuel with
  | zero => simp [DataW.trod] at h
  | succ m =>
    unfold DataW.trod at h
    rw [he] at h
    split at h <;> simp_all
/-- a table of numbers -/
theorem gl_ints {laid : List (String × DataW Unit)} {n : String} {d : DataW Unit} {g : Nat} {t e : TypeId} {k : IntKind} {m : Nat} (ns : List Int) (h : laidMet P laid w) (hm : (n, d) ∈ laid) (hg : P.globalNamed n = some g) (ht : (P.globals[g]?).map (·.type) = some t)
    (hu : P.underlying t = some (.array m e)) (he : P.underlying e = some (.int k)) (hc : P.cellsOf e = 1) (hct : P.cellsOf t = ns.length) (hd : d = .agg (ns.map fun i => .lit (.int k i))) : Row w (G0 w) (fun _ => none) (ns.map (V.int k)) g 0 ∧ (ns.map (V.int k)).length ≤ G0 w g := by
  obtain ⟨ps, hl, _, _⟩ := h
  obtain ⟨g', t', cs, fuel, p, h1, h2, h3, h4⟩ := laid_mem hl hm
  rw [hg] at h1; cases h1
  rw [ht] at h2; cases h2
  obtain ⟨t1, x1, hh⟩ := var_cells hg h3
  obtain ⟨xs, fu, _, hx, hlen, hxl, hel⟩ := DataW.trod_array hu h4
  have hxs : xs.map (·.1) = ns.map fun i => (DataW.lit (.int k i) : DataW Unit) := by
    have := (Prod.mk.inj hx).1
    rw [hd] at this
    exact (DataW.agg.inj this).symm
  have hnl : xs.length = ns.length := by have := congrArg List.length hxs; simpa using this
  have hsz : cs.size = ns.length := by rw [← hct, ← hlen]; simp
  have hcell : ∀ i, (hi : i < ns.length) → cs[i]? = some (.int k ns[i]) := by
    intro i hi
    have h5 := hel i (by omega)
    rw [hc, Nat.mul_one, List.getElem?_eq_getElem (by omega)] at h5
    have h6 : xs[i].1 = DataW.lit (.int k ns[i]) := by
      have h7 : (xs.map (·.1))[i]? = (ns.map fun i => (DataW.lit (.int k i) : DataW Unit))[i]? := by rw [hxs]
      rw [List.getElem?_map, List.getElem?_map, List.getElem?_eq_getElem (by omega), List.getElem?_eq_getElem hi] at h7
      simpa using h7
    obtain ⟨h8, _⟩ := trod_int (n := ns[i]) (p := xs[i].2) (k' := k) he (by rw [h5]; exact congrArg some (Prod.ext h6 rfl))
    have hi' : i < cs.toList.length := by simp; omega
    rw [List.drop_eq_getElem_cons hi', List.take_succ_cons, List.take_zero] at h8
    have h9 := (List.cons.inj h8).1
    rw [Array.getElem?_eq_getElem (by omega)]
    simpa using h9
  refine ⟨⟨fun c hc => ?_, fun i c hc => ?_⟩, ?_⟩
  · obtain ⟨j, _, rfl⟩ := List.mem_map.1 hc; rfl
  · rw [List.getElem?_map] at hc
    obtain ⟨j, hj, rfl⟩ := Option.map_eq_some_iff.1 hc
    obtain ⟨hi, hj⟩ := List.getElem?_eq_some_iff.1 hj
    refine ⟨.int k j, ?_, .int k j⟩
    rw [Nat.zero_add]
    simp only [World.cell?, hh]
    rw [← hj]; exact hcell i hi
  · simp only [List.length_map, G0, hh]; omega
/-- a table of texts -/
theorem gl_strs {laid : List (String × DataW Unit)} {n : String} {d : DataW Unit} {g : Nat} {t e : TypeId} (ss : List Bytes) (h : laidMet P laid w) (hm : (n, d) ∈ laid) (hg : P.globalNamed n = some g) (ht : (P.globals[g]?).map (·.type) = some t)
    (hu : P.underlying t = some (.slice e)) (he : P.underlying e = some .string) (hc : P.cellsOf e = 1) (hd : ∃ r, d = .slice (ss.map fun s => .lit (.string s)) r) (hne : ss ≠ []) : Row w (G0 w) (fun _ => none) [.sl false 1 (ss.map V.str)] g 0 ∧ ([V.sl false 1 (ss.map V.str)] : List V).length ≤ G0 w g := by
  obtain ⟨ps, hl, _, _⟩ := h
  obtain ⟨g', t', cs, fuel, p, h1, h2, h3, h4⟩ := laid_mem hl hm
  rw [hg] at h1; cases h1
  rw [ht] at h2; cases h2
  obtain ⟨t1, x1, hh⟩ := var_cells hg h3
  obtain ⟨rr, hd⟩ := hd
  rcases DataW.trod_slice hu h4 with ⟨_, hx⟩ | ⟨a, len, cap, elems, rest, fu, _, hcs, hx, _, hlc, _, hel, hget, _, _⟩
  · have := (Prod.mk.inj hx).1; rw [hd] at this; cases this
  · have hxs : elems.map (·.1) = ss.map fun s => (DataW.lit (.string s) : DataW Unit) := by
      have := (Prod.mk.inj hx).1
      rw [hd] at this
      exact (DataW.slice.inj this).1.symm
    have hnl : elems.length = ss.length := by have := congrArg List.length hxs; simpa using this
    have hcell : ∀ i, (hi : i < ss.length) → ∃ b : ByteArray, w.cell? ((a.add i).add 0) = some (.string b) ∧ b.data.toList = ss[i] := by
      intro i hi
      have h5 := hget i (by omega)
      rw [hc, Nat.mul_one, List.getElem?_eq_getElem (by omega)] at h5
      obtain ⟨cc, h51, h52⟩ := Option.bind_eq_some_iff.1 h5
      have h6 : elems[i].1 = DataW.lit (.string ss[i]) := by
        have h7 : (elems.map (·.1))[i]? = (ss.map fun s => (DataW.lit (.string s) : DataW Unit))[i]? := by rw [hxs]
        rw [List.getElem?_map, List.getElem?_map, List.getElem?_eq_getElem (by omega), List.getElem?_eq_getElem hi] at h7
        simpa using h7
      obtain ⟨b, rfl, hb⟩ := trod_str (s := ss[i]) (p := elems[i].2) he (by rw [h52]; exact congrArg some (Prod.ext h6 rfl))
      refine ⟨b, ?_, hb⟩
      have h8 := (World.cells?_some h51).2.2 0 (by decide)
      simpa using h8
    have hpos : 0 < ss.length := List.length_pos_iff.2 hne
    obtain ⟨ab, ao, am⟩ := a
    have ham : am = none := by
      obtain ⟨b, hb, _⟩ := hcell 0 hpos
      unfold World.cell? at hb
      split at hb
      · cases am with
        | none => rfl
        | some _ => simp [Addr.add] at hb
      · cases hb
    subst ham
    have hcell : ∀ i, (hi : i < ss.length) → ∃ b : ByteArray, w.cell? ⟨ab, ao + i, none⟩ = some (.string b) ∧ b.data.toList = ss[i] := by
      intro i hi
      obtain ⟨b, h1, h2⟩ := hcell i hi
      rw [addr_add, addr_add, Nat.add_zero] at h1
      exact ⟨b, h1, h2⟩
    have hsz : cs = #[.slice (some ⟨ab, ao, none⟩) len cap] := by cases cs; simp_all
    refine ⟨⟨fun c hc => ?_, fun i c hc => ?_⟩, ?_⟩
    · obtain rfl := List.mem_singleton.1 hc; rfl
    · cases i with
      | succ i => simp at hc
      | zero =>
        simp at hc; subst hc
        refine ⟨.slice (some ⟨ab, ao, none⟩) len cap, by simp [World.cell?, hh, hsz], ?_⟩
        have hlen : (ss.map V.str).length = len := by simp; omega
        have hrep := Rep.sl (W := w) (G := G0 w) (φ := fun _ => none) 1 (ss.map V.str) ab ao cap (fun k => (w.cell? ⟨ab, ao + k, none⟩).getD undef) (by omega) ?_ ?_ ?_ ?_
        · rw [hlen] at hrep; exact hrep
        · obtain ⟨b, hb, _⟩ := hcell (ss.length - 1) (by omega)
          have := (cell_lt hb).2
          simp only [List.length_map, Nat.mul_one]; omega
        · intro x hx
          obtain ⟨s, _, rfl⟩ := List.mem_map.1 hx
          exact ⟨rfl, fun c hc => by obtain rfl := List.mem_singleton.1 hc; rfl⟩
        · intro k hk
          simp only [List.length_map, Nat.mul_one] at hk
          obtain ⟨b, hb, _⟩ := hcell k hk
          have hb' : w.cell? ⟨ab, ao + k, none⟩ = some (.string b) := hb
          rw [hb']; rfl
        · intro i x j c hx hj
          rw [List.getElem?_map] at hx
          obtain ⟨s, hs, rfl⟩ := Option.map_eq_some_iff.1 hx
          obtain ⟨hi, hs⟩ := List.getElem?_eq_some_iff.1 hs
          cases j with
          | succ j => simp [V.cells] at hj
          | zero =>
            simp [V.cells] at hj; subst hj
            obtain ⟨b, hb, hbs⟩ := hcell i hi
            have hb' : w.cell? ⟨ab, ao + (i * 1 + 0), none⟩ = some (.string b) := by rw [Nat.mul_one]; exact hb
            show Rep _ _ _ _ ((w.cell? ⟨ab, ao + (i * 1 + 0), none⟩).getD undef)
            rw [hb']; exact .str s b (by rw [hbs, hs])
    · simp only [G0, hh, hsz]; simp
end
/-! ## a world with tables -/
noncomputable def cxG (gls : Nat → Option (List V)) (w : World) : Cx := ⟨Tryd.prog, w, gls⟩
theorem okw_gl {gls : Nat → Option (List V)} {w W : World} {G : Nat → Nat} (h : OKW (cxG gls w) W G) : OKW (cxD w) W G := ⟨h.below, h.Glo, h.Gz⟩
theorem pc_gl {gls : Nat → Option (List V)} {w : World} {f : FuncId} {args : List V} {r : V × Bool} (h : PC (cxD w) f args r) : PC (cxG gls w) f args r := ⟨h.1, fun W G φ xs ho hr => h.2 W G φ xs (okw_gl ho) hr⟩
theorem hold_gl {gls : Nat → Option (List V)} {w : World} {c : FC} (h : c.Holds (cxD w)) : c.Holds (cxG gls w) := fun args y hr => by
  obtain ⟨v, o, h1, h2⟩ := h args y hr
  exact ⟨v, o, pc_gl h1, h2⟩
theorem gl_met {laid : List (String × DataW Unit)} {w : World} (h : laidMetH Tryd.prog laid w) (hn : (laid.filter fun x => x.2.handleName?.isSome) = []) : laidMet Tryd.prog laid w := by
  unfold laidMetH at h
  rw [hn] at h; exact h
end Go.Proofs.YtanocopjancaiaaDoor
