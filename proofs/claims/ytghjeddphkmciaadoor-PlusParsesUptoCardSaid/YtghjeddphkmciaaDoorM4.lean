/-
  Parts of the proof, one behind the other. Own work of this seat; some printed by its programs.
-/
import Derived.Test.YtghjeddphkmciaaDoorM3
import Derived.Test.YtghjeddphkmciaaDoorCards
import Derived.Test.YtghjeddphkmciaaDoorTie
import Derived.ProofKit
import Derived.OpenShut
import Derived.Deep.DeepHandedRow
import Derived.Lib.LaidTab
/-
  R4: Parse, the program's and the document's; the law PlusParses. Own work of this seat.
-/
namespace Go.Proofs.YtghjeddphkmciaaDoor
open Go.Abs
set_option maxRecDepth 10000
variable {e : Nat → List V → Option V}
def trimP (x : Bytes) : Bytes := if x.headD 0 = 43 then x.tail else x
theorem trim_take (x : Bytes) : (if x.take ([43] : Bytes).length = [43] then x.drop ([43] : Bytes).length else x) = trimP x := by
  cases x with
  | nil => rfl
  | cons b r => by_cases hb : b = 43 <;> simp [trimP, hb]
theorem trim_len (x : Bytes) : (trimP x).length ≤ x.length := by unfold trimP; split <;> simp
theorem tot_map {f : Bytes → Bytes} (hf : ∀ x, (f x).length ≤ x.length) (k : Nat) : ∀ l : List Bytes, tot k (l.map f) ≤ tot k l
  | [] => Nat.le_refl _
  | x :: r => by have := tot_map hf k r; have := hf x; simp only [List.map_cons, tot]; omega
/-- both come to this -/
def Both (e : Nat → List V → Option V) (f g : Nat) (s : Bytes) : Prop := ∃ (l : List Bytes) (er : Int), vl e f 0 [.str s] = some (.tup [strs l, I er]) ∧ vl e g 0 [.str s] = some (.tup [strs l, I er]) ∧ l.length ≤ 1048576
theorem lines_len {l : List Bytes} {t : Bytes} (h : linesO l = some t) : t.length ≤ 16 * tot 1 l + 2 := by
  unfold linesO at h
  split at h
  · cases h
  · obtain ⟨m, h1, rfl⟩ := Option.map_eq_some_iff.1 h
    have := allO_tot (a := 16) (b := 1) (k := 4) (fun s t h => by have := line_length h; omega) h1
    have : (wrapB [32, 38, 38, 32] m).length ≤ tot 4 m + 2 := wrapB_length _ m
    omega
theorem v.pParse (he : EnvX e) (s : Bytes) (hs : s.length ≤ 65000) : Both e 13 14 s := by
  have hLim : Lim = 4294967296 := rfl
  by_cases h0 : s.take ([43] : Bytes).length = [43]
  · -- of the elder form
    obtain ⟨r, rfl⟩ : ∃ r, s = 43 :: r := by
      cases s with
      | nil => simp at h0
      | cons b r => simp at h0; exact ⟨r, by rw [h0]⟩
    generalize hsr : (43 :: r : Bytes) = s at h0 hs
    have h1 := splitOn_length 10 s
    have htot := tot_splitOn 10 s
    have htm := tot_map trim_len 1 (splitOn 10 s)
    obtain ⟨l2, er2, q1, q2, q3⟩ : ∃ (l2 : List Bytes) (er2 : Int), (∀ t, linesO ((splitOn 10 s).map trimP) = some t → vl e 18 0 [.str t] = some (.tup [strs l2, I er2]) ∧ vl e 31 0 [.str t] = some (.tup [strs l2, I er2])) ∧
        (linesO ((splitOn 10 s).map trimP) = none → l2 = [] ∧ er2 = 4) ∧ l2.length ≤ 1048576 := by
      cases hL : linesO ((splitOn 10 s).map trimP) with
      | none => exact ⟨[], 4, (fun t h => by cases h), (fun _ => ⟨rfl, rfl⟩), by simp⟩
      | some t =>
        have htl := lines_len hL
        obtain ⟨l, er, p1, p2, p3⟩ := v.Parses (e := e) t (by omega)
        exact ⟨l, er, (fun t' h => by cases h; exact ⟨p1, p2⟩), (fun h => by cases h), by omega⟩
    refine ⟨l2, er2, ?_, ?_, q3⟩
    · have key : ∀ (n i : Nat) (acc : List Bytes), i + n = (splitOn 10 s).length → acc.length = i → acc ++ ((splitOn 10 s).drop i).map trimP = (splitOn 10 s).map trimP →
          vl e 13 18 [strs acc, strs (splitOn 10 s), I (splitOn 10 s).length, I i] = some (.tup [strs l2, I er2]) := by
        intro n
        induction n with
        | zero =>
          intro i acc hi ha hall
          rw [List.drop_eq_nil_of_le (by omega)] at hall
          simp at hall
          rw [w.plus_Parse_18]; unfold y.plus_Parse_18
          rw [hall]
          have hv := v.Lines he ((splitOn 10 s).map trimP) (by omega)
          cases hL : linesO ((splitOn 10 s).map trimP) with
          | none =>
            obtain ⟨rfl, rfl⟩ := q2 hL
            rw [hL] at hv
            simp only [yy, if_neg (show ¬ ((i : Int) < ((splitOn 10 s).length : Int)) by omega), hv, resO, Option.isSome_none]; rfl
          | some t =>
            rw [hL] at hv
            simp only [yy, if_neg (show ¬ ((i : Int) < ((splitOn 10 s).length : Int)) by omega), hv, resO, Option.isSome_some, if_true, Option.getD_some, decide_true, (q1 t hL).1]
        | succ n ih =>
          intro i acc hi ha hall
          have hlt : i < (splitOn 10 s).length := by omega
          rw [List.drop_eq_getElem_cons hlt] at hall
          rw [w.plus_Parse_18]; unfold y.plus_Parse_18
          simp only [yy, if_pos (show (i : Int) < ((splitOn 10 s).length : Int) by omega), v_get hlt, v_lds, v.trimPrefix, trim_take, v_bsl1, v_push (show acc.length + 1 ≤ Lim by omega), next64 hlt (by omega)]
          exact ih (i + 1) _ (by omega) (by simp [ha]) (by rw [← hall, List.map_cons, List.append_assoc]; rfl)
      rw [w.plus_Parse]; unfold y.plus_Parse
      have hpre := v.hasPrefix (e := e) s [43]
      rw [decide_eq_true h0] at hpre
      simp only [yy, hpre, v.split he s 10 (by omega)]
      exact key _ 0 [] (Nat.zero_add _) rfl (by simp)
    · have key : ∀ (n i : Nat) (acc : List Bytes), i + n = (splitOn 10 s).length → acc.length = i → acc ++ ((splitOn 10 s).drop i).map trimP = (splitOn 10 s).map trimP →
          vl e 14 18 [strs acc, strs (splitOn 10 s), I (splitOn 10 s).length, I i] = some (.tup [strs l2, I er2]) := by
        intro n
        induction n with
        | zero =>
          intro i acc hi ha hall
          rw [List.drop_eq_nil_of_le (by omega)] at hall
          simp at hall
          rw [w.seicheref14_Parse_18]; unfold y.seicheref14_Parse_18
          rw [hall]
          have hv := v.rLines (e := e) ((splitOn 10 s).map trimP) (by omega)
          cases hL : linesO ((splitOn 10 s).map trimP) with
          | none =>
            obtain ⟨rfl, rfl⟩ := q2 hL
            rw [hL] at hv
            simp only [yy, if_neg (show ¬ ((i : Int) < ((splitOn 10 s).length : Int)) by omega), hv, pairV, Option.isSome_none]; rfl
          | some t =>
            rw [hL] at hv
            simp only [yy, if_neg (show ¬ ((i : Int) < ((splitOn 10 s).length : Int)) by omega), hv, pairV, Option.isSome_some, Option.getD_some, (q1 t hL).2]
        | succ n ih =>
          intro i acc hi ha hall
          have hlt : i < (splitOn 10 s).length := by omega
          rw [List.drop_eq_getElem_cons hlt] at hall
          have hih := ih (i + 1) (acc ++ [trimP (splitOn 10 s)[i]]) (by omega) (by simp [ha]) (by rw [← hall, List.map_cons, List.append_assoc]; rfl)
          rw [w.seicheref14_Parse_18]; unfold y.seicheref14_Parse_18
          generalize hx : (splitOn 10 s)[i] = x at hih
          cases x with
          | nil =>
            have ht : trimP [] = [] := rfl
            rw [ht] at hih
            simp only [yy, if_pos (show (i : Int) < ((splitOn 10 s).length : Int) by omega), v_get hlt, hx, v_lds, List.length_nil, Int.natCast_zero, if_neg (show ¬ ((0 : Int) < 0) by omega), v_bsl1, v_push (show acc.length + 1 ≤ Lim by omega), next64 hlt (by omega)]
            exact hih
          | cons b q =>
            have h0 : evp .idx [.str (b :: q), .int .i64 0] = some (byteV b) := v_idx (i := 0) rfl
            have hs1 : evp (.sls true false) [.str (b :: q), .int .i64 1] = some (.str q) := v_sls1 (l := 1) (by simp)
            have hl : (0 : Int) < ((b :: q).length : Int) := by simp
            by_cases hb : b = 43
            · subst hb
              have ht : trimP (43 :: q) = q := rfl
              rw [ht] at hih
              simp only [yy, if_pos (show (i : Int) < ((splitOn 10 s).length : Int) by omega), v_get hlt, hx, v_lds, if_pos hl, h0, byteV, hs1, v_bsl1, v_push (show acc.length + 1 ≤ Lim by omega), next64 hlt (by omega)]
              rw [if_pos (by decide)]; exact hih
            · have hne : ¬ ((b.toNat : Int) = 43) := fun h => hb (UInt8.toNat_inj.1 (by rw [show (43 : UInt8).toNat = 43 from rfl]; omega))
              have ht : trimP (b :: q) = b :: q := by simp [trimP, hb]
              rw [ht] at hih
              simp only [yy, if_pos (show (i : Int) < ((splitOn 10 s).length : Int) by omega), v_get hlt, hx, v_lds, if_pos hl, h0, byteV, if_neg hne, v_bsl1, v_push (show acc.length + 1 ≤ Lim by omega), next64 hlt (by omega)]
              exact hih
      rw [w.seicheref14_Parse]; unfold y.seicheref14_Parse
      have hc : vl e 32 0 [.str s, .int .u8 10] = _ := v.Cut s 10 (by omega)
      have hi0 : evp .idx [.str s, .int .i64 0] = some (.int .u8 43) := by rw [← hsr]; exact v_idx (s := 43 :: r) (i := 0) (c := 43) rfl
      simp only [yy, if_neg (show ¬ (s = []) by rw [← hsr]; simp), hi0, hc, decide_true]
      exact key _ 0 [] (Nat.zero_add _) rfl (by simp)
  · obtain ⟨l, er, p1, p2, p3⟩ := v.Parses (e := e) s (by omega)
    refine ⟨l, er, ?_, ?_, by omega⟩
    · rw [w.plus_Parse]; unfold y.plus_Parse
      have hpre := v.hasPrefix (e := e) s [43]
      rw [decide_eq_false h0] at hpre
      simp only [yy, hpre, p1]
    · rw [w.seicheref14_Parse]; unfold y.seicheref14_Parse
      cases s with
      | nil => simp only [yy, if_true, p2]
      | cons b q =>
        have h1 : evp .idx [.str (b :: q), .int .i64 0] = some (byteV b) := v_idx (i := 0) rfl
        have hb : ¬ b = 43 := fun h => h0 (by rw [h]; rfl)
        have hne : ¬ ((b.toNat : Int) = 43) := fun h => hb (UInt8.toNat_inj.1 (by rw [show (43 : UInt8).toNat = 43 from rfl]; omega))
        simp only [yy, if_neg (show ¬ ((b :: q) = []) by simp), h1, byteV, if_neg hne, p2]
theorem v.Same01 (l : List Bytes) (hl : l.length ≤ 1000000000) : vl e 15 0 [strs l, strs l] = some (.bool true) := by
  have key : ∀ (n i : Nat), i + n = l.length → vl e 15 16 [strs l, strs l, I l.length, I i] = some (.bool true) := by
    intro n
    induction n with
    | zero =>
      intro i hi
      rw [w.seicheref01_Same_16]; unfold y.seicheref01_Same_16
      simp only [yy, if_neg (show ¬ ((i : Int) < (l.length : Int)) by omega)]
    | succ n ih =>
      intro i hi
      have hlt : i < l.length := by omega
      rw [w.seicheref01_Same_16]; unfold y.seicheref01_Same_16
      simp only [yy, if_pos (show (i : Int) < (l.length : Int) by omega), v_get hlt, v_lds, if_true, decide_true, next64 hlt (by omega), ih (i + 1) (by omega)]
  rw [w.seicheref01_Same]; unfold y.seicheref01_Same
  simp only [yy, v_lenS, if_true, decide_true]
  exact key l.length 0 (by omega)
theorem v.alive14 (he : EnvX e) : vl e 12 0 [] = some (.bool true) := by
  rw [w.seichelaw14_alive]; unfold y.seichelaw14_alive
  have hL : lineO [97, 44, 33, 98, 32, 99] = some [40, 40, 97, 32, 38, 38, 32, 33, 98, 41, 32, 124, 124, 32, 99, 41] := by decide +kernel
  have hv := v.Line he [97, 44, 33, 98, 32, 99] (by decide)
  rw [hL] at hv
  simp only [yy, hv, resO, Option.isSome_some, if_true, Option.getD_some, decide_true]
theorem p_plusParses (he : EnvX e) (s : Bytes) (_ : (V.str s).wt ≤ 1048576) : vl e 4 0 [.str s] = some (.bool true) := by
  rw [w.seichelaw14_PlusParses]; unfold y.seichelaw14_PlusParses
  by_cases h1 : s.length ≤ 2048
  · obtain ⟨l, er, p1, p2, p3⟩ := v.pParse he s (by omega)
    simp only [yy, v.alive14 he, if_neg (show ¬ ((2048 : Int) < (s.length : Int)) by omega), p1, p2, if_true, decide_true, v.Same01 l (by omega)]
  · simp only [yy, v.alive14 he, if_pos (show (2048 : Int) < (s.length : Int) by omega)]
end Go.Proofs.YtghjeddphkmciaaDoor
/-
  YE: functions that are given by contracts: all of them. Own work of this seat.
-/
namespace Go.Proofs.YtghjeddphkmciaaDoor
open Go.Abs Go.RowKit
def exts : List FC := [K.strings_Split, K.strings_FieldsFunc_plus_Line_1, K.strings_Join]
theorem exts_ok (w : World) (hw : EnvOK w) : ∀ c ∈ exts, c.Holds (cxD w) := by
  intro c hc
  simp only [exts, List.mem_cons, List.not_mem_nil, or_false] at hc
  rcases hc with rfl | rfl | rfl
  · exact H.strings_Split w hw
  · exact H.strings_FieldsFunc_plus_Line_1 w hw
  · exact H.strings_Join w hw
theorem exts_own : ∀ c ∈ exts, cfg.ow c.f = true → c.own = true := by
  intro c hc h
  simp only [exts, List.mem_cons, List.not_mem_nil, or_false] at hc
  rcases hc with rfl | rfl | rfl
  · rfl
  · rfl
  · exact absurd h (by rw [show cfg.ow K.strings_Join.f = false by kernel_rfl]; decide)
theorem envX : EnvX (extOf exts) where
  split s c hs := extOf_eq (cs := exts) (c := K.strings_Split) rfl ⟨(s, [c]), splitOn c s, rfl, by simp [g.strings_Split, hs], rfl⟩
  fields s hs := extOf_eq (cs := exts) (c := K.strings_FieldsFunc_plus_Line_1) rfl ⟨s, fldB blankB s [], rfl, by simp [g.strings_FieldsFunc_plus_Line_1, hs], rfl⟩
  join l s hl hj := extOf_eq (cs := exts) (c := K.strings_Join) rfl ⟨(l, s), joinS s l, rfl, by simp only [g.strings_Join, lib_joinS]; rw [if_pos ⟨hl, hj⟩], rfl⟩
end Go.Proofs.YtghjeddphkmciaaDoor
/-
  What every card of this seat needs: the program's closed facts; a world for the witness; what came in. Own work of this seat, after the seat's worked example of a row that lists variables.
-/
namespace Go.Proofs.YtghjeddphkmciaaDoor
open Go.ChangeShapes Go.WideShapes Go.RowKit Go.Abs

theorem ownK : ownKnob Tryd.prog.godebug = none := by kernel_rfl
theorem kids : Kids Tryd.prog (· < Tryd.prog.types.size) := kids_rows (by kernel_rfl) (by kernel_rfl)
theorem full : ∀ t e, t < Tryd.prog.types.size → Tryd.prog.underlying t = some (.slice e) → 0 < Tryd.prog.cellsOf e := slices_full_of Tryd.prog (by kernel_rfl)

/-- the cells of plain data -/
def litCells : Nat → DataW Unit → List Value
  | 0, _ => []
  | _ + 1, .lit (.int k n) => [.int k n]
  | n + 1, .agg ps => ps.flatMap (litCells n)
  | _, _ => []
noncomputable def laidWorld (os : Os) (args : Array Value) : World :=
  { World.holding Tryd.prog os ⟨#[], #[], []⟩ with heap := (((World.holding Tryd.prog os ⟨#[], #[], []⟩).heap.modify 1 fun
      | .cells _ t frozen => .cells (litCells 5 Rows.laid_unicode_utf8_first).toArray t frozen
      | o => o).modify 2 fun
      | .cells _ t frozen => .cells (litCells 5 Rows.laid_unicode_utf8_acceptRanges).toArray t frozen
      | o => o) }

/-! ## what came in, of a type -/
theorem u8_row : ∀ {wss : List (List V)}, (∀ ws ∈ wss, ∃ n : Int, ws = [.int .u8 n] ∧ IntKind.u8.min ≤ n ∧ n ≤ IntKind.u8.max) → ∃ l : Bytes, l.length = wss.length ∧ wss.flatten = encB l
  | [], _ => ⟨[], rfl, rfl⟩
  | w :: r, h => by
    obtain ⟨n, rfl, h1, h2⟩ := h w (by simp)
    obtain ⟨l, hl, hf⟩ := u8_row (wss := r) fun x hx => h x (by simp [hx])
    have h1 : 0 ≤ n := h1
    have h2 : n ≤ 255 := h2
    refine ⟨UInt8.ofNat n.toNat :: l, by simp [hl], ?_⟩
    have e : ((UInt8.ofNat n.toNat).toNat : Int) = n := by
      rw [UInt8.toNat_ofNat_of_lt' (show n.toNat < 256 by omega)]; omega
    show [V.int .u8 n] ++ r.flatten = _
    rw [hf]
    simp only [encB, List.map_cons, byteV]
    rw [e]; rfl
section
variable {P : Program} {m : Nat} {t e : TypeId} {vs : List V}
theorem in_bool (hu : P.underlying t = some .bool) (h : HasT P (m + 1) t vs) : ∃ x : Bool, nfL vs = [V.bool x] := by
  simp only [HasT, hu] at h
  obtain ⟨b, rfl⟩ := h; exact ⟨b, rfl⟩
theorem in_int {k : IntKind} (hu : P.underlying t = some (.int k)) (h : HasT P (m + 1) t vs) : ∃ x : Int, nfL vs = [V.int k x] := by
  simp only [HasT, hu] at h
  obtain ⟨n, rfl, _⟩ := h; exact ⟨n, rfl⟩
theorem in_i64 (hu : P.underlying t = some (.int .i64)) (h : HasT P (m + 1) t vs) : ∃ x : Int, nfL vs = [V.int .i64 x] ∧ -9223372036854775808 ≤ x ∧ x ≤ 9223372036854775807 := by
  simp only [HasT, hu] at h
  obtain ⟨n, rfl, h1, h2⟩ := h; exact ⟨n, rfl, h1, h2⟩
theorem in_u8 (hu : P.underlying t = some (.int .u8)) (h : HasT P (m + 1) t vs) : ∃ x : UInt8, nfL vs = [byteV x] := by
  simp only [HasT, hu] at h
  obtain ⟨n, rfl, h1, h2⟩ := h
  have h1 : 0 ≤ n := h1
  have h2 : n ≤ 255 := h2
  refine ⟨UInt8.ofNat n.toNat, ?_⟩
  have e : ((UInt8.ofNat n.toNat).toNat : Int) = n := by
    rw [UInt8.toNat_ofNat_of_lt' (show n.toNat < 256 by omega)]; omega
  show [V.int .u8 n] = [V.int .u8 _]
  rw [e]
theorem in_str (hu : P.underlying t = some .string) (h : HasT P (m + 1) t vs) : ∃ x : Bytes, nfL vs = [V.str x] := by
  simp only [HasT, hu] at h
  obtain ⟨b, rfl⟩ := h; exact ⟨b, rfl⟩
theorem in_sl {α : Type} {E : α → V} {c : Nat} (hu : P.underlying t = some (.slice e)) (hc : P.cellsOf e = c) (he : ∀ ws, HasT P m e ws → ∃ x, (elV P e ws).nf = E x) (h : HasT P (m + 1) t vs) : ∃ l : List α, nfL vs = [V.sl false c (l.map E)] := by
  simp only [HasT, hu, hc] at h
  rcases h with rfl | ⟨xs, rfl, hx⟩
  · exact ⟨[], rfl⟩
  · have : ∃ l : List α, nfL xs = l.map E := by
      clear hc
      induction xs with
      | nil => exact ⟨[], rfl⟩
      | cons x r ih =>
        obtain ⟨l, hl⟩ := ih fun y hy => hx y (by simp [hy])
        obtain ⟨ws, hw, rfl⟩ := hx x (by simp)
        obtain ⟨a, ha⟩ := he ws hw
        exact ⟨a :: l, by rw [nfL, ha, hl]; rfl⟩
    obtain ⟨l, hl⟩ := this
    exact ⟨l, by show [V.sl false c (nfL xs)] = _; rw [hl]⟩
theorem in_arr {n : Nat} (hu : P.underlying t = some (.array n e)) (he : P.underlying e = some (.int .u8)) (h : HasT P (m + 2) t vs) : ∃ x : Arr n, nfL vs = encB x.1 := by
  unfold HasT at h
  simp only [hu] at h
  obtain ⟨wss, hl, hw, rfl⟩ := h
  obtain ⟨l, h1, h2⟩ := u8_row (wss := wss) fun ws hws => by
    have := hw ws hws
    simpa only [HasT, he] using this
  exact ⟨⟨l, by rw [h1, hl]⟩, by rw [h2, nf_encB]⟩
theorem el_agg (ha : isAgT P t = true) {l : List V} (h : nfL vs = l) : (elV P t vs).nf = .agg l := by
  unfold elV; rw [if_pos ha]; show V.agg (nfL vs) = _; rw [h]
theorem el_one (ha : isAgT P t = false) {v : V} (h : nfL vs = [v]) : (elV P t vs).nf = v := by
  unfold elV; rw [if_neg (by simp [ha])]
  cases vs with
  | nil => cases h
  | cons x r => rw [nfL] at h; exact (List.cons.inj h).1
theorem nfL_flat : ∀ {wss : List (List V)}, nfL wss.flatten = (wss.map nfL).flatten
  | [] => rfl
  | w :: r => by rw [List.flatten_cons, nfL_append, nfL_flat]; rfl
end

/-! ## weights -/
mutual
theorem nf_wt : ∀ v : V, v.nf.wt ≤ v.wt
  | .agg cs => by simp only [V.nf, V.wt]; have := nfL_wt cs; omega
  | .sl true sz [] => by simp [V.nf, V.wt]
  | .sl true _ (x :: xs) => by simp [V.nf, V.wt]
  | .sl false sz xs => by simp only [V.nf, V.wt]; have := nfL_wt xs; omega
  | .el cs off => by simp [V.nf, V.wt]
  | .tup cs => by simp [V.nf, V.wt]
  | .fn f cs => by simp [V.nf, V.wt]
  | .mfn f cs => by simp [V.nf, V.wt]
  | .iface t v => by simp [V.nf, V.wt]
  | .bool b => Nat.le_refl _
  | .int k n => Nat.le_refl _
  | .str s => Nat.le_refl _
  | .osl a b c d e => Nat.le_refl _
  | .gp g o => Nat.le_refl _
  | .ptr i o => Nat.le_refl _
  | .nilptr => Nat.le_refl _
  | .map i => Nat.le_refl _
  | .nilmap => Nat.le_refl _
  | .nilfn => Nat.le_refl _
  | .nilif => Nat.le_refl _
theorem nfL_wt : ∀ l : List V, wtL (nfL l) ≤ wtL l
  | [] => Nat.le_refl _
  | v :: r => by simp only [nfL, wtL]; have := nf_wt v; have := nfL_wt r; omega
end
theorem wt_of {v w : V} {n : Nat} (h : v.nf = w) (hn : v.wt ≤ n) : w.wt ≤ n := by rw [← h]; exact Nat.le_trans (nf_wt v) hn
theorem wt_sl {α : Type} {E : α → V} {c : Nat} {l : List α} {n : Nat} (h : (V.sl false c (l.map E)).wt ≤ n) : l.length ≤ n ∧ ∀ a ∈ l, (E a).wt ≤ n := by
  simp only [V.wt] at h
  refine ⟨by have := wtL_length (l.map E); simp at this; omega, fun a ha => ?_⟩
  have := wtL_mem (List.mem_map_of_mem (f := E) ha)
  omega
theorem wt_str {s : Bytes} {n : Nat} (h : (V.str s).wt ≤ n) : s.length ≤ n := by simp only [V.wt] at h; omega
theorem wt_mem {cs : List V} {v : V} {n : Nat} (h : (V.agg cs).wt ≤ n) (hv : v ∈ cs) : v.wt ≤ n := by
  simp only [V.wt] at h
  have := wtL_mem hv; omega

theorem law_end {cx : Cx} {c : FC} {args : List V} {xs : Array Value} (hc : c.Holds cx) (hr : c.rel (nfL args) (.bool true)) (hx : RepL cx.w0 (G0 cx.w0) (fun _ => none) args xs) :
    Calls cx.P c.f xs cx.w0 fun e W' => e = .returned (.bool true) ∧ Below cx.w0.heap.size cx.w0 W' := by
  obtain ⟨v, o, h1, h2, _⟩ := hc args _ hr
  rw [nf_bool h2] at h1
  exact law_calls h1 hx
end Go.Proofs.YtghjeddphkmciaaDoor
