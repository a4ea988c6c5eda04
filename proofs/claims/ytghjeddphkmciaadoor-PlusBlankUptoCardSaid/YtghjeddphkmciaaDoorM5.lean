/-
  Parts of the proof, one behind the other. Own work of this seat; some printed by its programs.
-/
import Derived.Test.YtghjeddphkmciaaDoorM4
import Derived.Test.YtghjeddphkmciaaDoorCards
import Derived.Test.YtghjeddphkmciaaDoorTie
import Derived.ProofKit
import Derived.OpenShut
import Derived.Deep.DeepHandedRow
import Derived.Lib.LaidTab
/-
  R3: lines of constraints: the document's functions. Own work of this seat.
-/
namespace Go.Proofs.YtghjeddphkmciaaDoor
open Go.Abs
set_option maxRecDepth 10000
variable {e : Nat → List V → Option V}
theorem v.Cut (p : Bytes) (c : UInt8) (hp : p.length ≤ 1000000000) : vl e 32 0 [.str p, byteV c] = some (strs (splitOn c p)) := by
  have hLim : Lim = 4294967296 := rfl
  have key : ∀ (n i f : Nat) (acc : List Bytes), p.length + 1 = n + i → f ≤ i → acc.length ≤ i →
      (i ≤ p.length → vl e 32 12 [.str p, byteV c, strs acc, I f, I i] = some (strs (acc ++ addH ((p.take i).drop f) (splitOn c (p.drop i))))) ∧ (i = p.length + 1 → vl e 32 12 [.str p, byteV c, strs acc, I f, I i] = some (strs acc)) := by
    intro n
    induction n with
    | zero =>
      intro i f acc hn hf ha
      refine ⟨fun h => by omega, fun h => ?_⟩
      rw [w.seicheref14_Cut_12]; unfold y.seicheref14_Cut_12
      simp only [yy, if_neg (show ¬ ((i : Int) ≤ (p.length : Int)) by omega)]
    | succ n ih =>
      intro i f acc hn hf ha
      refine ⟨fun hil => ?_, fun h => by omega⟩
      have e1 : IntKind.i64.wrap ((i : Int) + 1) = ((i + 1 : Nat) : Int) := w64 _ (by omega)
      rw [w.seicheref14_Cut_12]; unfold y.seicheref14_Cut_12
      by_cases he : i = p.length
      · have hih := (ih (i + 1) (i + 1) (acc ++ [(p.take i).drop f]) (by omega) (Nat.le_refl _) (by simp; omega)).2 (by omega)
        simp only [yy, if_pos (show (i : Int) ≤ (p.length : Int) by omega), if_pos (show (i : Int) = (p.length : Int) by omega), v_sls2 hf hil, v_bsl1, v_push (show acc.length + 1 ≤ Lim by omega), e1, hih]
        rw [List.drop_eq_nil_of_le (show p.length ≤ i by omega)]
        simp [splitOn, addH]
      · have hlt : i < p.length := by omega
        by_cases hc : p[i] = c
        · have hih := (ih (i + 1) (i + 1) (acc ++ [(p.take i).drop f]) (by omega) (Nat.le_refl _) (by simp; omega)).1 (by omega)
          simp only [yy, if_pos (show (i : Int) ≤ (p.length : Int) by omega), if_neg (show ¬ ((i : Int) = (p.length : Int)) by omega), v_idx (List.getElem?_eq_getElem hlt), hc, byteV, if_true, v_sls2 hf hil, v_bsl1, v_push (show acc.length + 1 ≤ Lim by omega), e1]
          refine hih.trans ?_
          rw [List.drop_eq_getElem_cons hlt, hc, splitOn_eq_c, List.append_assoc]
          congr 2
          rw [show (p.take (i + 1)).drop (i + 1) = [] from List.drop_eq_nil_of_le (by simp; omega), addH_nil (splitOn_ne _ _)]; rfl
        · have hih := (ih (i + 1) f acc (by omega) (by omega) (by omega)).1 (by omega)
          have hne : ¬ ((p[i].toNat : Int) = (c.toNat : Int)) := fun h => hc (UInt8.toNat_inj.1 (by omega))
          simp only [yy, if_pos (show (i : Int) ≤ (p.length : Int) by omega), if_neg (show ¬ ((i : Int) = (p.length : Int)) by omega), v_idx (List.getElem?_eq_getElem hlt), byteV, if_neg hne, e1]
          refine hih.trans ?_
          rw [List.drop_eq_getElem_cons hlt, splitOn_ne_c hc, take_one hlt hf]
  rw [w.seicheref14_Cut]; unfold y.seicheref14_Cut
  refine ((key (p.length + 1) 0 0 [] (by omega) (Nat.le_refl _) (Nat.le_refl _)).1 (Nat.zero_le _)).trans ?_
  simp [addH_nil (splitOn_ne _ _)]
theorem neB_cons (a : Bytes) (r : List Bytes) : neB (a :: r) = if a = [] then neB r else a :: neB r := by cases a <;> simp [neB]
theorem v.Words_24 (l1 l : List Bytes) (k : Nat) (hl : l.length ≤ 2000000000) (hl1 : k < l1.length) (hl2 : l1.length ≤ 1000000000) : ∀ (n i : Nat) (acc : List Bytes), i + n = l.length → acc.length + n ≤ 2000000000 →
    vl e 16 24 [strs acc, strs l1, I l1.length, I k, strs l, I l.length, I i] = vl e 16 10 [strs (acc ++ neB (l.drop i)), strs l1, I l1.length, I ((k + 1 : Nat) : Int)]
  | 0, i, acc, hi, ha => by
    rw [w.seicheref14_Words_24, List.drop_eq_nil_of_le (by omega)]; unfold y.seicheref14_Words_24
    simp only [yy, if_neg (show ¬ ((i : Int) < (l.length : Int)) by omega), next64 hl1 (by omega)]
    simp [neB]
  | n + 1, i, acc, hi, ha => by
    have hlt : i < l.length := by omega
    have hLim : Lim = 4294967296 := rfl
    rw [w.seicheref14_Words_24, List.drop_eq_getElem_cons hlt, neB_cons]; unfold y.seicheref14_Words_24
    by_cases h0 : l[i] = []
    · rw [if_pos h0]
      simp only [yy, if_pos (show (i : Int) < (l.length : Int) by omega), v_get hlt, v_lds, if_pos h0, next64 hlt (by omega)]
      exact v.Words_24 l1 l k hl hl1 hl2 n (i + 1) acc (by omega) (by omega)
    · rw [if_neg h0]
      simp only [yy, if_pos (show (i : Int) < (l.length : Int) by omega), v_get hlt, v_lds, if_neg h0, v_bsl1, v_push (show acc.length + 1 ≤ Lim by omega), next64 hlt (by omega)]
      refine (v.Words_24 l1 l k hl hl1 hl2 n (i + 1) (acc ++ [l[i]]) (by omega) (by simp; omega)).trans ?_
      simp
theorem neB_len (l : List Bytes) : (neB l).length ≤ l.length := List.length_filter_le _ _
theorem v.Words_10 (l : List Bytes) (hl : l.length ≤ 1000000000) : ∀ (n i : Nat) (acc : List Bytes), i + n = l.length → acc.length + tot 1 (l.drop i) ≤ 1000000000 →
    vl e 16 10 [strs acc, strs l, I l.length, I i] = some (strs (acc ++ wordsOf (l.drop i)))
  | 0, i, acc, hi, ha => by
    rw [w.seicheref14_Words_10, List.drop_eq_nil_of_le (by omega)]; unfold y.seicheref14_Words_10
    simp only [yy, if_neg (show ¬ ((i : Int) < (l.length : Int)) by omega)]
    simp [wordsOf]
  | n + 1, i, acc, hi, ha => by
    have hlt : i < l.length := by omega
    rw [w.seicheref14_Words_10]; unfold y.seicheref14_Words_10
    rw [List.drop_eq_getElem_cons hlt] at ha ⊢
    simp only [tot] at ha
    have h1 := splitOn_length 9 l[i]
    have h2 := neB_len (splitOn 9 l[i])
    have hc : vl e 32 0 [.str l[i], .int .u8 9] = _ := v.Cut l[i] 9 (by omega)
    simp only [yy, if_pos (show (i : Int) < (l.length : Int) by omega), v_get hlt, v_lds, hc]
    have h24 := v.Words_24 (e := e) l (splitOn 9 l[i]) i (by omega) hlt hl (splitOn 9 l[i]).length 0 acc (by omega) (by omega)
    rw [List.drop_zero] at h24
    refine h24.trans ((v.Words_10 l hl n (i + 1) _ (by omega) (by simp; omega)).trans ?_)
    rw [show wordsOf (l[i] :: l.drop (i + 1)) = neB (splitOn 9 l[i]) ++ wordsOf (l.drop (i + 1)) from rfl, List.append_assoc]
theorem v.Words (s : Bytes) (hs : s.length ≤ 100000000) : vl e 16 0 [.str s] = some (strs (fldB blankB s [])) := by
  have h1 := splitOn_length 32 s
  rw [w.seicheref14_Words]; unfold y.seicheref14_Words
  have hc : vl e 32 0 [.str s, .int .u8 32] = _ := v.Cut s 32 (by omega)
  simp only [yy, hc]
  refine (v.Words_10 (splitOn 32 s) (by omega) (splitOn 32 s).length 0 [] (by omega) (by rw [List.drop_zero, tot_splitOn]; simp; omega)).trans ?_
  rw [List.drop_zero, words_all]; rfl
theorem v.rTerm (s : Bytes) (hs : s.length ≤ 1000000000) : vl e 42 0 [.str s] = some (.tup [.str (nameB s), .bool (notB s), .bool (isTag (nameB s))]) := by
  rw [w.seicheref14_Term]; unfold y.seicheref14_Term
  cases s with
  | nil => simp only [yy, List.length_nil, Int.natCast_zero, if_neg (show ¬ ((0 : Int) < 0) by omega), v.Tag13 [] (by simp)]; rfl
  | cons b r =>
    have hr : r.length ≤ 1000000000 := by simp at hs; omega
    have h0 : evp .idx [.str (b :: r), .int .i64 0] = some (byteV b) := v_idx (i := 0) rfl
    have hs1 : evp (.sls true false) [.str (b :: r), .int .i64 1] = some (.str r) := v_sls1 (l := 1) (by simp)
    have hl : (0 : Int) < ((b :: r).length : Int) := by simp
    by_cases hb : b = 33
    · subst hb
      simp only [yy, if_pos hl, h0, byteV, hs1, v.Tag13 r (by omega)]
      rw [if_pos (by decide)]; simp [nameB, notB]
    · have hne : ¬ ((b.toNat : Int) = 33) := fun h => hb (UInt8.toNat_inj.1 (by rw [show (33 : UInt8).toNat = 33 from rfl]; omega))
      simp only [yy, if_pos hl, h0, byteV, if_neg hne, v.Tag13 (b :: r) (by omega)]
      simp [nameB, notB, hb]
theorem v.wrap (sep : Bytes) (l : List Bytes) (hl : l ≠ []) (h : tot sep.length l ≤ 1000000000) (h2 : l.length ≤ 1000000000) (hsp : sep.length ≤ 8) : vl e 60 0 [strs l, .str sep] = some (.str (wrapB sep l)) := by
  match l, hl with
  | x :: r, _ =>
    simp only [tot, List.length_cons] at h h2
    have hj := joinS_length sep (x :: r)
    simp only [tot] at hj
    have key : ∀ (n i : Nat) (t : Bytes), i + n = r.length → t.length + tot sep.length (r.drop i) ≤ 1000000000 → t ++ ((r.drop i).map (sep ++ ·)).flatten = joinS sep (x :: r) →
        vl e 60 10 [strs (x :: r), .str sep, .str t, strs r, I r.length, I i] = some (.str (wrapB sep (x :: r))) := by
      intro n
      induction n with
      | zero =>
        intro i t hi ht hjn
        rw [List.drop_eq_nil_of_le (by omega)] at hjn
        simp at hjn
        rw [w.seicheref14_wrap_10]; unfold y.seicheref14_wrap_10 wrapB
        by_cases h1 : r = []
        · subst h1
          simp only [yy, if_neg (show ¬ ((i : Int) < (([] : List Bytes).length : Int)) by simp), v_lenS]
          rw [if_neg (by simp), if_pos (by simp), hjn]
        · have : 0 < r.length := List.length_pos_iff.2 h1
          simp only [yy, if_neg (show ¬ ((i : Int) < (r.length : Int)) by omega), v_lenS, if_pos (show (1 : Int) < ((x :: r).length : Int) by simp; omega), v_sadd (show ([40] : Bytes).length + t.length ≤ 4611686018427387904 by simp; omega), v_sadd (show ([40] ++ t : Bytes).length + ([41] : Bytes).length ≤ 4611686018427387904 by simp; omega)]
          rw [if_neg (by simp [h1]), hjn]; rfl
      | succ n ih =>
        intro i t hi ht hjn
        have hlt : i < r.length := by omega
        rw [List.drop_eq_getElem_cons hlt] at hjn ht
        simp only [tot, List.map_cons, List.flatten_cons] at hjn ht
        rw [w.seicheref14_wrap_10]; unfold y.seicheref14_wrap_10
        simp only [yy, if_pos (show (i : Int) < (r.length : Int) by omega), v_get hlt, v_lds, v_sadd (show t.length + sep.length ≤ 4611686018427387904 by omega), v_sadd (show (t ++ sep).length + r[i].length ≤ 4611686018427387904 by simp; omega), next64 hlt (by omega)]
        exact ih (i + 1) _ (by omega) (by simp; omega) (by rw [← hjn]; simp)
    rw [w.seicheref14_wrap]; unfold y.seicheref14_wrap
    have hs1 : evp (.slc 1 true false false) [strs (x :: r), .int .i64 1] = some (strs r) := v_slc1
    simp only [yy, v_get0, v_lds, hs1]
    exact key r.length 0 x (by omega) (by rw [List.drop_zero]; omega) (by rw [List.drop_zero, joinS_cons])
theorem v.Good_22 (s : Bytes) (l1 l : List Bytes) (k : Nat) (hl : l.length ≤ 2000000000) (hl1 : k < l1.length) (hl2 : l1.length ≤ 1000000000) (hb : ∀ x ∈ l, x.length ≤ 1000000000) : ∀ (n i : Nat), i + n = l.length →
    vl e 58 22 [.str s, strs l1, I l1.length, I k, strs l, I l.length, I i] = if (l.drop i).all (fun x => (termO x).isSome) then vl e 58 8 [.str s, strs l1, I l1.length, I ((k + 1 : Nat) : Int)] else some (.bool false)
  | 0, i, hi => by
    rw [w.seicheref14_Good_22, List.drop_eq_nil_of_le (by omega)]; unfold y.seicheref14_Good_22
    simp only [yy, if_neg (show ¬ ((i : Int) < (l.length : Int)) by omega), next64 hl1 (by omega)]
    simp
  | n + 1, i, hi => by
    have hlt : i < l.length := by omega
    rw [w.seicheref14_Good_22, List.drop_eq_getElem_cons hlt, List.all_cons]; unfold y.seicheref14_Good_22
    have et : (termO l[i]).isSome = isTag (nameB l[i]) := by unfold termO; cases isTag (nameB l[i]) <;> rfl
    rw [et]
    have ih := v.Good_22 s l1 l k hl hl1 hl2 hb n (i + 1) (by omega)
    cases ht : isTag (nameB l[i]) <;> simp only [yy, if_pos (show (i : Int) < (l.length : Int) by omega), v_get hlt, v_lds, v.rTerm l[i] (hb _ (List.getElem_mem _)), ht, next64 hlt (by omega), ih] <;> simp
theorem v.Good_8 (s : Bytes) (hs : s.length ≤ 10000000) (l : List Bytes) (hl : l.length ≤ 1000000000) (hb : ∀ x ∈ l, x.length ≤ 100000000) : ∀ (n i : Nat), i + n = l.length →
    vl e 58 8 [.str s, strs l, I l.length, I i] = some (.bool ((l.drop i).all (fun x => (optionO x).isSome) && decide (fldB blankB s [] ≠ [])))
  | 0, i, hi => by
    rw [w.seicheref14_Good_8, List.drop_eq_nil_of_le (by omega)]; unfold y.seicheref14_Good_8
    simp only [yy, if_neg (show ¬ ((i : Int) < (l.length : Int)) by omega), v.Words s (by omega)]
    by_cases h0 : fldB blankB s [] = []
    · simp [h0]
    · have : 0 < (fldB blankB s []).length := List.length_pos_iff.2 h0
      rw [decide_eq_true (by omega)]; simp [h0]
  | n + 1, i, hi => by
    have hlt : i < l.length := by omega
    rw [w.seicheref14_Good_8, List.drop_eq_getElem_cons hlt, List.all_cons]; unfold y.seicheref14_Good_8
    have ha := hb l[i] (List.getElem_mem _)
    have h1 := splitOn_length 44 l[i]
    have hbb : ∀ x ∈ splitOn 44 l[i], x.length ≤ 1000000000 := fun x hx => by have := tot_mem 1 hx; rw [tot_splitOn] at this; omega
    have hc : vl e 32 0 [.str l[i], .int .u8 44] = _ := v.Cut l[i] 44 (by omega)
    have h22 := v.Good_22 (e := e) s l (splitOn 44 l[i]) i (by omega) hlt hl hbb (splitOn 44 l[i]).length 0 (by omega)
    have eo : (optionO l[i]).isSome = (splitOn 44 l[i]).all (fun x => (termO x).isSome) := by unfold optionO; rw [Option.isSome_map, allO_some]
    rw [List.drop_zero, v.Good_8 s hs l hl hb n (i + 1) (by omega)] at h22
    simp only [yy, if_pos (show (i : Int) < (l.length : Int) by omega), v_get hlt, v_lds, hc]
    refine h22.trans ?_
    rw [eo]
    cases (splitOn 44 l[i]).all (fun x => (termO x).isSome) <;> simp
theorem v.Good (s : Bytes) (hs : s.length ≤ 10000000) : vl e 58 0 [.str s] = some (.bool (lineO s).isSome) := by
  have h2 := fld_tot blankB s []
  have h3 := tot_length 1 (fldB blankB s [])
  simp only [List.length_nil] at h2
  have hb : ∀ x ∈ fldB blankB s [], x.length ≤ 100000000 := fun x hx => by have := tot_mem 1 hx; omega
  rw [w.seicheref14_Good]; unfold y.seicheref14_Good lineO
  simp only [yy, v.Words s (by omega)]
  refine (v.Good_8 s hs _ (by omega) hb (fldB blankB s []).length 0 (by omega)).trans ?_
  rw [List.drop_zero]
  by_cases h0 : fldB blankB s [] = []
  · rw [if_pos h0, h0]; rfl
  · rw [if_neg h0, Option.isSome_map, allO_some]; simp [h0]
theorem v.rLine (s : Bytes) (hs : s.length ≤ 1000000) (h0 : fldB blankB s [] ≠ []) : vl e 59 0 [.str s] = some (.str (lineT s)) := by
  have hLim : Lim = 4294967296 := rfl
  have h2 := fld_tot blankB s []
  have h3 := tot_length 1 (fldB blankB s [])
  have h4 := tot_optT (fldB blankB s [])
  simp only [List.length_nil] at h2
  have hb : ∀ x ∈ fldB blankB s [], x.length ≤ 1000000 := fun x hx => by have := tot_mem 1 hx; omega
  rw [w.seicheref14_Line]; unfold y.seicheref14_Line
  simp only [yy, v.Words s (by omega)]
  generalize hL : fldB blankB s [] = l at h0 h2 h3 h4 hb
  have key : ∀ (n i : Nat) (acc : List Bytes), i + n = l.length → acc.length = i → acc ++ (l.drop i).map optT = l.map optT →
      vl e 59 10 [strs acc, strs l, I l.length, I i] = some (.str (lineT s)) := by
    intro n
    induction n with
    | zero =>
      intro i acc hi ha hall
      rw [List.drop_eq_nil_of_le (by omega)] at hall
      simp at hall
      rw [w.seicheref14_Line_10]; unfold y.seicheref14_Line_10
      have hw := v.wrap (e := e) [32, 124, 124, 32] (l.map optT) (by simpa using h0) (show tot 4 _ ≤ _ by omega) (by simp; omega) (by decide)
      rw [hall]
      simp only [yy, if_neg (show ¬ ((i : Int) < (l.length : Int)) by omega), hw]
      unfold lineT; rw [hL]
    | succ n ih =>
      intro i acc hi ha hall
      have hlt : i < l.length := by omega
      rw [List.drop_eq_getElem_cons hlt] at hall
      rw [w.seicheref14_Line_10]; unfold y.seicheref14_Line_10
      have hbi := hb l[i] (List.getElem_mem _)
      have h1 := splitOn_length 44 l[i]
      have h2 : tot 4 (splitOn 44 l[i]) ≤ 4 * tot 1 (splitOn 44 l[i]) := tot_le 3 _
      rw [tot_splitOn] at h2
      have hc : vl e 32 0 [.str l[i], .int .u8 44] = _ := v.Cut l[i] 44 (by omega)
      have hw := v.wrap (e := e) [32, 38, 38, 32] (splitOn 44 l[i]) (splitOn_ne _ _) (show tot 4 _ ≤ _ by omega) (by omega) (by decide)
      simp only [yy, if_pos (show (i : Int) < (l.length : Int) by omega), v_get hlt, v_lds, hc, hw, v_bsl1, v_push (show acc.length + 1 ≤ Lim by omega), next64 hlt (by omega)]
      exact ih (i + 1) _ (by omega) (by simp [ha]) (by rw [← hall, List.map_cons, List.append_assoc]; rfl)
  exact key l.length 0 [] (by omega) rfl (by simp)
def pairV (t : Option Bytes) : V := .tup [.str (t.getD []), .bool t.isSome]
theorem v.rLines (l : List Bytes) (hs : tot 1 l ≤ 1000000) : vl e 33 0 [strs l] = some (pairV (linesO l)) := by
  have hLim : Lim = 4294967296 := rfl
  have h3 := tot_length 1 l
  have hb : ∀ x ∈ l, x.length ≤ 1000000 := fun x hx => by have := tot_mem 1 hx; omega
  have key : ∀ (n i : Nat) (acc : List Bytes), i + n = l.length → acc.length = i → allO lineO l = (allO lineO (l.drop i)).map (acc ++ ·) →
      vl e 33 10 [strs acc, strs l, I l.length, I i] = some (pairV (linesO l)) := by
    intro n
    induction n with
    | zero =>
      intro i acc hi ha hall
      rw [List.drop_eq_nil_of_le (by omega)] at hall
      have hall' : allO lineO l = some acc := by rw [hall]; simp [allO]
      rw [w.seicheref14_Lines_10]; unfold y.seicheref14_Lines_10 linesO
      by_cases h0 : l = []
      · have : acc = [] := List.eq_nil_of_length_eq_zero (by rw [ha]; subst h0; simp at hi; omega)
        subst this
        simp only [yy, if_neg (show ¬ ((i : Int) < (l.length : Int)) by omega), List.length_nil, Int.natCast_zero, if_true, List.map_nil]
        rw [if_pos h0]; rfl
      · have h1 := allO_tot (a := 16) (b := 1) (k := 4) (fun s t h => by have := line_length h; omega) hall'
        have h5 := allO_ne hall' h0
        have : 0 < acc.length := List.length_pos_iff.2 h5
        have hw := v.wrap (e := e) [32, 38, 38, 32] acc h5 (show tot 4 _ ≤ _ by omega) (by omega) (by decide)
        simp only [yy, if_neg (show ¬ ((i : Int) < (l.length : Int)) by omega), if_neg (show ¬ ((acc.length : Int) = 0) by omega), hw]
        rw [if_neg h0, hall']; rfl
    | succ n ih =>
      intro i acc hi ha hall
      have hlt : i < l.length := by omega
      rw [List.drop_eq_getElem_cons hlt, allO] at hall
      have hbi := hb l[i] (List.getElem_mem _)
      rw [w.seicheref14_Lines_10]; unfold y.seicheref14_Lines_10
      cases hp : lineO l[i] with
      | none =>
        rw [hp] at hall
        simp only [yy, if_pos (show (i : Int) < (l.length : Int) by omega), v_get hlt, v_lds, v.Good l[i] (by omega), hp, Option.isSome_none]
        unfold linesO
        rw [if_neg (fun e => by rw [e] at hlt; simp at hlt), hall]; rfl
      | some x =>
        rw [hp] at hall
        have h0 : fldB blankB l[i] [] ≠ [] := by
          intro e; unfold lineO at hp; rw [if_pos e] at hp; cases hp
        have hx := lineO_eq hp
        simp only [yy, if_pos (show (i : Int) < (l.length : Int) by omega), v_get hlt, v_lds, v.Good l[i] (by omega), hp, Option.isSome_some, v.rLine l[i] hbi h0, ← hx, v_bsl1, v_push (show acc.length + 1 ≤ Lim by omega), next64 hlt (by omega)]
        refine ih (i + 1) _ (by omega) (by simp [ha]) ?_
        rw [hall]; cases allO lineO (l.drop (i + 1)) <;> simp
  rw [w.seicheref14_Lines]; unfold y.seicheref14_Lines
  simp only [yy, v_lenS]
  exact key l.length 0 [] (by omega) rfl (by cases h : allO lineO l <;> simp [h])
end Go.Proofs.YtghjeddphkmciaaDoor
/-
  R4: Parse, the program's and the document's; the law PlusParses. Own work of this seat.
-/
namespace Go.Proofs.YtghjeddphkmciaaDoor
open Go.Abs
set_option maxRecDepth 10000
variable {e : Nat → List V → Option V}
def trimP (x : Bytes) : Bytes := if x.headD 0 = 43 then x.tail else x
theorem trim_take (x : Bytes) : (if x.take ([43] : Bytes).length = [43] then x.drop ([43] : Bytes).length else x) = trimP x := by
  cases x with
  | nil => rfl
  | cons b r => by_cases hb : b = 43 <;> simp [trimP, hb]
theorem trim_len (x : Bytes) : (trimP x).length ≤ x.length := by unfold trimP; split <;> simp
theorem tot_map {f : Bytes → Bytes} (hf : ∀ x, (f x).length ≤ x.length) (k : Nat) : ∀ l : List Bytes, tot k (l.map f) ≤ tot k l
  | [] => Nat.le_refl _
  | x :: r => by have := tot_map hf k r; have := hf x; simp only [List.map_cons, tot]; omega
/-- both come to this -/
def Both (e : Nat → List V → Option V) (f g : Nat) (s : Bytes) : Prop := ∃ (l : List Bytes) (er : Int), vl e f 0 [.str s] = some (.tup [strs l, I er]) ∧ vl e g 0 [.str s] = some (.tup [strs l, I er]) ∧ l.length ≤ 1048576
theorem lines_len {l : List Bytes} {t : Bytes} (h : linesO l = some t) : t.length ≤ 16 * tot 1 l + 2 := by
  unfold linesO at h
  split at h
  · cases h
  · obtain ⟨m, h1, rfl⟩ := Option.map_eq_some_iff.1 h
    have := allO_tot (a := 16) (b := 1) (k := 4) (fun s t h => by have := line_length h; omega) h1
    have : (wrapB [32, 38, 38, 32] m).length ≤ tot 4 m + 2 := wrapB_length _ m
    omega
theorem v.pParse (he : EnvX e) (s : Bytes) (hs : s.length ≤ 65000) : Both e 13 14 s := by
  have hLim : Lim = 4294967296 := rfl
  by_cases h0 : s.take ([43] : Bytes).length = [43]
  · -- of the elder form
    obtain ⟨r, rfl⟩ : ∃ r, s = 43 :: r := by
      cases s with
      | nil => simp at h0
      | cons b r => simp at h0; exact ⟨r, by rw [h0]⟩
    generalize hsr : (43 :: r : Bytes) = s at h0 hs
    have h1 := splitOn_length 10 s
    have htot := tot_splitOn 10 s
    have htm := tot_map trim_len 1 (splitOn 10 s)
    obtain ⟨l2, er2, q1, q2, q3⟩ : ∃ (l2 : List Bytes) (er2 : Int), (∀ t, linesO ((splitOn 10 s).map trimP) = some t → vl e 18 0 [.str t] = some (.tup [strs l2, I er2]) ∧ vl e 31 0 [.str t] = some (.tup [strs l2, I er2])) ∧
        (linesO ((splitOn 10 s).map trimP) = none → l2 = [] ∧ er2 = 4) ∧ l2.length ≤ 1048576 := by
      cases hL : linesO ((splitOn 10 s).map trimP) with
      | none => exact ⟨[], 4, (fun t h => by cases h), (fun _ => ⟨rfl, rfl⟩), by simp⟩
      | some t =>
        have htl := lines_len hL
        obtain ⟨l, er, p1, p2, p3⟩ := v.Parses (e := e) t (by omega)
        exact ⟨l, er, (fun t' h => by cases h; exact ⟨p1, p2⟩), (fun h => by cases h), by omega⟩
    refine ⟨l2, er2, ?_, ?_, q3⟩
    · have key : ∀ (n i : Nat) (acc : List Bytes), i + n = (splitOn 10 s).length → acc.length = i → acc ++ ((splitOn 10 s).drop i).map trimP = (splitOn 10 s).map trimP →
          vl e 13 18 [strs acc, strs (splitOn 10 s), I (splitOn 10 s).length, I i] = some (.tup [strs l2, I er2]) := by
        intro n
        induction n with
        | zero =>
          intro i acc hi ha hall
          rw [List.drop_eq_nil_of_le (by omega)] at hall
          simp at hall
          rw [w.plus_Parse_18]; unfold y.plus_Parse_18
          rw [hall]
          have hv := v.Lines he ((splitOn 10 s).map trimP) (by omega)
          cases hL : linesO ((splitOn 10 s).map trimP) with
          | none =>
            obtain ⟨rfl, rfl⟩ := q2 hL
            rw [hL] at hv
            simp only [yy, if_neg (show ¬ ((i : Int) < ((splitOn 10 s).length : Int)) by omega), hv, resO, Option.isSome_none]; rfl
          | some t =>
            rw [hL] at hv
            simp only [yy, if_neg (show ¬ ((i : Int) < ((splitOn 10 s).length : Int)) by omega), hv, resO, Option.isSome_some, if_true, Option.getD_some, decide_true, (q1 t hL).1]
        | succ n ih =>
          intro i acc hi ha hall
          have hlt : i < (splitOn 10 s).length := by omega
          rw [List.drop_eq_getElem_cons hlt] at hall
          rw [w.plus_Parse_18]; unfold y.plus_Parse_18
          simp only [yy, if_pos (show (i : Int) < ((splitOn 10 s).length : Int) by omega), v_get hlt, v_lds, v.trimPrefix, trim_take, v_bsl1, v_push (show acc.length + 1 ≤ Lim by omega), next64 hlt (by omega)]
          exact ih (i + 1) _ (by omega) (by simp [ha]) (by rw [← hall, List.map_cons, List.append_assoc]; rfl)
      rw [w.plus_Parse]; unfold y.plus_Parse
      have hpre := v.hasPrefix (e := e) s [43]
      rw [decide_eq_true h0] at hpre
      simp only [yy, hpre, v.split he s 10 (by omega)]
      exact key _ 0 [] (Nat.zero_add _) rfl (by simp)
    · have key : ∀ (n i : Nat) (acc : List Bytes), i + n = (splitOn 10 s).length → acc.length = i → acc ++ ((splitOn 10 s).drop i).map trimP = (splitOn 10 s).map trimP →
          vl e 14 18 [strs acc, strs (splitOn 10 s), I (splitOn 10 s).length, I i] = some (.tup [strs l2, I er2]) := by
        intro n
        induction n with
        | zero =>
          intro i acc hi ha hall
          rw [List.drop_eq_nil_of_le (by omega)] at hall
          simp at hall
          rw [w.seicheref14_Parse_18]; unfold y.seicheref14_Parse_18
          rw [hall]
          have hv := v.rLines (e := e) ((splitOn 10 s).map trimP) (by omega)
          cases hL : linesO ((splitOn 10 s).map trimP) with
          | none =>
            obtain ⟨rfl, rfl⟩ := q2 hL
            rw [hL] at hv
            simp only [yy, if_neg (show ¬ ((i : Int) < ((splitOn 10 s).length : Int)) by omega), hv, pairV, Option.isSome_none]; rfl
          | some t =>
            rw [hL] at hv
            simp only [yy, if_neg (show ¬ ((i : Int) < ((splitOn 10 s).length : Int)) by omega), hv, pairV, Option.isSome_some, Option.getD_some, (q1 t hL).2]
        | succ n ih =>
          intro i acc hi ha hall
          have hlt : i < (splitOn 10 s).length := by omega
          rw [List.drop_eq_getElem_cons hlt] at hall
          have hih := ih (i + 1) (acc ++ [trimP (splitOn 10 s)[i]]) (by omega) (by simp [ha]) (by rw [← hall, List.map_cons, List.append_assoc]; rfl)
          rw [w.seicheref14_Parse_18]; unfold y.seicheref14_Parse_18
          generalize hx : (splitOn 10 s)[i] = x at hih
          cases x with
          | nil =>
            have ht : trimP [] = [] := rfl
            rw [ht] at hih
            simp only [yy, if_pos (show (i : Int) < ((splitOn 10 s).length : Int) by omega), v_get hlt, hx, v_lds, List.length_nil, Int.natCast_zero, if_neg (show ¬ ((0 : Int) < 0) by omega), v_bsl1, v_push (show acc.length + 1 ≤ Lim by omega), next64 hlt (by omega)]
            exact hih
          | cons b q =>
            have h0 : evp .idx [.str (b :: q), .int .i64 0] = some (byteV b) := v_idx (i := 0) rfl
            have hs1 : evp (.sls true false) [.str (b :: q), .int .i64 1] = some (.str q) := v_sls1 (l := 1) (by simp)
            have hl : (0 : Int) < ((b :: q).length : Int) := by simp
            by_cases hb : b = 43
            · subst hb
              have ht : trimP (43 :: q) = q := rfl
              rw [ht] at hih
              simp only [yy, if_pos (show (i : Int) < ((splitOn 10 s).length : Int) by omega), v_get hlt, hx, v_lds, if_pos hl, h0, byteV, hs1, v_bsl1, v_push (show acc.length + 1 ≤ Lim by omega), next64 hlt (by omega)]
              rw [if_pos (by decide)]; exact hih
            · have hne : ¬ ((b.toNat : Int) = 43) := fun h => hb (UInt8.toNat_inj.1 (by rw [show (43 : UInt8).toNat = 43 from rfl]; omega))
              have ht : trimP (b :: q) = b :: q := by simp [trimP, hb]
              rw [ht] at hih
              simp only [yy, if_pos (show (i : Int) < ((splitOn 10 s).length : Int) by omega), v_get hlt, hx, v_lds, if_pos hl, h0, byteV, if_neg hne, v_bsl1, v_push (show acc.length + 1 ≤ Lim by omega), next64 hlt (by omega)]
              exact hih
      rw [w.seicheref14_Parse]; unfold y.seicheref14_Parse
      have hc : vl e 32 0 [.str s, .int .u8 10] = _ := v.Cut s 10 (by omega)
      have hi0 : evp .idx [.str s, .int .i64 0] = some (.int .u8 43) := by rw [← hsr]; exact v_idx (s := 43 :: r) (i := 0) (c := 43) rfl
      simp only [yy, if_neg (show ¬ (s = []) by rw [← hsr]; simp), hi0, hc, decide_true]
      exact key _ 0 [] (Nat.zero_add _) rfl (by simp)
  · obtain ⟨l, er, p1, p2, p3⟩ := v.Parses (e := e) s (by omega)
    refine ⟨l, er, ?_, ?_, by omega⟩
    · rw [w.plus_Parse]; unfold y.plus_Parse
      have hpre := v.hasPrefix (e := e) s [43]
      rw [decide_eq_false h0] at hpre
      simp only [yy, hpre, p1]
    · rw [w.seicheref14_Parse]; unfold y.seicheref14_Parse
      cases s with
      | nil => simp only [yy, if_true, p2]
      | cons b q =>
        have h1 : evp .idx [.str (b :: q), .int .i64 0] = some (byteV b) := v_idx (i := 0) rfl
        have hb : ¬ b = 43 := fun h => h0 (by rw [h]; rfl)
        have hne : ¬ ((b.toNat : Int) = 43) := fun h => hb (UInt8.toNat_inj.1 (by rw [show (43 : UInt8).toNat = 43 from rfl]; omega))
        simp only [yy, if_neg (show ¬ ((b :: q) = []) by simp), h1, byteV, if_neg hne, p2]
theorem v.Same01 (l : List Bytes) (hl : l.length ≤ 1000000000) : vl e 15 0 [strs l, strs l] = some (.bool true) := by
  have key : ∀ (n i : Nat), i + n = l.length → vl e 15 16 [strs l, strs l, I l.length, I i] = some (.bool true) := by
    intro n
    induction n with
    | zero =>
      intro i hi
      rw [w.seicheref01_Same_16]; unfold y.seicheref01_Same_16
      simp only [yy, if_neg (show ¬ ((i : Int) < (l.length : Int)) by omega)]
    | succ n ih =>
      intro i hi
      have hlt : i < l.length := by omega
      rw [w.seicheref01_Same_16]; unfold y.seicheref01_Same_16
      simp only [yy, if_pos (show (i : Int) < (l.length : Int) by omega), v_get hlt, v_lds, if_true, decide_true, next64 hlt (by omega), ih (i + 1) (by omega)]
  rw [w.seicheref01_Same]; unfold y.seicheref01_Same
  simp only [yy, v_lenS, if_true, decide_true]
  exact key l.length 0 (by omega)
theorem v.alive14 (he : EnvX e) : vl e 12 0 [] = some (.bool true) := by
  rw [w.seichelaw14_alive]; unfold y.seichelaw14_alive
  have hL : lineO [97, 44, 33, 98, 32, 99] = some [40, 40, 97, 32, 38, 38, 32, 33, 98, 41, 32, 124, 124, 32, 99, 41] := by decide +kernel
  have hv := v.Line he [97, 44, 33, 98, 32, 99] (by decide)
  rw [hL] at hv
  simp only [yy, hv, resO, Option.isSome_some, if_true, Option.getD_some, decide_true]
theorem p_plusParses (he : EnvX e) (s : Bytes) (_ : (V.str s).wt ≤ 1048576) : vl e 4 0 [.str s] = some (.bool true) := by
  rw [w.seichelaw14_PlusParses]; unfold y.seichelaw14_PlusParses
  by_cases h1 : s.length ≤ 2048
  · obtain ⟨l, er, p1, p2, p3⟩ := v.pParse he s (by omega)
    simp only [yy, v.alive14 he, if_neg (show ¬ ((2048 : Int) < (s.length : Int)) by omega), p1, p2, if_true, decide_true, v.Same01 l (by omega)]
  · simp only [yy, v.alive14 he, if_pos (show (2048 : Int) < (s.length : Int) by omega)]
end Go.Proofs.YtghjeddphkmciaaDoor
/-
  R5: Eval: a row of parts, one by one. Own work of this seat.
-/
namespace Go.Proofs.YtghjeddphkmciaaDoor
open Go.Abs
set_option maxRecDepth 10000
variable {e : Nat → List V → Option V}
/-! ## a row of truths that is written in place -/
abbrev bg (st : List Bool) : V := .agg (st.map .bool)
theorem v_chkd {n i : Int} (h : 0 ≤ i) (h2 : i < n) : evp .chkd [.int .i64 n, .int .i64 i] = some (.int .i64 i) := if_pos ⟨h, h2⟩
theorem v_chkl {n i : Int} (h : 0 ≤ i) (h2 : i ≤ n) : evp .chkl [.int .i64 n, .int .i64 i] = some (.int .i64 i) := if_pos ⟨h, h2⟩
theorem v_ldb {st : List Bool} {i : Int} {b : Bool} (h : st[i.toNat]? = some b) : evp (.ldd none 0 1) [bg st, .int .i64 i] = some (.bool b) := by
  show (st.map V.bool)[0 + i.toNat * 1]? = _
  rw [Nat.zero_add, Nat.mul_one, List.getElem?_map, h]; rfl
theorem v_stb {st : List Bool} {i : Int} {b : Bool} (h : i.toNat < st.length) : evp (.std 1 0 1) [bg st, .int .i64 i, .bool b] = some (bg (st.take i.toNat ++ b :: st.drop (i.toNat + 1))) := by
  show vSet 1 (0 + i.toNat * 1) (bg st) (.bool b) = _
  have hc : (bg st).cells = st.map .bool := rfl
  have hb : (V.bool b).cells = [V.bool b] := rfl
  unfold vSet
  rw [Nat.zero_add, Nat.mul_one, hc, hb, if_pos ⟨rfl, rfl, by simp; omega⟩]
  simp [setAt, List.map_drop, List.map_take]
theorem v_rapp {st : List Bool} {n : Nat} {b : Bool} (h : n ≤ st.length) (h2 : n + 1 ≤ Lim) : evp (.rapp 1) [bg st, .int .i64 n, .sl false 1 [.bool b]] = some (bg (st.take n ++ [b])) := by
  refine Eq.trans (b := some (V.agg ((st.map V.bool).take ((n : Int).toNat * 1) ++ [V.bool b]))) (if_pos ⟨by omega, by omega, by rw [show (bg st).cells = st.map V.bool from rfl]; simp; omega, by simpa using h2⟩) ?_
  simp [List.map_take]
theorem v_rlen {n : Nat} {b : Bool} : evp (.rlen 1) [.int .i64 n, .sl false 1 [.bool b]] = some (.int .i64 ((n + 1 : Nat) : Int)) :=
  if_pos (e := none) (show (0 : Int) ≤ (n : Int) by omega)
theorem v_bslB {b : Bool} : evp (.bsl 1) [.bool b] = some (.sl false 1 [.bool b]) := rfl

/-! ## is a text among others? -/
def inB (on : List Bytes) (t : Bytes) : Bool := decide (t ∈ on)
theorem inB_cons (x t : Bytes) (on : List Bytes) : inB (x :: on) t = (decide (t = x) || inB on t) := by simp [inB]
theorem v.In (on : List Bytes) (t : Bytes) (hl : on.length ≤ 1000000000) : vl e 43 0 [strs on, .str t] = some (.bool (inB on t)) := by
  have key : ∀ (n i : Nat), i + n = on.length → vl e 43 8 [.str t, strs on, I on.length, I i] = some (.bool (inB (on.drop i) t)) := by
    intro n
    induction n with
    | zero =>
      intro i hi
      rw [w.seicheref13_In_8]; unfold y.seicheref13_In_8
      simp only [yy, if_neg (show ¬ ((i : Int) < (on.length : Int)) by omega)]
      rw [List.drop_eq_nil_of_le (by omega)]; rfl
    | succ n ih =>
      intro i hi
      have hlt : i < on.length := by omega
      rw [w.seicheref13_In_8]; unfold y.seicheref13_In_8
      rw [List.drop_eq_getElem_cons hlt, inB_cons]
      simp only [yy, if_pos (show (i : Int) < (on.length : Int) by omega), v_get hlt, v_lds, next64 hlt (by omega), ih (i + 1) (by omega)]
      by_cases h : on[i] = t
      · rw [if_pos h, decide_eq_true h.symm]; rfl
      · rw [if_neg h, decide_eq_false (fun h' => h h'.symm)]; rfl
  rw [w.seicheref13_In]; unfold y.seicheref13_In
  simp only [yy]
  exact key on.length 0 (by omega)
theorem v.Contains (on : List Bytes) (t : Bytes) (hl : on.length ≤ 1000000000) : vl e 41 0 [strs on, .str t] = some (.bool (inB on t)) := by
  have key : ∀ (n i : Nat), i + n = on.length → ∃ r : Int, vl e 68 8 [strs on, .str t, I on.length, I i] = some (I r) ∧ (0 ≤ r ↔ inB (on.drop i) t = true) := by
    intro n
    induction n with
    | zero =>
      intro i hi
      refine ⟨-1, ?_, ?_⟩
      · rw [w.slices_Index_Lstring_string_8]; unfold y.slices_Index_Lstring_string_8
        simp only [yy, if_neg (show ¬ ((i : Int) < (on.length : Int)) by omega)]
      · rw [List.drop_eq_nil_of_le (by omega)]; simp [inB]
    | succ n ih =>
      intro i hi
      have hlt : i < on.length := by omega
      obtain ⟨r, h1, h2⟩ := ih (i + 1) (by omega)
      by_cases h : t = on[i]
      · refine ⟨i, ?_, ?_⟩
        · rw [w.slices_Index_Lstring_string_8]; unfold y.slices_Index_Lstring_string_8
          simp only [yy, if_pos (show (i : Int) < (on.length : Int) by omega), v_get hlt, v_lds, if_pos h]
        · rw [List.drop_eq_getElem_cons hlt, inB_cons, decide_eq_true h]; simp
      · refine ⟨r, ?_, ?_⟩
        · rw [w.slices_Index_Lstring_string_8]; unfold y.slices_Index_Lstring_string_8
          simp only [yy, if_pos (show (i : Int) < (on.length : Int) by omega), v_get hlt, v_lds, if_neg h, next64 hlt (by omega), h1]
        · rw [List.drop_eq_getElem_cons hlt, inB_cons, decide_eq_false h, Bool.false_or]; exact h2
  obtain ⟨r, h1, h2⟩ := key on.length 0 (by omega)
  rw [w.slices_Contains_Lstring_string]; unfold y.slices_Contains_Lstring_string
  have hI : vl e 68 0 [strs on, .str t] = some (I r) := by
    rw [w.slices_Index_Lstring_string]; unfold y.slices_Index_Lstring_string
    simp only [yy]; exact h1
  simp only [yy, hI]
  rw [List.drop_zero] at h2
  cases h : inB on t
  · rw [h] at h2; rw [decide_eq_false (fun h' => absurd (h2.1 h') (by decide))]
  · rw [h] at h2; rw [decide_eq_true (h2.2 rfl)]

/-! ## one part -/
noncomputable abbrev evL (e : Nat → List V → Option V) (on l : List Bytes) (st : List Bool) (i : Nat) : Option V := vl e 19 10 [strs on, I st.length, strs l, I l.length, I i, bg st]
variable {on l : List Bytes} {i : Nat}
theorem tag_ne {t : Bytes} (h : isTag t = true) : t ≠ [33] ∧ t ≠ [38, 38] ∧ t ≠ [124, 124] := by
  refine ⟨?_, ?_, ?_⟩ <;> (rintro rfl; exact absurd h (by decide))
theorem ev_tag (hon : on.length ≤ 1000000) (hl : l.length ≤ 1000000) (hi : i < l.length) (st : List Bool) (hst : st.length ≤ 1000000) (ht : isTag l[i] = true) (hb : l[i].length ≤ 1000000) :
    evL e on l st i = evL e on l (st ++ [inB on l[i]]) (i + 1) := by
  have hLim : Lim = 4294967296 := rfl
  obtain ⟨h1, h2, h3⟩ := tag_ne ht
  have hr := v_rapp (st := st) (b := inB on l[i]) (Nat.le_refl _) (by omega)
  rw [List.take_length] at hr
  unfold evL
  rw [w.expr_Eval_10]; unfold y.expr_Eval_10
  simp only [yy, if_pos (show (i : Int) < (l.length : Int) by omega), v_get hi, v_lds, if_neg h1]
  rw [w.expr_Eval_26]; unfold y.expr_Eval_26
  simp only [yy, if_neg h2, if_neg h3, v.Tag l[i] (by omega), ht, v.Contains on l[i] (by omega), v_bslB, hr, v_rlen, next64 hi (by omega)]
  simp
theorem ev_not (hl : l.length ≤ 1000000) (hi : i < l.length) (st : List Bool) (b : Bool) (hst : st.length ≤ 1000000) (ht : l[i] = [33]) :
    evL e on l (st ++ [b]) i = evL e on l (st ++ [!b]) (i + 1) := by
  have e1 : IntKind.i64.wrap (((st ++ [b]).length : Int) - 1) = (st.length : Int) := by rw [w64 _ (by simp; omega)]; simp
  have hlen : ((st ++ [b]).length : Int) = (st.length : Int) + 1 := by simp
  have hld : evp (.ldd none 0 1) [bg (st ++ [b]), .int .i64 (st.length : Int)] = some (.bool b) := v_ldb (by simp)
  have hst' : evp (.std 1 0 1) [bg (st ++ [b]), .int .i64 (st.length : Int), .bool (!b)] = some (bg (st ++ [!b])) := by
    rw [v_stb (by simp)]; simp
  unfold evL
  rw [w.expr_Eval_10]; unfold y.expr_Eval_10
  simp only [yy, if_pos (show (i : Int) < (l.length : Int) by omega), v_get hi, v_lds, ht, if_true]
  rw [w.expr_Eval_26]; unfold y.expr_Eval_26
  simp only [yy, if_pos (show (0 : Int) < ((st ++ [b]).length : Int) by omega), e1, v_chkd (n := ((st ++ [b]).length : Int)) (i := (st.length : Int)) (by omega) (by omega), hld, hst', next64 hi (by omega)]
  simp
theorem ev_bin (hl : l.length ≤ 1000000) (hi : i < l.length) (st : List Bool) (a b : Bool) (hst : st.length ≤ 1000000) (o : Bool) (ht : l[i] = if o = true then [124, 124] else [38, 38]) :
    evL e on l (st ++ [a, b]) i = evL e on l (st ++ [if o = true then a || b else a && b]) (i + 1) := by
  have hLim : Lim = 4294967296 := rfl
  have hlen : ((st ++ [a, b]).length : Int) = (st.length : Int) + 2 := by simp
  have hgt : ∀ c d : Bool, (decide ((1 : Int) < ((st ++ [c, d]).length : Int))) = true := fun c d => decide_eq_true (by simp; omega)
  have e1 : IntKind.i64.wrap (((st ++ [a, b]).length : Int) - 1) = ((st.length + 1 : Nat) : Int) := by rw [w64 _ (by omega)]; omega
  have e2 : IntKind.i64.wrap (((st ++ [a, b]).length : Int) - 2) = (st.length : Int) := by rw [w64 _ (by omega)]; omega
  have hl1 : evp (.ldd none 0 1) [bg (st ++ [a, b]), .int .i64 ((st.length + 1 : Nat) : Int)] = some (.bool b) := v_ldb (by simp)
  have hl2 : evp (.ldd none 0 1) [bg (st ++ [a, b]), .int .i64 (st.length : Int)] = some (.bool a) := v_ldb (by simp)
  have hr : ∀ c, evp (.rapp 1) [bg (st ++ [a, b]), .int .i64 (st.length : Int), .sl false 1 [.bool c]] = some (bg (st ++ [c])) := fun c => by rw [v_rapp (by simp) (by omega)]; simp
  have hk : ∀ c : Bool, (st ++ [c]).length = st.length + 1 := fun c => by simp
  have hc1 := v_chkd (n := ((st ++ [a, b]).length : Int)) (i := ((st.length + 1 : Nat) : Int)) (by omega) (by omega)
  have hc2 := v_chkd (n := ((st ++ [a, b]).length : Int)) (i := (st.length : Int)) (by omega) (by omega)
  have hc3 := v_chkl (n := ((st ++ [a, b]).length : Int)) (i := (st.length : Int)) (by omega) (by omega)
  unfold evL
  rw [w.expr_Eval_10]; unfold y.expr_Eval_10
  cases o with
  | false =>
    rw [if_neg (by decide)] at ht
    simp only [yy, if_pos (show (i : Int) < (l.length : Int) by omega), v_get hi, v_lds, ht, if_neg (show ¬ (([38, 38] : Bytes) = [33]) by decide)]
    rw [w.expr_Eval_26]; unfold y.expr_Eval_26
    cases a <;> simp only [yy, if_true, hgt, e1, e2, hc1, hc2, hc3, hl1, hl2, hr, hk, v_rlen, v_bslB, next64 hi (by omega)] <;> rfl
  | true =>
    rw [if_pos rfl] at ht
    simp only [yy, if_pos (show (i : Int) < (l.length : Int) by omega), v_get hi, v_lds, ht, if_neg (show ¬ (([124, 124] : Bytes) = [33]) by decide)]
    rw [w.expr_Eval_26]; unfold y.expr_Eval_26
    cases a <;> simp only [yy, if_true, if_neg (show ¬ (([124, 124] : Bytes) = [38, 38]) by decide), hgt, e1, e2, hc1, hc2, hc3, hl1, hl2, hr, hk, v_rlen, v_bslB, next64 hi (by omega)] <;> rfl
theorem ev_end (l : List Bytes) (b : Bool) : evL e on l [b] l.length = some (.tup [.bool b, I 0]) := by
  have hld : evp (.ldd none 0 1) [bg [b], .int .i64 0] = some (.bool b) := v_ldb rfl
  unfold evL
  rw [w.expr_Eval_10]; unfold y.expr_Eval_10
  simp only [yy, if_neg (show ¬ ((l.length : Int) < (l.length : Int)) by omega), List.length_cons, List.length_nil]
  rw [if_pos (by decide)]
  have hc := v_chkd (n := ((0 + 1 : Nat) : Int)) (i := 0) (by decide) (by decide)
  simp only [yy, hc, hld]
/-! ## several parts -/
def EvP (e : Nat → List V → Option V) (on : List Bytes) (p : List Bytes) (b : Bool) : Prop :=
  ∀ (pre suf : List Bytes) (st : List Bool), (pre ++ p ++ suf).length ≤ 1000000 → st.length + p.length ≤ 1000000 → evL e on (pre ++ p ++ suf) st pre.length = evL e on (pre ++ p ++ suf) (st ++ [b]) (pre.length + p.length)
theorem evp_tag (hon : on.length ≤ 1000000) {t : Bytes} (ht : isTag t = true) (hb : t.length ≤ 1000000) : EvP e on [t] (inB on t) := by
  intro pre suf st h1 h2
  have hi : pre.length < (pre ++ [t] ++ suf).length := by simp
  have hg : (pre ++ [t] ++ suf)[pre.length] = t := by simp
  have h := ev_tag (e := e) hon h1 hi st (by omega) (by rw [hg]; exact ht) (by rw [hg]; exact hb)
  rw [hg] at h; exact h
theorem evp_not {p : List Bytes} {b : Bool} (h : EvP e on p b) : EvP e on (p ++ [[33]]) (!b) := by
  intro pre suf st h1 h2
  have e1 : pre ++ (p ++ [[33]]) ++ suf = pre ++ p ++ ([33] :: suf) := by simp
  rw [e1] at h1 ⊢
  simp only [List.length_append, List.length_cons, List.length_nil] at h1 h2 ⊢
  rw [h pre _ st (by simp; omega) (by omega)]
  have hi : pre.length + p.length < (pre ++ p ++ [33] :: suf).length := by simp
  have := ev_not (e := e) (on := on) (by simp; omega) hi st b (by omega) (by simp)
  rw [this]; rfl
theorem evp_bin {p q : List Bytes} {a b : Bool} (o : Bool) (h : EvP e on p a) (h' : EvP e on q b) : EvP e on (p ++ q ++ [if o = true then [124, 124] else [38, 38]]) (if o = true then a || b else a && b) := by
  intro pre suf st h1 h2
  generalize hg : (if o = true then [124, 124] else [38, 38] : Bytes) = g at h1 h2 ⊢
  simp only [List.length_append, List.length_cons, List.length_nil] at h1 h2 ⊢
  have e1 : pre ++ (p ++ q ++ [g]) ++ suf = pre ++ p ++ (q ++ g :: suf) := by simp
  have e2 : pre ++ p ++ (q ++ g :: suf) = (pre ++ p) ++ q ++ (g :: suf) := by simp
  rw [e1, h pre _ st (by simp; omega) (by omega), e2]
  have := h' (pre ++ p) (g :: suf) (st ++ [a]) (by simp; omega) (by simp; omega)
  rw [List.length_append] at this
  rw [this]
  have hi : pre.length + p.length + q.length < (pre ++ p ++ q ++ g :: suf).length := by simp; omega
  have hgt : (pre ++ p ++ q ++ g :: suf)[pre.length + p.length + q.length] = g := by
    rw [List.getElem_append_right (by simp; omega)]; simp [Nat.add_assoc]
  have h3 := ev_bin (e := e) (on := on) (by simp; omega) hi st a b (by omega) o (by rw [hg]; exact hgt)
  rw [List.append_assoc st, List.singleton_append, h3, Nat.add_assoc, Nat.add_assoc, Nat.add_assoc]
theorem v.Eval {p : List Bytes} {b : Bool} (h : EvP e on p b) (hp : p.length ≤ 1000000) : vl e 19 0 [strs p, strs on] = some (.tup [.bool b, I 0]) := by
  rw [w.expr_Eval]; unfold y.expr_Eval
  have h1 := h [] [] [] (by simpa using hp) (by simpa using hp)
  have h2 := ev_end (e := e) (on := on) p b
  simp only [List.nil_append, List.append_nil, List.length_nil, Nat.zero_add] at h1
  rw [h2] at h1
  simp only [yy]
  exact h1
end Go.Proofs.YtghjeddphkmciaaDoor
/-
  R6: what the parser makes of terms, options and lines in the newer form, and what that evaluates to. Own work of this seat.
-/
namespace Go.Proofs.YtghjeddphkmciaaDoor
open Go.Abs
set_option maxRecDepth 10000
variable {e : Nat → List V → Option V}
/-! ## pieces of texts -/
/-- no tag goes on here -/
def Fol (r : Bytes) : Prop := ∀ c x, r = c :: x → sign c = false
theorem fol_nil : Fol [] := fun _ _ h => nomatch h
theorem fol_cons {c : UInt8} {r : Bytes} (h : sign c = false) : Fol (c :: r) := fun _ _ e => by cases e; exact h
theorem fol_take {r : Bytes} (h : Fol r) : r.takeWhile sign = [] := by
  cases r with
  | nil => rfl
  | cons c x => rw [List.takeWhile_cons, h c x rfl]; rfl
theorem pieces_tag {t r : Bytes} (ht : isTag t = true) (hr : Fol r) : pieces (t ++ r) = t :: pieces r := by
  cases t with
  | nil => exact absurd ht (by decide)
  | cons c x =>
    have hall : ∀ a ∈ c :: x, sign a = true := by
      unfold isTag at ht
      rw [Bool.and_eq_true] at ht
      exact List.all_eq_true.1 ht.1
    have htw : ((c :: x) ++ r).takeWhile sign = c :: x := by
      rw [List.takeWhile_append_of_pos hall, fol_take hr, List.append_nil]
    have hc := hall c (List.mem_cons_self ..)
    have htok : tokLen ((c :: x) ++ r) = (c :: x).length := by
      rw [List.cons_append] at htw ⊢
      rw [tokLen_cons, if_pos hc, htw]
    have := pieces_tok (x := (c :: x) ++ r) (c := c) (r := x ++ r) rfl (sign_not_blank hc) (by rw [htok]; simp)
    rw [this, htok, List.take_left, List.drop_left]
theorem pieces_sg {g : Bytes} (hg : Sg g) (r : Bytes) : pieces (g ++ r) = g :: pieces r := by
  have htok : tokLen (g ++ r) = g.length := tok_sign hg (by rw [List.take_left])
  have : ∃ c x, g = c :: x ∧ blank c = false := by rcases hg with rfl | rfl | rfl | rfl | rfl <;> exact ⟨_, _, rfl, rfl⟩
  obtain ⟨c, x, hgc, hb⟩ := this
  have := pieces_tok (x := g ++ r) (c := c) (r := x ++ r) (by rw [hgc]; rfl) hb (by rw [htok, hgc]; simp)
  rw [this, htok, List.take_left, List.drop_left]
theorem pieces_sp (r : Bytes) : pieces (32 :: r) = pieces r := by rw [pieces_cons, if_pos (by decide)]
def sgO (o : Bool) : Bytes := if o = true then [124, 124] else [38, 38]
def sepO (o : Bool) : Bytes := 32 :: sgO o ++ [32]
theorem sg_o (o : Bool) : Sg (sgO o) := by cases o <;> simp [Sg, sgO]
theorem pieces_sep (o : Bool) (r : Bytes) : pieces (sepO o ++ r) = sgO o :: pieces r := by
  rw [sepO, List.cons_append, List.cons_append, pieces_sp, List.append_assoc, pieces_sg (sg_o o), List.singleton_append, pieces_sp]
theorem fol_sep (o : Bool) (r : Bytes) : Fol (sepO o ++ r) := fol_cons rfl

/-! ## what is read of pieces -/
def PN (e : Nat → List V → Option V) (kr : Nat) (B : List Bytes → Prop) (k : Nat) (ts p : List Bytes) : Prop :=
  ∀ (rest out : List Bytes) (d : Nat), B rest → d + k ≤ 64 → out.length + p.length ≤ 1000000 → vl e kr 1 [strs (ts ++ rest), strs out, I d] = some (.tup [I 0, strs rest, strs (out ++ p), I d])
def Any : List Bytes → Prop := fun _ => True
theorem pn_tag {t : Bytes} (ht : isTag t = true) (hb : t.length ≤ 1000000) : PN e 11808 Any 0 [t] [t] := by
  intro rest out d _ hd ho
  have hLim : Lim = 4294967296 := rfl
  rw [w.seiche_seicheref13_Read_Part_h0]; unfold y.seiche_seicheref13_Read_Part_h0
  have p2 := v.RTake (e := e) (t :: rest) [40] (strs out) (I d)
  have h40 : headIs (t :: rest) [40] = false := headIs_f fun r h => by rw [(List.cons.inj h).1] at ht; exact absurd ht (by decide)
  rw [h40, if_neg (by decide)] at p2
  have h0 : ∀ r, evp (.elem 1) [strs (t :: r), .int .i64 0] = some (.str t) := fun r => v_elem (i := 0) rfl
  have hs1 : ∀ r, evp (.slc 1 true false false) [strs (t :: r), .int .i64 1] = some (strs r) := fun r => v_slc1
  simp only [List.length_cons, List.length_nil] at ho
  rw [List.singleton_append]
  simp only [yy, p2, h0, v_ld0 (show (V.str t).sc = true from rfl), v.Tag13 t (by omega), ht, v_bsl1, v_push (show out.length + 1 ≤ Lim by omega), hs1]
  rw [if_neg (by simp)]
theorem pn_not0 {k : Nat} {ts p : List Bytes} (h : PN e 11808 Any k ts p) (hh : ∀ rest, headIs (ts ++ rest) [33] = false) : PN e 11600 Any k ts p := by
  intro rest out d hB hd ho
  rw [w.seiche_seicheref13_Read_Not_h0]; unfold y.seiche_seicheref13_Read_Not_h0
  have p2 := v.RTake (e := e) (ts ++ rest) [33] (strs out) (I d)
  rw [hh, if_neg (by decide)] at p2
  simp only [yy, p2, h rest out d trivial hd ho, if_true]
theorem pn_not1 {k : Nat} {ts p : List Bytes} (h : PN e 11808 Any k ts p) : PN e 11600 Any k ([33] :: ts) (p ++ [[33]]) := by
  intro rest out d hB hd ho
  have hLim : Lim = 4294967296 := rfl
  simp only [List.length_append, List.length_cons, List.length_nil] at ho
  rw [w.seiche_seicheref13_Read_Not_h0]; unfold y.seiche_seicheref13_Read_Not_h0
  have p2 := v.RTake (e := e) ([33] :: (ts ++ rest)) [33] (strs out) (I d)
  rw [headIs_t, if_pos rfl, List.tail_cons] at p2
  rw [List.cons_append]
  simp only [yy, p2, h rest out d trivial hd (by omega), if_true, v_bslS, v_push (show (out ++ p).length + 1 ≤ Lim by simp; omega)]
  rw [List.append_assoc]
theorem pn_br {k : Nat} {ts p : List Bytes} {B : List Bytes → Prop} (hB : ∀ r, B ([41] :: r)) (h : PN e 10912 B k ts p) : PN e 11808 Any (k + 1) ([40] :: ts ++ [[41]]) p := by
  intro rest out d _ hd ho
  rw [w.seiche_seicheref13_Read_Part_h0]; unfold y.seiche_seicheref13_Read_Part_h0
  have e1 : [40] :: ts ++ [[41]] ++ rest = [40] :: (ts ++ [41] :: rest) := by simp
  have p2 := v.RTake (e := e) ([40] :: (ts ++ [41] :: rest)) [40] (strs out) (I d)
  rw [headIs_t, if_pos rfl, List.tail_cons] at p2
  have p4 := v.RTake (e := e) ([41] :: rest) [41] (strs (out ++ p)) (I d)
  rw [headIs_t, if_pos rfl, List.tail_cons] at p4
  have q2 := h ([41] :: rest) out (d + 1) (hB rest) (by omega) ho
  rw [e1]
  simp only [yy, p2, nat1 (show d ≤ 64 by omega), if_neg (show ¬ ((64 : Int) < ((d + 1 : Nat) : Int)) by omega), q2, decide_true, nat1' (show d ≤ 64 by omega), p4]
def flT (g : Bytes) (its : List (List Bytes × List Bytes)) : List Bytes := (its.map fun i => g :: i.1).flatten
def flP (g : Bytes) (its : List (List Bytes × List Bytes)) : List Bytes := (its.map fun i => i.2 ++ [g]).flatten
theorem pn_list {g : Bytes} {kp kl kq kr : Nat} (hL : Lst e g kp kl kq kr) {B : List Bytes → Prop} (hB : ∀ r, B (g :: r)) {k : Nat} {ts p : List Bytes} {its : List (List Bytes × List Bytes)} (h0 : PN e kq B k ts p) (h : ∀ i ∈ its, PN e kq B k i.1 i.2) :
    PN e kr (fun r => B r ∧ headIs r g = false) k (ts ++ flT g its) (p ++ flP g its) := by
  have hLim : Lim = 4294967296 := rfl
  intro rest out d hBr hd ho
  have loop : ∀ (its : List (List Bytes × List Bytes)), (∀ i ∈ its, PN e kq B k i.1 i.2) → ∀ out : List Bytes, out.length + (flP g its).length ≤ 1000000 →
      vl e kr 8 [I 0, strs (flT g its ++ rest), strs out, I d] = some (.tup [I 0, strs rest, strs (out ++ flP g its), I d]) := by
    intro its
    induction its with
    | nil =>
      intro _ out _
      have p2 := v.RTake (e := e) rest g (strs out) (I d)
      rw [hBr.2, if_neg (by decide)] at p2
      rw [hL.r8]; unfold rls8
      rw [show flP g [] = [] from rfl, List.append_nil, show flT g [] ++ rest = rest from rfl]
      simp only [yy, p2, if_true]
    | cons i its ih =>
      intro hi out ho
      have e1 : flT g (i :: its) ++ rest = g :: (i.1 ++ (flT g its ++ rest)) := by simp [flT]
      have e2 : flP g (i :: its) = i.2 ++ [g] ++ flP g its := by simp [flP]
      rw [e2] at ho ⊢
      simp only [List.length_append, List.length_cons, List.length_nil] at ho
      have p2 := v.RTake (e := e) (g :: (i.1 ++ (flT g its ++ rest))) g (strs out) (I d)
      rw [headIs_t, if_pos rfl, List.tail_cons] at p2
      have hB' : B (flT g its ++ rest) := by
        cases its with
        | nil => exact hBr.1
        | cons j r => exact hB _
      have q2 := hi i (List.mem_cons_self ..) (flT g its ++ rest) out d hB' hd (by omega)
      have ih := ih (fun j hj => hi j (List.mem_cons_of_mem _ hj)) (out ++ i.2 ++ [g]) (by simp; omega)
      rw [hL.r8, e1]; unfold rls8
      simp only [yy, p2, if_true, q2, v_bslS, v_push (show (out ++ i.2).length + 1 ≤ Lim by simp; omega)]
      rw [ih]; simp
  have hB' : B (flT g its ++ rest) := by
    cases its with
    | nil => exact hBr.1
    | cons j r => exact hB _
  simp only [List.length_append] at ho
  have q2 := h0 (flT g its ++ rest) out d hB' hd (by omega)
  rw [List.append_assoc, hL.r1]; unfold rls1
  simp only [yy, q2]
  rw [loop its h (out ++ p) (by simp; omega)]; simp

/-! ## texts -/
/-- a text that is a part with or without a ! -/
def NT (e : Nat → List V → Option V) (on : List Bytes) (k : Nat) (t : Bytes) (b : Bool) : Prop :=
  ∃ ts p, (∀ r, Fol r → pieces (t ++ r) = ts ++ pieces r) ∧ PN e 11600 Any k ts p ∧ EvP e on p b ∧ p.length ≤ t.length
variable {on : List Bytes}
def termB (on : List Bytes) (s : Bytes) : Bool := !(inB on (nameB s) == notB s)
theorem nt_term (hon : on.length ≤ 1000000) {s : Bytes} (h : isTag (nameB s) = true) (hb : s.length ≤ 1000000) : NT e on 0 s (termB on s) := by
  have hnl := name_length s
  have ht := pn_tag (e := e) h (by omega)
  have he := evp_tag (e := e) hon h (by omega)
  have hn : ∀ rest, headIs ([nameB s] ++ rest) [33] = false := fun rest => headIs_f fun r hr => by
    rw [(List.cons.inj hr).1] at h; exact absurd h (by decide)
  unfold termB
  cases hs : notB s with
  | false =>
    rw [show (!(inB on (nameB s) == false)) = inB on (nameB s) by cases inB on (nameB s) <;> rfl]
    rw [not_name_f hs] at h ht he hn ⊢
    refine ⟨[s], [s], fun r hr => pieces_tag h hr, pn_not0 ht hn, he, ?_⟩
    cases s with
    | nil => exact absurd h (by decide)
    | cons c r => simp
  | true =>
    rw [show (!(inB on (nameB s) == true)) = !inB on (nameB s) by cases inB on (nameB s) <;> rfl]
    have hs1 := not_name hs
    refine ⟨[33] :: [nameB s], [nameB s] ++ [[33]], fun r hr => ?_, pn_not1 ht, evp_not he, ?_⟩
    · have e1 : s ++ r = [33] ++ (nameB s ++ r) := by rw [← hs1]; simp [show nameB (33 :: nameB s) = nameB s from rfl]
      rw [e1, pieces_sg (.inl rfl), pieces_tag h hr]; rfl
    · rw [← hs1, show nameB (33 :: nameB s) = nameB s from rfl]
      cases hx : nameB s with
      | nil => rw [hx] at h; exact absurd h (by decide)
      | cons c r => simp
theorem not_head_br (ts rest : List Bytes) : headIs ([40] :: ts ++ [[41]] ++ rest) [33] = false := headIs_f fun r hr => by
  have := (List.cons.inj hr).1
  exact absurd this (by decide)
variable {α : Type}
theorem nt_rest (o : Bool) (k : Nat) (f : α → Bytes) (q : α → Bool) : ∀ (ws : List α), (∀ x ∈ ws, NT e on k (f x) (q x)) →
    ∃ its : List (List Bytes × List Bytes), (∀ r, Fol r → pieces ((ws.map fun x => sepO o ++ f x).flatten ++ r) = flT (sgO o) its ++ pieces r) ∧ (∀ i ∈ its, PN e 11600 Any k i.1 i.2) ∧
      (∀ p a, EvP e on p a → EvP e on (p ++ flP (sgO o) its) (if o = true then a || ws.any q else a && ws.all q)) ∧ (flP (sgO o) its).length ≤ (ws.map fun x => sepO o ++ f x).flatten.length
  | [], _ => ⟨[], fun _ _ => rfl, (fun _ h => nomatch h), (fun p a h => by cases o <;> simpa [flP] using h), by simp [flP]⟩
  | x :: ws, h => by
    obtain ⟨its, h1, h2, h3, h4⟩ := nt_rest o k f q ws fun z hz => h z (List.mem_cons_of_mem _ hz)
    obtain ⟨ts, p, g1, g2, g3, g4⟩ := h x (List.mem_cons_self ..)
    refine ⟨(ts, p) :: its, fun r hr => ?_, fun i hi => ?_, fun p0 a h0 => ?_, ?_⟩
    · have e1 : ((x :: ws).map fun x => sepO o ++ f x).flatten ++ r = sepO o ++ (f x ++ ((ws.map fun x => sepO o ++ f x).flatten ++ r)) := by simp
      have hf : Fol ((ws.map fun x => sepO o ++ f x).flatten ++ r) := by
        cases ws with
        | nil => exact hr
        | cons z r => exact fol_cons rfl
      rw [e1, pieces_sep, g1 _ hf, h1 r hr]; simp [flT]
    · rcases List.mem_cons.1 hi with rfl | hi
      · exact g2
      · exact h2 i hi
    · have := h3 _ _ (evp_bin o h0 g3)
      have e2 : p0 ++ flP (sgO o) ((ts, p) :: its) = p0 ++ p ++ [sgO o] ++ flP (sgO o) its := by simp [flP]
      rw [e2]
      refine Eq.mp ?_ this
      cases o <;> simp [sgO, Bool.and_assoc, Bool.or_assoc]
    · have e2 : flP (sgO o) ((ts, p) :: its) = p ++ [sgO o] ++ flP (sgO o) its := by simp [flP]
      rw [e2]
      simp only [List.map_cons, List.flatten_cons, List.length_append, List.length_cons, List.length_nil, sepO] at h4 ⊢
      omega
theorem nt_wrap (o : Bool) (k : Nat) (f : α → Bytes) (q : α → Bool) (ws : List α) (h0 : ws ≠ []) (h : ∀ x ∈ ws, NT e on k (f x) (q x)) :
    NT e on (k + 1) (wrapB (sepO o) (ws.map f)) (if o = true then ws.any q else ws.all q) := by
  cases ws with
  | nil => exact absurd rfl h0
  | cons x ws =>
    obtain ⟨ts, p, g1, g2, g3, g4⟩ := h x (List.mem_cons_self ..)
    cases ws with
    | nil =>
      refine ⟨ts, p, g1, fun rest out d hB hd ho => g2 rest out d hB (by omega) ho, ?_, g4⟩
      cases o <;> simpa using g3
    | cons z ws =>
      obtain ⟨its, h1, h2, h3, h4⟩ := nt_rest (e := e) (on := on) o k f q (z :: ws) fun z hz => h z (List.mem_cons_of_mem _ hz)
      have hor : ∃ B : List Bytes → Prop, (∀ r, B ([41] :: r)) ∧ PN e 10912 B k (ts ++ flT (sgO o) its) (p ++ flP (sgO o) its) := by
        cases o with
        | false =>
          have ha := pn_list lst_and (B := Any) (fun _ => trivial) g2 h2
          have hb := pn_list (its := []) lst_or (B := fun r => Any r ∧ headIs r [38, 38] = false) (fun _ => ⟨trivial, headIs_f fun r hr => absurd (List.cons.inj hr).1 (by decide)⟩) ha (fun _ h => nomatch h)
          refine ⟨fun r => (Any r ∧ headIs r [38, 38] = false) ∧ headIs r [124, 124] = false, fun r => ⟨⟨trivial, ?_⟩, ?_⟩, ?_⟩
          rotate_left 2
          · simpa [flT, flP, sgO] using hb
          · exact headIs_f fun r hr => absurd (List.cons.inj hr).1 (by decide)
          · exact headIs_f fun r hr => absurd (List.cons.inj hr).1 (by decide)
        | true =>
          have one : ∀ {ts p : List Bytes}, PN e 11600 Any k ts p → PN e 11296 (fun r => Any r ∧ headIs r [38, 38] = false) k ts p := fun {ts p} h => by
            have := pn_list (its := []) lst_and (B := Any) (fun _ => trivial) h (fun _ h => nomatch h)
            simpa [flT, flP] using this
          have hb := pn_list lst_or (B := fun r => Any r ∧ headIs r [38, 38] = false) (fun _ => ⟨trivial, headIs_f fun r hr => absurd (List.cons.inj hr).1 (by decide)⟩) (one g2) (fun i hi => one (h2 i hi))
          refine ⟨fun r => (Any r ∧ headIs r [38, 38] = false) ∧ headIs r [124, 124] = false, fun r => ⟨⟨trivial, ?_⟩, ?_⟩, hb⟩
          · exact headIs_f fun r hr => absurd (List.cons.inj hr).1 (by decide)
          · exact headIs_f fun r hr => absurd (List.cons.inj hr).1 (by decide)
      obtain ⟨B, hB, hor⟩ := hor
      have hj : joinS (sepO o) ((x :: z :: ws).map f) = f x ++ ((z :: ws).map fun x => sepO o ++ f x).flatten := by
        rw [List.map_cons, joinS_cons, List.map_map]; rfl
      have hw : wrapB (sepO o) ((x :: z :: ws).map f) = [40] ++ (f x ++ ((z :: ws).map fun x => sepO o ++ f x).flatten) ++ [41] := by
        unfold wrapB
        rw [if_neg (by simp), hj]; rfl
      refine ⟨[40] :: (ts ++ flT (sgO o) its) ++ [[41]], p ++ flP (sgO o) its, fun r hr => ?_, pn_not0 (pn_br hB hor) (not_head_br _), ?_, ?_⟩
      · have e1 : wrapB (sepO o) ((x :: z :: ws).map f) ++ r = [40] ++ (f x ++ (((z :: ws).map fun x => sepO o ++ f x).flatten ++ ([41] ++ r))) := by rw [hw]; simp
        have hf : Fol (((z :: ws).map fun x => sepO o ++ f x).flatten ++ ([41] ++ r)) := fol_cons rfl
        rw [e1, pieces_sg (.inr (.inl rfl)), g1 _ hf, h1 _ (show Fol ([41] ++ r) from fol_cons rfl), pieces_sg (.inr (.inr (.inl rfl)))]
        simp
      · have := h3 p (q x) g3
        refine Eq.mp ?_ this
        cases o <;> simp
      · rw [hw]
        simp only [List.length_append] at h4 ⊢
        omega
end Go.Proofs.YtghjeddphkmciaaDoor
/-
  R7: lengths of lines in the newer form; what a line holds; the laws PlusMeans and PlusBlank. Own work of this seat.
-/
namespace Go.Proofs.YtghjeddphkmciaaDoor
open Go.Abs
set_option maxRecDepth 10000
variable {e : Nat → List V → Option V} {on : List Bytes}
/-! ## lengths -/
theorem joinS_len (sep : Bytes) : ∀ {l : List Bytes}, l ≠ [] → (joinS sep l).length + sep.length = tot sep.length l
  | [], h => absurd rfl h
  | [x], _ => by simp [joinS, tot]
  | x :: y :: r, _ => by
    have := joinS_len sep (l := y :: r) (by simp)
    simp [joinS, tot] at this ⊢; omega
theorem wrapB_len4 {sep : Bytes} (hs : sep.length = 4) {l : List Bytes} (h : l ≠ []) : (wrapB sep l).length + (if l.length = 1 then 4 else 2) = tot 4 l := by
  have := joinS_len sep h
  rw [hs] at this
  unfold wrapB
  split
  · exact this
  · simp only [List.length_append, List.length_cons, List.length_nil]; omega
theorem tot_add (k : Nat) : ∀ l : List Bytes, tot k l = tot 0 l + k * l.length
  | [] => by simp [tot]
  | x :: r => by have := tot_add k r; simp only [tot, List.length_cons, Nat.mul_add] at this ⊢; omega
theorem tot_ge {l : List Bytes} (h : ∀ x ∈ l, x ≠ []) : l.length ≤ tot 0 l := by
  induction l with
  | nil => simp [tot]
  | cons x r ih =>
    have h1 := ih fun y hy => h y (List.mem_cons_of_mem _ hy)
    have h2 := List.length_pos_iff.2 (h x (List.mem_cons_self ..))
    simp only [tot, List.length_cons]; omega
theorem allO_mem {po : Bytes → Option Bytes} {l m : List Bytes} (h : allO po l = some m) {x : Bytes} (hx : x ∈ l) : (po x).isSome = true := by
  have := allO_some (po := po) (l := l)
  rw [h] at this
  exact List.all_eq_true.1 this.symm x hx
theorem termO_some {s : Bytes} (h : (termO s).isSome = true) : isTag (nameB s) = true := by
  unfold termO at h; split at h
  · assumption
  · cases h
theorem tag_nn {s : Bytes} (h : isTag (nameB s) = true) : s ≠ [] := by
  rintro rfl; exact absurd h (by decide)
theorem option_len3 {s t : Bytes} (h : optionO s = some t) : t.length ≤ 3 * s.length ∧ s ≠ [] := by
  have hs : s ≠ [] := by
    rintro rfl
    rw [show optionO [] = none by decide] at h; cases h
  obtain ⟨m, h1, rfl⟩ := Option.map_eq_some_iff.1 h
  have hm := allO_id (f := id) (fun s t h => termO_eq h) h1
  rw [List.map_id] at hm; subst hm
  have h2 := wrapB_len4 (sep := [32, 38, 38, 32]) rfl (splitOn_ne 44 s)
  have h3 := tot_add 4 (splitOn 44 s)
  have h4 := tot_add 1 (splitOn 44 s)
  have h5 := tot_ge (l := splitOn 44 s) fun x hx => tag_nn (termO_some (allO_mem h1 hx))
  rw [tot_splitOn] at h4
  have := List.length_pos_iff.2 hs
  refine ⟨?_, hs⟩
  split at h2 <;> omega
theorem option_tot3 : ∀ {l m : List Bytes}, allO optionO l = some m → tot 0 m ≤ 3 * tot 0 l ∧ l.length ≤ tot 0 l
  | [], m, e => by
    obtain rfl : [] = m := by simpa [allO] using e
    simp [tot]
  | a :: r, m, e => by
    simp only [allO] at e
    split at e
    · cases e
    · rename_i x hx
      obtain ⟨m', h1, rfl⟩ := Option.map_eq_some_iff.1 e
      have h2 := option_tot3 h1
      have h3 := option_len3 hx
      have h4 := List.length_pos_iff.2 h3.2
      simp only [tot, List.length_cons]; omega
theorem line_len7 {s t : Bytes} (h : lineO s = some t) : 2 * t.length ≤ 7 * s.length + 3 := by
  unfold lineO at h
  split at h
  · cases h
  · rename_i hw
    obtain ⟨m, h1, rfl⟩ := Option.map_eq_some_iff.1 h
    have h2 := wrapB_len4 (sep := [32, 124, 124, 32]) rfl (allO_ne h1 hw)
    have h3 := tot_add 4 m
    have h4 := tot_add 1 (fldB blankB s [])
    have h5 := option_tot3 h1
    have h6 := fld_tot blankB s []
    have h7 := allO_length h1
    simp only [List.length_nil] at h6
    split at h2 <;> omega
theorem lines_tot : ∀ {l m : List Bytes}, allO lineO l = some m → 2 * tot 0 m ≤ 7 * tot 0 l + 3 * l.length
  | [], m, e => by
    obtain rfl : [] = m := by simpa [allO] using e
    simp [tot]
  | a :: r, m, e => by
    simp only [allO] at e
    split at e
    · cases e
    · rename_i x hx
      obtain ⟨m', h1, rfl⟩ := Option.map_eq_some_iff.1 e
      have h2 := lines_tot h1
      have h3 := line_len7 hx
      simp only [tot, List.length_cons]; omega
theorem lines_len7 {l : List Bytes} {t : Bytes} (h : linesO l = some t) : 2 * t.length ≤ 7 * tot 0 l + 11 * l.length := by
  unfold linesO at h
  split at h
  · cases h
  · rename_i hw
    obtain ⟨m, h1, rfl⟩ := Option.map_eq_some_iff.1 h
    have h2 := wrapB_len4 (sep := [32, 38, 38, 32]) rfl (allO_ne h1 hw)
    have h3 := tot_add 4 m
    have h5 := lines_tot h1
    have h7 := allO_length h1
    split at h2 <;> omega

/-! ## what holds -/
def optB (on : List Bytes) (o : Bytes) : Bool := (splitOn 44 o).all (termB on)
def holdsB (on : List Bytes) (s : Bytes) : Bool := (fldB blankB s []).any (optB on)
theorem sep_o : sepO false = [32, 38, 38, 32] ∧ sepO true = [32, 124, 124, 32] := ⟨rfl, rfl⟩
theorem nt_option (hon : on.length ≤ 1000000) {o : Bytes} (h : (optionO o).isSome = true) (hb : o.length ≤ 1000000) : NT e on 1 (optT o) (optB on o) := by
  obtain ⟨t, ht⟩ := Option.isSome_iff_exists.1 h
  obtain ⟨m, h1, _⟩ := Option.map_eq_some_iff.1 ht
  have := nt_wrap (e := e) (on := on) false 0 id (termB on) (splitOn 44 o) (splitOn_ne _ _) fun x hx => nt_term (s := x) hon (termO_some (allO_mem h1 hx)) (by
    have := tot_mem 1 hx; rw [tot_splitOn] at this; omega)
  rw [List.map_id] at this
  exact this
theorem nt_words (hon : on.length ≤ 1000000) {ws m : List Bytes} (h0 : ws ≠ []) (h : allO optionO ws = some m) (hb : ∀ o ∈ ws, o.length ≤ 1000000) : NT e on 2 (wrapB (sepO true) (ws.map optT)) (ws.any (optB on)) :=
  nt_wrap (e := e) (on := on) true 1 optT (optB on) ws h0 fun o ho => nt_option hon (allO_mem h ho) (hb o ho)
theorem fld_mem {s x : Bytes} (h : x ∈ fldB blankB s []) : x.length ≤ s.length := by
  have h1 := tot_mem 1 h
  have h2 := fld_tot blankB s []
  simp only [List.length_nil] at h2; omega
theorem nt_line (hon : on.length ≤ 1000000) {s : Bytes} (h : (lineO s).isSome = true) (hb : s.length ≤ 1000000) : NT e on 2 (lineT s) (holdsB on s) := by
  obtain ⟨t, ht⟩ := Option.isSome_iff_exists.1 h
  unfold lineO at ht
  split at ht
  · cases ht
  · rename_i hw
    obtain ⟨m, h1, _⟩ := Option.map_eq_some_iff.1 ht
    exact nt_words hon hw h1 fun o ho => by have := fld_mem ho; omega
theorem nt_lines (hon : on.length ≤ 1000000) {l : List Bytes} {t : Bytes} (h : linesO l = some t) (hb : tot 0 l ≤ 1000000) : NT e on 3 t (l.all (holdsB on)) := by
  unfold linesO at h
  split at h
  · cases h
  · rename_i hw
    obtain ⟨m, h1, rfl⟩ := Option.map_eq_some_iff.1 h
    have hm := allO_id (f := lineT) (fun s t h => lineO_eq h) h1
    subst hm
    exact nt_wrap (e := e) (on := on) false 2 lineT (holdsB on) l hw fun s hs => nt_line hon (allO_mem h1 hs) (by have := tot_mem 0 hs; omega)
/-- what is read of it -/
theorem strs_inj {l m : List Bytes} (h : strs l = strs m) : l = m := by
  have h1 : l.map V.str = m.map V.str := (V.sl.inj h).2.2
  induction l generalizing m with
  | nil => cases m with
    | nil => rfl
    | cons y q => cases h1
  | cons x r ih => cases m with
    | nil => cases h1
    | cons y q =>
      have h2 := List.cons.inj h1
      rw [V.str.inj h2.1, ih (by rw [strs, strs, h2.2]) h2.2]
theorem nt_parse {k : Nat} {t : Bytes} {b : Bool} (h : NT e on k t b) (hk : k ≤ 64) (ht : t.length ≤ 1024) : ∃ p, vl e 18 0 [.str t] = some (.tup [strs p, I 0]) ∧ vl e 19 0 [strs p, strs on] = some (.tup [.bool b, I 0]) := by
  obtain ⟨ts, p, h1, h2, h3, h4⟩ := h
  refine ⟨p, ?_, v.Eval h3 (by omega)⟩
  obtain ⟨l, er, q1, q2, q3⟩ := v.Parses (e := e) t (by omega)
  have hand := pn_list (its := []) lst_and (B := Any) (fun _ => trivial) h2 (fun _ h => nomatch h)
  have hor := pn_list (its := []) lst_or (B := fun r => Any r ∧ headIs r [38, 38] = false) (fun _ => ⟨trivial, headIs_f fun r hr => absurd (List.cons.inj hr).1 (by decide)⟩) hand (fun _ h => nomatch h)
  have e1 := h1 [] fol_nil
  rw [List.append_nil, pieces_nil, List.append_nil] at e1
  have hor := hor [] [] 0 ⟨⟨trivial, rfl⟩, rfl⟩ (by omega) (by simp [flP]; omega)
  simp only [flT, flP, List.map_nil, List.flatten_nil, List.append_nil, List.nil_append] at hor
  rw [← e1] at hor
  have hor : vl e 10912 1 [strs (pieces t), .sl false 1 [], .int .i64 0] = _ := hor
  have hc3 : evp (.cat [none]) [strs (pieces t)] = some (.agg [strs (pieces t)]) := rfl
  have hc4 : evp (.cat [none, none, none]) [strs (pieces t), .sl false 1 [], .int .i64 0] = some (.agg [strs (pieces t), .sl false 1 [], .int .i64 0]) := rfl
  have hq : vl e 31 0 [.str t] = some (.tup [strs p, I 0]) := by
    rw [w.seicheref13_Parse]; unfold y.seicheref13_Parse
    simp only [yy, if_neg (show ¬ ((1024 : Int) < (t.length : Int)) by omega), v.Pieces t (by omega), hc3, hc4, hor, decide_true, List.map_nil, List.length_nil]
    rw [if_neg (by decide)]
  rw [hq] at q2
  have hh := List.cons.inj (V.tup.inj (Option.some.inj q2))
  have h5 := strs_inj hh.1
  have h6 : (0 : Int) = er := (V.int.inj (List.cons.inj hh.2).1).2
  rw [q1, ← h5, ← h6]
/-! ## the document's Holds -/
theorem v.Holds_25 (l1 : List Bytes) (k : Nat) (hl1 : k < l1.length) (hl2 : l1.length ≤ 1000000000) (l : List Bytes) (hl : l.length ≤ 1000000000) (hon : on.length ≤ 1000000) (hb : ∀ x ∈ l, x.length ≤ 1000000000) : ∀ (n i : Nat) (all : Bool), i + n = l.length →
    vl e 21 25 [strs on, .bool all, strs l1, I l1.length, I k, strs l, I l.length, I i] = if all && (l.drop i).all (termB on) then some (.bool true) else vl e 21 8 [strs on, strs l1, I l1.length, I ((k + 1 : Nat) : Int)]
  | 0, i, a, hi => by
    rw [w.seicheref14_Holds_25, List.drop_eq_nil_of_le (by omega)]; unfold y.seicheref14_Holds_25
    cases a <;> simp only [yy, if_neg (show ¬ ((i : Int) < (l.length : Int)) by omega), next64 hl1 (by omega)] <;> rfl
  | n + 1, i, a, hi => by
    have hlt : i < l.length := by omega
    rw [w.seicheref14_Holds_25, List.drop_eq_getElem_cons hlt, List.all_cons]; unfold y.seicheref14_Holds_25
    have hx := hb _ (List.getElem_mem hlt)
    cases a with
    | false =>
      simp only [yy, if_pos (show (i : Int) < (l.length : Int) by omega), v_get hlt, v_lds, v.rTerm l[i] hx, next64 hlt (by omega), v.Holds_25 l1 k hl1 hl2 l hl hon hb n (i + 1) false (by omega)]
      rfl
    | true =>
      simp only [yy, if_pos (show (i : Int) < (l.length : Int) by omega), v_get hlt, v_lds, v.rTerm l[i] hx, v.In on (nameB l[i]) (by omega), next64 hlt (by omega)]
      rw [show (!(inB on (nameB l[i]) == notB l[i])) = termB on l[i] from rfl, v.Holds_25 l1 k hl1 hl2 l hl hon hb n (i + 1) (termB on l[i]) (by omega), Bool.true_and]
theorem v.Holds (hon : on.length ≤ 1000000) (s : Bytes) (hs : s.length ≤ 1000000) : vl e 21 0 [.str s, strs on] = some (.bool (holdsB on s)) := by
  have h1 := tot_length 1 (fldB blankB s [])
  have h2 := fld_tot blankB s []
  simp only [List.length_nil] at h2
  have key : ∀ (n i : Nat), i + n = (fldB blankB s []).length → vl e 21 8 [strs on, strs (fldB blankB s []), I (fldB blankB s []).length, I i] = some (.bool (((fldB blankB s []).drop i).any (optB on))) := by
    intro n
    induction n with
    | zero =>
      intro i hi
      rw [w.seicheref14_Holds_8, List.drop_eq_nil_of_le (by omega)]; unfold y.seicheref14_Holds_8
      simp only [yy, if_neg (show ¬ ((i : Int) < ((fldB blankB s []).length : Int)) by omega)]; rfl
    | succ n ih =>
      intro i hi
      have hlt : i < (fldB blankB s []).length := by omega
      have hx := fld_mem (List.getElem_mem hlt)
      have hc : vl e 32 0 [.str (fldB blankB s [])[i], .int .u8 44] = _ := v.Cut (fldB blankB s [])[i] 44 (by omega)
      have h3 := splitOn_length 44 (fldB blankB s [])[i]
      rw [w.seicheref14_Holds_8, List.drop_eq_getElem_cons hlt, List.any_cons]; unfold y.seicheref14_Holds_8
      have hh := v.Holds_25 (e := e) (on := on) (fldB blankB s []) i hlt (by omega) (splitOn 44 (fldB blankB s [])[i]) (by omega) hon (fun x hx => by have := tot_mem 1 hx; rw [tot_splitOn] at this; omega) _ 0 true (Nat.zero_add _)
      rw [Bool.true_and, List.drop_zero] at hh
      simp only [yy, if_pos (show (i : Int) < ((fldB blankB s []).length : Int) by omega), v_get hlt, v_lds, hc]
      refine hh.trans ?_
      unfold optB
      cases ha : (splitOn 44 (fldB blankB s [])[i]).all (termB on)
      · rw [if_neg (by decide), ih (i + 1) (by omega), Bool.false_or]; rfl
      · rw [if_pos rfl, Bool.true_or]
  rw [w.seicheref14_Holds]; unfold y.seicheref14_Holds
  simp only [yy, v.Words s (by omega)]
  exact key _ 0 (Nat.zero_add _)
/-! ## the law PlusMeans -/
theorem wt_tot : ∀ l : List Bytes, wtL (l.map V.str) = tot 1 l
  | [] => rfl
  | x :: r => by simp only [List.map_cons, wtL, V.wt, tot, wt_tot r]
theorem tot_of {l : List Bytes} {n : Nat} (h : (V.sl false 1 (l.map V.str)).wt ≤ n) : tot 1 l ≤ n := by
  simp only [V.wt, wt_tot] at h; omega
theorem tot_take (k i : Nat) : ∀ {l : List Bytes} (h : i < l.length), tot k (l.take (i + 1)) = tot k (l.take i) + l[i].length + k := by
  induction i with
  | zero => intro l h; cases l with
    | nil => simp at h
    | cons x r => simp [tot]
  | succ i ih => intro l h; cases l with
    | nil => simp at h
    | cons x r =>
      have := ih (l := r) (by simpa using h)
      simp only [List.take_succ_cons, tot, List.getElem_cons_succ] at this ⊢; omega
theorem v.Means_63 (l : List Bytes) (hl : l.length ≤ 20) (hb : ∀ x ∈ l, x.length ≤ 1000000) (hon : on.length ≤ 1000000) (t : Bytes) (p : List Bytes) (h1 : vl e 18 0 [.str t] = some (.tup [strs p, I 0])) (h2 : vl e 19 0 [strs p, strs on] = some (.tup [.bool (l.all (holdsB on)), I 0])) :
    ∀ (n i : Nat) (want : Bool), i + n = l.length → (want && (l.drop i).all (holdsB on)) = l.all (holdsB on) → vl e 6 63 [strs on, .str t, .bool want, strs l, I l.length, I i] = some (.bool true)
  | 0, i, want, hi, hw => by
    rw [List.drop_eq_nil_of_le (by omega), List.all_nil, Bool.and_true] at hw
    rw [w.seichelaw14_PlusMeans_63]; unfold y.seichelaw14_PlusMeans_63
    simp only [yy, if_neg (show ¬ ((i : Int) < (l.length : Int)) by omega), h1, h2, if_true, hw]
    cases l.all (holdsB on) <;> rfl
  | n + 1, i, want, hi, hw => by
    have hlt : i < l.length := by omega
    rw [List.drop_eq_getElem_cons hlt, List.all_cons] at hw
    rw [w.seichelaw14_PlusMeans_63]; unfold y.seichelaw14_PlusMeans_63
    cases want with
    | false =>
      simp only [yy, if_pos (show (i : Int) < (l.length : Int) by omega), v_get hlt, v_lds, next64 hlt (by omega)]
      exact v.Means_63 l hl hb hon t p h1 h2 n (i + 1) false (by omega) (by rw [← hw]; rfl)
    | true =>
      simp only [yy, if_pos (show (i : Int) < (l.length : Int) by omega), v_get hlt, v_lds, v.Holds hon l[i] (hb _ (List.getElem_mem _)), next64 hlt (by omega)]
      exact v.Means_63 l hl hb hon t p h1 h2 n (i + 1) _ (by omega) (by rw [← hw, Bool.true_and])
theorem p_plusMeans (he : EnvX e) (l on : List Bytes) (hw1 : (strs l).wt ≤ 1048576) (_ : (strs on).wt ≤ 1048576) : vl e 6 0 [strs l, strs on] = some (.bool true) := by
  have hT := tot_of hw1
  have hT1 := tot_add 1 l
  have key : ∀ (n i : Nat), i + n = l.length → tot 0 (l.take i) ≤ 200 → (i = 0 ∨ l.length ≤ 20) → vl e 6 18 [strs l, strs on, I (tot 0 (l.take i)), strs l, I l.length, I i] = some (.bool true) := by
    intro n
    induction n with
    | zero =>
      intro i hi ht h20
      have hil : i = l.length := by omega
      subst hil
      rw [List.take_length] at ht ⊢
      have hl20 : l.length ≤ 20 := by omega
      rw [w.seichelaw14_PlusMeans_18]; unfold y.seichelaw14_PlusMeans_18
      have htot := tot_add 1 l
      by_cases h60 : on.length ≤ 60
      · have hv := v.Lines he l (by omega)
        cases hL : linesO l with
        | none =>
          rw [hL] at hv
          simp only [yy, if_neg (show ¬ ((l.length : Int) < (l.length : Int)) by omega), if_neg (show ¬ ((60 : Int) < (on.length : Int)) by omega), hv, resO, Option.isSome_none]
          rw [if_neg (by decide)]
        | some t =>
          rw [hL] at hv
          have h7 := lines_len7 hL
          obtain ⟨p, q1, q2⟩ := nt_parse (nt_lines (e := e) (on := on) (by omega) hL (by omega)) (by omega) (by omega)
          simp only [yy, if_neg (show ¬ ((l.length : Int) < (l.length : Int)) by omega), if_neg (show ¬ ((60 : Int) < (on.length : Int)) by omega), hv, resO, Option.isSome_some, if_true, Option.getD_some, decide_true]
          exact v.Means_63 l hl20 (fun x hx => by have := tot_mem 0 hx; omega) (by omega) t p q1 q2 l.length 0 true (Nat.zero_add _) (by rw [List.drop_zero, Bool.true_and])
      · simp only [yy, if_neg (show ¬ ((l.length : Int) < (l.length : Int)) by omega), if_pos (show (60 : Int) < (on.length : Int) by omega)]
    | succ n ih =>
      intro i hi ht h20
      have hlt : i < l.length := by omega
      have hx := tot_mem 1 (List.getElem_mem hlt)
      have ht1 := tot_take 0 i hlt
      have e1 : IntKind.i64.wrap ((tot 0 (l.take i) : Int) + (l[i].length : Int)) = ((tot 0 (l.take (i + 1)) : Nat) : Int) := by rw [w64 _ (by omega)]; omega
      rw [w.seichelaw14_PlusMeans_18]; unfold y.seichelaw14_PlusMeans_18
      by_cases h200 : tot 0 (l.take (i + 1)) ≤ 200
      · by_cases hl20 : l.length ≤ 20
        · simp only [yy, if_pos (show (i : Int) < (l.length : Int) by omega), v_get hlt, v_lds, e1, if_neg (show ¬ ((200 : Int) < ((tot 0 (l.take (i + 1)) : Nat) : Int)) by omega), if_neg (show ¬ ((20 : Int) < (l.length : Int)) by omega), next64 hlt (by omega)]
          exact ih (i + 1) (by omega) h200 (.inr hl20)
        · simp only [yy, if_pos (show (i : Int) < (l.length : Int) by omega), v_get hlt, v_lds, e1, if_neg (show ¬ ((200 : Int) < ((tot 0 (l.take (i + 1)) : Nat) : Int)) by omega), if_pos (show (20 : Int) < (l.length : Int) by omega)]
      · simp only [yy, if_pos (show (i : Int) < (l.length : Int) by omega), v_get hlt, v_lds, e1, if_pos (show (200 : Int) < ((tot 0 (l.take (i + 1)) : Nat) : Int) by omega)]
  rw [w.seichelaw14_PlusMeans]; unfold y.seichelaw14_PlusMeans
  simp only [yy, v.alive14 he]
  exact key l.length 0 (Nat.zero_add _) (by simp [tot]) (.inl rfl)
end Go.Proofs.YtghjeddphkmciaaDoor
/-
  R8: the law PlusBlank. Own work of this seat.
-/
namespace Go.Proofs.YtghjeddphkmciaaDoor
open Go.Abs
set_option maxRecDepth 10000
variable {e : Nat → List V → Option V} {on : List Bytes}
/-- a word -/
def Word (o : Bytes) : Prop := o ≠ [] ∧ ∀ c ∈ o, blankB c = false
theorem fld_tot0 : ∀ (s cur : Bytes), tot 0 (fldB blankB s cur) + (s.filter blankB).length = s.length + cur.length
  | [], cur => by
    unfold fldB; split <;> rename_i h
    · subst h; rfl
    · simp [tot]
  | b :: r, cur => by
    unfold fldB
    split <;> rename_i hb
    · rw [List.filter_cons_of_pos hb]
      have := fld_tot0 r []
      split <;> rename_i h
      · subst h; simp only [List.length_cons, List.length_nil] at this ⊢; omega
      · simp only [List.length_cons, List.length_nil, tot] at this ⊢; omega
    · rw [List.filter_cons_of_neg hb]
      have := fld_tot0 r (cur ++ [b])
      simp only [List.length_cons, List.length_append, List.length_nil] at this ⊢; omega
theorem word_of {o : Bytes} (h : fldB blankB o [] = [o]) : Word o := by
  have h1 := fld_tot0 o []
  rw [h] at h1
  simp only [tot, List.length_nil] at h1
  have h2 : o.filter blankB = [] := List.eq_nil_of_length_eq_zero (by omega)
  refine ⟨?_, fun c hc => ?_⟩
  · rintro rfl; cases h
  · cases hb : blankB c with
    | false => rfl
    | true => have := List.mem_filter.2 ⟨hc, hb⟩; rw [h2] at this; cases this
theorem fld_word {o : Bytes} (h : Word o) {c : UInt8} (hc : blankB c = true) (r : Bytes) : fldB blankB (o ++ c :: r) [] = o :: fldB blankB r [] := by
  rw [fld_run h.2, List.nil_append, fldB, hc, if_pos rfl, if_neg h.1]
theorem fld_word1 {o : Bytes} (h : Word o) : fldB blankB o [] = [o] := by
  have := fld_run (q := blankB) (r := []) (cur := []) h.2
  rw [List.append_nil] at this
  rw [this, List.nil_append, fldB, if_neg h.1]
theorem fld_blank {c : UInt8} (hc : blankB c = true) (r : Bytes) : fldB blankB (c :: r) [] = fldB blankB r [] := by
  rw [fldB, hc, if_pos rfl, if_pos rfl]
/-- the three texts, behind so many options -/
structure Inv (l : List Bytes) (i : Nat) (a b c : Bytes) : Prop where
  a0 : i = 0 → a = []
  a1 : fldB blankB a [] = l.take i
  a2 : ∀ r, fldB blankB (a ++ 32 :: r) [] = l.take i ++ fldB blankB r []
  b1 : ∀ r, fldB blankB (b ++ r) [] = l.take i ++ fldB blankB r []
  c1 : fldB blankB c [] = (l.take i).reverse
  la : a.length ≤ tot 0 (l.take i) + i
  lb : b.length ≤ tot 0 (l.take i) + 3 * i + 2
  lc : c.length ≤ tot 0 (l.take i) + i
theorem inv_0 (l : List Bytes) : Inv l 0 [] [32, 9] [] := ⟨fun _ => rfl, rfl, fun r => fld_blank rfl r, fun r => by rw [List.cons_append, fld_blank rfl]; exact fld_blank rfl r, rfl, by simp, by simp, by simp⟩
theorem inv_s {l : List Bytes} {i : Nat} (hi : i < l.length) {a b c : Bytes} (h : Inv l i a b c) (hw : Word l[i]) :
    Inv l (i + 1) (if 0 < i then a ++ [32] ++ l[i] else a ++ l[i]) (b ++ l[i] ++ [9, 32, 32]) (l[i] ++ [32] ++ c) := by
  have ht : l.take (i + 1) = l.take i ++ [l[i]] := by simp
  have htt := tot_take 0 i hi
  have h0T : ¬ 0 < i → l.take i = [] := fun h => by rw [show i = 0 by omega]; rfl
  have ha0 := h.a0; have ha1 := h.a1; have ha2 := h.a2; have hb1 := h.b1; have hc1 := h.c1
  have la := h.la; have lb := h.lb; have lc := h.lc
  refine ⟨fun h => by omega, ?_, fun r => ?_, fun r => ?_, ?_, ?_, ?_, ?_⟩
  · rw [ht]
    generalize l.take i = T at *
    generalize l[i] = o at *
    split <;> rename_i h0
    · rw [List.append_assoc, List.singleton_append, ha2, fld_word1 hw]
    · rw [ha0 (by omega), List.nil_append, fld_word1 hw, h0T h0]; rfl
  · rw [ht]
    generalize l.take i = T at *
    generalize l[i] = o at *
    split <;> rename_i h0
    · rw [show a ++ [32] ++ o ++ 32 :: r = a ++ 32 :: (o ++ 32 :: r) by simp, ha2, fld_word hw rfl]; simp
    · rw [ha0 (by omega), List.nil_append, fld_word hw rfl, h0T h0]; rfl
  · rw [ht]
    generalize l.take i = T at *
    generalize l[i] = o at *
    rw [show b ++ o ++ [9, 32, 32] ++ r = b ++ (o ++ 9 :: (32 :: 32 :: r)) by simp, hb1, fld_word hw rfl, fld_blank rfl, fld_blank rfl]; simp
  · rw [ht]
    generalize l.take i = T at *
    generalize l[i] = o at *
    rw [List.append_assoc, List.singleton_append, fld_word hw rfl, hc1]; simp
  · split <;> simp only [List.length_append, List.length_cons, List.length_nil] <;> omega
  · simp only [List.length_append, List.length_cons, List.length_nil]; omega
  · simp only [List.length_append, List.length_cons, List.length_nil]; omega
/-- a line by its words -/
def lineW (ws : List Bytes) : Option Bytes := if ws = [] then none else (allO optionO ws).map (wrapB [32, 124, 124, 32])
theorem line_w (s : Bytes) : lineO s = lineW (fldB blankB s []) := rfl
theorem lineW_some {ws : List Bytes} (h : ws ≠ []) : (lineW ws).isSome = ws.all fun x => (optionO x).isSome := by
  unfold lineW
  rw [if_neg h, Option.isSome_map, allO_some]
theorem rev_some {ws : List Bytes} (h : ws ≠ []) : (lineW ws.reverse).isSome = (lineW ws).isSome := by
  rw [lineW_some h, lineW_some (by simpa using h), List.all_reverse]
theorem p_plusBlank (he : EnvX e) (l on : List Bytes) (hw1 : (strs l).wt ≤ 1048576) (_ : (strs on).wt ≤ 1048576) : vl e 5 0 [strs l, strs on] = some (.bool true) := by
  have hT := tot_of hw1
  have hT1 := tot_add 1 l
  have fin : l ≠ [] → l.length ≤ 10 → on.length ≤ 60 → ∀ a b c, Inv l l.length a b c → tot 0 l ≤ 200 →
      vl e 5 26 [strs on, .str a, .str b, .str c, I (tot 0 l), strs l, I l.length, I l.length] = some (.bool true) := by
    intro h0 h10 hon a b c hI ht
    have ka := hI.la; have kb := hI.lb; have kc := hI.lc
    rw [List.take_length] at ka kb kc
    have fa := hI.a1
    have fb := hI.b1 []
    have fc := hI.c1
    rw [List.take_length] at fa fb fc
    rw [List.append_nil, show fldB blankB [] [] = [] from rfl, List.append_nil] at fb
    have va := v.Line he a (by omega)
    have vb := v.Line he b (by omega)
    have vc := v.Line he c (by omega)
    have la := line_w a
    have lb := line_w b
    have lc := line_w c
    rw [fa] at la; rw [fb] at lb; rw [fc] at lc
    have hr := rev_some h0
    rw [w.seichelaw14_PlusBlank_26]; unfold y.seichelaw14_PlusBlank_26
    cases hL : lineW l with
    | none =>
      rw [hL] at hr
      have hR : lineW l.reverse = none := by simpa using hr
      rw [la, hL] at va; rw [lb, hL] at vb; rw [lc, hR] at vc
      simp only [yy, if_neg (show ¬ ((l.length : Int) < (l.length : Int)) by omega), va, vb, vc, resO, Option.isSome_none, decide_true]
      rw [w.seichelaw14_PlusBlank_68]; unfold y.seichelaw14_PlusBlank_68
      simp only [yy, if_true, decide_true]
      rw [w.seichelaw14_PlusBlank_71]; rfl
    | some t =>
      rw [hL] at hr
      obtain ⟨u, hR⟩ := Option.isSome_iff_exists.1 hr
      rw [la, hL] at va; rw [lb, hL] at vb; rw [lc, hR] at vc
      have ta := line_len7 (la.trans hL)
      have tc := line_len7 (lc.trans hR)
      have na := nt_line (e := e) (on := on) (s := a) (by omega) (by rw [la, hL]; rfl) (by omega)
      have nc := nt_line (e := e) (on := on) (s := c) (by omega) (by rw [lc, hR]; rfl) (by omega)
      rw [← lineO_eq (la.trans hL)] at na
      rw [← lineO_eq (lc.trans hR)] at nc
      obtain ⟨p, p1, p2⟩ := nt_parse na (by omega) (by omega)
      obtain ⟨q, q1, q2⟩ := nt_parse nc (by omega) (by omega)
      have hh : holdsB on c = holdsB on a := by unfold holdsB; rw [fa, fc, List.any_reverse]
      rw [hh] at q2
      simp only [yy, if_neg (show ¬ ((l.length : Int) < (l.length : Int)) by omega), va, vb, vc, resO, Option.isSome_some, if_true, Option.getD_some, decide_true]
      rw [w.seichelaw14_PlusBlank_68]; unfold y.seichelaw14_PlusBlank_68
      simp only [yy, p1, q1, p2, q2, if_true]
      cases holdsB on a <;> rfl
  have key : l.length ≤ 10 → on.length ≤ 60 → l ≠ [] → ∀ (n i : Nat) (a b c : Bytes), i + n = l.length → Inv l i a b c → tot 0 (l.take i) ≤ 200 →
      vl e 5 26 [strs on, .str a, .str b, .str c, I (tot 0 (l.take i)), strs l, I l.length, I i] = some (.bool true) := by
    intro h10 hon h0 n
    induction n with
    | zero =>
      intro i a b c hi hI ht
      have hil : i = l.length := by omega
      subst hil
      rw [List.take_length] at ht ⊢
      exact fin h0 h10 hon a b c hI ht
    | succ n ih =>
      intro i a b c hi hI ht
      have hlt : i < l.length := by omega
      have hx := tot_mem 1 (List.getElem_mem hlt)
      have ht1 := tot_take 0 i hlt
      have e1 : IntKind.i64.wrap ((tot 0 (l.take i) : Int) + (l[i].length : Int)) = ((tot 0 (l.take (i + 1)) : Nat) : Int) := by rw [w64 _ (by omega)]; omega
      rw [w.seichelaw14_PlusBlank_26]; unfold y.seichelaw14_PlusBlank_26
      by_cases h200 : tot 0 (l.take (i + 1)) ≤ 200
      · have hW := v.Words (e := e) l[i] (by omega)
        simp only [yy, if_pos (show (i : Int) < (l.length : Int) by omega), v_get hlt, v_lds, e1, if_neg (show ¬ ((200 : Int) < ((tot 0 (l.take (i + 1)) : Nat) : Int)) by omega), hW]
        by_cases h1 : (fldB blankB l[i] []).length = 1
        · rw [if_pos (by rw [h1]; rfl)]
          have hg : evp (.elem 1) [strs (fldB blankB l[i] []), .int .i64 0] = some (.str (fldB blankB l[i] [])[0]) := v_get (i := 0) (by omega)
          simp only [yy, hg, v_lds]
          by_cases h2 : (fldB blankB l[i] [])[0] = l[i]
          · rw [if_pos h2]
            have hword : fldB blankB l[i] [] = [l[i]] := by
              cases hf : fldB blankB l[i] [] with
              | nil => rw [hf] at h1; cases h1
              | cons x r =>
                cases r with
                | nil => simp only [hf, List.getElem_cons_zero] at h2; rw [h2]
                | cons y q => rw [hf] at h1; simp at h1
            have hn := inv_s hlt hI (word_of hword)
            have ka := hn.la; have kb := hn.lb; have kc := hn.lc
            by_cases hi0 : 0 < i
            · rw [if_pos hi0] at hn ka
              simp only [List.length_append, List.length_cons, List.length_nil] at ka kb kc
              rw [if_pos (by omega)]
              simp only [yy, v_sadd (show a.length + ([32] : Bytes).length ≤ 4611686018427387904 by simp; omega), v_sadd (show (a ++ [32]).length + l[i].length ≤ 4611686018427387904 by simp; omega), v_sadd (show b.length + l[i].length ≤ 4611686018427387904 by omega), v_sadd (show (b ++ l[i]).length + ([9, 32, 32] : Bytes).length ≤ 4611686018427387904 by simp; omega), v_sadd (show l[i].length + ([32] : Bytes).length ≤ 4611686018427387904 by simp; omega), v_sadd (show (l[i] ++ [32]).length + c.length ≤ 4611686018427387904 by simp; omega), next64 hlt (by omega)]
              exact ih (i + 1) _ _ _ (by omega) hn h200
            · rw [if_neg hi0] at hn ka
              simp only [List.length_append, List.length_cons, List.length_nil] at ka kb kc
              rw [if_neg (by omega)]
              simp only [yy, v_sadd (show a.length + l[i].length ≤ 4611686018427387904 by omega), v_sadd (show b.length + l[i].length ≤ 4611686018427387904 by omega), v_sadd (show (b ++ l[i]).length + ([9, 32, 32] : Bytes).length ≤ 4611686018427387904 by simp; omega), v_sadd (show l[i].length + ([32] : Bytes).length ≤ 4611686018427387904 by simp; omega), v_sadd (show (l[i] ++ [32]).length + c.length ≤ 4611686018427387904 by simp; omega), next64 hlt (by omega)]
              exact ih (i + 1) _ _ _ (by omega) hn h200
          · rw [if_neg h2]
        · rw [if_neg (by omega)]
      · simp only [yy, if_pos (show (i : Int) < (l.length : Int) by omega), v_get hlt, v_lds, e1, if_pos (show (200 : Int) < ((tot 0 (l.take (i + 1)) : Nat) : Int) by omega)]
  rw [w.seichelaw14_PlusBlank]; unfold y.seichelaw14_PlusBlank
  by_cases h10 : l.length ≤ 10
  · by_cases h0 : l = []
    · subst h0
      simp only [yy, v.alive14 he, List.map_nil, List.length_nil, Int.natCast_zero, if_true]
      rw [if_neg (by decide), w.seichelaw14_PlusBlank_15]; unfold y.seichelaw14_PlusBlank_15
      simp only [yy]
    · have := List.length_pos_iff.2 h0
      simp only [yy, v.alive14 he, if_neg (show ¬ ((10 : Int) < (l.length : Int)) by omega), if_neg (show ¬ ((l.length : Int) = 0) by omega)]
      rw [w.seichelaw14_PlusBlank_15]; unfold y.seichelaw14_PlusBlank_15
      by_cases h60 : on.length ≤ 60
      · simp only [yy, if_neg (show ¬ ((60 : Int) < (on.length : Int)) by omega)]
        exact key h10 h60 h0 l.length 0 [] [32, 9] [] (Nat.zero_add _) (inv_0 l) (by simp [tot])
      · simp only [yy, if_pos (show (60 : Int) < (on.length : Int) by omega)]
  · simp only [yy, v.alive14 he, if_pos (show (10 : Int) < (l.length : Int) by omega)]
    rw [w.seichelaw14_PlusBlank_15]; unfold y.seichelaw14_PlusBlank_15
    simp only [yy]
end Go.Proofs.YtghjeddphkmciaaDoor
/-
  YE: functions that are given by contracts: all of them. Own work of this seat.
-/
namespace Go.Proofs.YtghjeddphkmciaaDoor
open Go.Abs Go.RowKit
def exts : List FC := [K.strings_Split, K.strings_FieldsFunc_plus_Line_1, K.strings_Join]
theorem exts_ok (w : World) (hw : EnvOK w) : ∀ c ∈ exts, c.Holds (cxD w) := by
  intro c hc
  simp only [exts, List.mem_cons, List.not_mem_nil, or_false] at hc
  rcases hc with rfl | rfl | rfl
  · exact H.strings_Split w hw
  · exact H.strings_FieldsFunc_plus_Line_1 w hw
  · exact H.strings_Join w hw
theorem exts_own : ∀ c ∈ exts, cfg.ow c.f = true → c.own = true := by
  intro c hc h
  simp only [exts, List.mem_cons, List.not_mem_nil, or_false] at hc
  rcases hc with rfl | rfl | rfl
  · rfl
  · rfl
  · exact absurd h (by rw [show cfg.ow K.strings_Join.f = false by kernel_rfl]; decide)
theorem envX : EnvX (extOf exts) where
  split s c hs := extOf_eq (cs := exts) (c := K.strings_Split) rfl ⟨(s, [c]), splitOn c s, rfl, by simp [g.strings_Split, hs], rfl⟩
  fields s hs := extOf_eq (cs := exts) (c := K.strings_FieldsFunc_plus_Line_1) rfl ⟨s, fldB blankB s [], rfl, by simp [g.strings_FieldsFunc_plus_Line_1, hs], rfl⟩
  join l s hl hj := extOf_eq (cs := exts) (c := K.strings_Join) rfl ⟨(l, s), joinS s l, rfl, by simp only [g.strings_Join, lib_joinS]; rw [if_pos ⟨hl, hj⟩], rfl⟩
end Go.Proofs.YtghjeddphkmciaaDoor
/-
  What every card of this seat needs: the program's closed facts; a world for the witness; what came in. Own work of this seat, after the seat's worked example of a row that lists variables.
-/
namespace Go.Proofs.YtghjeddphkmciaaDoor
open Go.ChangeShapes Go.WideShapes Go.RowKit Go.Abs

theorem ownK : ownKnob Tryd.prog.godebug = none := by kernel_rfl
theorem kids : Kids Tryd.prog (· < Tryd.prog.types.size) := kids_rows (by kernel_rfl) (by kernel_rfl)
theorem full : ∀ t e, t < Tryd.prog.types.size → Tryd.prog.underlying t = some (.slice e) → 0 < Tryd.prog.cellsOf e := slices_full_of Tryd.prog (by kernel_rfl)

/-- the cells of plain data -/
def litCells : Nat → DataW Unit → List Value
  | 0, _ => []
  | _ + 1, .lit (.int k n) => [.int k n]
  | n + 1, .agg ps => ps.flatMap (litCells n)
  | _, _ => []
noncomputable def laidWorld (os : Os) (args : Array Value) : World :=
  { World.holding Tryd.prog os ⟨#[], #[], []⟩ with heap := (((World.holding Tryd.prog os ⟨#[], #[], []⟩).heap.modify 1 fun
      | .cells _ t frozen => .cells (litCells 5 Rows.laid_unicode_utf8_first).toArray t frozen
      | o => o).modify 2 fun
      | .cells _ t frozen => .cells (litCells 5 Rows.laid_unicode_utf8_acceptRanges).toArray t frozen
      | o => o) }

/-! ## what came in, of a type -/
theorem u8_row : ∀ {wss : List (List V)}, (∀ ws ∈ wss, ∃ n : Int, ws = [.int .u8 n] ∧ IntKind.u8.min ≤ n ∧ n ≤ IntKind.u8.max) → ∃ l : Bytes, l.length = wss.length ∧ wss.flatten = encB l
  | [], _ => ⟨[], rfl, rfl⟩
  | w :: r, h => by
    obtain ⟨n, rfl, h1, h2⟩ := h w (by simp)
    obtain ⟨l, hl, hf⟩ := u8_row (wss := r) fun x hx => h x (by simp [hx])
    have h1 : 0 ≤ n := h1
    have h2 : n ≤ 255 := h2
    refine ⟨UInt8.ofNat n.toNat :: l, by simp [hl], ?_⟩
    have e : ((UInt8.ofNat n.toNat).toNat : Int) = n := by
      rw [UInt8.toNat_ofNat_of_lt' (show n.toNat < 256 by omega)]; omega
    show [V.int .u8 n] ++ r.flatten = _
    rw [hf]
    simp only [encB, List.map_cons, byteV]
    rw [e]; rfl
section
variable {P : Program} {m : Nat} {t e : TypeId} {vs : List V}
theorem in_bool (hu : P.underlying t = some .bool) (h : HasT P (m + 1) t vs) : ∃ x : Bool, nfL vs = [V.bool x] := by
  simp only [HasT, hu] at h
  obtain ⟨b, rfl⟩ := h; exact ⟨b, rfl⟩
theorem in_int {k : IntKind} (hu : P.underlying t = some (.int k)) (h : HasT P (m + 1) t vs) : ∃ x : Int, nfL vs = [V.int k x] := by
  simp only [HasT, hu] at h
  obtain ⟨n, rfl, _⟩ := h; exact ⟨n, rfl⟩
theorem in_i64 (hu : P.underlying t = some (.int .i64)) (h : HasT P (m + 1) t vs) : ∃ x : Int, nfL vs = [V.int .i64 x] ∧ -9223372036854775808 ≤ x ∧ x ≤ 9223372036854775807 := by
  simp only [HasT, hu] at h
  obtain ⟨n, rfl, h1, h2⟩ := h; exact ⟨n, rfl, h1, h2⟩
theorem in_u8 (hu : P.underlying t = some (.int .u8)) (h : HasT P (m + 1) t vs) : ∃ x : UInt8, nfL vs = [byteV x] := by
  simp only [HasT, hu] at h
  obtain ⟨n, rfl, h1, h2⟩ := h
  have h1 : 0 ≤ n := h1
  have h2 : n ≤ 255 := h2
  refine ⟨UInt8.ofNat n.toNat, ?_⟩
  have e : ((UInt8.ofNat n.toNat).toNat : Int) = n := by
    rw [UInt8.toNat_ofNat_of_lt' (show n.toNat < 256 by omega)]; omega
  show [V.int .u8 n] = [V.int .u8 _]
  rw [e]
theorem in_str (hu : P.underlying t = some .string) (h : HasT P (m + 1) t vs) : ∃ x : Bytes, nfL vs = [V.str x] := by
  simp only [HasT, hu] at h
  obtain ⟨b, rfl⟩ := h; exact ⟨b, rfl⟩
theorem in_sl {α : Type} {E : α → V} {c : Nat} (hu : P.underlying t = some (.slice e)) (hc : P.cellsOf e = c) (he : ∀ ws, HasT P m e ws → ∃ x, (elV P e ws).nf = E x) (h : HasT P (m + 1) t vs) : ∃ l : List α, nfL vs = [V.sl false c (l.map E)] := by
  simp only [HasT, hu, hc] at h
  rcases h with rfl | ⟨xs, rfl, hx⟩
  · exact ⟨[], rfl⟩
  · have : ∃ l : List α, nfL xs = l.map E := by
      clear hc
      induction xs with
      | nil => exact ⟨[], rfl⟩
      | cons x r ih =>
        obtain ⟨l, hl⟩ := ih fun y hy => hx y (by simp [hy])
        obtain ⟨ws, hw, rfl⟩ := hx x (by simp)
        obtain ⟨a, ha⟩ := he ws hw
        exact ⟨a :: l, by rw [nfL, ha, hl]; rfl⟩
    obtain ⟨l, hl⟩ := this
    exact ⟨l, by show [V.sl false c (nfL xs)] = _; rw [hl]⟩
theorem in_arr {n : Nat} (hu : P.underlying t = some (.array n e)) (he : P.underlying e = some (.int .u8)) (h : HasT P (m + 2) t vs) : ∃ x : Arr n, nfL vs = encB x.1 := by
  unfold HasT at h
  simp only [hu] at h
  obtain ⟨wss, hl, hw, rfl⟩ := h
  obtain ⟨l, h1, h2⟩ := u8_row (wss := wss) fun ws hws => by
    have := hw ws hws
    simpa only [HasT, he] using this
  exact ⟨⟨l, by rw [h1, hl]⟩, by rw [h2, nf_encB]⟩
theorem el_agg (ha : isAgT P t = true) {l : List V} (h : nfL vs = l) : (elV P t vs).nf = .agg l := by
  unfold elV; rw [if_pos ha]; show V.agg (nfL vs) = _; rw [h]
theorem el_one (ha : isAgT P t = false) {v : V} (h : nfL vs = [v]) : (elV P t vs).nf = v := by
  unfold elV; rw [if_neg (by simp [ha])]
  cases vs with
  | nil => cases h
  | cons x r => rw [nfL] at h; exact (List.cons.inj h).1
theorem nfL_flat : ∀ {wss : List (List V)}, nfL wss.flatten = (wss.map nfL).flatten
  | [] => rfl
  | w :: r => by rw [List.flatten_cons, nfL_append, nfL_flat]; rfl
end

/-! ## weights -/
mutual
theorem nf_wt : ∀ v : V, v.nf.wt ≤ v.wt
  | .agg cs => by simp only [V.nf, V.wt]; have := nfL_wt cs; omega
  | .sl true sz [] => by simp [V.nf, V.wt]
  | .sl true _ (x :: xs) => by simp [V.nf, V.wt]
  | .sl false sz xs => by simp only [V.nf, V.wt]; have := nfL_wt xs; omega
  | .el cs off => by simp [V.nf, V.wt]
  | .tup cs => by simp [V.nf, V.wt]
  | .fn f cs => by simp [V.nf, V.wt]
  | .mfn f cs => by simp [V.nf, V.wt]
  | .iface t v => by simp [V.nf, V.wt]
  | .bool b => Nat.le_refl _
  | .int k n => Nat.le_refl _
  | .str s => Nat.le_refl _
  | .osl a b c d e => Nat.le_refl _
  | .gp g o => Nat.le_refl _
  | .ptr i o => Nat.le_refl _
  | .nilptr => Nat.le_refl _
  | .map i => Nat.le_refl _
  | .nilmap => Nat.le_refl _
  | .nilfn => Nat.le_refl _
  | .nilif => Nat.le_refl _
theorem nfL_wt : ∀ l : List V, wtL (nfL l) ≤ wtL l
  | [] => Nat.le_refl _
  | v :: r => by simp only [nfL, wtL]; have := nf_wt v; have := nfL_wt r; omega
end
theorem wt_of {v w : V} {n : Nat} (h : v.nf = w) (hn : v.wt ≤ n) : w.wt ≤ n := by rw [← h]; exact Nat.le_trans (nf_wt v) hn
theorem wt_sl {α : Type} {E : α → V} {c : Nat} {l : List α} {n : Nat} (h : (V.sl false c (l.map E)).wt ≤ n) : l.length ≤ n ∧ ∀ a ∈ l, (E a).wt ≤ n := by
  simp only [V.wt] at h
  refine ⟨by have := wtL_length (l.map E); simp at this; omega, fun a ha => ?_⟩
  have := wtL_mem (List.mem_map_of_mem (f := E) ha)
  omega
theorem wt_str {s : Bytes} {n : Nat} (h : (V.str s).wt ≤ n) : s.length ≤ n := by simp only [V.wt] at h; omega
theorem wt_mem {cs : List V} {v : V} {n : Nat} (h : (V.agg cs).wt ≤ n) (hv : v ∈ cs) : v.wt ≤ n := by
  simp only [V.wt] at h
  have := wtL_mem hv; omega

theorem law_end {cx : Cx} {c : FC} {args : List V} {xs : Array Value} (hc : c.Holds cx) (hr : c.rel (nfL args) (.bool true)) (hx : RepL cx.w0 (G0 cx.w0) (fun _ => none) args xs) :
    Calls cx.P c.f xs cx.w0 fun e W' => e = .returned (.bool true) ∧ Below cx.w0.heap.size cx.w0 W' := by
  obtain ⟨v, o, h1, h2, _⟩ := hc args _ hr
  rw [nf_bool h2] at h1
  exact law_calls h1 hx
end Go.Proofs.YtghjeddphkmciaaDoor
