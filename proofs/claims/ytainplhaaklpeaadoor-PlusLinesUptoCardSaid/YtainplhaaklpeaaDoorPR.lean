/-
  Layer 14: the document's functions (plain Lean). Own work of this seat.
-/
import Derived.Test.YtainplhaaklpeaaDoorPQ
namespace Go.Proofs.YtainplhaaklpeaaDoor
open Go.Abs

/-! ## Cut -/
def addH (cur : Bytes) : List Bytes → List Bytes
  | [] => [cur]
  | x :: xs => (cur ++ x) :: xs
theorem addH_nil {l : List Bytes} (h : l ≠ []) : addH [] l = l := by
  cases l with
  | nil => exact absurd rfl h
  | cons x xs => rfl
theorem splitOn_eq_c (c : UInt8) (r cur : Bytes) : addH cur (splitOn c (c :: r)) = cur :: splitOn c r := by simp [splitOn, addH]
theorem splitOn_ne_c {c b : UInt8} (h : b ≠ c) (r cur : Bytes) : addH cur (splitOn c (b :: r)) = addH (cur ++ [b]) (splitOn c r) := by
  simp only [splitOn, if_neg h]
  cases h' : splitOn c r with
  | nil => exact absurd h' (splitOn_ne _ _)
  | cons x xs => simp [addH]
theorem take_one {α : Type} {l : List α} {i f : Nat} (h : i < l.length) (hf : f ≤ i) : (l.take (i + 1)).drop f = (l.take i).drop f ++ [l[i]] := by
  rw [List.take_add_one, List.getElem?_eq_getElem h, Option.toList_some, List.drop_append_of_le_length (by simp; omega)]
theorem p_cut14_l (p : Bytes) (c : UInt8) (hp : p.length ≤ 1000000000) (k0 : List Bytes → Option (List Bytes)) : ∀ (n i f : Nat) (acc : List Bytes), p.length + 1 < n + i → i ≤ p.length + 1 → f ≤ i → acc.length ≤ i →
    (i ≤ p.length → L.seicheref14_Cut_l1 p c k0 n acc f i = k0 (acc ++ addH ((p.take i).drop f) (splitOn c (p.drop i)))) ∧ (i = p.length + 1 → L.seicheref14_Cut_l1 p c k0 n acc f i = k0 acc)
  | 0, i, f, acc, hn, hi, _, _ => by omega
  | n + 1, i, f, acc, hn, hi, hf, ha => by
    have hw : wi ((i : Int) + 1) = ((i + 1 : Nat) : Int) := wi_succ (by omega)
    have hLim : acc.length + 1 ≤ Lim := by unfold Lim; omega
    refine ⟨fun hil => ?_, fun he => ?_⟩
    · have ih := fun f' acc' h1 h2 => p_cut14_l p c hp k0 n (i + 1) f' acc' (by omega) (by omega) h1 h2
      rw [L.seicheref14_Cut_l1, if_pos (by omega)]
      by_cases he : i = p.length
      · rw [if_pos (by omega)]
        simp only [L.seicheref14_Cut_j1]
        rw [cut_nat hf hil, Option.bind_some, appL_some (by simpa using hLim), Option.bind_some]
        simp only [hw]
        rw [(ih (i + 1) _ (Nat.le_refl _) (by simp; omega)).2 (by omega)]
        congr 2
        rw [List.drop_eq_nil_of_le (by omega : p.length ≤ i)]
        simp [splitOn, addH]
      · have hlt : i < p.length := by omega
        rw [if_neg (by omega), at?_some hlt, Option.bind_some]
        by_cases hc : p[i] = c
        · rw [if_pos hc]
          simp only [L.seicheref14_Cut_j1]
          rw [cut_nat hf hil, Option.bind_some, appL_some (by simpa using hLim), Option.bind_some]
          simp only [hw]
          rw [(ih (i + 1) _ (Nat.le_refl _) (by simp; omega)).1 (by omega)]
          congr 1
          rw [drop_eq hlt, hc, splitOn_eq_c, List.append_assoc]
          congr 1
          rw [show (p.take (i + 1)).drop (i + 1) = [] from List.drop_eq_nil_of_le (by simp; omega), addH_nil (splitOn_ne _ _)]; rfl
        · rw [if_neg hc, hw, (ih f acc (by omega) (by omega)).1 (by omega)]
          congr 2
          rw [drop_eq hlt, splitOn_ne_c hc, take_one hlt hf]
    · rw [L.seicheref14_Cut_l1, if_neg (by omega)]
theorem p_cut14 (p : Bytes) (c : UInt8) (hp : p.length ≤ 1000000000) : g.seicheref14_Cut p c = some (splitOn c p) := by
  unfold g.seicheref14_Cut
  have := (p_cut14_l p c hp (fun t => some t) fuel 0 0 [] (by unfold fuel; omega) (by omega) (Nat.le_refl _) (Nat.le_refl _)).1 (Nat.zero_le _)
  refine Eq.trans this ?_
  simp [addH_nil (splitOn_ne _ _)]

/-! ## Words -/
def neB (l : List Bytes) : List Bytes := l.filter fun x => !x.isEmpty
def wordsOf (l : List Bytes) : List Bytes := l.flatMap fun x => neB (splitOn 9 x)
theorem splitOn_mid (c : UInt8) (b : Bytes) : ∀ a : Bytes, splitOn c (a ++ c :: b) = splitOn c a ++ splitOn c b
  | [] => by simp [splitOn]
  | x :: a => by
    have ih := splitOn_mid c b a
    simp only [List.cons_append, splitOn]
    split
    · rw [ih]; rfl
    · rw [ih]
      cases h : splitOn c a with
      | nil => exact absurd h (splitOn_ne _ _)
      | cons y ys => rfl
theorem splitOn_none {c : UInt8} : ∀ {s : Bytes}, c ∉ s → splitOn c s = [s]
  | [], _ => rfl
  | b :: r, h => by
    simp only [List.mem_cons, not_or] at h
    simp only [splitOn, if_neg (Ne.symm h.1), splitOn_none h.2]
theorem neB_one (x : Bytes) : neB [x] = if x = [] then [] else [x] := by cases x <;> simp [neB]
theorem neB_app (a b : List Bytes) : neB (a ++ b) = neB a ++ neB b := by simp [neB]
theorem words_eq : ∀ (s cur : Bytes), (9 : UInt8) ∉ cur → fldB blankB s cur = wordsOf (addH cur (splitOn 32 s))
  | [], cur, h => by
    simp only [splitOn, addH, wordsOf, List.flatMap_cons, List.flatMap_nil, List.append_nil, splitOn_none h, neB_one, fldB]
  | b :: r, cur, h => by
    rw [fldB]
    by_cases h1 : b = 32
    · subst h1
      have ih := words_eq r [] (by simp)
      rw [addH_nil (splitOn_ne _ _)] at ih
      rw [splitOn_eq_c, show blankB 32 = true from rfl, if_pos rfl, ih]
      simp only [wordsOf, List.flatMap_cons, splitOn_none h, neB_one]
      split <;> simp
    · by_cases h2 : b = 9
      · subst h2
        have ih := words_eq r [] (by simp)
        rw [addH_nil (splitOn_ne _ _)] at ih
        rw [splitOn_ne_c (by decide), show blankB 9 = true from rfl, if_pos rfl, ih]
        cases h' : splitOn 32 r with
        | nil => exact absurd h' (splitOn_ne _ _)
        | cons x xs =>
          simp only [addH, wordsOf, List.flatMap_cons, List.append_assoc, List.singleton_append, splitOn_mid, neB_app, splitOn_none h, neB_one]
          by_cases hc : cur = []
          · rw [if_pos hc, hc]; rfl
          · have e : neB (cur :: splitOn 9 x) = cur :: neB (splitOn 9 x) := by
              unfold neB; rw [List.filter_cons_of_pos]; cases cur <;> simp at hc ⊢
            rw [if_neg hc, e]; rfl
      · have hb : blankB b = false := by simp [blankB, h1, h2]
        rw [hb, if_neg (by simp), splitOn_ne_c h1]
        exact words_eq r (cur ++ [b]) (by simp [h, Ne.symm h2])
theorem words_all (s : Bytes) : wordsOf (splitOn 32 s) = fldB blankB s [] := by rw [words_eq s [] (by simp), addH_nil (splitOn_ne _ _)]
theorem p_words_l2 (k0 : List Bytes → Option (List Bytes)) : ∀ (l t : List Bytes), t.length + l.length ≤ Lim → L.seicheref14_Words_l2 k0 l t = k0 (t ++ neB l)
  | [], t, _ => by rw [L.seicheref14_Words_l2]; simp [neB]
  | a :: r, t, h => by
    simp only [List.length_cons] at h
    rw [L.seicheref14_Words_l2]
    by_cases ha : a = []
    · rw [if_pos ha, p_words_l2 k0 r t (by omega), ha]; rfl
    · rw [if_neg ha, appL_some (by simp; omega), Option.bind_some, p_words_l2 k0 r _ (by simp; omega)]
      congr 1
      have : neB (a :: r) = a :: neB r := by
        unfold neB; rw [List.filter_cons_of_pos]; cases a <;> simp at ha ⊢
      rw [this]; simp
theorem p_words_l1 (k0 : List Bytes → Option (List Bytes)) : ∀ (l t : List Bytes), t.length + tot 1 l ≤ 1000000000 → L.seicheref14_Words_l1 k0 l t = k0 (t ++ wordsOf l)
  | [], t, _ => by rw [L.seicheref14_Words_l1]; simp [wordsOf]
  | a :: r, t, h => by
    simp only [tot] at h
    have h1 := splitOn_length 9 a
    have h2 : (neB (splitOn 9 a)).length ≤ (splitOn 9 a).length := List.length_filter_le _ _
    rw [L.seicheref14_Words_l1, p_cut14 a 9 (by omega), Option.bind_some, if_pos (by unfold Lim; omega), p_words_l2 _ _ _ (by unfold Lim; omega), p_words_l1 k0 r _ (by simp; omega)]
    congr 1
    simp [wordsOf]
theorem p_words (s : Bytes) (hs : s.length ≤ 100000000) : g.seicheref14_Words s = some (fldB blankB s []) := by
  have h1 := splitOn_length 32 s
  unfold g.seicheref14_Words
  rw [p_cut14 s 32 (by omega), Option.bind_some, if_pos (by unfold Lim; omega), p_words_l1 _ _ _ (by simp [tot_splitOn]; omega), List.nil_append, words_all]

/-! ## terms and lines -/
theorem p_rterm (s : Bytes) (hs : s.length ≤ 1000000000) : g.seicheref14_Term s = some (nameB s, notB s, tagB (nameB s)) := by
  unfold g.seicheref14_Term
  cases s with
  | nil =>
    rw [if_neg (by simp)]
    unfold L.seicheref14_Term_j1 L.seicheref14_Term_j2
    rw [if_neg (by simp), p_rtag _ (by simp)]; rfl
  | cons b r =>
    have hr : r.length ≤ 1000000000 := by simp at hs; omega
    rw [if_pos (by simp), show (0 : Int) = ((0 : Nat) : Int) from rfl, at?_some (by simp), Option.bind_some]
    unfold L.seicheref14_Term_j1 L.seicheref14_Term_j2
    by_cases hb : b = 33
    · subst hb
      simp only [List.getElem_cons_zero, decide_true, if_true]
      rw [cut_tail, Option.bind_some, p_rtag r hr]; simp [nameB, notB]
    · simp only [List.getElem_cons_zero, decide_eq_false hb, Bool.false_eq_true, if_false]
      have hn : nameB (b :: r) = b :: r := by simp [nameB, hb]
      rw [p_rtag _ hs, hn]; simp [notB, hb]
theorem p_wrap_l (sep : Bytes) (k0 : Bytes → Option Bytes) : ∀ (l : List Bytes) (t : Bytes), t.length + tot sep.length l ≤ 1000000000 → L.seicheref14_wrap_l1 sep k0 l t = k0 (t ++ (l.map (sep ++ ·)).flatten)
  | [], t, _ => by rw [L.seicheref14_wrap_l1]; simp
  | a :: r, t, h => by
    simp only [tot] at h
    rw [L.seicheref14_wrap_l1, cat_some (by omega), Option.bind_some, cat_some (by simp; omega), Option.bind_some, p_wrap_l sep k0 r _ (by simp; omega)]; simp
theorem p_wrap (sep : Bytes) (l : List Bytes) (hl : l ≠ []) (h : tot sep.length l ≤ 100000000) (h2 : l.length ≤ 100000000) : g.seicheref14_wrap l sep = some (wrapB sep l) := by
  match l, hl with
  | x :: r, _ =>
    simp only [tot, List.length_cons] at h h2
    have hj := joinS_length sep (x :: r)
    simp only [tot] at hj
    unfold g.seicheref14_wrap
    rw [show (0 : Int) = ((0 : Nat) : Int) from rfl, at?_some (by simp), Option.bind_some, cut_tail, Option.bind_some, if_pos (by unfold Lim; omega), p_wrap_l _ _ _ _ (by simp; omega)]
    simp only [List.getElem_cons_zero]
    rw [← joinS_cons]
    unfold wrapB
    by_cases h1 : r = []
    · subst h1; simp
    · have : 0 < r.length := List.length_pos_iff.2 h1
      rw [if_pos (by simp; omega), if_neg (by simp [h1]), cat_some (by simp; omega), Option.bind_some, cat_some (by simp; omega), Option.bind_some]; simp
/-- is an option one? -/
theorem allO_some {po : Bytes → Option Bytes} : ∀ {l : List Bytes}, (allO po l).isSome = l.all fun x => (po x).isSome
  | [] => rfl
  | a :: r => by
    have ih := allO_some (po := po) (l := r)
    simp only [allO, List.all_cons]
    cases po a with
    | none => rfl
    | some x => simp [ih]
theorem allO_id {po : Bytes → Option Bytes} {f : Bytes → Bytes} (h : ∀ s t, po s = some t → t = f s) : ∀ {l m : List Bytes}, allO po l = some m → m = l.map f
  | [], m, e => by
    obtain rfl : [] = m := by simpa [allO] using e
    rfl
  | a :: r, m, e => by
    simp only [allO] at e
    split at e
    · cases e
    · rename_i x hx
      obtain ⟨m', h1, rfl⟩ := Option.map_eq_some_iff.1 e
      rw [allO_id h h1, h a x hx]; rfl
def optT (s : Bytes) : Bytes := wrapB [32, 38, 38, 32] (splitOn 44 s)
def lineT (s : Bytes) : Bytes := wrapB [32, 124, 124, 32] ((fldB blankB s []).map optT)
theorem optionO_eq {s t : Bytes} (h : optionO s = some t) : t = optT s := by
  obtain ⟨m, h1, rfl⟩ := Option.map_eq_some_iff.1 h
  rw [allO_id (f := id) (fun s t h => termO_eq h) h1, List.map_id]; rfl
theorem lineO_eq {s t : Bytes} (h : lineO s = some t) : t = lineT s := by
  unfold lineO at h
  split at h
  · cases h
  · obtain ⟨m, h1, rfl⟩ := Option.map_eq_some_iff.1 h
    rw [allO_id (f := optT) (fun s t h => optionO_eq h) h1]; rfl
theorem p_good_l2 (k0 : Option Bool) : ∀ l : List Bytes, (∀ x ∈ l, x.length ≤ 1000000000) → L.seicheref14_Good_l2 k0 l = if (allO termO l).isSome then k0 else some false
  | [], _ => rfl
  | a :: r, h => by
    rw [L.seicheref14_Good_l2, p_rterm a (h a (by simp)), Option.bind_some, allO_some, List.all_cons, p_good_l2 k0 r (fun x hx => h x (by simp [hx])), allO_some]
    have e : (termO a).isSome = tagB (nameB a) := by unfold termO; cases tagB (nameB a) <;> rfl
    rw [e]
    simp only
    cases tagB (nameB a) <;> simp
theorem p_good_l1 (k0 : Option Bool) : ∀ l : List Bytes, (∀ x ∈ l, x.length ≤ 100000000) → L.seicheref14_Good_l1 k0 l = if (allO optionO l).isSome then k0 else some false
  | [], _ => rfl
  | a :: r, h => by
    have ha := h a (by simp)
    have h1 := splitOn_length 44 a
    have hb : ∀ x ∈ splitOn 44 a, x.length ≤ 1000000000 := fun x hx => by have := tot_mem 1 hx; rw [tot_splitOn] at this; omega
    rw [L.seicheref14_Good_l1, p_cut14 a 44 (by omega), Option.bind_some, if_pos (by unfold Lim; omega), p_good_l2 _ _ hb, allO_some (po := optionO), List.all_cons, p_good_l1 k0 r (fun x hx => h x (by simp [hx])), allO_some (po := optionO)]
    simp only [optionO, Option.isSome_map]
    cases (allO termO (splitOn 44 a)).isSome <;> simp
theorem p_rgood14 (s : Bytes) (hs : s.length ≤ 10000000) : g.seicheref14_Good s = some (lineO s).isSome := by
  have h2 := fld_tot blankB s []
  have h3 := tot_length 1 (fldB blankB s [])
  simp only [List.length_nil] at h2
  have hb : ∀ x ∈ fldB blankB s [], x.length ≤ 100000000 := fun x hx => by have := tot_mem 1 hx; omega
  unfold g.seicheref14_Good lineO
  rw [p_words s (by omega), Option.bind_some, if_pos (by unfold Lim; omega), p_good_l1 _ _ hb]
  by_cases h0 : fldB blankB s [] = []
  · rw [if_pos h0, h0]; rfl
  · have : 0 < (fldB blankB s []).length := List.length_pos_iff.2 h0
    rw [if_neg h0, Option.isSome_map]
    cases (allO optionO (fldB blankB s [])).isSome
    · rfl
    · rw [if_pos rfl, Option.bind_some, decide_eq_true (by omega)]
theorem p_rline_l (k0 : List Bytes → Option Bytes) : ∀ (l t : List Bytes), tot 1 l ≤ 10000000 → t.length + l.length ≤ Lim → L.seicheref14_Line_l1 k0 l t = k0 (t ++ l.map optT)
  | [], t, _, _ => by rw [L.seicheref14_Line_l1]; simp
  | a :: r, t, h, hl => by
    simp only [tot, List.length_cons] at h hl
    have h1 := splitOn_length 44 a
    have h2 : tot 4 (splitOn 44 a) ≤ 4 * tot 1 (splitOn 44 a) := tot_le 3 _
    rw [tot_splitOn] at h2
    rw [L.seicheref14_Line_l1, p_cut14 a 44 (by omega), Option.bind_some, p_wrap [32, 38, 38, 32] _ (splitOn_ne _ _) (show tot 4 _ ≤ _ by omega) (by omega), Option.bind_some, appL_some (by simp; omega), Option.bind_some, p_rline_l k0 r _ (by omega) (by simp; omega)]
    simp [optT]
theorem tot_optT : ∀ l : List Bytes, tot 4 (l.map optT) ≤ 10 * tot 1 l
  | [] => by simp [tot]
  | a :: r => by
    have ih := tot_optT r
    have h2 : tot 4 (splitOn 44 a) ≤ 4 * tot 1 (splitOn 44 a) := tot_le 3 _
    rw [tot_splitOn] at h2
    have : (optT a).length ≤ tot 4 (splitOn 44 a) + 2 := wrapB_length _ _
    simp only [List.map_cons, tot, Nat.mul_add] at h2 ⊢
    omega
theorem lineT_length (s : Bytes) : (lineT s).length ≤ 10 * s.length + 12 := by
  have h1 := tot_optT (fldB blankB s [])
  have h2 := fld_tot blankB s []
  have h3 : (lineT s).length ≤ tot 4 ((fldB blankB s []).map optT) + 2 := wrapB_length _ _
  simp only [List.length_nil] at h2
  omega
theorem p_rline14 (s : Bytes) (hs : s.length ≤ 1000000) (h0 : fldB blankB s [] ≠ []) : g.seicheref14_Line s = some (lineT s) := by
  have h2 := fld_tot blankB s []
  have h3 := tot_length 1 (fldB blankB s [])
  have h4 := tot_optT (fldB blankB s [])
  simp only [List.length_nil] at h2
  unfold g.seicheref14_Line
  rw [p_words s (by omega), Option.bind_some, if_pos (by unfold Lim; omega), p_rline_l _ _ _ (by omega) (by unfold Lim; simp; omega), List.nil_append, p_wrap [32, 124, 124, 32] _ (by simpa using h0) (show tot 4 _ ≤ _ by omega) (by simp; omega)]; rfl
theorem p_rlines_l (k0 : List Bytes → Option (Bytes × Bool)) : ∀ (l t : List Bytes), (∀ x ∈ l, x.length ≤ 1000000) → t.length + l.length ≤ Lim → L.seicheref14_Lines_l1 k0 l t = match allO lineO l with | some m => k0 (t ++ m) | none => some ([], false)
  | [], t, _, _ => by rw [L.seicheref14_Lines_l1]; simp [allO]
  | a :: r, t, h, hl => by
    simp only [List.length_cons] at hl
    have ha := h a (by simp)
    rw [L.seicheref14_Lines_l1, p_rgood14 a (by omega), Option.bind_some, allO]
    cases hp : lineO a with
    | none => rfl
    | some x =>
      have h0 : fldB blankB a [] ≠ [] := by
        intro e; unfold lineO at hp; rw [if_pos e] at hp; cases hp
      have hx := lineO_eq hp
      simp only [Option.isSome_some, if_true]
      rw [p_rline14 a ha h0, Option.bind_some, ← hx, appL_some (by simp; omega), Option.bind_some, p_rlines_l k0 r _ (fun y hy => h y (by simp [hy])) (by simp; omega)]
      cases allO lineO r with
      | none => rfl
      | some m => simp
def pair : Option Bytes → Bytes × Bool
  | some t => (t, true)
  | none => ([], false)
theorem p_rlines (l : List Bytes) (hs : tot 1 l ≤ 1000000) : g.seicheref14_Lines l = some (pair (linesO l)) := by
  have h3 := tot_length 1 l
  have hb : ∀ x ∈ l, x.length ≤ 1000000 := fun x hx => by have := tot_mem 1 hx; omega
  unfold g.seicheref14_Lines linesO
  rw [if_pos (by unfold Lim; omega), p_rlines_l _ l [] hb (by unfold Lim; simp; omega)]
  by_cases h0 : l = []
  · subst h0; simp [allO, pair]
  · rw [if_neg h0]
    cases h : allO lineO l with
    | none => rfl
    | some m =>
      have h1 := allO_tot (a := 16) (b := 1) (k := 4) (fun s t h => by have := line_length h; omega) h
      have h2 := allO_length h
      have h5 := allO_ne h h0
      have : 0 < m.length := List.length_pos_iff.2 h5
      simp only [List.nil_append]
      rw [if_neg (by omega), p_wrap [32, 38, 38, 32] m h5 (show tot 4 m ≤ _ by omega) (by omega)]; rfl
theorem p_alive14 : g.seichelaw14_alive = some true := by
  unfold g.seichelaw14_alive
  rw [p_line _ (by decide)]
  decide
theorem p_great14_l (k0 : Option Bool) : ∀ (l : List Bytes) (n : Nat), n + tot 1 l ≤ 1000000000 → (L.seichelaw14_great_l1 k0 l n = some true) ∨ (L.seichelaw14_great_l1 k0 l n = k0 ∧ n + tot 0 l ≤ max n 1024)
  | [], n, _ => .inr ⟨rfl, by simp [tot]; omega⟩
  | a :: r, n, h => by
    simp only [tot] at h ⊢
    rw [L.seichelaw14_great_l1, wi_of (by omega) (by omega)]
    split
    · exact .inl rfl
    · rw [show ((n : Nat) : Int) + ((a.length : Nat) : Int) = ((n + a.length : Nat) : Int) by omega]
      rcases p_great14_l k0 r (n + a.length) (by omega) with h1 | ⟨h1, h2⟩
      · exact .inl h1
      · exact .inr ⟨h1, by omega⟩
theorem tot_one (l : List Bytes) : tot 1 l = tot 0 l + l.length := by
  induction l with
  | nil => rfl
  | cons x r ih => simp only [tot, List.length_cons]; omega
theorem p_great14 (l : List Bytes) (h : tot 1 l ≤ 1000000000) : g.seichelaw14_great l = some true ∨ (g.seichelaw14_great l = some false ∧ tot 1 l ≤ 1044) := by
  have h3 := tot_length 1 l
  unfold g.seichelaw14_great
  rw [if_pos (by unfold Lim; omega)]
  rcases p_great14_l (some (decide (20 < ((l.length : Nat) : Int)))) l 0 (by omega) with h1 | ⟨h1, h2⟩
  · exact .inl h1
  · by_cases hl : 20 < l.length
    · exact .inl (by rw [show (0 : Int) = ((0 : Nat) : Int) from rfl, h1, decide_eq_true (by omega)])
    · exact .inr ⟨by rw [show (0 : Int) = ((0 : Nat) : Int) from rfl, h1, decide_eq_false (by omega)], by rw [tot_one]; omega⟩
end Go.Proofs.YtainplhaaklpeaaDoor
