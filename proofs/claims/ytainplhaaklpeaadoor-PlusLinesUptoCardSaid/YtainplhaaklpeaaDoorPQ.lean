/-
  Layer 14: constraints of the elder form: what the functions come to (plain Lean). Own work of this seat.
-/
import Derived.Test.YtainplhaaklpeaaDoorGenL2
import Derived.Test.YtainplhaaklpeaaDoorP0
namespace Go.Proofs.YtainplhaaklpeaaDoor
open Go.Abs

/-! ## words of texts -/
def tot (k : Nat) : List Bytes → Nat
  | [] => 0
  | x :: r => x.length + k + tot k r
theorem tot_length (k : Nat) : ∀ l : List Bytes, l.length * k ≤ tot k l
  | [] => by simp [tot]
  | x :: r => by have := tot_length k r; simp only [tot, List.length_cons, Nat.succ_mul]; omega
theorem tot_mem (k : Nat) : ∀ {l : List Bytes} {x : Bytes}, x ∈ l → x.length + k ≤ tot k l
  | y :: r, x, h => by
    rcases List.mem_cons.1 h with rfl | h
    · simp [tot]
    · have := tot_mem k h; simp [tot]; omega
theorem tot_le (k : Nat) : ∀ l : List Bytes, tot (k + 1) l ≤ (k + 1) * tot 1 l
  | [] => by simp [tot]
  | x :: r => by
    have := tot_le k r
    simp only [tot, Nat.mul_add, Nat.add_mul] at this ⊢
    omega
theorem tot_splitOn (c : UInt8) : ∀ s : Bytes, tot 1 (splitOn c s) = s.length + 1
  | [] => by simp [splitOn, tot]
  | b :: r => by
    have ih := tot_splitOn c r
    simp only [splitOn]
    split
    · simp [tot, ih]; omega
    · split
      · rename_i h; exact absurd h (splitOn_ne _ _)
      · rename_i x xs h; rw [h] at ih; simp [tot] at ih ⊢; omega
/-- texts with a sign between -/
def joinS (sep : Bytes) : List Bytes → Bytes
  | [] => []
  | [x] => x
  | x :: y :: r => x ++ sep ++ joinS sep (y :: r)
theorem lib_joinS (sep : Bytes) : ∀ l : List Bytes, Lib.join l sep = joinS sep l
  | [] => rfl
  | [x] => by simp [Lib.join, List.intercalate, joinS]
  | x :: y :: r => by
    have ih := lib_joinS sep (y :: r)
    simp only [Lib.join, List.intercalate] at ih ⊢
    rw [joinS, ← ih]; simp [List.intersperse]
theorem joinS_length (sep : Bytes) : ∀ l : List Bytes, (joinS sep l).length ≤ tot sep.length l
  | [] => by simp [joinS, tot]
  | [x] => by simp [joinS, tot]
  | x :: y :: r => by
    have := joinS_length sep (y :: r)
    simp [joinS, tot] at this ⊢; omega
theorem joinS_cons (sep x : Bytes) : ∀ l : List Bytes, joinS sep (x :: l) = x ++ (l.map (sep ++ ·)).flatten
  | [] => by simp [joinS]
  | y :: r => by rw [joinS, joinS_cons sep y r]; simp
def wrapB (sep : Bytes) (l : List Bytes) : Bytes := if l.length = 1 then joinS sep l else 40 :: joinS sep l ++ [41]
theorem wrapB_length (sep : Bytes) (l : List Bytes) : (wrapB sep l).length ≤ tot sep.length l + 2 := by
  have := joinS_length sep l
  unfold wrapB; split
  · omega
  · simp; omega

/-! ## tags -/
def signB (b : UInt8) : Bool := decide (97 ≤ b ∧ b ≤ 122) || decide (65 ≤ b ∧ b ≤ 90) || decide (48 ≤ b ∧ b ≤ 57) || decide (b = 95) || decide (b = 46)
theorem p_sign (b : UInt8) : g.expr_tag b = some (signB b) := by
  unfold g.expr_tag signB
  by_cases h1 : 97 ≤ b <;> by_cases h2 : b ≤ 122 <;> by_cases h3 : 65 ≤ b <;> by_cases h4 : b ≤ 90 <;> by_cases h5 : 48 ≤ b <;> by_cases h6 : b ≤ 57 <;> by_cases h7 : b = 95 <;> simp [h1, h2, h3, h4, h5, h6, h7]
theorem p_rsign (b : UInt8) : g.seicheref13_Sign b = some (signB b) := by
  unfold g.seicheref13_Sign signB
  by_cases h1 : 97 ≤ b <;> by_cases h2 : b ≤ 122 <;> by_cases h3 : 65 ≤ b <;> by_cases h4 : b ≤ 90 <;> by_cases h5 : 48 ≤ b <;> by_cases h6 : b ≤ 57 <;> by_cases h7 : b = 95 <;> simp [h1, h2, h3, h4, h5, h6, h7]
def tagB (s : Bytes) : Bool := !decide (s = []) && s.all signB
theorem p_tagIdx (l : Bytes) : ∀ (k : Nat), ∃ z, L.slices_IndexFunc_Lbyte_byte_expr_Tag_1_l1 (some (-1)) l k = some z ∧ (0 ≤ z ↔ l.all signB = false) := by
  induction l with
  | nil => intro k; exact ⟨-1, rfl, by simp⟩
  | cons a r ih =>
    intro k
    rw [L.slices_IndexFunc_Lbyte_byte_expr_Tag_1_l1, g.expr_Tag_1, p_sign]
    cases h : signB a
    · exact ⟨k, rfl, by simp [h]⟩
    · obtain ⟨z, h1, h2⟩ := ih (k + 1)
      exact ⟨z, by simpa using h1, by simp [h, h2]⟩
theorem p_tag (s : Bytes) (hs : s.length ≤ 1000000000) : g.expr_Tag s = some (tagB s) := by
  unfold g.expr_Tag tagB
  by_cases h : s = []
  · rw [if_pos h]; simp [h]
  · rw [if_neg h, g.slices_ContainsFunc_Lbyte_byte_expr_Tag_1, g.slices_IndexFunc_Lbyte_byte_expr_Tag_1, if_pos (by unfold Lim; omega)]
    obtain ⟨z, h3, h4⟩ := p_tagIdx s 0
    rw [h3]
    simp only [Option.bind_some, decide_eq_false h, Bool.not_false, Bool.true_and]
    cases ha : s.all signB
    · rw [decide_eq_true (h4.2 ha)]; rfl
    · rw [decide_eq_false (by rw [h4, ha]; simp)]; rfl
theorem p_rtag_l (s : Bytes) (hs : s.length ≤ 1000000000) (k0 : Option Bool) : ∀ (n k : Nat), s.length < n + k → k ≤ s.length →
    L.seicheref13_Tag_l1 s k0 n k = if (s.drop k).all signB then k0 else some false
  | 0, k, hn, hk => by omega
  | n + 1, k, hn, hk => by
    rw [L.seicheref13_Tag_l1]
    by_cases h : k < s.length
    · rw [if_pos (by omega), at?_some h, Option.bind_some, p_rsign, Option.bind_some, drop_eq h, List.all_cons]
      cases hb : signB s[k]
      · simp
      · rw [if_pos rfl, wi_succ (by omega), p_rtag_l s hs k0 n (k + 1) (by omega) (by omega)]; simp
    · rw [if_neg (by omega), List.drop_eq_nil_of_le (by omega)]; rfl
theorem p_rtag (s : Bytes) (hs : s.length ≤ 1000000000) : g.seicheref13_Tag s = some (tagB s) := by
  unfold g.seicheref13_Tag tagB
  rw [show (0 : Int) = ((0 : Nat) : Int) from rfl, p_rtag_l s hs _ fuel 0 (by unfold fuel; omega) (Nat.zero_le _), List.drop_zero]
  cases s.all signB <;> simp

/-! ## terms, options, lines: the program's -/
def nameB (s : Bytes) : Bytes := if s.headD 0 = 33 then s.tail else s
def notB (s : Bytes) : Bool := decide (s.headD 0 = 33)
def termO (s : Bytes) : Option Bytes := if tagB (nameB s) then some s else none
def res : Option Bytes → Bytes × Int
  | some t => (t, 0)
  | none => ([], 4)
theorem p_cut (s q : Bytes) : g.strings_CutPrefix s q = some (if s.take q.length = q then (s.drop q.length, true) else (s, false)) := by
  unfold g.strings_CutPrefix g.internal_stringslite_CutPrefix g.internal_stringslite_HasPrefix
  by_cases h : q.length ≤ s.length
  · rw [if_pos (by omega), show (0 : Int) = ((0 : Nat) : Int) from rfl, cut_nat (Nat.zero_le _) h]
    simp only [Option.bind_some, List.drop_zero, decide_eq_true_eq]
    by_cases h1 : s.take q.length = q
    · rw [if_pos h1, if_pos h1, cut_nat h (Nat.le_refl _)]; simp
    · rw [if_neg h1, if_neg h1]; rfl
  · rw [if_neg (by omega)]
    have : ¬ s.take q.length = q := fun h1 => by have := congrArg List.length h1; simp at this; omega
    simp [this]
theorem p_term (s : Bytes) (hs : s.length ≤ 1000000000) : g.plus_term s = some (res (termO s)) := by
  unfold g.plus_term
  rw [p_cut, Option.bind_some]
  unfold termO
  cases s with
  | nil =>
    have e : ¬ (([] : Bytes).take ([33] : Bytes).length = ([33] : Bytes)) := by decide
    rw [if_neg e]
    simp only
    rw [p_tag [] (by simp)]; rfl
  | cons b r =>
    have hr : r.length ≤ 1000000000 := by simp at hs; omega
    by_cases hb : b = 33
    · subst hb
      have hn : nameB (33 :: r) = r := by simp [nameB]
      rw [hn]
      simp only [List.length_cons, List.length_nil, Nat.zero_add, List.take_succ_cons, List.take_zero, if_true, List.drop_succ_cons, List.drop_zero]
      rw [p_tag r hr, Option.bind_some]
      cases tagB r
      · rfl
      · rw [if_pos rfl, cat_some (by simp; omega)]; rfl
    · have e : ¬ ((b :: r : Bytes).take ([33] : Bytes).length = ([33] : Bytes)) := by simp [hb]
      have hn : nameB (b :: r) = b :: r := by simp [nameB, hb]
      rw [if_neg e, hn]
      simp only
      rw [p_tag _ hs, Option.bind_some]
      cases tagB (b :: r) <;> rfl
def allO (po : Bytes → Option Bytes) : List Bytes → Option (List Bytes)
  | [] => some []
  | a :: r => match po a with
    | none => none
    | some x => (allO po r).map (x :: ·)
theorem allO_length {po : Bytes → Option Bytes} : ∀ {l m : List Bytes}, allO po l = some m → m.length = l.length
  | [], m, h => by simp [allO] at h; simp [← h]
  | a :: r, m, h => by
    simp only [allO] at h
    split at h
    · cases h
    · obtain ⟨m', h1, rfl⟩ := Option.map_eq_some_iff.1 h
      simp [allO_length h1]
theorem allO_tot {po : Bytes → Option Bytes} {a b k : Nat} (hp : ∀ s t, po s = some t → t.length + k ≤ a * (s.length + b)) : ∀ {l m : List Bytes}, allO po l = some m → tot k m ≤ a * tot b l
  | [], m, h => by
    obtain rfl : [] = m := by simpa [allO] using h
    simp [tot]
  | x :: r, m, h => by
    simp only [allO] at h
    split at h
    · cases h
    · rename_i y hy
      obtain ⟨m', h1, rfl⟩ := Option.map_eq_some_iff.1 h
      have := allO_tot hp h1
      have := hp x y hy
      simp only [tot, Nat.mul_add] at this ⊢
      omega
theorem joined_gen {gp : Bytes → Option (Bytes × Int)} {po : Bytes → Option Bytes} {Lf : (List Bytes → Option (Bytes × Int)) → List Bytes → List Bytes → Option (Bytes × Int)} {k0 : List Bytes → Option (Bytes × Int)} (hnil : ∀ t, Lf k0 [] t = k0 t)
    (hcons : ∀ a r t, Lf k0 (a :: r) t = (gp a).bind fun r101 => if r101.2 = 0 then (appL t [r101.1]).bind fun l => Lf k0 r l else some ([], r101.2)) :
    ∀ (l t : List Bytes), (∀ a ∈ l, gp a = some (res (po a))) → t.length + l.length ≤ Lim → Lf k0 l t = match allO po l with | some m => k0 (t ++ m) | none => some (res none)
  | [], t, _, _ => by rw [hnil]; simp [allO]
  | a :: r, t, h, hl => by
    simp only [List.length_cons] at hl
    rw [hcons, h a (by simp), Option.bind_some, allO]
    cases po a with
    | none => rfl
    | some x =>
      simp only [res, if_true]
      rw [appL_some (by simp; omega), Option.bind_some, joined_gen hnil hcons r _ (fun b hb => h b (by simp [hb])) (by simp; omega)]
      cases allO po r with
      | none => rfl
      | some m => simp
/-- what follows behind the parts -/
theorem joined_end (sep : Bytes) (m : List Bytes) (hm : m ≠ []) (h : tot sep.length m ≤ 1000000000) (hl : m.length ≤ 1000000000) :
    (if ((m.length : Nat) : Int) = 1 then (at? m 0).bind fun a135 => some (a135, (0 : Int)) else (g.strings_Join m sep).bind fun r141 => (cat ([40] : Bytes) r141).bind fun z143 => (cat z143 ([41] : Bytes)).bind fun z145 => some (z145, 0)) = some (wrapB sep m, 0) := by
  unfold wrapB
  by_cases h1 : m.length = 1
  · rw [if_pos (by omega), if_pos h1, show (0 : Int) = ((0 : Nat) : Int) from rfl, at?_some (by omega)]
    match m, h1 with
    | [x], _ => rfl
  · have hj := joinS_length sep m
    have hJ : g.strings_Join m sep = some (joinS sep m) := by
      unfold g.strings_Join
      rw [lib_joinS, if_pos ⟨hl, by omega⟩]
    rw [if_neg (by omega), if_neg h1, hJ, Option.bind_some, cat_some (by simp; omega), Option.bind_some, cat_some (by simp; omega)]; simp
theorem allO_ne {po : Bytes → Option Bytes} {l m : List Bytes} (h : allO po l = some m) (hl : l ≠ []) : m ≠ [] := by
  intro e; subst e
  have := allO_length h
  exact hl (List.eq_nil_of_length_eq_zero (by simpa using this.symm))
def optionO (s : Bytes) : Option Bytes := (allO termO (splitOn 44 s)).map (wrapB [32, 38, 38, 32])
def lineO (s : Bytes) : Option Bytes := if fldB blankB s [] = [] then none else (allO optionO (fldB blankB s [])).map (wrapB [32, 124, 124, 32])
def linesO (l : List Bytes) : Option Bytes := if l = [] then none else (allO lineO l).map (wrapB [32, 38, 38, 32])
theorem termO_eq {s t : Bytes} (h : termO s = some t) : t = s := by
  unfold termO at h; split at h
  · exact (Option.some.inj h).symm
  · cases h
theorem option_tot {s : Bytes} {m : List Bytes} (h : allO termO (splitOn 44 s) = some m) : tot 4 m ≤ 4 * (s.length + 1) := by
  have := allO_tot (a := 4) (b := 1) (k := 4) (fun s t h => by rw [termO_eq h]; omega) h
  rwa [tot_splitOn] at this
theorem option_length {s t : Bytes} (h : optionO s = some t) : t.length ≤ 4 * s.length + 6 := by
  obtain ⟨m, h1, rfl⟩ := Option.map_eq_some_iff.1 h
  have := option_tot h1
  have : (wrapB [32, 38, 38, 32] m).length ≤ tot 4 m + 2 := wrapB_length _ m
  omega
theorem p_option (s : Bytes) (hs : s.length ≤ 1000000) : g.plus_option s = some (res (optionO s)) := by
  have hl := splitOn_length 44 s
  have hS : g.strings_Split s [44] = some (splitOn 44 s) := by simp [g.strings_Split]; omega
  have hb : ∀ x ∈ splitOn 44 s, x.length ≤ 1000000000 := fun x hx => by have := tot_mem 1 hx; rw [tot_splitOn] at this; omega
  unfold g.plus_option optionO g.plus_joined_plus_term
  rw [hS, Option.bind_some, if_pos (by unfold Lim; omega)]
  rw [joined_gen (po := termO) (Lf := L.plus_joined_plus_term_l1) (fun t => rfl) (fun a r t => rfl) (splitOn 44 s) [] (fun a ha => p_term a (hb a ha)) (by unfold Lim; simp; omega)]
  cases h : allO termO (splitOn 44 s) with
  | none => rfl
  | some m =>
    have h1 := option_tot h
    have h2 := allO_length h
    simp only [List.nil_append]
    rw [joined_end [32, 38, 38, 32] m (allO_ne h (splitOn_ne _ _)) (show tot 4 m ≤ _ by omega) (by omega)]; rfl
theorem fld_tot (q : UInt8 → Bool) : ∀ (s cur : Bytes), tot 1 (fldB q s cur) ≤ s.length + cur.length + 1
  | [], cur => by
    unfold fldB; split <;> simp [tot]
  | b :: r, cur => by
    unfold fldB
    split
    · split
      · have := fld_tot q r []; simp at this ⊢; omega
      · have := fld_tot q r []; simp [tot] at this ⊢; omega
    · have := fld_tot q r (cur ++ [b]); simp at this ⊢; omega
theorem line_tot {s : Bytes} {m : List Bytes} (h : allO optionO (fldB blankB s []) = some m) : tot 4 m ≤ 10 * (s.length + 1) := by
  have h1 := allO_tot (a := 10) (b := 1) (k := 4) (fun s t h => by have := option_length h; omega) h
  have h2 := fld_tot blankB s []
  have : 10 * tot 1 (fldB blankB s []) ≤ 10 * (s.length + 1) := Nat.mul_le_mul_left _ (by simpa using h2)
  omega
theorem line_length {s t : Bytes} (h : lineO s = some t) : t.length ≤ 10 * s.length + 12 := by
  unfold lineO at h
  split at h
  · cases h
  · obtain ⟨m, h1, rfl⟩ := Option.map_eq_some_iff.1 h
    have := line_tot h1
    have : (wrapB [32, 124, 124, 32] m).length ≤ tot 4 m + 2 := wrapB_length _ m
    omega
theorem p_line (s : Bytes) (hs : s.length ≤ 1000000) : g.plus_Line s = some (res (lineO s)) := by
  have h2 := fld_tot blankB s []
  have h3 := tot_length 1 (fldB blankB s [])
  simp only [List.length_nil] at h2
  have hF : g.strings_FieldsFunc_plus_Line_1 s = some (fldB blankB s []) := by unfold g.strings_FieldsFunc_plus_Line_1; rw [if_pos (by omega)]
  have hb : ∀ x ∈ fldB blankB s [], x.length ≤ 1000000 := fun x hx => by have := tot_mem 1 hx; omega
  unfold g.plus_Line lineO
  rw [hF, Option.bind_some]
  by_cases h0 : fldB blankB s [] = []
  · rw [if_pos (by rw [h0]; rfl), if_pos h0]; rfl
  · have h0' : (fldB blankB s []).length ≠ 0 := fun e => h0 (List.eq_nil_of_length_eq_zero e)
    rw [if_neg (by omega), if_neg h0, g.plus_joined_plus_option, if_pos (by unfold Lim; omega)]
    rw [joined_gen (po := optionO) (Lf := L.plus_joined_plus_option_l1) (fun t => rfl) (fun a r t => rfl) (fldB blankB s []) [] (fun a ha => p_option a (hb a ha)) (by unfold Lim; simp; omega)]
    cases h : allO optionO (fldB blankB s []) with
    | none => rfl
    | some m =>
      have h1 := line_tot h
      have h2 := allO_length h
      simp only [List.nil_append]
      rw [joined_end [32, 124, 124, 32] m (allO_ne h h0) (show tot 4 m ≤ _ by omega) (by omega)]; rfl
theorem p_lines (l : List Bytes) (hs : tot 1 l ≤ 1000000) : g.plus_Lines l = some (res (linesO l)) := by
  have h3 := tot_length 1 l
  have hb : ∀ x ∈ l, x.length ≤ 1000000 := fun x hx => by have := tot_mem 1 hx; omega
  unfold g.plus_Lines linesO
  by_cases h0 : l = []
  · rw [if_pos (by rw [h0]; rfl), if_pos h0]; rfl
  · have h0' : l.length ≠ 0 := fun e => h0 (List.eq_nil_of_length_eq_zero e)
    rw [if_neg (by omega), if_neg h0, g.plus_joined_plus_Line, if_pos (by unfold Lim; omega)]
    rw [joined_gen (po := lineO) (Lf := L.plus_joined_plus_Line_l1) (fun t => rfl) (fun a r t => rfl) l [] (fun a ha => p_line a (hb a ha)) (by unfold Lim; simp; omega)]
    cases h : allO lineO l with
    | none => rfl
    | some m =>
      have h1 := allO_tot (a := 16) (b := 1) (k := 4) (fun s t h => by have := line_length h; omega) h
      have h2 := allO_length h
      simp only [List.nil_append]
      rw [joined_end [32, 38, 38, 32] m (allO_ne h h0) (show tot 4 m ≤ _ by omega) (by omega)]; rfl
end Go.Proofs.YtainplhaaklpeaaDoor
