/-
  Commits' bytes: what the functions come to; the laws on commits, and on what is put and got (plain Lean). Own work of this seat.
-/
import Derived.Test.YtainplhaaklpeaaDoorGenO2
import Derived.Test.YtainplhaaklpeaaDoorPO
namespace Go.Proofs.YtainplhaaklpeaaDoor
open Go.Abs

abbrev Com := T.Commit
theorem Com.eq {a b : Com} (h1 : a.Root = b.Root) (h2 : a.Parents = b.Parents) (h3 : a.Note = b.Note) : a = b := by
  cases a; cases b; simp only at h1 h2 h3; subst h1; subst h2; subst h3; rfl
def goodC (c : Com) : Bool := decide (c.Note.length ≤ 64) && decide (c.Parents.length ≤ 2)
theorem p_goodC (c : Com) : g.object_GoodCommit c = some (goodC c) := by
  unfold g.object_GoodCommit goodC
  by_cases h : c.Note.length ≤ 64
  · rw [if_pos (by omega), decide_eq_true h, Bool.true_and]; congr 2; exact propext (by omega)
  · rw [if_neg (by omega), decide_eq_false h]; rfl
theorem p_rgoodC (c : Com) : g.seicheref07_GoodCommit c = some (goodC c) := by
  unfold g.seicheref07_GoodCommit goodC
  by_cases h : c.Note.length ≤ 64
  · rw [if_pos (by omega), decide_eq_true h, Bool.true_and]; congr 2; exact propext (by omega)
  · rw [if_neg (by omega), decide_eq_false h]; rfl
def partsC (c : Com) : List Bytes := c.Note :: c.Root.1 :: c.Parents.map (·.1)
theorem lenT_ids (l : List (Arr 32)) : lenT (l.map (·.1)) = 40 * l.length := by
  induction l with
  | nil => rfl
  | cons a r ih => rw [List.map_cons, lenT_cons, ih, a.2]; simp; omega
theorem lenT_partsC (c : Com) : lenT (partsC c) = 48 + c.Note.length + 40 * c.Parents.length := by
  rw [partsC, lenT_cons, lenT_cons, lenT_ids, c.Root.2]; omega
theorem p_putC_l (k0 : List Bytes → Option (Bytes × Int)) : ∀ (l : List (Arr 32)) (acc : List Bytes), acc.length + l.length ≤ 1000000000 → L.object_PutCommit_l1 k0 l acc = k0 (acc ++ l.map (·.1))
  | [], acc, _ => by simp [L.object_PutCommit_l1]
  | a :: r, acc, h => by
    simp only [List.length_cons] at h
    rw [L.object_PutCommit_l1, appL_some (by simp; unfold Lim; omega), Option.bind_some, p_putC_l k0 r _ (by simp; omega)]; simp
def putC (c : Com) : Bytes × Int := if goodC c then (joinS (partsC c), 0) else ([], 1)
theorem p_putC (c : Com) (hp : c.Parents.length ≤ 1000000) (hn : c.Note.length ≤ 1000000) : g.object_PutCommit c = some (putC c) := by
  unfold g.object_PutCommit putC
  rw [p_goodC, Option.bind_some]
  cases goodC c
  · rfl
  · rw [if_pos rfl, if_pos (by unfold Lim; omega), p_putC_l _ c.Parents _ (by simp; omega)]
    have : ([c.Note, c.Root.1] : List Bytes) ++ c.Parents.map (·.1) = partsC c := rfl
    rw [this, p_join _ (by rw [lenT_partsC]; omega)]; rfl
theorem p_rcom_l (k0 : List Bytes → Option Bytes) : ∀ (l : List (Arr 32)) (acc : List Bytes), acc.length + l.length ≤ 1000000000 → L.seicheref07_Commit_l1 k0 l acc = k0 (acc ++ l.map (·.1))
  | [], acc, _ => by simp [L.seicheref07_Commit_l1]
  | a :: r, acc, h => by
    simp only [List.length_cons] at h
    rw [L.seicheref07_Commit_l1, appL_some (by simp; unfold Lim; omega), Option.bind_some, p_rcom_l k0 r _ (by simp; omega)]; simp
theorem p_rcom (c : Com) (hp : c.Parents.length ≤ 1000000) (hn : c.Note.length ≤ 1000000) : g.seicheref07_Commit c = some (joinS (partsC c)) := by
  unfold g.seicheref07_Commit
  rw [if_pos (by unfold Lim; omega), p_rcom_l _ c.Parents _ (by simp; omega)]
  have : ([c.Note, c.Root.1] : List Bytes) ++ c.Parents.map (·.1) = partsC c := rfl
  rw [this, p_rjoin _ (by rw [lenT_partsC]; omega)]; rfl

/-! ## a commit of bytes -/
def idsS : List Bytes → Option (List (Arr 32))
  | [] => some []
  | d :: r => (toArr 32 d).bind fun a => (idsS r).map (a :: ·)
theorem idsS_len : ∀ {p : List Bytes} {l : List (Arr 32)}, idsS p = some l → p.length = l.length ∧ p = l.map (·.1)
  | [], l, h => by simp [idsS] at h; subst h; exact ⟨rfl, rfl⟩
  | d :: r, l, h => by
    simp only [idsS, Option.bind_eq_some_iff, Option.map_eq_some_iff] at h
    obtain ⟨a, ha, l', hl, rfl⟩ := h
    obtain ⟨h1, h2⟩ := idsS_len hl
    exact ⟨by simp [h1], by rw [List.map_cons, ← h2, toArr_eq ha]⟩
theorem idsS_map : ∀ (l : List (Arr 32)), idsS (l.map (·.1)) = some l
  | [] => rfl
  | a :: r => by
    have : toArr 32 a.1 = some a := toArr_of a.2
    simp [idsS, idsS_map r, this]
def zeroC : Com := { Root := Arr.zero 32, Parents := [], Note := [] }
def comS : List Bytes → Option Com
  | n :: d :: r => (toArr 32 d).bind fun a => (idsS r).bind fun l => if goodC ⟨a, l, n⟩ then some ⟨a, l, n⟩ else none
  | _ => none
def getC (b : Bytes) : Option Com := (splitS b).bind comS
theorem p_getC_l (k0 : Com → Com → Option (Com × Int)) (z : Com) : ∀ (p : List Bytes) (k : Nat) (c : Com), 0 < k → c.Parents.length + p.length ≤ 1000000000 →
    L.object_GetCommit_l1 k0 p k z c = match idsS p with | some l => k0 z ⟨c.Root, c.Parents ++ l, c.Note⟩ | none => some (zeroC, 4)
  | [], k, c, _, _ => by simp [L.object_GetCommit_l1, idsS]
  | d :: r, k, c, hk, h => by
    simp only [List.length_cons] at h
    rw [L.object_GetCommit_l1, p_id, Option.bind_some, idsS]
    cases ht : toArr 32 d with
    | none => rw [if_neg (by simp)]; rfl
    | some a =>
      simp only
      rw [if_pos trivial, if_neg (by omega), appL_some (by simp; unfold Lim; omega), Option.bind_some, p_getC_l k0 z r (k + 1) _ (by omega) (by simp; omega)]
      simp only [Option.bind_some]
      cases idsS r <;> simp
theorem p_getC (b : Bytes) (hb : b.length ≤ 1048576) : g.object_GetCommit b = some (match getC b with | some c => (c, 0) | none => (zeroC, 4)) := by
  unfold g.object_GetCommit getC
  rw [p_split b hb, Option.bind_some]
  cases hp : splitS b with
  | none => rw [if_neg (by decide)]; rfl
  | some p =>
    have hpl := lenT_len p
    have hsl := splitS_len hp
    simp only [Option.bind_some]
    rw [if_pos trivial]
    match p with
    | [] => rfl
    | [_] => rfl
    | n :: d :: r =>
      have a0 : at? (n :: d :: r) 0 = some n := at?_nat _ 0
      simp only [List.length_cons] at hpl
      rw [if_neg (by simp only [List.length_cons]; omega), a0, Option.bind_some, cut_tail, Option.bind_some, if_pos (by simp only [List.length_cons]; unfold Lim; omega), L.object_GetCommit_l1, p_id, Option.bind_some, comS]
      cases ht : toArr 32 d with
      | none => rw [if_neg (by simp)]; rfl
      | some a =>
        simp only
        rw [if_pos trivial, if_pos (by decide), p_getC_l _ _ r (0 + 1) _ (by omega) (by simp; omega)]
        simp only [Option.bind_some]
        cases idsS r with
        | none => rfl
        | some l =>
          simp only [List.nil_append, Option.bind_some]
          rw [p_goodC, Option.bind_some]
          cases goodC ⟨a, l, n⟩ <;> rfl
theorem p_rgetC_l1 (k0 : Com → Option (Com × Bool)) (z : Com) : ∀ (p : List Bytes), L.seicheref07_GetCommit_l1 k0 p z = if (idsS p).isSome then k0 z else some (zeroC, false)
  | [] => rfl
  | d :: r => by
    rw [L.seicheref07_GetCommit_l1, idsS]
    by_cases h : d.length = 32
    · rw [if_pos (by omega), p_rgetC_l1 k0 z r, toArr_of h]; simp
    · rw [if_neg (by omega), toArr_not h]; rfl
theorem p_rgetC_l2 (k0 : Com → Com → Option (Com × Bool)) (z : Com) : ∀ (p : List Bytes) (l : List (Arr 32)) (c : Com), idsS p = some l → c.Parents.length + p.length ≤ 1000000000 → L.seicheref07_GetCommit_l2 k0 p z c = k0 z ⟨c.Root, c.Parents ++ l, c.Note⟩
  | [], l, c, hl, _ => by simp [idsS] at hl; subst hl; simp [L.seicheref07_GetCommit_l2]
  | d :: r, l, c, hl, h => by
    simp only [List.length_cons] at h
    simp only [idsS, Option.bind_eq_some_iff, Option.map_eq_some_iff] at hl
    obtain ⟨a, ha, l', hl', rfl⟩ := hl
    have h32 := toArr_len ha
    have hd : mkA d h32 = a := by rw [toArr_of h32] at ha; exact Option.some.inj ha
    rw [L.seicheref07_GetCommit_l2, p_digest d h32, Option.bind_some, appL_some (by simp; unfold Lim; omega), Option.bind_some, p_rgetC_l2 k0 z r l' _ hl' (by simp; omega), hd]
    simp
theorem p_rgetC (b : Bytes) (hb : b.length ≤ 1000000) : g.seicheref07_GetCommit b = some (match getC b with | some c => (c, true) | none => (zeroC, false)) := by
  unfold g.seicheref07_GetCommit getC
  obtain ⟨q, hq, hm⟩ := p_rsplitS b (by omega)
  rw [hq, Option.bind_some]
  cases hp : splitS b with
  | none =>
    rw [hp] at hm
    simp only at hm
    rw [hm]; rfl
  | some p =>
    rw [hp] at hm
    simp only at hm
    subst hm
    have hpl := lenT_len p
    have hsl := splitS_len hp
    simp only [Option.bind_some]
    rw [if_pos trivial]
    match p with
    | [] => rfl
    | [_] => rfl
    | n :: d :: r =>
      have a0 : at? (n :: d :: r) 0 = some n := at?_nat _ 0
      have a1 : at? (n :: d :: r) 1 = some d := at?_nat _ 1
      have c2 : cut (n :: d :: r) 2 ((n :: d :: r).length : Nat) = some r := by
        rw [show (2 : Int) = ((2 : Nat) : Int) from rfl, cut_nat (by simp) (Nat.le_refl _), List.take_length]; rfl
      simp only [List.length_cons] at hpl
      rw [if_neg (by simp only [List.length_cons]; omega), comS]
      by_cases h4 : 4 < (n :: d :: r).length
      · rw [if_pos (by omega)]
        simp only [List.length_cons] at h4
        have hno : ∀ a l, idsS r = some l → goodC ⟨a, l, n⟩ = false := fun a l hl => by
          have := (idsS_len hl).1
          simp [goodC]; omega
        cases toArr 32 d with
        | none => rfl
        | some a =>
          simp only [Option.bind_some]
          cases hi : idsS r with
          | none => rfl
          | some l => simp only [Option.bind_some]; rw [hno a l hi]; rfl
      · rw [if_neg (by omega), a0, Option.bind_some]
        simp only [List.length_cons] at h4
        by_cases h64 : 64 < n.length
        · rw [if_pos (by omega)]
          have hno : ∀ a l, goodC ⟨a, l, n⟩ = false := fun a l => by simp [goodC]; omega
          cases toArr 32 d with
          | none => rfl
          | some a =>
            simp only [Option.bind_some]
            cases idsS r with
            | none => rfl
            | some l => simp only [Option.bind_some]; rw [hno a l]; rfl
        · rw [if_neg (by omega), cut_tail, Option.bind_some, if_pos (by simp only [List.length_cons]; unfold Lim; omega), p_rgetC_l1, idsS]
          cases ht : toArr 32 d with
          | none => rfl
          | some a =>
            have h32 := toArr_len ht
            have hd : mkA d h32 = a := by rw [toArr_of h32] at ht; exact Option.some.inj ht
            simp only [Option.bind_some]
            cases hi : idsS r with
            | none => rfl
            | some l =>
              have hll := (idsS_len hi).1
              simp only [Option.map_some, Option.isSome_some, if_true, Option.bind_some]
              rw [a1, Option.bind_some, p_digest d h32, Option.bind_some, c2, Option.bind_some, if_pos (by unfold Lim; omega), p_rgetC_l2 _ _ r l _ hi (by simp; omega), hd]
              have : goodC ⟨a, l, n⟩ = true := by simp [goodC]; omega
              rw [this]; rfl
theorem p_sameC_l (a b : Com) (k0 : Option Bool) : ∀ (rest : List (Arr 32)) (k : Nat), a.Parents.length = b.Parents.length → a.Parents.drop k = rest → k ≤ a.Parents.length → L.seicheref07_SameCommit_l1 k0 rest k a b = if rest = b.Parents.drop k then k0 else some false
  | [], k, hl, hd, hk => by
    have := drop_nil hd hk
    rw [List.drop_eq_nil_of_le (by omega), if_pos rfl]; rfl
  | e :: rest, k, hl, hd, hk => by
    obtain ⟨hlt, he, hge, hd', _⟩ := drop_cons hd
    rw [L.seicheref07_SameCommit_l1, at?_some hlt, Option.bind_some, at?_some (by omega), Option.bind_some, p_sameC_l a b k0 rest (k + 1) hl hd' (by omega), drop_eq (show k < b.Parents.length by omega), he]
    by_cases h : e = b.Parents[k]'(by omega)
    · rw [if_pos h]
      by_cases h2 : rest = b.Parents.drop (k + 1)
      · rw [if_pos h2, if_pos (by rw [← h, ← h2])]
      · rw [if_neg h2, if_neg (fun hh => h2 (List.cons.inj hh).2)]
    · rw [if_neg h, if_neg (fun hh => h (List.cons.inj hh).1)]
theorem p_sameC (a b : Com) (h : a.Parents.length ≤ 1000000000) : g.seicheref07_SameCommit a b = some (decide (a = b)) := by
  unfold g.seicheref07_SameCommit
  by_cases h1 : a.Root = b.Root
  · rw [if_pos h1]
    by_cases h2 : a.Note = b.Note
    · rw [if_pos h2]
      by_cases h3 : a.Parents.length = b.Parents.length
      · rw [if_pos (by omega), if_pos (by unfold Lim; omega), p_sameC_l a b _ a.Parents 0 h3 rfl (Nat.zero_le _), List.drop_zero]
        by_cases he : a.Parents = b.Parents
        · rw [if_pos he, decide_eq_true (Com.eq h1 he h2)]
        · rw [if_neg he, decide_eq_false (fun hh => he (by rw [hh]))]
      · rw [if_neg (by omega), decide_eq_false (fun hh => h3 (by rw [hh]))]
    · rw [if_neg h2, decide_eq_false (fun hh => h2 (by rw [hh]))]
  · rw [if_neg h1, decide_eq_false (fun hh => h1 (by rw [hh]))]
theorem p_greatC (c : Com) : g.seichelaw07_greatCommit c = some (decide (60 < c.Parents.length) || decide (1024 < c.Note.length)) := by
  unfold g.seichelaw07_greatCommit
  by_cases h : 60 < c.Parents.length
  · rw [if_pos (by omega), decide_eq_true h]; rfl
  · rw [if_neg (by omega), decide_eq_false h, Bool.false_or]; congr 2; exact propext (by omega)
theorem getC_small {b : Bytes} {c : Com} (h : getC b = some c) : c.Parents.length ≤ 2 ∧ c.Note.length ≤ 64 := by
  unfold getC at h
  simp only [Option.bind_eq_some_iff] at h
  obtain ⟨p, _, h⟩ := h
  unfold comS at h
  split at h
  · simp only [Option.bind_eq_some_iff] at h
    obtain ⟨a, _, l, _, h⟩ := h
    split at h
    · rename_i hg
      cases h
      simp only [goodC, Bool.and_eq_true, decide_eq_true_eq] at hg
      exact ⟨hg.2, hg.1⟩
    · cases h
  · cases h
theorem p_objectCommits (c : Com) (b : Bytes) (_ : (V.agg (C.Commit c)).wt ≤ 1048576) (_ : (V.str b).wt ≤ 1048576) : g.seichelaw07_ObjectCommits c b = some true := by
  unfold g.seichelaw07_ObjectCommits
  rw [p_alive07, Option.bind_some, if_pos rfl, p_greatC, Option.bind_some]
  by_cases hg : (decide (60 < c.Parents.length) || decide (1024 < c.Note.length)) = true
  · rw [if_pos hg]
  · rw [if_neg hg]
    simp only [Bool.or_eq_true, decide_eq_true_eq, not_or] at hg
    by_cases hb : 4096 < b.length
    · rw [if_pos (by omega)]
    · have hj : L.seichelaw07_ObjectCommits_j1 b = some true := by
        unfold L.seichelaw07_ObjectCommits_j1
        rw [p_getC b (by omega), Option.bind_some, p_rgetC b (by omega), Option.bind_some]
        cases hgt : getC b with
        | none => simp [p_sameC, zeroC]
        | some x => simp [p_sameC _ _ (show x.Parents.length ≤ 1000000000 by have := (getC_small hgt).1; omega)]
      rw [if_neg (by omega), p_putC c (by omega) (by omega), Option.bind_some, p_rgoodC, Option.bind_some, p_goodC, Option.bind_some, if_pos (by simp), putC]
      cases hgt : goodC c
      · simp only [Bool.false_eq_true, if_false]
        rw [if_pos (by decide), if_pos trivial, if_pos trivial, hj]
      · simp only [if_true]
        rw [if_pos (by decide), p_rcom c (by omega) (by omega), Option.bind_some, if_pos rfl, hj]

/-! ## what is put is got, and back -/
theorem be8_val : ∀ {s : Bytes}, s.length = 8 → be8 (val s) = s := fun {s} h => by
  match s, h with
  | [a, b, c, d, e, f, g, h'], _ =>
    have ha := a.toNat_lt; have hb := b.toNat_lt; have hc := c.toNat_lt; have hd := d.toNat_lt
    have he := e.toNat_lt; have hf := f.toNat_lt; have hg := g.toNat_lt; have hh := h'.toNat_lt
    simp only [be8, val, List.foldl_cons, List.foldl_nil, List.cons.injEq, and_true]
    refine ⟨?_, ?_, ?_, ?_, ?_, ?_, ?_, ?_⟩ <;> (apply UInt8.toNat_inj.1; simp only [UInt8.toNat_ofNat']; omega)
theorem val_be8 {n : Nat} (h : n < 18446744073709551616) : val (be8 n) = n := by
  simp only [be8, val, List.foldl_cons, List.foldl_nil, UInt8.toNat_ofNat']
  omega
theorem splitT_join : ∀ (l : List Bytes), lenT l < 1000000000 → splitT l.length (joinT l) = some l
  | [], _ => rfl
  | p :: r, h => by
    rw [lenT_cons] at h
    have ih := splitT_join r (by omega)
    have e1 : (joinT (p :: r)).take 8 = be8 p.length := by rw [joinT, List.append_assoc]; exact List.take_left' rfl
    have e2 : (joinT (p :: r)).length = 8 + p.length + lenT r := by rw [joinT_length, lenT_cons]
    have e3 : (joinT (p :: r)).drop (8 + p.length) = joinT r := by
      rw [joinT]; exact List.drop_left' (by simp)
    have e4 : ((joinT (p :: r)).drop 8).take p.length = p := by
      have : (joinT (p :: r)).drop 8 = p ++ joinT r := by rw [joinT, List.append_assoc]; exact List.drop_left' rfl
      rw [this]; exact List.take_left' rfl
    rw [List.length_cons, splitT, e1, val_be8 (by omega), if_neg (by omega), e3, ih, e4]; rfl
theorem splitS_join (l : List Bytes) (h : lenT l < 1000000000) : splitS (joinS l) = some l := by
  have hl := lenT_len l
  have e1 : (joinS l).take 8 = be8 l.length := by rw [joinS]; exact List.take_left' rfl
  have e2 : (joinS l).drop 8 = joinT l := by rw [joinS]; exact List.drop_left' rfl
  have e3 : (joinS l).length = 8 + lenT l := by simp [joinS, joinT_length]
  rw [splitS, if_neg (by omega), e1, e2, val_be8 (by omega), splitT_join l h]
theorem join_splitT : ∀ {k : Nat} {s : Bytes} {l : List Bytes}, splitT k s = some l → joinT l = s
  | 0, s, l, h => by
    simp only [splitT] at h
    split at h
    · rename_i hs; cases h; exact hs.symm
    · cases h
  | k + 1, s, l, h => by
    simp only [splitT] at h
    split at h
    · cases h
    · rename_i hc
      simp only [Option.map_eq_some_iff] at h
      obtain ⟨r, hr, rfl⟩ := h
      have ih := join_splitT hr
      have hlen : ((s.drop 8).take (val (s.take 8))).length = val (s.take 8) := by simp; omega
      rw [joinT, ih, hlen, be8_val (by simp; omega)]
      have : s.drop (8 + val (s.take 8)) = (s.drop 8).drop (val (s.take 8)) := by rw [List.drop_drop]
      rw [this, List.append_assoc, List.take_append_drop, List.take_append_drop]
theorem join_splitS {s : Bytes} {l : List Bytes} (h : splitS s = some l) : joinS l = s := by
  unfold splitS at h
  split at h
  · cases h
  · rename_i hc
    have h1 := (splitT_len h).1
    rw [joinS, join_splitT h, h1, be8_val (by simp; omega), List.take_append_drop]
theorem entS_parts : ∀ (l : List Ent), entS (partsOf l) = some l
  | [] => rfl
  | e :: r => by
    have ih := entS_parts r
    have : partsOf (e :: r) = kindB e.Tree :: e.Name :: e.Id.1 :: partsOf r := rfl
    have ht : toArr 32 e.Id.1 = some e.Id := toArr_of e.Id.2
    rw [this, entS, ih, ht]
    obtain ⟨nm, t, d⟩ := e
    cases t <;> rfl
theorem parts_entS : ∀ {p : List Bytes} {l : List Ent}, entS p = some l → partsOf l = p
  | [], l, h => by simp [entS] at h; subst h; rfl
  | k :: n :: d :: r, l, h => by
    simp only [entS] at h
    split at h
    · rename_i hk
      split at h
      · rename_i a ha
        simp only [Option.map_eq_some_iff] at h
        obtain ⟨l', h', rfl⟩ := h
        have ih := parts_entS h'
        show kindB (decide (k = sTree)) :: n :: a.1 :: partsOf l' = _
        rw [ih, toArr_eq ha]
        rcases hk with rfl | rfl <;> rfl
      · cases h
    · cases h
  | [_], l, h => by simp [entS] at h
  | [_, _], l, h => by simp [entS] at h
theorem getT_put {l : List Ent} (hg : goodT l = true) (h : lenT (partsOf l) < 1000000000) : getT (joinS (partsOf l)) = some l := by
  simp [getT, splitS_join _ h, entS_parts, hg]
theorem put_getT {b : Bytes} {l : List Ent} (h : getT b = some l) : goodT l = true ∧ joinS (partsOf l) = b := by
  unfold getT at h
  simp only [Option.bind_eq_some_iff] at h
  obtain ⟨p, hp, m, hm, h⟩ := h
  split at h
  · rename_i hg
    cases h
    exact ⟨hg, by rw [parts_entS hm, join_splitS hp]⟩
  · cases h
theorem getC_put {c : Com} (hg : goodC c = true) : getC (joinS (partsC c)) = some c := by
  have hg' := hg
  simp only [goodC, Bool.and_eq_true, decide_eq_true_eq] at hg'
  have ht : toArr 32 c.Root.1 = some c.Root := toArr_of c.Root.2
  rw [getC, splitS_join (partsC c) (by rw [lenT_partsC]; omega)]
  simp only [Option.bind_some, partsC, comS, ht, idsS_map, hg, if_true]
theorem put_getC {b : Bytes} {c : Com} (h : getC b = some c) : goodC c = true ∧ joinS (partsC c) = b := by
  unfold getC at h
  simp only [Option.bind_eq_some_iff] at h
  obtain ⟨p, hp, h⟩ := h
  unfold comS at h
  split at h
  · rename_i n d r
    simp only [Option.bind_eq_some_iff] at h
    obtain ⟨a, ha, l, hl, h⟩ := h
    split at h
    · rename_i hg
      cases h
      refine ⟨hg, ?_⟩
      have : partsC ⟨a, l, n⟩ = n :: d :: r := by rw [partsC, toArr_eq ha, ← (idsS_len hl).2]
      rw [this, join_splitS hp]
    · cases h
  · cases h
theorem p_objectBack (l : List Ent) (c : Com) (b : Bytes) (hl : (V.sl false 34 (List.map E.Entry l)).wt ≤ 1048576) (_ : (V.agg (C.Commit c)).wt ≤ 1048576) (_ : (V.str b).wt ≤ 1048576) : g.seichelaw07_ObjectBack l c b = some true := by
  obtain ⟨hs, hll⟩ := shortE_of hl
  unfold g.seichelaw07_ObjectBack
  rw [p_alive07, Option.bind_some, if_pos rfl, p_great l hs (by omega), Option.bind_some]
  by_cases hg : (decide (4096 < sumN l) || decide (60 < l.length)) = true
  · rw [if_pos hg]
  · rw [if_neg hg]
    simp only [Bool.or_eq_true, decide_eq_true_eq, not_or] at hg
    rw [p_greatC, Option.bind_some]
    by_cases hgc : (decide (60 < c.Parents.length) || decide (1024 < c.Note.length)) = true
    · rw [if_pos hgc]
    · rw [if_neg hgc]
      simp only [Bool.or_eq_true, decide_eq_true_eq, not_or] at hgc
      by_cases hb : 4096 < b.length
      · rw [if_pos (by omega)]
      · rw [if_neg (by omega)]
        have h3 : L.seichelaw07_ObjectBack_j3 b = some true := by
          unfold L.seichelaw07_ObjectBack_j3
          rw [p_getC b (by omega), Option.bind_some]
          cases hgt : getC b with
          | none => rfl
          | some x =>
            obtain ⟨h1, h2⟩ := put_getC hgt
            have hx := getC_small hgt
            simp only
            rw [if_pos trivial, p_putC x (by omega) (by omega), Option.bind_some, putC, if_pos h1, h2]
            simp
        have h2 : L.seichelaw07_ObjectBack_j2 b = some true := by
          unfold L.seichelaw07_ObjectBack_j2
          rw [p_get b (by omega), Option.bind_some]
          cases hgt : getT b with
          | none => exact h3
          | some x =>
            obtain ⟨h1, h2⟩ := put_getT hgt
            have hx : shortE x ∧ lenT (partsOf x) ≤ 4096 := by
              have e : lenT (partsOf x) ≤ 4096 := by
                have : (joinS (partsOf x)).length = b.length := by rw [h2]
                simp [joinS, joinT_length] at this; omega
              refine ⟨fun y hy => ?_, e⟩
              have hm : y.Name ∈ partsOf x := by simp only [partsOf, List.mem_flatMap]; exact ⟨y, hy, by simp⟩
              have := mem_lenT hm; omega
            simp only
            rw [if_pos trivial, p_put x hx.1 (by omega), Option.bind_some, putT, if_pos h1, h2]
            simp only
            rw [if_pos trivial, if_pos trivial, h3]
        have h1 : L.seichelaw07_ObjectBack_j1 c b = some true := by
          unfold L.seichelaw07_ObjectBack_j1
          rw [p_putC c (by omega) (by omega), Option.bind_some, putC]
          cases hgt : goodC c
          · simp only [Bool.false_eq_true, if_false]; rw [if_neg (by decide), h2]
          · simp only [if_true]
            have hlen : (joinS (partsC c)).length ≤ 1048576 := by simp [joinS, joinT_length, lenT_partsC]; omega
            rw [p_getC _ hlen, Option.bind_some, getC_put hgt]
            simp only
            rw [if_pos trivial, p_sameC c c (by omega), Option.bind_some, if_pos (by simp), h2]
        have hlen : lenT (partsOf l) ≤ 10000 := by rw [lenT_parts]; omega
        rw [p_put l hs (by omega), Option.bind_some, putT]
        cases hgt : goodT l
        · simp only [Bool.false_eq_true, if_false]; rw [if_neg (by decide), h1]
        · simp only [if_true]
          have hlen2 : (joinS (partsOf l)).length ≤ 1048576 := by simp [joinS, joinT_length]; omega
          rw [p_get _ hlen2, Option.bind_some, getT_put hgt (by omega)]
          simp only
          rw [if_pos trivial, p_same l l (by omega), Option.bind_some, if_pos (by simp), h1]
end Go.Proofs.YtainplhaaklpeaaDoor
