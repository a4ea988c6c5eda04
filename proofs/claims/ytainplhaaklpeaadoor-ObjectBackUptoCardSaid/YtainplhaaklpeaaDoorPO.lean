/-
  Trees' bytes: what the functions come to; the law on trees (plain Lean). Own work of this seat.
-/
import Derived.Test.YtainplhaaklpeaaDoorGenO
import Derived.Test.YtainplhaaklpeaaDoorPT
import Derived.Test.YtainplhaaklpeaaDoorCD
namespace Go.Proofs.YtainplhaaklpeaaDoor
open Go.Abs

abbrev Ent := T.Entry
def shortE (l : List Ent) : Prop := ∀ e ∈ l, e.Name.length ≤ 100000000

/-! ## good trees -/
def goodFrom (q : Option Bytes) : List Ent → Bool
  | [] => true
  | e :: r => goodP e.Name && decide ((splitOn 47 e.Name).length = 1) && (match q with | some n => Op.bytesLess n e.Name | none => true) && goodFrom (some e.Name) r
def goodT (l : List Ent) : Bool := goodFrom none l && decide (l.length ≤ 512)
def prevN (l : List Ent) (k : Nat) : Option Bytes := if k = 0 then none else (l[k - 1]?).map (·.Name)
theorem prevN_succ {l : List Ent} {k : Nat} {e : Ent} (h : l[k]? = some e) : prevN l (k + 1) = some e.Name := by simp [prevN, h]
theorem p_goodT_l (l : List Ent) (hs : shortE l) (hl : l.length ≤ 1000000000) (k0 : Option Bool) : ∀ (rest : List Ent) (k : Nat), l.drop k = rest → k ≤ l.length → L.object_GoodTree_l1 l k0 rest k = if goodFrom (prevN l k) rest then k0 else some false
  | [], k, _, _ => rfl
  | e :: rest, k, hd, hk => by
    obtain ⟨hlt, he, hge, hd', _⟩ := drop_cons hd
    have hle : e.Name.length ≤ 100000000 := hs e (by rw [← he]; exact List.getElem_mem _)
    rw [L.object_GoodTree_l1, p_good _ (by omega), Option.bind_some]
    have ih := p_goodT_l l hs hl k0 rest (k + 1) hd' (by omega)
    rw [prevN_succ hge] at ih
    have hgf : goodFrom (prevN l k) (e :: rest) = (goodP e.Name && decide ((splitOn 47 e.Name).length = 1) && (match prevN l k with | some n => Op.bytesLess n e.Name | none => true) && goodFrom (some e.Name) rest) := rfl
    rw [hgf]
    cases hg : goodP e.Name
    · rw [if_neg (by simp)]; simp
    · rw [if_pos rfl, p_dir _ (by omega), Option.bind_some]
      by_cases h1 : (splitOn 47 e.Name).length = 1
      · rw [if_pos ((dir_one hg).2 h1), decide_eq_true h1]
        by_cases hk0 : k = 0
        · subst hk0
          rw [if_neg (by decide), ih]
          simp [prevN]
        · rw [if_pos (by omega), show wi ((k : Int) - 1) = ((k - 1 : Nat) : Int) by rw [wi_of (by omega) (by omega)]; omega, at?_some (by omega), Option.bind_some]
          have hp : prevN l k = some (l[k - 1]'(by omega)).Name := by simp [prevN, hk0, show k - 1 < l.length by omega]
          rw [hp]
          cases hb : Op.bytesLess (l[k - 1]'(by omega)).Name e.Name
          · rw [if_neg (by simp)]; simp [hb]
          · rw [if_pos rfl, ih]; simp [hb]
      · rw [if_neg (fun h => h1 ((dir_one hg).1 h)), decide_eq_false h1]; simp
theorem p_goodT (l : List Ent) (hs : shortE l) (hl : l.length ≤ 1000000000) : g.object_GoodTree l = some (goodT l) := by
  rw [g.object_GoodTree, if_pos (by unfold Lim; omega), p_goodT_l l hs hl _ l 0 rfl (Nat.zero_le _), goodT]
  show (if goodFrom none l = true then _ else _) = _
  cases goodFrom none l
  · rfl
  · rw [if_pos rfl, Bool.true_and]; congr 2; exact propext (by omega)
theorem p_rgoodT_l (l : List Ent) (hs : shortE l) (hl : l.length ≤ 1000000000) (k0 : Option Bool) : ∀ (rest : List Ent) (k : Nat), l.drop k = rest → k ≤ l.length → L.seicheref07_GoodTree_l1 l k0 rest k = if goodFrom (prevN l k) rest then k0 else some false
  | [], k, _, _ => rfl
  | e :: rest, k, hd, hk => by
    obtain ⟨hlt, he, hge, hd', _⟩ := drop_cons hd
    have hle : e.Name.length ≤ 100000000 := hs e (by rw [← he]; exact List.getElem_mem _)
    rw [L.seicheref07_GoodTree_l1, p_rgood _ (by omega), Option.bind_some]
    have ih := p_rgoodT_l l hs hl k0 rest (k + 1) hd' (by omega)
    rw [prevN_succ hge] at ih
    have hgf : goodFrom (prevN l k) (e :: rest) = (goodP e.Name && decide ((splitOn 47 e.Name).length = 1) && (match prevN l k with | some n => Op.bytesLess n e.Name | none => true) && goodFrom (some e.Name) rest) := rfl
    rw [hgf]
    cases hg : goodP e.Name
    · rw [if_neg (by simp)]; simp
    · rw [if_pos rfl, p_parts _ (by omega), Option.bind_some]
      by_cases h1 : (splitOn 47 e.Name).length = 1
      · rw [if_pos (by omega), decide_eq_true h1]
        by_cases hk0 : k = 0
        · subst hk0
          rw [if_neg (by decide), ih]
          simp [prevN]
        · rw [if_pos (by omega), show wi ((k : Int) - 1) = ((k - 1 : Nat) : Int) by rw [wi_of (by omega) (by omega)]; omega, at?_some (by omega), Option.bind_some]
          have hp : prevN l k = some (l[k - 1]'(by omega)).Name := by simp [prevN, hk0, show k - 1 < l.length by omega]
          rw [hp]
          cases hb : Op.bytesLess (l[k - 1]'(by omega)).Name e.Name
          · rw [if_neg (by simp)]; simp [hb]
          · rw [if_pos rfl, ih]; simp [hb]
      · rw [if_neg (by omega), decide_eq_false h1]; simp
theorem p_rgoodT (l : List Ent) (hs : shortE l) (hl : l.length ≤ 1000000000) : g.seicheref07_GoodTree l = some (goodT l) := by
  rw [g.seicheref07_GoodTree, if_pos (by unfold Lim; omega), p_rgoodT_l l hs hl _ l 0 rfl (Nat.zero_le _), goodT]
  show (if goodFrom none l = true then _ else _) = _
  cases goodFrom none l
  · rfl
  · rw [if_pos rfl, Bool.true_and]; congr 2; exact propext (by omega)

/-! ## a tree's bytes -/
abbrev sBlob : Bytes := [98, 108, 111, 98]
abbrev sTree : Bytes := [116, 114, 101, 101]
def kindB (b : Bool) : Bytes := if b then sTree else sBlob
def partsOf (l : List Ent) : List Bytes := l.flatMap fun e => [kindB e.Tree, e.Name, e.Id.1]
theorem partsOf_length (l : List Ent) : (partsOf l).length = 3 * l.length := by
  induction l with
  | nil => rfl
  | cons e r ih => simp only [partsOf, List.flatMap_cons, List.length_append, List.length_cons, List.length_nil] at ih ⊢; omega
theorem p_put_l (k0 : List Bytes → Option (Bytes × Int)) : ∀ (l : List Ent) (acc : List Bytes), acc.length + 3 * l.length ≤ 1000000000 → L.object_PutTree_l1 k0 l acc = k0 (acc ++ partsOf l)
  | [], acc, _ => by simp [L.object_PutTree_l1, partsOf]
  | e :: r, acc, h => by
    simp only [List.length_cons] at h
    rw [L.object_PutTree_l1]
    cases he : e.Tree
    · rw [if_neg (by simp), L.object_PutTree_j1, appL_some (by simp; unfold Lim; omega), Option.bind_some, p_put_l k0 r _ (by simp; omega)]
      simp [partsOf, kindB, he, sBlob]
    · rw [if_pos rfl, L.object_PutTree_j1, appL_some (by simp; unfold Lim; omega), Option.bind_some, p_put_l k0 r _ (by simp; omega)]
      simp [partsOf, kindB, he, sTree]
def putT (l : List Ent) : Bytes × Int := if goodT l then (joinS (partsOf l), 0) else ([], 1)
theorem p_put (l : List Ent) (hs : shortE l) (hl : lenT (partsOf l) ≤ 100000000) : g.object_PutTree l = some (putT l) := by
  have h3 := lenT_len (partsOf l)
  rw [partsOf_length] at h3
  unfold g.object_PutTree putT
  rw [p_goodT l hs (by omega), Option.bind_some]
  cases goodT l
  · rfl
  · rw [if_pos rfl, if_pos (by unfold Lim; omega), p_put_l _ l [] (by simp; omega), List.nil_append, p_join _ hl]; rfl
theorem p_rtree_l (k0 : List Bytes → Option Bytes) : ∀ (l : List Ent) (acc : List Bytes), acc.length + 3 * l.length ≤ 1000000000 → L.seicheref07_Tree_l1 k0 l acc = k0 (acc ++ partsOf l)
  | [], acc, _ => by simp [L.seicheref07_Tree_l1, partsOf]
  | e :: r, acc, h => by
    simp only [List.length_cons] at h
    rw [L.seicheref07_Tree_l1]
    cases he : e.Tree
    · rw [if_neg (by simp), appL_some (by simp; unfold Lim; omega), Option.bind_some, L.seicheref07_Tree_j1, appL_some (by simp; unfold Lim; omega), Option.bind_some, p_rtree_l k0 r _ (by simp; omega)]
      simp [partsOf, kindB, he, sBlob]
    · rw [if_pos rfl, appL_some (by simp; unfold Lim; omega), Option.bind_some, L.seicheref07_Tree_j1, appL_some (by simp; unfold Lim; omega), Option.bind_some, p_rtree_l k0 r _ (by simp; omega)]
      simp [partsOf, kindB, he, sTree]
theorem p_rtree (l : List Ent) (hl : lenT (partsOf l) ≤ 100000000) : g.seicheref07_Tree l = some (joinS (partsOf l)) := by
  have h3 := lenT_len (partsOf l)
  rw [partsOf_length] at h3
  unfold g.seicheref07_Tree
  rw [if_pos (by unfold Lim; omega), p_rtree_l _ l [] (by simp; omega), List.nil_append, p_rjoin _ hl]; rfl

/-! ## the entries of bytes -/
def mkA {n : Nat} (b : Bytes) (h : b.length = n) : Arr n := ⟨b, h⟩
theorem toArr_of {n : Nat} {b : Bytes} (h : b.length = n) : toArr n b = some (mkA b h) := dif_pos h
theorem toArr_not {n : Nat} {b : Bytes} (h : b.length ≠ n) : toArr n b = none := dif_neg h
theorem p_id (d : Bytes) : g.object_id d = some (match toArr 32 d with | some a => (a, true) | none => (Arr.zero 32, false)) := by
  unfold g.object_id
  by_cases h : d.length = 32
  · rw [if_pos (by omega), toArr_of h]; rfl
  · rw [if_neg (by omega), toArr_not h]
theorem p_digest_l (d : Bytes) (h : d.length = 32) (k0 : Arr 32 → Arr 32 → Option (Arr 32)) (y : Arr 32) : ∀ (m i : Nat) (x : Arr 32), m + i = 33 → i ≤ 32 → x.1.take i = d.take i →
    L.seicheref07_digest_l1 d k0 (999999999967 + m) y x i = k0 y (mkA d h)
  | 0, i, x, hm, hi, _ => by omega
  | m + 1, i, x, hm, hi, hx => by
    rw [show 999999999967 + (m + 1) = (999999999967 + m) + 1 from rfl, L.seicheref07_digest_l1]
    by_cases hlt : i < 32
    · have e3 : inR 32 (i : Int) = some () := if_pos (by omega)
      rw [if_pos (by omega), at?_some (by omega), Option.bind_some, e3, Option.bind_some, wi_succ (by omega)]
      refine p_digest_l d h k0 y m (i + 1) _ (by omega) (by omega) ?_
      show (x.1.set ((i : Int)).toNat _).take (i + 1) = _
      have hxl : i < x.1.length := by rw [x.2]; exact hlt
      rw [Int.toNat_natCast, List.take_add_one, List.take_add_one, List.take_set_of_le (Nat.le_refl _), hx, List.getElem?_set, if_pos rfl, if_pos hxl, List.getElem?_eq_getElem (show i < d.length by omega)]
    · have : i = 32 := by omega
      subst this
      rw [if_neg (by decide)]
      congr 1
      apply Subtype.ext
      have h1 : x.1.take 32 = x.1 := List.take_of_length_le (by rw [x.2]; exact Nat.le_refl _)
      have h2 : d.take 32 = d := List.take_of_length_le (by omega)
      rw [h1, h2] at hx; exact hx
theorem p_digest (d : Bytes) (h : d.length = 32) : g.seicheref07_digest d = some (mkA d h) := by
  unfold g.seicheref07_digest
  rw [show fuel = 999999999967 + 33 from rfl]
  exact p_digest_l d h _ _ 33 0 _ rfl (by omega) rfl

def entS : List Bytes → Option (List Ent)
  | [] => some []
  | k :: n :: d :: r => if k = sBlob ∨ k = sTree then (match toArr 32 d with | some a => (entS r).map (⟨n, decide (k = sTree), a⟩ :: ·) | none => none) else none
  | [_] => none
  | [_, _] => none
theorem entS_len : ∀ {p : List Bytes} {l : List Ent}, entS p = some l → p.length = 3 * l.length
  | [], l, h => by simp [entS] at h; subst h; rfl
  | k :: n :: d :: r, l, h => by
    simp only [entS] at h
    split at h
    · split at h
      · simp only [Option.map_eq_some_iff] at h
        obtain ⟨l', h', rfl⟩ := h
        have := entS_len h'
        simp; omega
      · cases h
    · cases h
  | [_], l, h => by simp [entS] at h
  | [_, _], l, h => by simp [entS] at h
theorem entS_names : ∀ {p : List Bytes} {l : List Ent}, entS p = some l → ∀ e ∈ l, e.Name ∈ p
  | [], l, h => by simp [entS] at h; subst h; simp
  | k :: n :: d :: r, l, h => by
    simp only [entS] at h
    split at h
    · split at h
      · simp only [Option.map_eq_some_iff] at h
        obtain ⟨l', h', rfl⟩ := h
        intro e he
        rcases List.mem_cons.1 he with rfl | he
        · simp
        · have := entS_names h' e he; simp [this]
      · cases h
    · cases h
  | [_], l, h => by simp [entS] at h
  | [_, _], l, h => by simp [entS] at h
theorem entS_mod : ∀ {p : List Bytes}, p.length % 3 ≠ 0 → entS p = none := fun {p} h => by
  cases he : entS p with
  | none => rfl
  | some l => have := entS_len he; omega
/-- the entries; none: no tree's bytes -/
def getT (b : Bytes) : Option (List Ent) := (splitS b).bind fun p => (entS p).bind fun l => if goodT l then some l else none
theorem tmod3 (n : Nat) : (Int.tmod (n : Int) 3 = 0) ↔ n % 3 = 0 := by rw [Int.tmod_eq_emod_of_nonneg (by omega)]; omega
theorem p_get_l (k0 : List Ent → Option (List Ent × Int)) : ∀ (n : Nat) (p : List Bytes) (acc : List Ent), p.length < n → p.length % 3 = 0 → acc.length + p.length ≤ 1000000000 →
    L.object_GetTree_l1 k0 n p acc = match entS p with | some l => k0 (acc ++ l) | none => some ([], 4)
  | 0, p, acc, hn, _, _ => by omega
  | n + 1, [], acc, _, _, _ => by rw [L.object_GetTree_l1, if_neg (by simp)]; simp [entS]
  | n + 1, [_], acc, _, h3, _ => by simp at h3
  | n + 1, [_, _], acc, _, h3, _ => by simp at h3
  | n + 1, k :: nm :: d :: r, acc, hn, h3, ha => by
    simp only [List.length_cons] at hn h3 ha
    have hn' : ¬ r.length + 1 + 1 + 1 = 0 := by omega
    have a0 : at? (k :: nm :: d :: r) 0 = some k := at?_nat _ 0
    have a1 : at? (k :: nm :: d :: r) 1 = some nm := at?_nat _ 1
    have a2 : at? (k :: nm :: d :: r) 2 = some d := at?_nat _ 2
    have c3 : cut (k :: nm :: d :: r) 3 ((k :: nm :: d :: r).length : Nat) = some r := by
      rw [show (3 : Int) = ((3 : Nat) : Int) from rfl, cut_nat (by simp) (Nat.le_refl _), List.take_length]; rfl
    have ih := fun acc' h => p_get_l k0 n r acc' (by omega) (by omega) h
    rw [L.object_GetTree_l1, if_pos (by simp only [List.length_cons]; omega), a2, Option.bind_some, p_id, Option.bind_some, entS]
    cases ht : toArr 32 d with
    | none =>
      rw [if_neg (by simp)]
      by_cases hk : k = sBlob ∨ k = sTree
      · rw [if_pos hk]
      · rw [if_neg hk]
    | some a =>
      simp only
      rw [if_pos trivial, a0, Option.bind_some]
      by_cases hb : k = sBlob
      · subst hb
        rw [if_pos rfl, if_pos (.inl rfl)]
        simp only [L.object_GetTree_j2, L.object_GetTree_j1]
        rw [a1, Option.bind_some, a0, Option.bind_some, appL_some (by simp; unfold Lim; omega), Option.bind_some, c3, Option.bind_some, ih _ (by simp; omega)]
        have e : decide (sBlob = ([116, 114, 101, 101] : Bytes)) = decide (sBlob = sTree) := rfl
        rw [e]
        cases entS r <;> simp
      · rw [if_neg hb]
        by_cases ht2 : k = sTree
        · subst ht2
          rw [if_pos rfl, if_pos (.inr rfl)]
          simp only [L.object_GetTree_j2, L.object_GetTree_j1]
          rw [a1, Option.bind_some, a0, Option.bind_some, appL_some (by simp; unfold Lim; omega), Option.bind_some, c3, Option.bind_some, ih _ (by simp; omega)]
          have e : decide (sTree = ([116, 114, 101, 101] : Bytes)) = decide (sTree = sTree) := rfl
          rw [e]
          cases entS r <;> simp
        · rw [if_neg ht2, if_neg (by rintro (h | h); exact hb h; exact ht2 h)]
theorem mem_lenT {l : List Bytes} {x : Bytes} (h : x ∈ l) : x.length ≤ lenT l := by
  induction l with
  | nil => cases h
  | cons a r ih =>
    rw [lenT_cons]
    rcases List.mem_cons.1 h with rfl | h
    · omega
    · have := ih h; omega
theorem splitS_len {s : Bytes} {l : List Bytes} (h : splitS s = some l) : lenT l ≤ s.length := by
  unfold splitS at h
  split at h
  · cases h
  · have := (splitT_len h).2; simp at this; omega
theorem short_of {b : Bytes} {p : List Bytes} {l : List Ent} (hb : b.length ≤ 1048576) (hp : splitS b = some p) (hl : entS p = some l) : shortE l ∧ l.length ≤ 1048576 := by
  have h1 := splitS_len hp
  have h2 := entS_len hl
  have h3 := lenT_len p
  exact ⟨fun e he => by have := mem_lenT (entS_names hl e he); omega, by omega⟩
theorem p_get (b : Bytes) (hb : b.length ≤ 1048576) : g.object_GetTree b = some (match getT b with | some l => (l, 0) | none => ([], 4)) := by
  unfold g.object_GetTree getT
  rw [p_split b hb, Option.bind_some]
  cases hp : splitS b with
  | none => rw [if_neg (by decide)]; rfl
  | some p =>
    simp only [Option.bind_some]
    have hpl := lenT_len p
    have hsl := splitS_len hp
    rw [if_pos trivial]
    by_cases h3 : p.length % 3 = 0
    · rw [if_pos ((tmod3 _).2 h3), p_get_l _ fuel p [] (by unfold fuel; omega) h3 (by simp; omega)]
      cases he : entS p with
      | none => rfl
      | some l =>
        obtain ⟨h4, h5⟩ := short_of hb hp he
        simp only [List.nil_append, Option.bind_some]
        rw [p_goodT l h4 (by omega), Option.bind_some]
        cases goodT l <;> rfl
    · rw [if_neg (fun h => h3 ((tmod3 _).1 h)), entS_mod h3]; rfl
theorem p_rget_l (p : List Bytes) (hp : p.length ≤ 1000000) (h3 : p.length % 3 = 0) (k0 : List Ent → Option (List Ent × Bool)) : ∀ (n i : Nat) (acc : List Ent), p.length < n + i → i % 3 = 0 → i ≤ p.length → acc.length ≤ i →
    L.seicheref07_GetTree_l1 p k0 n acc i = match entS (p.drop i) with | some l => k0 (acc ++ l) | none => some ([], false)
  | 0, i, acc, hn, _, _, _ => by omega
  | n + 1, i, acc, hn, hi, hil, ha => by
    rw [L.seicheref07_GetTree_l1]
    by_cases hlt : i < p.length
    · have h2 : i + 2 < p.length := by omega
      have e1 : wi ((i : Int) + 1) = ((i + 1 : Nat) : Int) := wi_succ (by omega)
      have e2 : wi ((i : Int) + 2) = ((i + 2 : Nat) : Int) := by rw [wi_of (by omega) (by omega)]; omega
      have e3 : wi ((i : Int) + 3) = ((i + 3 : Nat) : Int) := by rw [wi_of (by omega) (by omega)]; omega
      have hd : p.drop i = p[i] :: p[i + 1] :: p[i + 2] :: p.drop (i + 3) := by rw [drop_eq hlt, drop_eq (show i + 1 < p.length by omega), drop_eq h2]
      have ih := fun acc' h => p_rget_l p hp h3 k0 n (i + 3) acc' (by omega) (by omega) (by omega) h
      rw [if_pos (by omega), at?_some hlt, Option.bind_some, hd, entS]
      by_cases hb : p[i] = sBlob
      · rw [if_pos hb, if_pos (.inl hb), e2, at?_some h2, Option.bind_some]
        by_cases h32 : (p[i + 2]).length = 32
        · rw [if_pos (by omega), toArr_of h32]
          simp only [L.seicheref07_GetTree_j1]
          rw [e1, at?_some (by omega), Option.bind_some, at?_some hlt, Option.bind_some, e2, at?_some h2, Option.bind_some, p_digest _ h32, Option.bind_some, appL_some (by simp; unfold Lim; omega), Option.bind_some, e3, ih _ (by simp; omega)]
          have e : decide (p[i] = ([116, 114, 101, 101] : Bytes)) = decide (p[i] = sTree) := rfl
          rw [e]
          cases entS (p.drop (i + 3)) <;> simp
        · rw [if_neg (by omega), toArr_not h32]
      · rw [if_neg hb]
        by_cases ht2 : p[i] = sTree
        · rw [if_pos ht2, if_pos (.inr ht2), e2, at?_some h2, Option.bind_some]
          by_cases h32 : (p[i + 2]).length = 32
          · rw [if_pos (by omega), toArr_of h32]
            simp only [L.seicheref07_GetTree_j1]
            rw [e1, at?_some (by omega), Option.bind_some, at?_some hlt, Option.bind_some, e2, at?_some h2, Option.bind_some, p_digest _ h32, Option.bind_some, appL_some (by simp; unfold Lim; omega), Option.bind_some, e3, ih _ (by simp; omega)]
            have e : decide (p[i] = ([116, 114, 101, 101] : Bytes)) = decide (p[i] = sTree) := rfl
            rw [e]
            cases entS (p.drop (i + 3)) <;> simp
          · rw [if_neg (by omega), toArr_not h32]
        · rw [if_neg ht2, if_neg (by rintro (h | h); exact hb h; exact ht2 h)]
    · rw [if_neg (by omega), List.drop_eq_nil_of_le (by omega)]; simp [entS]
theorem p_rget (b : Bytes) (hb : b.length ≤ 1000000) : g.seicheref07_GetTree b = some (match getT b with | some l => (l, true) | none => ([], false)) := by
  unfold g.seicheref07_GetTree getT
  obtain ⟨q, hq, hm⟩ := p_rsplitS b (by omega)
  rw [hq, Option.bind_some]
  cases hp : splitS b with
  | none =>
    rw [hp] at hm
    simp only at hm
    rw [hm]; rfl
  | some p =>
    rw [hp] at hm
    simp only at hm
    subst hm
    simp only [Option.bind_some]
    have hpl := lenT_len p
    have hsl := splitS_len hp
    rw [if_pos trivial]
    by_cases h3 : p.length % 3 = 0
    · rw [if_pos ((tmod3 _).2 h3), show (0 : Int) = ((0 : Nat) : Int) from rfl, p_rget_l p (by omega) h3 _ fuel 0 [] (by unfold fuel; omega) rfl (Nat.zero_le _) (Nat.le_refl _), List.drop_zero]
      cases he : entS p with
      | none => rfl
      | some l =>
        obtain ⟨h4, h5⟩ := short_of (by omega) hp he
        simp only [List.nil_append, Option.bind_some]
        rw [p_rgoodT l h4 (by omega), Option.bind_some]
        cases goodT l <;> rfl
    · rw [if_neg (fun h => h3 ((tmod3 _).1 h)), entS_mod h3]; rfl
theorem p_same_l (a b : List Ent) (k0 : Option Bool) : ∀ (rest : List Ent) (k : Nat), a.length = b.length → a.drop k = rest → k ≤ a.length → L.seicheref07_SameTree_l1 b k0 rest k = if rest = b.drop k then k0 else some false
  | [], k, hl, hd, hk => by
    have := drop_nil hd hk
    rw [List.drop_eq_nil_of_le (by omega), if_pos rfl]; rfl
  | e :: rest, k, hl, hd, hk => by
    obtain ⟨hlt, he, hge, hd', _⟩ := drop_cons hd
    rw [L.seicheref07_SameTree_l1, at?_some (by omega), Option.bind_some, p_same_l a b k0 rest (k + 1) hl hd' (by omega), drop_eq (show k < b.length by omega)]
    by_cases h : e = b[k]'(by omega)
    · rw [if_pos h]
      by_cases h2 : rest = b.drop (k + 1)
      · rw [if_pos h2, if_pos (by rw [← h, ← h2])]
      · rw [if_neg h2, if_neg (fun hh => h2 (List.cons.inj hh).2)]
    · rw [if_neg h, if_neg (fun hh => h (List.cons.inj hh).1)]
theorem p_same (a b : List Ent) (h : a.length ≤ 1000000000) : g.seicheref07_SameTree a b = some (decide (a = b)) := by
  unfold g.seicheref07_SameTree
  by_cases hl : a.length = b.length
  · rw [if_pos (by omega), if_pos (by unfold Lim; omega), p_same_l a b _ a 0 hl rfl (Nat.zero_le _), List.drop_zero]
    by_cases he : a = b
    · rw [if_pos he, decide_eq_true he]
    · rw [if_neg he, decide_eq_false he]
  · rw [if_neg (by omega), decide_eq_false (fun h => hl (by rw [h]))]

/-! ## the laws' guards -/
def sumN (l : List Ent) : Nat := (l.map fun e => e.Name.length).sum
theorem p_great_l (q : Bool) : ∀ (l : List Ent) (n : Nat), shortE l → n ≤ 4096 → L.seichelaw07_greatTree_l1 (some q) l n = some (decide (4096 < n + sumN l) || q) ∨ L.seichelaw07_greatTree_l1 (some q) l n = some true ∧ 4096 < n + sumN l
  | [], n, _, hn => by left; rw [L.seichelaw07_greatTree_l1, decide_eq_false (by simp [sumN]; omega)]; rfl
  | e :: r, n, hs, hn => by
    have hf := hs e (by simp)
    have hsum : sumN (e :: r) = e.Name.length + sumN r := by simp [sumN]
    rw [L.seichelaw07_greatTree_l1, show wi ((n : Int) + ((e.Name.length : Nat) : Int)) = ((n + e.Name.length : Nat) : Int) by rw [wi_of (by omega) (by omega)]; omega, hsum]
    by_cases h : 4096 < n + e.Name.length
    · right; rw [if_pos (by omega)]; exact ⟨rfl, by omega⟩
    · rw [if_neg (by omega), ← Nat.add_assoc]
      exact p_great_l q r _ (fun x hx => hs x (by simp [hx])) (by omega)
theorem p_great (l : List Ent) (hs : shortE l) (hl : l.length ≤ 1000000000) : g.seichelaw07_greatTree l = some (decide (4096 < sumN l) || decide (60 < l.length)) := by
  unfold g.seichelaw07_greatTree
  rw [if_pos (by unfold Lim; omega)]
  have e : decide (60 < ((l.length : Nat) : Int)) = decide (60 < l.length) := by congr 1; exact propext (by omega)
  rw [e]
  rcases p_great_l (decide (60 < l.length)) l 0 hs (by omega) with h | ⟨h, h2⟩
  · rw [Nat.zero_add] at h; exact h
  · rw [Nat.zero_add] at h2
    rw [decide_eq_true h2, Bool.true_or]; exact h
theorem lenT_parts : ∀ (l : List Ent), lenT (partsOf l) = 60 * l.length + sumN l
  | [] => rfl
  | e :: r => by
    have ih := lenT_parts r
    have hk : (kindB e.Tree).length = 4 := by cases e.Tree <;> rfl
    have : partsOf (e :: r) = kindB e.Tree :: e.Name :: e.Id.1 :: partsOf r := rfl
    rw [this, lenT_cons, lenT_cons, lenT_cons, ih, hk, e.Id.2]
    simp [sumN]; omega
theorem p_alive07 : g.seichelaw07_alive = some true := by
  have h1 : g.object_PutTree [] = some (be8 0, 0) := p_put [] (fun _ h => by cases h) (by decide)
  have h2 : g.object_GetTree [120] = some ([], 4) := p_get [120] (by decide)
  unfold g.seichelaw07_alive
  rw [h1, Option.bind_some, h2, Option.bind_some]
  rfl
theorem p_objectTreesF (l : List Ent) (b : Bytes) (hs : shortE l) (hl : l.length ≤ 100000000) : g.seichelaw07_ObjectTrees l b = some true := by
  unfold g.seichelaw07_ObjectTrees
  rw [p_alive07, Option.bind_some, if_pos rfl, p_great l hs (by omega), Option.bind_some]
  by_cases hg : (decide (4096 < sumN l) || decide (60 < l.length)) = true
  · rw [if_pos hg]
  · rw [if_neg hg]
    simp only [Bool.or_eq_true, decide_eq_true_eq, not_or] at hg
    by_cases hb : 4096 < b.length
    · rw [if_pos (by omega)]
    · have hlen : lenT (partsOf l) ≤ 100000000 := by rw [lenT_parts]; omega
      have hj : L.seichelaw07_ObjectTrees_j1 b = some true := by
        unfold L.seichelaw07_ObjectTrees_j1
        rw [p_get b (by omega), Option.bind_some, p_rget b (by omega), Option.bind_some]
        cases hgt : getT b with
        | none => simp [p_same]
        | some x =>
          have hx : x.length ≤ 1000000000 := by
            unfold getT at hgt
            simp only [Option.bind_eq_some_iff] at hgt
            obtain ⟨p, hp, m, hm, hx⟩ := hgt
            split at hx
            · cases hx; have := (short_of (by omega) hp hm).2; omega
            · cases hx
          simp [p_same _ _ hx]
      rw [if_neg (by omega), p_put l hs hlen, Option.bind_some, p_rgoodT l hs (by omega), Option.bind_some, p_goodT l hs (by omega), Option.bind_some, if_pos (by simp), putT]
      cases hgt : goodT l
      · simp only [Bool.false_eq_true, if_false]
        rw [if_pos (by decide), if_pos trivial, if_pos trivial, hj]
      · simp only [if_true]
        rw [if_pos (by decide), p_rtree l hlen, Option.bind_some, if_pos rfl, hj]
theorem shortE_of {l : List Ent} (h : (V.sl false 34 (List.map E.Entry l)).wt ≤ 1048576) : shortE l ∧ l.length ≤ 100000000 := by
  obtain ⟨h1, h2⟩ := wt_sl h
  refine ⟨fun e he => ?_, by omega⟩
  have := wt_str (wt_mem (h2 e he) (v := .str e.Name) (by simp [C.Entry]))
  omega
theorem p_objectTrees (l : List Ent) (b : Bytes) (hl : (V.sl false 34 (List.map E.Entry l)).wt ≤ 1048576) (_ : (V.str b).wt ≤ 1048576) : g.seichelaw07_ObjectTrees l b = some true :=
  p_objectTreesF l b (shortE_of hl).1 (shortE_of hl).2
end Go.Proofs.YtainplhaaklpeaaDoor
