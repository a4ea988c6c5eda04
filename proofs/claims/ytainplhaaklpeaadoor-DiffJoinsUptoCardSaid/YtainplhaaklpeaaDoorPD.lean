/-
  The changes between two lists of files: what the functions come to; what parts from a first list to a third (plain Lean). Own work of this seat.
-/
import Derived.Test.YtainplhaaklpeaaDoorGenD
import Derived.Test.YtainplhaaklpeaaDoorPC
import Derived.Test.YtainplhaaklpeaaDoorCD
namespace Go.Proofs.YtainplhaaklpeaaDoor
open Go.Abs

abbrev Inp := T.Input
abbrev Chg := T.Change
def short (l : List Inp) : Prop := ∀ f ∈ l, f.Path.length ≤ 100000000

/-! ## the program's changes -/
def lists : List Inp → List Inp → List Chg
  | [], [] => []
  | f :: a, [] => ⟨f.Path, 2⟩ :: lists a []
  | [], g :: b => ⟨g.Path, 1⟩ :: lists [] b
  | f :: a, g :: b => if pcmp f.Path g.Path < 0 then ⟨f.Path, 2⟩ :: lists a (g :: b) else if 0 < pcmp f.Path g.Path then ⟨g.Path, 1⟩ :: lists (f :: a) b else (if f.Id = g.Id then [] else [⟨f.Path, 3⟩]) ++ lists a b
  termination_by a b => a.length + b.length
theorem lists_length : ∀ (a b : List Inp), (lists a b).length ≤ a.length + b.length
  | [], [] => by rw [lists]; simp
  | f :: a, [] => by have := lists_length a []; rw [lists]; simp at this ⊢; omega
  | [], g :: b => by have := lists_length [] b; rw [lists]; simp at this ⊢; omega
  | f :: a, g :: b => by
    have h1 := lists_length a (g :: b)
    have h2 := lists_length (f :: a) b
    have h3 := lists_length a b
    rw [lists]
    simp only [List.length_cons] at h1 h2 ⊢
    split
    · simp only [List.length_cons]; omega
    · split
      · simp only [List.length_cons]; omega
      · split <;> simp only [List.length_append, List.length_cons, List.length_nil] <;> omega
  termination_by a b => a.length + b.length

theorem p_lists_l (k0 : List Chg → Option (List Chg)) : ∀ (n : Nat) (a b : List Inp) (acc : List Chg), a.length + b.length < n → short a → short b → acc.length + (a.length + b.length) ≤ 1000000000 →
    L.diff_Lists_l1 k0 n a b acc = k0 (acc ++ lists a b)
  | 0, a, b, acc, hn, _, _, _ => by omega
  | n + 1, a, b, acc, hn, ha, hb, hl => by
    have ih := p_lists_l k0 n
    have hLim : acc.length + 1 ≤ Lim := by unfold Lim; omega
    rw [L.diff_Lists_l1]
    match a, b with
    | [], [] => simp [lists]
    | f :: a, [] =>
      simp only [List.length_cons, List.length_nil] at hn hl
      have hsa : short a := fun x hx => ha x (by simp [hx])
      rw [if_pos (by simp only [List.length_cons]; omega), L.diff_Lists_j1, if_neg (by simp only [List.length_cons]; omega), if_pos (by simp), L.diff_Lists_j2, if_pos (by decide)]
      have h0 : at? (f :: a) 0 = some f := at?_nat _ 0
      rw [h0, Option.bind_some, appL_some (by simpa using hLim), Option.bind_some, cut_tail, Option.bind_some, ih a [] _ (by simp; omega) hsa hb (by simp; omega), lists]
      simp
    | [], g :: b =>
      simp only [List.length_cons, List.length_nil] at hn hl
      have hsb : short b := fun x hx => hb x (by simp [hx])
      rw [if_neg (by simp), if_pos (by simp only [List.length_cons]; omega), L.diff_Lists_j1, if_pos (by simp), L.diff_Lists_j2, if_neg (by decide), if_pos (by decide)]
      have h0 : at? (g :: b) 0 = some g := at?_nat _ 0
      rw [h0, Option.bind_some, appL_some (by simpa using hLim), Option.bind_some, cut_tail, Option.bind_some, ih [] b _ (by simp; omega) ha hsb (by simp; omega), lists]
      simp
    | f :: a, g :: b =>
      simp only [List.length_cons] at hn hl
      have hsa : short a := fun x hx => ha x (by simp [hx])
      have hsb : short b := fun x hx => hb x (by simp [hx])
      rw [if_pos (by simp only [List.length_cons]; omega), L.diff_Lists_j1, if_neg (by simp only [List.length_cons]; omega), if_neg (by simp only [List.length_cons]; omega)]
      have h0 : at? (f :: a) 0 = some f := at?_nat _ 0
      have h1 : at? (g :: b) 0 = some g := at?_nat _ 0
      rw [h0, Option.bind_some, h1, Option.bind_some, p_pcmp _ _ (ha f (by simp)) (hb g (by simp)), Option.bind_some, lists, L.diff_Lists_j2]
      by_cases c1 : pcmp f.Path g.Path < 0
      · rw [if_pos c1, if_pos c1, h0, Option.bind_some, appL_some (by simpa using hLim), Option.bind_some, cut_tail, Option.bind_some, ih a (g :: b) _ (by simp; omega) hsa hb (by simp; omega)]
        simp
      · rw [if_neg c1, if_neg c1]
        by_cases c2 : 0 < pcmp f.Path g.Path
        · rw [if_pos c2, if_pos c2, h1, Option.bind_some, appL_some (by simpa using hLim), Option.bind_some, cut_tail, Option.bind_some, ih (f :: a) b _ (by simp; omega) ha hsb (by simp; omega)]
          simp
        · rw [if_neg c2, if_neg c2, h0, Option.bind_some, h1, Option.bind_some]
          by_cases c3 : f.Id = g.Id
          · rw [if_pos c3, if_pos c3, L.diff_Lists_j3, cut_tail, Option.bind_some, cut_tail, Option.bind_some, ih a b _ (by omega) hsa hsb (by omega)]
            simp
          · rw [if_neg c3, if_neg c3, appL_some (by simpa using hLim), Option.bind_some, L.diff_Lists_j3, cut_tail, Option.bind_some, cut_tail, Option.bind_some, ih a b _ (by omega) hsa hsb (by simp; omega)]
            simp
theorem p_lists (a b : List Inp) (ha : short a) (hb : short b) (hl : a.length + b.length ≤ 1000000000) : g.diff_Lists a b = some (lists a b) := by
  unfold g.diff_Lists
  refine Eq.trans (p_lists_l _ fuel a b [] (by unfold fuel; omega) ha hb (by simpa using hl)) ?_
  simp

/-! ## the guards -/
def SortedI (l : List Inp) : Prop := l.Pairwise fun f g => pcmp f.Path g.Path < 0
theorem sortedI_path {l : List Inp} (h : SortedI l) {f g : Inp} (hf : f ∈ l) (hg : g ∈ l) (he : f.Path = g.Path) : f = g := by
  induction l with
  | nil => cases hf
  | cons x r ih =>
    have h' := List.pairwise_cons.1 h
    have ne : ∀ y ∈ r, x.Path ≠ y.Path := fun y hy e => by
      have := h'.1 y hy
      rw [pcmp_zero.2 e] at this; omega
    rcases List.mem_cons.1 hf with rfl | hf' <;> rcases List.mem_cons.1 hg with rfl | hg'
    · rfl
    · exact absurd he (ne g hg')
    · exact absurd he.symm (ne f hf')
    · exact ih h'.2 hf' hg'
def risesFrom (p : Inp) : List Inp → Bool
  | [] => true
  | f :: r => decide (pcmp p.Path f.Path < 0) && risesFrom f r
def rises : List Inp → Bool
  | [] => true
  | f :: r => risesFrom f r
theorem risesFrom_sorted : ∀ {r : List Inp} {p : Inp}, risesFrom p r = true → SortedI (p :: r)
  | [], p, _ => List.pairwise_singleton _ _
  | f :: r, p, h => by
    simp only [risesFrom, Bool.and_eq_true, decide_eq_true_eq] at h
    have ih := risesFrom_sorted h.2
    refine List.pairwise_cons.2 ⟨fun x hx => ?_, ih⟩
    rcases List.mem_cons.1 hx with rfl | hx
    · exact h.1
    · exact pcmp_trans h.1 ((List.pairwise_cons.1 ih).1 x hx)
theorem rises_sorted : ∀ {l : List Inp}, rises l = true → SortedI l
  | [], _ => .nil
  | f :: r, h => risesFrom_sorted h
theorem p_rises_l (l : List Inp) (hs : short l) (hl : l.length ≤ 1000000000) : ∀ (rest : List Inp) (k : Nat) (hk : 0 < k) (hkl : k ≤ l.length), l.drop k = rest → L.seicheref09_Rises_l1 l (some true) rest k = some (risesFrom (l[k - 1]'(by omega)) rest)
  | [], k, _, _, _ => rfl
  | f :: rest, k, hk, hkl, hd => by
    obtain ⟨hlt, hf, _, hd', _⟩ := drop_cons hd
    rw [L.seicheref09_Rises_l1, if_pos (by omega), show wi ((k : Int) - 1) = ((k - 1 : Nat) : Int) by rw [wi_of (by omega) (by omega)]; omega, at?_some (by omega), Option.bind_some,
      p_rcmp _ _ (hs _ (List.getElem_mem _)) (hs f (by rw [← hf]; exact List.getElem_mem _)), Option.bind_some, risesFrom]
    by_cases h : pcmp (l[k - 1]'(by omega)).Path f.Path < 0
    · rw [if_neg (by omega), p_rises_l l hs hl rest (k + 1) (by omega) (by omega) hd']
      simp [h, hf]
    · rw [if_pos (by omega)]; simp [h]
theorem p_rises (l : List Inp) (hs : short l) (hl : l.length ≤ 1000000000) : g.seicheref09_Rises l = some (rises l) := by
  rw [g.seicheref09_Rises, if_pos (by unfold Lim; omega)]
  cases l with
  | nil => rfl
  | cons f r =>
    rw [L.seicheref09_Rises_l1, if_neg (by omega)]
    exact p_rises_l (f :: r) hs hl r 1 (by omega) (by simp) rfl
/-- what a guard lets by -/
theorem p_odd_l (l : List Inp) (q : Bool) : ∀ (rest : List Inp) (n : Nat), short rest → n ≤ 4096 → ∃ b, L.seichelaw09_odd_l1 (some q) rest n = some b ∧ (b = false → q = false)
  | [], n, _, _ => ⟨q, rfl, id⟩
  | f :: rest, n, hs, hn => by
    have hf := hs f (by simp)
    rw [L.seichelaw09_odd_l1, wi_of (by omega) (by omega)]
    by_cases h : 4096 < (n : Int) + ((f.Path.length : Nat) : Int)
    · rw [if_pos h]; exact ⟨true, rfl, fun h => nomatch h⟩
    · rw [if_neg h]
      obtain ⟨b, h1, h2⟩ := p_odd_l l q rest (n + f.Path.length) (fun x hx => hs x (by simp [hx])) (by omega)
      exact ⟨b, by rw [← h1]; congr 1, h2⟩
theorem p_odd (l : List Inp) (hs : short l) (hl : l.length ≤ 1000000000) : ∃ b, g.seichelaw09_odd l = some b ∧ (b = false → l.length ≤ 60 ∧ rises l = true) := by
  rw [g.seichelaw09_odd, if_pos (by unfold Lim; omega), p_rises l hs hl]
  by_cases h : 60 < l.length
  · rw [if_pos (by omega)]
    obtain ⟨b, h1, h2⟩ := p_odd_l l true l 0 hs (by omega)
    exact ⟨b, h1, fun hb => by have := h2 hb; cases this⟩
  · rw [if_neg (by omega)]
    obtain ⟨b, h1, h2⟩ := p_odd_l l (!rises l) l 0 hs (by omega)
    exact ⟨b, h1, fun hb => ⟨by omega, by simpa using h2 hb⟩⟩
theorem p_alive : g.seichelaw09_alive = some true := by
  have h : pcmp [97] [98] < 0 := by decide
  have hs : ∀ b : UInt8, short [⟨[b], Arr.zero 32⟩] := fun b f hf => by simp at hf; subst hf; simp
  rw [g.seichelaw09_alive, p_lists _ _ (hs _) (hs _) (by decide), Option.bind_some, lists, if_pos h, lists, lists]
  rfl

/-! ## a change is a path that the two lists have apart -/
def look : List Inp → Bytes → Option (Arr 32)
  | [], _ => none
  | f :: r, p => if f.Path = p then some f.Id else look r p
theorem look_none : ∀ {l : List Inp} {p : Bytes}, (∀ x ∈ l, x.Path ≠ p) → look l p = none
  | [], _, _ => rfl
  | f :: r, p, h => by rw [look, if_neg (h f (by simp)), look_none fun x hx => h x (by simp [hx])]
theorem sorted_lt {p : Bytes} {a : List Inp} {q : Inp} (h : SortedI (q :: a)) (hp : pcmp p q.Path < 0) : ∀ x ∈ q :: a, x.Path ≠ p := fun x hx e => by
  have : pcmp p x.Path < 0 := by
    rcases List.mem_cons.1 hx with rfl | hx
    · exact hp
    · exact pcmp_trans hp ((List.pairwise_cons.1 h).1 x hx)
  rw [pcmp_zero.2 e.symm] at this; omega
theorem sorted_self {a : List Inp} {q : Inp} (h : SortedI (q :: a)) : look a q.Path = none := look_none fun x hx e => by
  have := (List.pairwise_cons.1 h).1 x hx
  rw [pcmp_zero.2 e.symm] at this; omega
theorem mem_lists : ∀ {a b : List Inp}, SortedI a → SortedI b → ∀ p, (∃ c ∈ lists a b, c.Path = p) ↔ look a p ≠ look b p
  | [], [], _, _, p => by simp [lists, look]
  | f :: a, [], h1, h2, p => by
    have ih := mem_lists (a := a) (b := []) (List.pairwise_cons.1 h1).2 h2 p
    rw [lists]
    simp only [List.mem_cons, exists_eq_or_imp, ih, look]
    by_cases hp : f.Path = p <;> simp [hp]
  | [], g :: b, h1, h2, p => by
    have ih := mem_lists (a := []) (b := b) h1 (List.pairwise_cons.1 h2).2 p
    rw [lists]
    simp only [List.mem_cons, exists_eq_or_imp, ih, look]
    by_cases hp : g.Path = p <;> simp [hp]
  | f :: a, g :: b, h1, h2, p => by
    have h1' := List.pairwise_cons.1 h1
    have h2' := List.pairwise_cons.1 h2
    rw [lists]
    by_cases c1 : pcmp f.Path g.Path < 0
    · rw [if_pos c1]
      have ih := mem_lists (a := a) (b := g :: b) h1'.2 h2 p
      simp only [List.mem_cons, exists_eq_or_imp] at ih ⊢
      rw [ih]
      by_cases hp : f.Path = p
      · subst hp
        rw [look_none (sorted_lt h2 c1)]
        simp [look]
      · simp [look, hp]
    · rw [if_neg c1]
      by_cases c2 : 0 < pcmp f.Path g.Path
      · rw [if_pos c2]
        have c2' : pcmp g.Path f.Path < 0 := by rw [pcmp_swap]; omega
        have ih := mem_lists (a := f :: a) (b := b) h1 h2'.2 p
        simp only [List.mem_cons, exists_eq_or_imp] at ih ⊢
        rw [ih]
        by_cases hp : g.Path = p
        · subst hp
          rw [look_none (sorted_lt h1 c2')]
          simp [look]
        · simp [look, hp]
      · rw [if_neg c2]
        have hfg : f.Path = g.Path := pcmp_zero.1 (by omega)
        have ih := mem_lists (a := a) (b := b) h1'.2 h2'.2 p
        have e1 : (∃ c ∈ (if f.Id = g.Id then [] else [(⟨f.Path, 3⟩ : Chg)]) ++ lists a b, c.Path = p) ↔ (f.Id ≠ g.Id ∧ f.Path = p) ∨ look a p ≠ look b p := by
          rw [← ih]
          by_cases hid : f.Id = g.Id <;> simp [hid]
        rw [e1]
        by_cases hp : f.Path = p
        · subst hp
          rw [sorted_self h1, show look b f.Path = none by rw [hfg]; exact sorted_self h2]
          simp [look, hfg]
        · have hg : g.Path ≠ p := fun e => hp (hfg.trans e)
          simp [look, hp, hg]
  termination_by a b => a.length + b.length

/-! ## the law -/
theorem p_joins2 (x : Chg) (k0 : Bool → Option Bool) : ∀ (l : List Chg) (b : Bool), L.seichelaw09_DiffJoins_l2 k0 l x b = k0 (b || l.any fun y => decide (x.Path = y.Path))
  | [], b => by simp [L.seichelaw09_DiffJoins_l2]
  | y :: l, b => by
    rw [L.seichelaw09_DiffJoins_l2]
    cases b with
    | true => rw [if_pos rfl, p_joins2 x k0 l]; simp
    | false => rw [if_neg (by simp), p_joins2 x k0 l]; simp
theorem p_joins1 (both : List Chg) (hb : both.length ≤ Lim) : ∀ (l : List Chg), (∀ x ∈ l, ∃ y ∈ both, x.Path = y.Path) → L.seichelaw09_DiffJoins_l1 both (some true) l = some true
  | [], _ => rfl
  | x :: l, h => by
    rw [L.seichelaw09_DiffJoins_l1, if_pos hb, p_joins2]
    obtain ⟨y, hy, he⟩ := h x (by simp)
    have : (both.any fun y => decide (x.Path = y.Path)) = true := List.any_eq_true.2 ⟨y, hy, by simpa using he⟩
    rw [this]
    simp only [Bool.false_or, if_true]
    exact p_joins1 both hb l fun z hz => h z (by simp [hz])
def Fine (l : List Inp) : Prop := l.length ≤ 100000000 ∧ short l
theorem p_diffJoinsF (a b c : List Inp) (ha : Fine a) (hb : Fine b) (hc : Fine c) : g.seichelaw09_DiffJoins a b c = some true := by
  rw [g.seichelaw09_DiffJoins, p_alive, Option.bind_some, if_pos rfl]
  obtain ⟨x, h1, h2⟩ := p_odd a ha.2 (by have := ha.1; omega)
  obtain ⟨y, h3, h4⟩ := p_odd b hb.2 (by have := hb.1; omega)
  obtain ⟨z, h5, h6⟩ := p_odd c hc.2 (by have := hc.1; omega)
  rw [h1, Option.bind_some]
  cases x with
  | true => rfl
  | false =>
    rw [if_neg (by simp), h3, Option.bind_some]
    cases y with
    | true => rfl
    | false =>
      rw [if_neg (by simp), h5, Option.bind_some]
      cases z with
      | true => rfl
      | false =>
        obtain ⟨la, ra⟩ := h2 rfl
        obtain ⟨lb, rb⟩ := h4 rfl
        obtain ⟨lc, rc⟩ := h6 rfl
        have e1 := lists_length a b
        have e2 := lists_length b c
        have e3 := lists_length a c
        rw [if_neg (by simp), p_lists a b ha.2 hb.2 (by omega), Option.bind_some, p_lists b c hb.2 hc.2 (by omega), Option.bind_some, appL_some (by unfold Lim; omega), Option.bind_some,
          p_lists a c ha.2 hc.2 (by omega), Option.bind_some, if_pos (by unfold Lim; omega)]
        refine p_joins1 _ (by rw [List.length_append]; unfold Lim; omega) _ fun q hq => ?_
        have sa := rises_sorted ra; have sb := rises_sorted rb; have sc := rises_sorted rc
        have h := (mem_lists sa sc q.Path).1 ⟨q, hq, rfl⟩
        by_cases h1 : look a q.Path = look b q.Path
        · obtain ⟨y, hy, he⟩ := (mem_lists sb sc q.Path).2 (by rw [← h1]; exact h)
          exact ⟨y, by simp [hy], he.symm⟩
        · obtain ⟨y, hy, he⟩ := (mem_lists sa sb q.Path).2 h1
          exact ⟨y, by simp [hy], he.symm⟩
theorem fine_of {l : List Inp} (h : (V.sl false 33 (List.map E.Input l)).wt ≤ 1048576) : Fine l := by
  obtain ⟨h1, h2⟩ := wt_sl h
  refine ⟨by omega, fun f hf => ?_⟩
  have := wt_str (wt_mem (h2 f hf) (v := .str f.Path) (by simp [C.Input]))
  omega
theorem p_diffJoins (a b c : List Inp) (ha : (V.sl false 33 (List.map E.Input a)).wt ≤ 1048576) (hb : (V.sl false 33 (List.map E.Input b)).wt ≤ 1048576) (hc : (V.sl false 33 (List.map E.Input c)).wt ≤ 1048576) : g.seichelaw09_DiffJoins a b c = some true :=
  p_diffJoinsF a b c (fine_of ha) (fine_of hb) (fine_of hc)
end Go.Proofs.YtainplhaaklpeaaDoor
