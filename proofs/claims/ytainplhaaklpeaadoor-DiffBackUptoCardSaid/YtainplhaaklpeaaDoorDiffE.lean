/-
  The two lists of changes are one: plain Lean, no program. Own work of this seat.
-/
import Derived.Test.YtainplhaaklpeaaDoorDiffO
namespace Go.Proofs.YtainplhaaklpeaaDoor
open Go.Abs

def Sorted (l : List Chg) : Prop := l.Pairwise fun c d => pcmp c.1 d.1 < 0
def SortedI (l : List Inp) : Prop := l.Pairwise fun f g => pcmp f.path g.path < 0

theorem rises_sorted : ∀ {l : List Inp}, rises l = true → SortedI l
  | [], _ => .nil
  | [_], _ => List.pairwise_singleton _ _
  | f :: g :: r, h => by
    simp only [rises, Bool.and_eq_true, decide_eq_true_eq] at h
    have ih := rises_sorted (l := g :: r) h.2
    refine List.pairwise_cons.2 ⟨fun x hx => ?_, ih⟩
    rcases List.mem_cons.1 hx with rfl | hx
    · exact h.1
    · exact pcmp_trans h.1 ((List.pairwise_cons.1 ih).1 x hx)

theorem sorted_ext : ∀ {l m : List Chg}, Sorted l → Sorted m → (∀ c, c ∈ l ↔ c ∈ m) → l = m
  | [], [], _, _, _ => rfl
  | [], d :: m, _, _, h => absurd ((h d).2 (by simp)) (by simp)
  | c :: l, [], _, _, h => absurd ((h c).1 (by simp)) (by simp)
  | c :: l, d :: m, hl, hm, h => by
    have hl' := List.pairwise_cons.1 hl
    have hm' := List.pairwise_cons.1 hm
    have irr : ∀ {x y : Chg}, pcmp x.1 y.1 < 0 → pcmp y.1 x.1 < 0 → False := fun h1 h2 => by
      have := pcmp_swap _ _ ▸ h2; omega
    have hcd : c = d := by
      rcases List.mem_cons.1 ((h c).1 (by simp)) with e | e
      · exact e
      · rcases List.mem_cons.1 ((h d).2 (by simp)) with e' | e'
        · exact e'.symm
        · exact (irr (hl'.1 d e') (hm'.1 c e)).elim
    subst hcd
    have : l = m := sorted_ext hl'.2 hm'.2 fun x => by
      have hx := h x
      simp only [List.mem_cons] at hx
      constructor
      · intro hm1
        rcases hx.1 (.inr hm1) with rfl | h'
        · exact (irr (hl'.1 _ hm1) (hl'.1 _ hm1)).elim
        · exact h'
      · intro hm1
        rcases hx.2 (.inr hm1) with rfl | h'
        · exact (irr (hm'.1 _ hm1) (hm'.1 _ hm1)).elim
        · exact h'
    rw [this]

/-- what a change is -/
def isChg (a b : List Inp) (c : Chg) : Prop :=
  (c.2 = 2 ∧ (∃ f ∈ a, f.path = c.1) ∧ ∀ g ∈ b, g.path ≠ c.1) ∨ (c.2 = 1 ∧ (∃ g ∈ b, g.path = c.1) ∧ ∀ f ∈ a, f.path ≠ c.1) ∨
  (c.2 = 3 ∧ ∃ f ∈ a, ∃ g ∈ b, f.path = c.1 ∧ g.path = c.1 ∧ f.id ≠ g.id)

theorem look_mem {l : List Inp} {p : Bytes} {f : Inp} (h : look l p = some f) : f ∈ l ∧ f.path = p := ⟨List.mem_of_find?_eq_some h, by simpa using List.find?_some h⟩
theorem look_none {l : List Inp} {p : Bytes} : look l p = none ↔ ∀ f ∈ l, f.path ≠ p := by simp [look]
theorem sortedI_path {l : List Inp} (h : SortedI l) {f g : Inp} (hf : f ∈ l) (hg : g ∈ l) (he : f.path = g.path) : f = g := by
  induction l with
  | nil => cases hf
  | cons x r ih =>
    have h' := List.pairwise_cons.1 h
    have ne : ∀ y ∈ r, x.path ≠ y.path := fun y hy e => by
      have := h'.1 y hy
      rw [pcmp_zero.2 e] at this; omega
    rcases List.mem_cons.1 hf with rfl | hf' <;> rcases List.mem_cons.1 hg with rfl | hg'
    · rfl
    · exact absurd he (ne g hg')
    · exact absurd he.symm (ne f hf')
    · exact ih h'.2 hf' hg'

theorem mem_of1 {b : List Inp} : ∀ {a : List Inp} {c : Chg}, c ∈ of1 b a ↔ (c.2 = 2 ∧ (∃ f ∈ a, f.path = c.1) ∧ look b c.1 = none) ∨ (c.2 = 3 ∧ ∃ f ∈ a, f.path = c.1 ∧ ∃ g, look b c.1 = some g ∧ g.id ≠ f.id)
  | [], c => by simp [of1]
  | f :: r, (p, k) => by
    simp only [of1, List.mem_append, mem_of1 (a := r), List.mem_cons]
    cases hl : look b f.path with
    | none =>
      simp only [List.mem_singleton, Prod.mk.injEq]
      constructor
      · rintro (⟨rfl, rfl⟩ | ⟨h1, ⟨x, hx, h2⟩, h3⟩ | ⟨h1, x, hx, h2, h3⟩)
        · exact .inl ⟨rfl, ⟨f, .inl rfl, rfl⟩, hl⟩
        · exact .inl ⟨h1, ⟨x, .inr hx, h2⟩, h3⟩
        · exact .inr ⟨h1, x, .inr hx, h2, h3⟩
      · rintro (⟨h1, ⟨x, rfl | hx, h2⟩, h3⟩ | ⟨h1, x, rfl | hx, h2, g, h3, h4⟩)
        · exact .inl ⟨h2.symm, h1⟩
        · exact .inr (.inl ⟨h1, ⟨x, hx, h2⟩, h3⟩)
        · rw [h2] at hl; rw [hl] at h3; cases h3
        · exact .inr (.inr ⟨h1, x, hx, h2, g, h3, h4⟩)
    | some g =>
      by_cases hid : g.id = f.id
      · simp only [hid, if_true, List.not_mem_nil, false_or]
        constructor
        · rintro (⟨h1, ⟨x, hx, h2⟩, h3⟩ | ⟨h1, x, hx, h2, h3⟩)
          · exact .inl ⟨h1, ⟨x, .inr hx, h2⟩, h3⟩
          · exact .inr ⟨h1, x, .inr hx, h2, h3⟩
        · rintro (⟨h1, ⟨x, rfl | hx, h2⟩, h3⟩ | ⟨h1, x, rfl | hx, h2, g', h3, h4⟩)
          · rw [h2] at hl; rw [hl] at h3; cases h3
          · exact .inl ⟨h1, ⟨x, hx, h2⟩, h3⟩
          · rw [h2] at hl; rw [hl] at h3; cases h3; exact absurd hid h4
          · exact .inr ⟨h1, x, hx, h2, g', h3, h4⟩
      · simp only [hid, if_false, List.mem_singleton, Prod.mk.injEq]
        constructor
        · rintro (⟨rfl, rfl⟩ | ⟨h1, ⟨x, hx, h2⟩, h3⟩ | ⟨h1, x, hx, h2, h3⟩)
          · exact .inr ⟨rfl, f, .inl rfl, rfl, g, hl, hid⟩
          · exact .inl ⟨h1, ⟨x, .inr hx, h2⟩, h3⟩
          · exact .inr ⟨h1, x, .inr hx, h2, h3⟩
        · rintro (⟨h1, ⟨x, rfl | hx, h2⟩, h3⟩ | ⟨h1, x, rfl | hx, h2, g', h3, h4⟩)
          · rw [h2] at hl; rw [hl] at h3; cases h3
          · exact .inr (.inl ⟨h1, ⟨x, hx, h2⟩, h3⟩)
          · exact .inl ⟨h2.symm, h1⟩
          · exact .inr (.inr ⟨h1, x, hx, h2, g', h3, h4⟩)

theorem of1_sorted {b : List Inp} : ∀ {a : List Inp}, SortedI a → Sorted (of1 b a)
  | [], _ => .nil
  | f :: r, h => by
    have h' := List.pairwise_cons.1 h
    have hlt : ∀ d ∈ of1 b r, pcmp f.path d.1 < 0 := fun d hd => by
      rcases mem_of1.1 hd with ⟨_, ⟨x, hx, hp⟩, _⟩ | ⟨_, x, hx, hp, _⟩ <;> (rw [← hp]; exact h'.1 x hx)
    have ih : Sorted (of1 b r) := of1_sorted h'.2
    simp only [of1]
    split
    · exact List.pairwise_cons.2 ⟨hlt, ih⟩
    · split
      · exact ih
      · exact List.pairwise_cons.2 ⟨hlt, ih⟩

theorem insPos_spec {p : Bytes} {out : List Chg} : ∀ {k : Nat}, k ≤ out.length → (∀ i c, insPos p out k ≤ i → i < k → out[i]? = some c → 0 < pcmp c.1 p) ∧ (∀ c, out[insPos p out k - 1]? = some c → 0 < insPos p out k → ¬ 0 < pcmp c.1 p)
  | 0, _ => ⟨fun i c _ h => by omega, fun c _ h => by simp [insPos] at h⟩
  | k + 1, hk => by
    obtain ⟨c, _, hc, _⟩ := drop_cons_of (l := out) (k := k) (by omega)
    simp only [insPos, hc]
    by_cases h : 0 < pcmp c.1 p
    · rw [if_pos h]
      obtain ⟨h1, h2⟩ := insPos_spec (p := p) (out := out) (k := k) (by omega)
      refine ⟨fun i d h3 h4 h5 => ?_, h2⟩
      rcases Nat.lt_or_ge i k with hi | hi
      · exact h1 i d h3 hi h5
      · have : i = k := by omega
        subst this
        rw [hc] at h5; cases h5; exact h
    · rw [if_neg h]
      exact ⟨fun i d h3 h4 => by omega, fun d hd _ => by simp at hd; rw [hc] at hd; cases hd; exact h⟩
theorem mem_ins {p : Bytes} {out : List Chg} {c : Chg} : c ∈ ins p out ↔ c = (p, 1) ∨ c ∈ out := by
  conv => rhs; rw [← List.take_append_drop (insPos p out out.length) out]
  simp only [ins, List.mem_append, List.mem_cons]
  constructor
  · rintro (h | h | h)
    · exact .inr (.inl h)
    · exact .inl h
    · exact .inr (.inr h)
  · rintro (h | h | h)
    · exact .inr (.inl h)
    · exact .inl h
    · exact .inr (.inr h)
theorem ins_sorted {p : Bytes} {out : List Chg} (h : Sorted out) (hp : ∀ c ∈ out, c.1 ≠ p) : Sorted (ins p out) := by
  obtain ⟨h1, h2⟩ := insPos_spec (p := p) (out := out) (Nat.le_refl out.length)
  have hle := insPos_le p out out.length
  have hsp := h
  rw [← List.take_append_drop (insPos p out out.length) out] at hsp
  obtain ⟨s1, s2, s3⟩ := List.pairwise_append.1 hsp
  have hhi : ∀ c ∈ out.drop (insPos p out out.length), pcmp p c.1 < 0 := fun c hc => by
    obtain ⟨i, hi, rfl⟩ := List.getElem_of_mem hc
    have hi' : insPos p out out.length + i < out.length := by simp at hi; omega
    have := h1 (insPos p out out.length + i) _ (Nat.le_add_right _ _) hi' (List.getElem?_eq_getElem hi')
    rw [pcmp_swap]
    simp only [List.getElem_drop]
    omega
  have hlo : ∀ c ∈ out.take (insPos p out out.length), pcmp c.1 p < 0 := fun c hc => by
    have hc0 : c ∈ out := List.mem_of_mem_take hc
    have hpos : 0 < insPos p out out.length := by
      rcases Nat.eq_zero_or_pos (insPos p out out.length) with h0 | h0
      · rw [h0] at hc; simp at hc
      · exact h0
    obtain ⟨d, hd1, hd, _⟩ := drop_cons_of (l := out) (k := insPos p out out.length - 1) (by omega)
    have hd2 := h2 d hd hpos
    have hdm : d ∈ out := List.mem_of_getElem? hd
    have hd3 : pcmp d.1 p < 0 := by
      have := pcmp_zero (p := d.1) (q := p)
      have hne := hp d hdm
      rcases Int.lt_trichotomy (pcmp d.1 p) 0 with h' | h' | h'
      · exact h'
      · exact absurd (this.1 h') hne
      · omega
    obtain ⟨i, hi, rfl⟩ := List.getElem_of_mem hc
    simp at hi
    rcases Nat.lt_or_ge i (insPos p out out.length - 1) with hlt | hge
    · have := List.pairwise_iff_getElem.1 h i (insPos p out out.length - 1) (by omega) (by omega) hlt
      rw [hd1] at this
      simp only [List.getElem_take]
      exact pcmp_trans this hd3
    · have : i = insPos p out out.length - 1 := by omega
      subst this
      simp only [List.getElem_take, hd1]; exact hd3
  refine List.pairwise_append.2 ⟨s1, List.pairwise_cons.2 ⟨hhi, s2⟩, fun c hc d hd => ?_⟩
  rcases List.mem_cons.1 hd with rfl | hd
  · exact hlo c hc
  · exact s3 c hc d hd

theorem at_neg {l : List Inp} {p : Bytes} : at' l p < 0 ↔ look l p = none := by
  rcases at_look l p with ⟨h1, h2⟩ | ⟨i, f, h1, _, _, h4⟩
  · simp [h1, h2]
  · rw [h1, h4]; simp
theorem mem_of2 {a : List Inp} : ∀ {r : List Inp} {out : List Chg} {c : Chg}, c ∈ of2 a r out ↔ c ∈ out ∨ (c.2 = 1 ∧ (∃ g ∈ r, g.path = c.1) ∧ look a c.1 = none)
  | [], out, c => by simp [of2]
  | g :: r, out, (p, k) => by
    rw [of2, mem_of2]
    by_cases h : at' a g.path < 0
    · rw [if_pos h, mem_ins]
      have hn := at_neg.1 h
      simp only [List.mem_cons, Prod.mk.injEq]
      constructor
      · rintro ((⟨rfl, rfl⟩ | h1) | ⟨h1, ⟨x, hx, h2⟩, h3⟩)
        · exact .inr ⟨rfl, ⟨g, .inl rfl, rfl⟩, hn⟩
        · exact .inl h1
        · exact .inr ⟨h1, ⟨x, .inr hx, h2⟩, h3⟩
      · rintro (h1 | ⟨h1, ⟨x, rfl | hx, h2⟩, h3⟩)
        · exact .inl (.inr h1)
        · exact .inl (.inl ⟨h2.symm, h1⟩)
        · exact .inr ⟨h1, ⟨x, hx, h2⟩, h3⟩
    · rw [if_neg h]
      simp only [List.mem_cons]
      constructor
      · rintro (h1 | ⟨h1, ⟨x, hx, h2⟩, h3⟩)
        · exact .inl h1
        · exact .inr ⟨h1, ⟨x, .inr hx, h2⟩, h3⟩
      · rintro (h1 | ⟨h1, ⟨x, rfl | hx, h2⟩, h3⟩)
        · exact .inl h1
        · rw [← h2] at h3; exact absurd (at_neg.2 h3) h
        · exact .inr ⟨h1, ⟨x, hx, h2⟩, h3⟩
theorem of2_sorted {a : List Inp} : ∀ {r : List Inp} {out : List Chg}, SortedI r → Sorted out → (∀ c ∈ out, look a c.1 = none → ∀ g ∈ r, g.path ≠ c.1) → Sorted (of2 a r out)
  | [], out, _, h, _ => h
  | g :: r, out, hr, h, hd => by
    have hr' := List.pairwise_cons.1 hr
    rw [of2]
    by_cases hg : at' a g.path < 0
    · rw [if_pos hg]
      have hn := at_neg.1 hg
      refine of2_sorted hr'.2 (ins_sorted h fun c hc e => ?_) fun c hc hl x hx => ?_
      · rw [← e] at hn
        exact hd c hc hn g (by simp) e.symm
      · rcases mem_ins.1 hc with rfl | hc
        · intro e
          have := hr'.1 x hx
          rw [pcmp_zero.2 e.symm] at this; omega
        · exact hd c hc hl x (by simp [hx])
    · rw [if_neg hg]
      exact of2_sorted hr'.2 h fun c hc hl x hx => hd c hc hl x (by simp [hx])

theorem of_sorted {a b : List Inp} (ha : SortedI a) (hb : SortedI b) : Sorted (ofC' a b) := by
  refine of2_sorted hb (of1_sorted ha) fun c hc hl => ?_
  exfalso
  have hl := look_none.1 hl
  rcases mem_of1.1 hc with ⟨_, ⟨f, hf, hp⟩, _⟩ | ⟨_, f, hf, hp, _⟩ <;> exact hl f hf hp
theorem mem_of {a b : List Inp} (hb : SortedI b) {c : Chg} : c ∈ ofC' a b ↔ isChg a b c := by
  unfold ofC' isChg
  rw [mem_of2, mem_of1, look_none, look_none]
  constructor
  · rintro ((⟨h1, h2, h3⟩ | ⟨h1, f, hf, hp, g, hg, hn⟩) | ⟨h1, h2, h3⟩)
    · exact .inl ⟨h1, h2, h3⟩
    · exact .inr (.inr ⟨h1, f, hf, g, (look_mem hg).1, hp, (look_mem hg).2, fun e => hn e.symm⟩)
    · exact .inr (.inl ⟨h1, h2, h3⟩)
  · rintro (⟨h1, h2, h3⟩ | ⟨h1, h2, h3⟩ | ⟨h1, f, hf, g, hg, hp, hq, hn⟩)
    · exact .inl (.inl ⟨h1, h2, h3⟩)
    · exact .inr ⟨h1, h2, h3⟩
    · refine .inl (.inr ⟨h1, f, hf, hp, ?_⟩)
      cases hl : look b c.1 with
      | none => exact absurd hq (look_none.1 hl g hg)
      | some g' =>
        obtain ⟨hm, hpath⟩ := look_mem hl
        have : g' = g := sortedI_path hb hm hg (hpath.trans hq.symm)
        subst this
        exact ⟨g', rfl, fun e => hn e.symm⟩

/-! ### the program's changes -/
theorem isChg_left {f : Inp} {a b : List Inp} (ha : ∀ x ∈ a, x.path ≠ f.path) (hb : ∀ y ∈ b, y.path ≠ f.path) (c : Chg) : isChg (f :: a) b c ↔ c = (f.path, 2) ∨ isChg a b c := by
  obtain ⟨q, k⟩ := c
  simp only [isChg, List.mem_cons, Prod.mk.injEq]
  constructor
  · rintro (⟨e, ⟨x, rfl | hx, hp⟩, h⟩ | ⟨e, h, h'⟩ | ⟨e, x, rfl | hx, y, hy, hp, hq, hn⟩)
    · exact .inl ⟨hp.symm, e⟩
    · exact .inr (.inl ⟨e, ⟨x, hx, hp⟩, h⟩)
    · exact .inr (.inr (.inl ⟨e, h, fun x hx => h' x (.inr hx)⟩))
    · exact absurd (hq.trans hp.symm) (hb y hy)
    · exact .inr (.inr (.inr ⟨e, x, hx, y, hy, hp, hq, hn⟩))
  · rintro (⟨rfl, rfl⟩ | ⟨e, ⟨x, hx, hp⟩, h⟩ | ⟨e, ⟨y, hy, hq⟩, h'⟩ | ⟨e, x, hx, y, hy, hp, hq, hn⟩)
    · exact .inl ⟨rfl, ⟨f, .inl rfl, rfl⟩, hb⟩
    · exact .inl ⟨e, ⟨x, .inr hx, hp⟩, h⟩
    · refine .inr (.inl ⟨e, ⟨y, hy, hq⟩, ?_⟩)
      rintro x (rfl | hx)
      · intro hp; exact hb y hy (hq.trans hp.symm)
      · exact h' x hx
    · exact .inr (.inr ⟨e, x, .inr hx, y, hy, hp, hq, hn⟩)
theorem isChg_right {g : Inp} {a b : List Inp} (ha : ∀ x ∈ a, x.path ≠ g.path) (hb : ∀ y ∈ b, y.path ≠ g.path) (c : Chg) : isChg a (g :: b) c ↔ c = (g.path, 1) ∨ isChg a b c := by
  obtain ⟨q, k⟩ := c
  simp only [isChg, List.mem_cons, Prod.mk.injEq]
  constructor
  · rintro (⟨e, h, h'⟩ | ⟨e, ⟨x, rfl | hx, hp⟩, h⟩ | ⟨e, x, hx, y, rfl | hy, hp, hq, hn⟩)
    · exact .inr (.inl ⟨e, h, fun x hx => h' x (.inr hx)⟩)
    · exact .inl ⟨hp.symm, e⟩
    · exact .inr (.inr (.inl ⟨e, ⟨x, hx, hp⟩, h⟩))
    · exact absurd (hp.trans hq.symm) (ha x hx)
    · exact .inr (.inr (.inr ⟨e, x, hx, y, hy, hp, hq, hn⟩))
  · rintro (⟨rfl, rfl⟩ | ⟨e, ⟨x, hx, hp⟩, h⟩ | ⟨e, ⟨y, hy, hq⟩, h'⟩ | ⟨e, x, hx, y, hy, hp, hq, hn⟩)
    · exact .inr (.inl ⟨rfl, ⟨g, .inl rfl, rfl⟩, ha⟩)
    · refine .inl ⟨e, ⟨x, hx, hp⟩, ?_⟩
      rintro y (rfl | hy)
      · intro hq; exact ha x hx (hp.trans hq.symm)
      · exact h y hy
    · exact .inr (.inl ⟨e, ⟨y, .inr hy, hq⟩, h'⟩)
    · exact .inr (.inr ⟨e, x, hx, y, .inr hy, hp, hq, hn⟩)
theorem isChg_both {f g : Inp} {a b : List Inp} (hfg : f.path = g.path) (ha : ∀ x ∈ a, x.path ≠ f.path) (hb : ∀ y ∈ b, y.path ≠ f.path) (c : Chg) : isChg (f :: a) (g :: b) c ↔ (f.id ≠ g.id ∧ c = (f.path, 3)) ∨ isChg a b c := by
  obtain ⟨q, k⟩ := c
  simp only [isChg, List.mem_cons, Prod.mk.injEq]
  constructor
  · rintro (⟨e, ⟨x, rfl | hx, hp⟩, h⟩ | ⟨e, ⟨y, rfl | hy, hq⟩, h⟩ | ⟨e, x, rfl | hx, y, rfl | hy, hp, hq, hn⟩)
    · exact absurd (hfg.symm.trans hp) (h g (.inl rfl))
    · exact .inr (.inl ⟨e, ⟨x, hx, hp⟩, fun y hy => h y (.inr hy)⟩)
    · exact absurd (hfg.trans hq) (h f (.inl rfl))
    · exact .inr (.inr (.inl ⟨e, ⟨y, hy, hq⟩, fun x hx => h x (.inr hx)⟩))
    · exact .inl ⟨hn, hp.symm, e⟩
    · exact absurd (hq.trans hp.symm) (hb y hy)
    · exact absurd (hp.trans (hq.symm.trans hfg.symm)) (ha x hx)
    · exact .inr (.inr (.inr ⟨e, x, hx, y, hy, hp, hq, hn⟩))
  · rintro (⟨hn, rfl, rfl⟩ | ⟨e, ⟨x, hx, hp⟩, h⟩ | ⟨e, ⟨y, hy, hq⟩, h'⟩ | ⟨e, x, hx, y, hy, hp, hq, hn⟩)
    · exact .inr (.inr ⟨rfl, f, .inl rfl, g, .inl rfl, rfl, hfg.symm, hn⟩)
    · refine .inl ⟨e, ⟨x, .inr hx, hp⟩, ?_⟩
      rintro y (rfl | hy)
      · intro hq; exact ha x hx (hp.trans (hq.symm.trans hfg.symm))
      · exact h y hy
    · refine .inr (.inl ⟨e, ⟨y, .inr hy, hq⟩, ?_⟩)
      rintro x (rfl | hx)
      · intro hp; exact hb y hy (hq.trans hp.symm)
      · exact h' x hx
    · exact .inr (.inr ⟨e, x, .inr hx, y, .inr hy, hp, hq, hn⟩)
theorem ne_of_lt {p q : Bytes} (h : pcmp p q < 0) : q ≠ p := fun e => by rw [pcmp_zero.2 e.symm] at h; omega

theorem mem_lists : ∀ {a b : List Inp}, SortedI a → SortedI b → (∀ c, c ∈ lists a b ↔ isChg a b c) ∧ Sorted (lists a b) ∧ (∀ p : Bytes, (∀ f ∈ a, pcmp p f.path < 0) → (∀ g ∈ b, pcmp p g.path < 0) → ∀ c ∈ lists a b, pcmp p c.1 < 0)
  | [], [], _, _ => by
    rw [lists]
    exact ⟨fun c => by simp [isChg], .nil, fun p _ _ c hc => by simp at hc⟩
  | f :: a, [], ha, hb => by
    have ha' := List.pairwise_cons.1 ha
    obtain ⟨h1, h2, h3⟩ := mem_lists ha'.2 hb
    rw [lists]
    refine ⟨fun c => ?_, List.pairwise_cons.2 ⟨h3 f.path ha'.1 (by simp), h2⟩, fun p hp hq c hc => ?_⟩
    · rw [List.mem_cons, h1, isChg_left (fun x hx => ne_of_lt (ha'.1 x hx)) (by simp)]
    · rcases List.mem_cons.1 hc with rfl | hc
      · exact hp f (by simp)
      · exact h3 p (fun x hx => hp x (by simp [hx])) hq c hc
  | [], g :: b, ha, hb => by
    have hb' := List.pairwise_cons.1 hb
    obtain ⟨h1, h2, h3⟩ := mem_lists ha hb'.2
    rw [lists]
    refine ⟨fun c => ?_, List.pairwise_cons.2 ⟨h3 g.path (by simp) hb'.1, h2⟩, fun p hp hq c hc => ?_⟩
    · rw [List.mem_cons, h1, isChg_right (by simp) (fun x hx => ne_of_lt (hb'.1 x hx))]
    · rcases List.mem_cons.1 hc with rfl | hc
      · exact hq g (by simp)
      · exact h3 p hp (fun x hx => hq x (by simp [hx])) c hc
  | f :: a, g :: b, ha, hb => by
    have ha' := List.pairwise_cons.1 ha
    have hb' := List.pairwise_cons.1 hb
    rw [lists]
    by_cases hlt : pcmp f.path g.path < 0
    · rw [if_pos hlt]
      obtain ⟨h1, h2, h3⟩ := mem_lists ha'.2 hb
      have hfb : ∀ y ∈ g :: b, pcmp f.path y.path < 0 := fun y hy => by
        rcases List.mem_cons.1 hy with rfl | hy
        · exact hlt
        · exact pcmp_trans hlt (hb'.1 y hy)
      refine ⟨fun c => ?_, List.pairwise_cons.2 ⟨h3 f.path ha'.1 hfb, h2⟩, fun p hp hq c hc => ?_⟩
      · rw [List.mem_cons, h1, isChg_left (fun x hx => ne_of_lt (ha'.1 x hx)) (fun y hy => ne_of_lt (hfb y hy))]
      · rcases List.mem_cons.1 hc with rfl | hc
        · exact hp f (by simp)
        · exact h3 p (fun x hx => hp x (by simp [hx])) hq c hc
    · rw [if_neg hlt]
      by_cases hgt : 0 < pcmp f.path g.path
      · rw [if_pos hgt]
        have hgf : pcmp g.path f.path < 0 := by rw [pcmp_swap]; omega
        obtain ⟨h1, h2, h3⟩ := mem_lists ha hb'.2
        have hga : ∀ x ∈ f :: a, pcmp g.path x.path < 0 := fun x hx => by
          rcases List.mem_cons.1 hx with rfl | hx
          · exact hgf
          · exact pcmp_trans hgf (ha'.1 x hx)
        refine ⟨fun c => ?_, List.pairwise_cons.2 ⟨h3 g.path hga hb'.1, h2⟩, fun p hp hq c hc => ?_⟩
        · rw [List.mem_cons, h1, isChg_right (fun x hx => ne_of_lt (hga x hx)) (fun y hy => ne_of_lt (hb'.1 y hy))]
        · rcases List.mem_cons.1 hc with rfl | hc
          · exact hq g (by simp)
          · exact h3 p hp (fun x hx => hq x (by simp [hx])) c hc
      · rw [if_neg hgt]
        have hfg : f.path = g.path := pcmp_zero.1 (by omega)
        obtain ⟨h1, h2, h3⟩ := mem_lists ha'.2 hb'.2
        have hb2 : ∀ y ∈ b, pcmp f.path y.path < 0 := fun y hy => by rw [hfg]; exact hb'.1 y hy
        have hboth := fun c => isChg_both (c := c) hfg (fun x hx => ne_of_lt (ha'.1 x hx)) (fun y hy => ne_of_lt (hb2 y hy))
        by_cases hid : f.id = g.id
        · rw [if_pos hid]
          refine ⟨fun c => ?_, h2, fun p hp hq c hc => h3 p (fun x hx => hp x (by simp [hx])) (fun x hx => hq x (by simp [hx])) c hc⟩
          rw [List.nil_append, h1, hboth]; simp [hid]
        · rw [if_neg hid]
          refine ⟨fun c => ?_, List.pairwise_cons.2 ⟨h3 f.path ha'.1 hb2, h2⟩, fun p hp hq c hc => ?_⟩
          · rw [List.singleton_append, List.mem_cons, h1, hboth]; simp [hid]
          · rcases List.mem_cons.1 hc with rfl | hc
            · exact hp f (by simp)
            · exact h3 p (fun x hx => hp x (by simp [hx])) (fun x hx => hq x (by simp [hx])) c hc
  termination_by a b => a.length + b.length
theorem lists_of {a b : List Inp} (ha : rises a = true) (hb : rises b = true) : lists a b = ofC' a b := by
  have ha := rises_sorted ha
  have hb := rises_sorted hb
  obtain ⟨h1, h2, _⟩ := mem_lists ha hb
  exact sorted_ext h2 (of_sorted ha hb) fun c => by rw [h1, mem_of hb]
end Go.Proofs.YtainplhaaklpeaaDoor
