/-
  Abs, part C: a plain state and the machine's: how they hang together; what a step may do to memory. Own work of this seat.
-/
import Derived.Test.YtainplhaaklpeaaDoorAbsB
namespace Go.Abs
open Go.RowKit

/-- What a step may do to memory: the blocks of B, and new ones. -/
structure Bel (B : Nat → Prop) (w w' : World) : Prop where
  os : w'.os = w.os
  tape : w'.tape = w.tape
  output : w'.output = w.output
  size : w.heap.size ≤ w'.heap.size
  block : ∀ k, ¬ B k → w'.heap[k]? = w.heap[k]?
theorem Bel.refl (B : Nat → Prop) (w : World) : Bel B w w := ⟨rfl, rfl, rfl, Nat.le_refl _, fun _ _ => rfl⟩
theorem Bel.trans {B : Nat → Prop} {a b c : World} (h : Bel B a b) (k : Bel B b c) : Bel B a c :=
  ⟨k.os.trans h.os, k.tape.trans h.tape, k.output.trans h.output, Nat.le_trans h.size k.size, fun i hi => (k.block i hi).trans (h.block i hi)⟩
theorem Bel.drew {B : Nat → Prop} {a w : World} (h : Bel B a w) : Bel B a w.drew := ⟨h.os, h.tape, h.output, h.size, h.block⟩
theorem Bel.of {B : Nat → Prop} {n : Nat} {a w : World} (h : Below n a w) (hB : ∀ b, n ≤ b → B b) : Bel B a w :=
  ⟨h.os, h.tape, h.output, h.size, fun k hk => h.block k (Nat.lt_of_not_le fun e => hk (hB k e))⟩
theorem Bel.below {n : Nat} {a w : World} (h : Bel (fun b => n ≤ b) a w) : Below n a w := ⟨h.os, h.tape, h.output, h.size, fun k hk => h.block k (Nat.not_le.2 hk)⟩
theorem Bel.low {B : Nat → Prop} {n : Nat} {a w : World} (h : Bel B a w) (hB : ∀ b, B b → n ≤ b) : Below n a w := ⟨h.os, h.tape, h.output, h.size, fun k hk => h.block k fun e => absurd (hB k e) (Nat.not_le.2 hk)⟩
theorem Bel.mono {B B' : Nat → Prop} {a w : World} (h : Bel B a w) (hB : ∀ b, B b → B' b) : Bel B' a w := ⟨h.os, h.tape, h.output, h.size, fun k hk => h.block k fun e => hk (hB k e)⟩

structure Gh where
  G : Nat → Nat
  φ : Nat → Option Nat
  ow : Nat → Option Pos

/-- The right to append in place: nothing behind the slice's end belongs to anybody else; or there is no room. -/
def OwnAt (W : World) (B : Nat → Prop) (g : Gh) (p : Pos) (v : V) (x : Value) : Prop :=
  ∀ sz xs b off len cap sp, v = .sl false sz xs → x = .slice (some ⟨b, off, sp⟩) len cap →
    cap = len ∨ (B b ∧ g.ow b = some p ∧ off + xs.length * sz = g.G b ∧
      ∃ cs t lo hi, W.heap[b]? = some (.cells cs t (lo, hi)) ∧ off + cap * sz ≤ cs.size ∧ ∀ j, g.G b ≤ j → j < off + cap * sz → ¬ (lo ≤ j ∧ j < hi))

structure SR (w : World) (B : Nat → Prop) (GB : Nat → Nat) (g : Gh) (st : St) (a : Act) (W : World) : Prop where
  defers : a.defers = []
  tm : ∀ (t : Nat) (x : Value), a.tmps[t]? = some x → Rep W g.G g.φ (st.tm t) x
  own : ∀ (t : Nat) (x : Value), a.tmps[t]? = some x → st.own (.slot t) = true → OwnAt W B g (.slot t) (st.tm t) x
  ob : ∀ id cs, st.H id = some (.cells cs) → ∃ b xs t, g.φ id = some b ∧ W.heap[b]? = some (.cells xs t (0, 0)) ∧ RepL W g.G g.φ cs xs ∧ (∀ c ∈ cs, c.sc = true) ∧
    ∀ (j : Nat) (v : V) (x : Value), cs[j]? = some v → xs[j]? = some x → st.own (.cell id j) = true → OwnAt W B g (.cell id j) v x
  obn : ∀ id, st.nH ≤ id → st.H id = none
  φ : ∀ id b, g.φ id = some b → B b ∧ b < W.heap.size ∧ g.G b = 0 ∧ g.ow b = none ∧ id < st.nH
  inj : ∀ id id' b, g.φ id = some b → g.φ id' = some b → id = id'
  Gz : ∀ b, W.heap.size ≤ b → g.G b = 0
  Glo : ∀ b, ¬ B b → g.G b = GB b
  below : Bel B w W
  hB : ∀ b, w.heap.size ≤ b → B b

structure Adv (B : Nat → Prop) (g g' : Gh) (W W' : World) (p : Option Pos) : Prop where
  keeps : Keeps W g.G g.φ W' g'.G g'.φ
  φ : g'.φ = g.φ
  below : Bel B W W'
  Glo : ∀ b, ¬ B b → g'.G b = g.G b
  ob : ∀ b id, g.φ id = some b → b < W.heap.size → g.G b = 0 → g.ow b = none → W'.heap[b]? = W.heap[b]? ∧ g'.G b = 0 ∧ g'.ow b = none
  own : ∀ b q, b < W.heap.size → g.ow b = some q → some q ≠ p → W'.heap[b]? = W.heap[b]? ∧ g'.G b = g.G b ∧ g'.ow b = some q
  Gz : ∀ b, W'.heap.size ≤ b → g'.G b = 0

theorem OwnAt.adv {B g g' W W' p q v x} (h : OwnAt W B g q v x) (ha : Adv B g g' W W' p) (hq : some q ≠ p) : OwnAt W' B g' q v x := by
  intro sz xs b off len cap sp hv hx
  rcases h sz xs b off len cap sp hv hx with h | ⟨h1, h2, h3, cs, t, lo, hi, h4, h5, h6⟩
  · exact .inl h
  · have hlt : b < W.heap.size := (Array.getElem?_eq_some_iff.1 h4).1
    obtain ⟨e1, e2, e3⟩ := ha.own b q hlt h2 hq
    exact .inr ⟨h1, e3, by rw [e2]; exact h3, cs, t, lo, hi, by rw [e1]; exact h4, h5, by rw [e2]; exact h6⟩

theorem St.take_own {st : St} {p : Option Pos} {q : Pos} (h : (st.take p).own q = true) : st.own q = true ∧ some q ≠ p := by
  cases p with
  | none => exact ⟨h, by simp⟩
  | some p =>
    simp only [St.take, updP] at h
    split at h
    · simp at h
    · rename_i hne; exact ⟨h, by simpa using hne⟩
@[simp] theorem St.take_tm (st : St) (p : Option Pos) : (st.take p).tm = st.tm := by cases p <;> rfl
@[simp] theorem St.take_H (st : St) (p : Option Pos) : (st.take p).H = st.H := by cases p <;> rfl
@[simp] theorem St.take_nH (st : St) (p : Option Pos) : (st.take p).nH = st.nH := by cases p <;> rfl

theorem SR.adv {w B GB g g' st a W W' p} (h : SR w B GB g st a W) (ha : Adv B g g' W W' p) : SR w B GB g' (st.take p) a W' where
  defers := h.defers
  tm t x hx := by rw [St.take_tm]; exact (h.tm t x hx).keep ha.keeps
  own t x hx ho := by
    obtain ⟨h1, h2⟩ := St.take_own ho
    rw [St.take_tm]
    exact (h.own t x hx h1).adv ha h2
  ob id cs hH := by
    rw [St.take_H] at hH
    obtain ⟨b, xs, t, h1, h2, h3, h4, h5⟩ := h.ob id cs hH
    obtain ⟨q1, q2, q3, q4, q5⟩ := h.φ id b h1
    obtain ⟨e1, e2, e3⟩ := ha.ob b id h1 q2 q3 q4
    refine ⟨b, xs, t, by rw [ha.φ]; exact h1, by rw [e1]; exact h2, h3.keep ha.keeps, h4, fun j v x hv hx ho => ?_⟩
    obtain ⟨k1, k2⟩ := St.take_own ho
    exact (h5 j v x hv hx k1).adv ha k2
  obn id hid := by rw [St.take_nH] at hid; rw [St.take_H]; exact h.obn id hid
  φ id b hφ := by
    rw [ha.φ] at hφ
    obtain ⟨q1, q2, q3, q4, q5⟩ := h.φ id b hφ
    obtain ⟨e1, e2, e3⟩ := ha.ob b id hφ q2 q3 q4
    exact ⟨q1, Nat.lt_of_lt_of_le q2 ha.below.size, e2, e3, by rw [St.take_nH]; exact q5⟩
  inj id id' b := by rw [ha.φ]; exact h.inj id id' b
  Gz := ha.Gz
  Glo b hb := (ha.Glo b hb).trans (h.Glo b hb)
  below := h.below.trans ha.below
  hB := h.hB

theorem getElem?_put (a : Act) (d : Option Nat) (x : Value) (t : Nat) :
    (a.put d x).tmps[t]? = if d = some t ∧ t < a.tmps.size then some x else a.tmps[t]? := by
  cases d with
  | none => simp [Act.put]
  | some d =>
    simp only [Act.put, Array.getElem?_setIfInBounds]
    by_cases h : d = t
    · subst h; by_cases hs : d < a.tmps.size <;> simp [hs]
    · simp [h]

theorem SR.put {w B GB g st a W} (h : SR w B GB g st a W) (d : Option Nat) (v : V) (o : Bool) (x : Value) (hr : Rep W g.G g.φ v x)
    (ho : ∀ t, d = some t → o = true → OwnAt W B g (.slot t) v x) : SR w B GB g (st.put d v o) (a.put d x) W where
  defers := by cases d <;> exact h.defers
  tm t y hy := by
    rw [getElem?_put] at hy
    cases d with
    | none => simp only [reduceCtorEq, false_and, if_false] at hy; exact h.tm t y hy
    | some d =>
      by_cases e : d = t
      · subst e
        have hlt : d < a.tmps.size := by
          rcases Nat.lt_or_ge d a.tmps.size with h | h
          · exact h
          · simp [Nat.not_lt.2 h] at hy
        simp only [hlt, and_self, if_true, Option.some.injEq] at hy
        subst hy
        simpa [St.put, upd] using hr
      · simp only [Option.some.injEq, e, false_and, if_false] at hy
        have := h.tm t y hy
        simpa [St.put, upd, Ne.symm e] using this
  own t y hy ht := by
    rw [getElem?_put] at hy
    cases d with
    | none => simp only [reduceCtorEq, false_and, if_false] at hy; exact h.own t y hy ht
    | some d =>
      by_cases e : d = t
      · subst e
        have hlt : d < a.tmps.size := by
          rcases Nat.lt_or_ge d a.tmps.size with h | h
          · exact h
          · simp [Nat.not_lt.2 h] at hy
        simp only [hlt, and_self, if_true, Option.some.injEq] at hy
        subst hy
        have ht' : o = true := by simpa [St.put, updP] using ht
        simpa [St.put, upd] using ho d rfl ht'
      · simp only [Option.some.injEq, e, false_and, if_false] at hy
        have ht' : st.own (.slot t) = true := by simpa [St.put, updP, Ne.symm e] using ht
        have := h.own t y hy ht'
        simpa [St.put, upd, Ne.symm e] using this
  ob id cs hH := by
    have hH' : st.H id = some (.cells cs) := by cases d <;> exact hH
    obtain ⟨b, xs, t, h1, h2, h3, h4, h5⟩ := h.ob id cs hH'
    refine ⟨b, xs, t, h1, h2, h3, h4, fun j v x hv hx hw => h5 j v x hv hx ?_⟩
    cases d with
    | none => exact hw
    | some d => simpa [St.put, updP] using hw
  obn id hid := by cases d <;> exact h.obn id hid
  φ id b hφ := by cases d <;> exact h.φ id b hφ
  inj := h.inj
  Gz := h.Gz
  Glo := h.Glo
  below := h.below
  hB := h.hB

/-- What a temporary reads as. -/
theorem SR.get {w B GB g st a W} (h : SR w B GB g st a W) {t : Nat} (ht : t < a.tmps.size) : Rep W g.G g.φ (st.tm t) (a.eval (.tmp t)) := by
  have e : a.tmps[t]? = some a.tmps[t] := Array.getElem?_eq_getElem ht
  have := h.tm t _ e
  simpa [Act.eval, Array.getD, ht] using this

theorem Adv.refl {w B GB g st a W} (h : SR w B GB g st a W) (p : Option Pos) : Adv B g g W W p :=
  ⟨.refl _ _ _, rfl, .refl _ _, fun _ _ => rfl, fun _ _ _ _ h1 h2 => ⟨rfl, h1, h2⟩, fun _ _ _ h _ => ⟨rfl, rfl, h⟩, h.Gz⟩

theorem Adv.drew {B g g' W W' p} (h : Adv B g g' W W' p) : Adv B g g' W W'.drew p :=
  ⟨⟨h.keeps.cell, h.keeps.G, h.keeps.φ⟩, h.φ, h.below.drew, h.Glo, h.ob, h.own, h.Gz⟩

/-- A new block, of which n cells never change; perhaps with the right to append, for q. -/
theorem Adv.alloc {w B GB g st a W} (h : SR w B GB g st a W) (o : Obj) (n : Nat) (q : Option Pos) (p : Option Pos) :
    Adv B g ⟨fun b => if b = W.heap.size then n else g.G b, g.φ, fun b => if b = W.heap.size then q else g.ow b⟩ W (W.alloc o) p := by
  have hB : B W.heap.size := h.hB _ h.below.size
  refine ⟨⟨fun b i hi => ?_, fun b => ?_, fun _ _ h => h⟩, rfl, .of ((Below.refl _ _).alloc (Nat.le_refl _) o) (fun b hb => h.hB b (Nat.le_trans h.below.size hb)), fun b hb => ?_, fun b id h1 h2 h3 h4 => ?_, fun b q h1 h2 _ => ?_, fun b hb => ?_⟩
  · have : b < W.heap.size := by
      rcases Nat.lt_or_ge b W.heap.size with h' | h'
      · exact h'
      · have := h.Gz b h'; omega
    exact World.cell?_of_block (w := W) (Below.heap_alloc _ _ _ this)
  · dsimp only; split
    · rename_i e; have := h.Gz b (by omega); omega
    · exact Nat.le_refl _
  · dsimp only; rw [if_neg (fun e => hb (by rw [e]; exact hB))]
  · dsimp only; rw [if_neg (by omega), if_neg (by omega)]; exact ⟨Below.heap_alloc _ _ _ h2, h3, h4⟩
  · dsimp only; rw [if_neg (by omega), if_neg (by omega)]; exact ⟨Below.heap_alloc _ _ _ h1, rfl, h2⟩
  · dsimp only
    rw [World.size_alloc] at hb
    rw [if_neg (by omega)]; exact h.Gz b (by omega)

#print axioms SR.put
end Go.Abs
