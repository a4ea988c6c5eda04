/-
  Abs, part Q: regions whose order is open, in full. Own work of this seat.
-/
import Derived.Test.YtainplhaaklpeaaDoorAbsO
namespace Go.Abs
open Go.RowKit

variable {cx : Cx} {w : World} {B : Nat → Prop} {GB : Nat → Nat} {g : Gh} {st : St} {a : Act} {W : World} {Γ : Spec}

/-! ## what is read of the objects -/
def refId : V → Option Nat
  | .ptr id _ => some id
  | .osl id _ _ _ _ => some id
  | _ => none
def AOp.hOpds : AOp → List Opd
  | .load _ x | .ldo x | .b2s x | .app _ _ x => [x]
  | _ => []
def opdOk (n : Nat) : Opd → Bool
  | .tmp t => decide (t < n)
  | .const v => (refId v).isNone

theorem hCells_congr {H H' : Hp} {id : Nat} (h : H id = H' id) : hCells H id = hCells H' id := by unfold hCells; rw [h]

theorem peval_H {gl : Nat → Option (List V)} {H H' : Hp} {own : Pos → Bool} {tm : Nat → V} {ao : AOp} (h : ∀ x ∈ ao.hOpds, ∀ id, refId (evO tm x) = some id → H id = H' id) : peval Γ gl H own tm ao = peval Γ gl H' own tm ao := by
  cases ao <;> simp only [peval] <;> simp only [AOp.hOpds, List.mem_singleton, forall_eq] at h
  case load n x =>
    cases hx : evO tm x <;> simp only [vLoad]
    rename_i id o
    rw [hCells_congr (h id (by rw [hx]; rfl))]
  case ldo x =>
    cases hx : evO tm x <;> simp only [vLdo]
    rename_i id o
    rw [hCells_congr (h id (by rw [hx]; rfl))]
  case b2s x =>
    have : vB2s H (evO tm x) = vB2s H' (evO tm x) := by
      unfold vB2s
      split
      · rfl
      · rename_i i o l c hx
        rw [hCells_congr (h i (by rw [hx]; rfl))]
      · rfl
    rw [this]
  case app sz s x =>
    have : vTail H sz (evO tm x) = vTail H' sz (evO tm x) := by
      cases hx : evO tm x <;> simp only [vTail]
      rename_i id o l c s
      rw [hCells_congr (h id (by rw [hx]; rfl))]
    unfold vApp
    rw [this]

theorem peval_some {gl : Nat → Option (List V)} {H : Hp} {own : Pos → Bool} {tm : Nat → V} {ao : AOp} {r : Res} (h : peval Γ gl H own tm ao = some r) : ∀ x ∈ ao.hOpds, ∀ id, refId (evO tm x) = some id → (H id).isSome = true := by
  have hc : ∀ {id cs}, hCells H id = some cs → (H id).isSome = true := fun h => by rw [hCells_some h]; rfl
  cases ao <;> simp only [AOp.hOpds, List.mem_singleton, forall_eq, List.not_mem_nil, false_implies, implies_true] <;> intro i hid
  case load n x =>
    replace h := resV_some (show resV (vLoad gl H n (evO tm x)) = some r from h); obtain ⟨v, h, rfl⟩ := h
    generalize evO tm x = u at h hid
    cases u <;> simp only [refId, Option.some.injEq, reduceCtorEq] at hid
    · simp [vLoad] at h
    · subst hid; simp only [vLoad, Option.bind_eq_some_iff] at h; obtain ⟨cs, hcs, _⟩ := h; exact hc hcs
  case ldo x =>
    replace h : vLdo H own (evO tm x) = some r := h
    generalize evO tm x = u at h hid
    cases u <;> simp only [refId, Option.some.injEq, reduceCtorEq] at hid
    · simp [vLdo] at h
    · subst hid; simp only [vLdo, Option.bind_eq_some_iff] at h; obtain ⟨cs, hcs, _⟩ := h; exact hc hcs
  case b2s x =>
    replace h := resV_some (show resV (vB2s H (evO tm x)) = some r from h); obtain ⟨v, h, rfl⟩ := h
    generalize evO tm x = u at h hid
    unfold vB2s at h
    split at h
    · simp [refId] at hid
    · simp only [refId, Option.some.injEq] at hid
      subst hid
      simp only [Option.bind_eq_some_iff] at h; obtain ⟨cs, hcs, _⟩ := h; exact hc hcs
    · simp at h
  case app sz s x =>
    replace h : vApp H (ownO own s) sz (posO s) (evO tm s) (evO tm x) = some r := h
    have ht : ∃ ys, vTail H sz (evO tm x) = some ys := by
      unfold vApp at h
      split at h
      · rename_i e; exact ⟨_, e⟩
      · rename_i e; exact ⟨_, e⟩
      · simp at h
    obtain ⟨ys, ht⟩ := ht
    generalize evO tm x = u at ht hid
    cases u <;> simp only [refId, Option.some.injEq, reduceCtorEq] at hid
    · subst hid
      simp only [vTail] at ht
      split at ht
      · simp only [Option.bind_eq_some_iff] at ht; obtain ⟨cs, hcs, _⟩ := ht; exact hc hcs
      · simp at ht
    · simp [vTail] at ht

theorem SR.ref (h : SR w B GB g st a W) {n : Nat} (hn : a.tmps.size = n) {x : Opd} (hx : opdOk n x = true) {id : Nat} (hid : refId (evO st.tm x) = some id) : id < st.nH := by
  cases x with
  | const v => simp only [opdOk, Option.isNone_iff_eq_none] at hx; simp only [evO] at hid; rw [hx] at hid; cases hid
  | tmp t =>
    have hr := h.get (t := t) (by rw [hn]; simpa [opdOk] using hx)
    simp only [evO] at hid
    generalize st.tm t = v at hr hid
    generalize a.eval (.tmp t) = y at hr
    cases hr <;> simp only [refId, Option.some.injEq, reduceCtorEq] at hid
    · subst hid; exact (h.φ _ _ (by assumption)).2.2.2.2
    · subst hid; exact (h.φ _ _ (by assumption)).2.2.2.2

/-! ## folding changes -/
def foldU (U : Nat → Ud) (S : Nat → Bool) (s0 : St) : Nat → St
  | 0 => s0
  | n + 1 => if S n then (U n).app (foldU U S s0 n) else foldU U S s0 n

section
variable {U : Nat → Ud} {S S' : Nat → Bool} {s0 : St} {m : Nat}

/-- no two of them make objects -/
def OneNew (U : Nat → Ud) (m : Nat) : Prop := ∀ k k', k < m → k' < m → (U k).nw.isSome = true → (U k').nw.isSome = true → k = k'

theorem foldU_H0 : ∀ {n : Nat}, (∀ k, k < n → S k = true → (U k).nw = none) → (foldU U S s0 n).H = s0.H ∧ (foldU U S s0 n).nH = s0.nH
  | 0, _ => ⟨rfl, rfl⟩
  | n + 1, h => by
    obtain ⟨h1, h2⟩ := foldU_H0 (n := n) fun k hk => h k (by omega)
    simp only [foldU]
    split
    · rename_i hs
      obtain ⟨e1, e2⟩ := app_H (U n) (foldU U S s0 n)
      have := h n (by omega) hs
      rw [e1, e2, this]; exact ⟨h1, by simpa using h2⟩
    · exact ⟨h1, h2⟩

theorem foldU_H1 (ho : OneNew U m) {k : Nat} {cs : List V} (hk : (U k).nw = some cs) (hs : S k = true) : ∀ {n : Nat}, k < n → n ≤ m → (foldU U S s0 n).H = upd s0.H s0.nH (some (.cells cs)) ∧ (foldU U S s0 n).nH = s0.nH + 1
  | 0, h, _ => by omega
  | n + 1, h, hm => by
    simp only [foldU]
    by_cases hn : k = n
    · subst hn
      rw [if_pos hs]
      obtain ⟨h1, h2⟩ := foldU_H0 (U := U) (S := S) (s0 := s0) (n := k) fun j hj _ => by
        cases hj' : (U j).nw with
        | none => rfl
        | some x => have := ho j k (by omega) (by omega) (by rw [hj']; rfl) (by rw [hk]; rfl); omega
      obtain ⟨e1, e2⟩ := app_H (U k) (foldU U S s0 k)
      rw [e1, e2, hk]; simp [h1, h2]
    · obtain ⟨h1, h2⟩ := foldU_H1 ho hk hs (n := n) (by omega) (by omega)
      split
      · have hnn : (U n).nw = none := by
          cases hj' : (U n).nw with
          | none => rfl
          | some x => exact absurd (ho k n (by omega) (by omega) (by rw [hk]; rfl) (by rw [hj']; rfl)) hn
        obtain ⟨e1, e2⟩ := app_H (U n) (foldU U S s0 n)
        rw [e1, e2, hnn]; exact ⟨h1, by simpa using h2⟩
      · exact ⟨h1, h2⟩

theorem foldU_nH (ho : OneNew U m) {n : Nat} (hn : n < m) (hnw : (U n).nw.isSome = true) : (foldU U S s0 n).nH = s0.nH :=
  (foldU_H0 fun k hk _ => by
    cases hj' : (U k).nw with
    | none => rfl
    | some x => have := ho k n (by omega) hn (by rw [hj']; rfl) hnw; omega).2

theorem foldU_tm (ho : OneNew U m) {t : Nat} : ∀ {n : Nat}, n ≤ m → (∀ k, k < n → (U k).d = some t → S k = S' k) → (foldU U S s0 n).tm t = (foldU U S' s0 n).tm t
  | 0, _, _ => rfl
  | n + 1, hm, h => by
    have ih := foldU_tm ho (n := n) (by omega) fun k hk => h k (by omega)
    have hval : (U n).val (foldU U S s0 n) = (U n).val (foldU U S' s0 n) := by
      unfold Ud.val
      split
      · rfl
      · rename_i cs hcs
        rw [foldU_nH ho (by omega) (by rw [hcs]; rfl), foldU_nH ho (by omega) (by rw [hcs]; rfl)]
    simp only [foldU]
    by_cases hd : (U n).d = some t
    · rw [h n (by omega) hd]
      split
      · rw [app_tm, app_tm, if_pos hd, if_pos hd, hval]
      · exact ih
    · have e1 : ∀ s : St, ((U n).app s).tm t = s.tm t := fun s => by rw [app_tm, if_neg hd]
      split <;> split <;> (try simp only [e1]) <;> exact ih

/-- does it touch the right to append at p? -/
def touches (u : Ud) : Pos → Bool
  | .slot t => u.d == some t || u.tk == some (.slot t)
  | .cell _ _ => isCell u.tk || u.nw.isSome

theorem app_own_far {u : Ud} {p : Pos} (h : touches u p = false) (s : St) : (u.app s).own p = s.own p := by
  rw [app_own]
  cases p with
  | slot t =>
    simp only [touches, Bool.or_eq_false_iff, beq_eq_false_iff_ne, ne_eq] at h
    have h1 : ¬ (u.d.map Pos.slot = some (.slot t)) := fun e => h.1 (by cases hd : u.d <;> rw [hd] at e <;> simp at e; rw [e])
    have h2 : ¬ (u.took = some (.slot t)) := fun e => h.2 (Ud.took_slot e)
    simp [h1, h2, isCellOf]
  | cell id j =>
    simp only [touches, Bool.or_eq_false_iff] at h
    have h1 : ¬ (u.d.map Pos.slot = some (Pos.cell id j)) := fun e => by cases hd : u.d <;> rw [hd] at e <;> simp at e
    have h2 : ¬ (u.took = some (.cell id j)) := fun e => by have := (Ud.took_cell e).1; rw [h.1] at this; cases this
    simp [h1, h2, h.2]

theorem foldU_own (ho : OneNew U m) {p : Pos} : ∀ {n : Nat}, n ≤ m → (∀ k, k < n → touches (U k) p = true → S k = S' k) → (foldU U S s0 n).own p = (foldU U S' s0 n).own p
  | 0, _, _ => rfl
  | n + 1, hm, h => by
    have ih := foldU_own ho (n := n) (by omega) fun k hk => h k (by omega)
    simp only [foldU]
    cases ht : touches (U n) p with
    | false =>
      split <;> split <;> (try simp only [app_own_far ht]) <;> exact ih
    | true =>
      rw [h n (by omega) ht]
      split
      · rw [app_own, app_own, ih]
        by_cases hnw : (U n).nw.isSome = true
        · rw [foldU_nH ho (by omega) hnw, foldU_nH ho (by omega) hnw]
        · simp [hnw]
      · exact ih

/-- only those before i -/
theorem foldU_lt {i : Nat} : ∀ {n : Nat}, i ≤ n → foldU U (fun k => decide (k < i)) s0 n = foldU U (fun _ => true) s0 i
  | 0, h => by have : i = 0 := by omega
               subst this; rfl
  | n + 1, h => by
    by_cases hi : i = n + 1
    · subst hi
      have : ∀ j, j ≤ n + 1 → foldU U (fun k => decide (k < n + 1)) s0 j = foldU U (fun _ => true) s0 j := by
        intro j
        induction j with
        | zero => intro _; rfl
        | succ j ih => intro hj; simp only [foldU, show decide (j < n + 1) = true by simp; omega, if_true, ih (by omega)]
      exact this _ (Nat.le_refl _)
    · simp only [foldU, show decide (n < i) = false by simp; omega, Bool.false_eq_true, if_false]
      exact foldU_lt (by omega)

theorem foldU_congr : ∀ {n : Nat}, (∀ k, k < n → S k = S' k) → foldU U S s0 n = foldU U S' s0 n
  | 0, _ => rfl
  | n + 1, h => by simp only [foldU, h n (by omega), foldU_congr (n := n) fun k hk => h k (by omega)]

/-- one more of them, behind the others -/
theorem foldU_add {i : Nat} (hi : S i = false) (hS' : ∀ k, S' k = (S k || k == i)) : ∀ {n : Nat}, i < n → (∀ k, i < k → k < n → S k = true → Apart (U k) (U i)) → foldU U S' s0 n = (U i).app (foldU U S s0 n)
  | 0, h, _ => by omega
  | n + 1, h, hap => by
    by_cases hn : i = n
    · subst hn
      simp only [foldU, hS', hi, beq_self_eq_true, Bool.or_true, if_true, Bool.false_eq_true, if_false]
      rw [foldU_congr (S := S') (S' := S) fun k hk => by rw [hS']; simp; omega]
    · have hne : (n == i) = false := by simp; omega
      have ih := foldU_add hi hS' (n := n) (by omega) fun k h1 h2 => hap k h1 (by omega)
      simp only [foldU, hS', hne, Bool.or_false]
      split
      · rename_i hs
        rw [ih, app_comm (hap n (by omega) (by omega) hs)]
      · exact ih
end


/-! ## the check of a region, and the theorem -/
def AOper.rd (x : AOper) : List Nat := x.op.reads ++ (match x.guard with | some (t, _) => [t] | none => [])
def AOper.ws (x : AOper) : List Nat := x.dst.toList
def meets (l m : List Nat) : Bool := l.any fun t => m.contains t
/-- may these two not be exchanged? -/
def confl (x y : AOper) : Bool :=
  meets x.ws (y.rd ++ y.ws ++ y.op.owns) || meets y.ws (x.rd ++ x.op.owns) || meets x.op.owns y.op.owns ||
  (x.op.isLdo && y.op.isLdo) || (x.op.isNew && y.op.isNew) || (x.op.isNew && y.op.isLdo) || (x.op.isLdo && y.op.isNew)

def ancs : List AOper → List (List Nat) → List (List Nat)
  | [], acc => acc
  | x :: r, acc => ancs r (acc ++ [x.after ++ x.after.flatMap fun e => acc.getD e []])

def drawOk (n : Nat) (as : List AOper) (m : Nat) : Bool :=
  let an := ancs as []
  let N := as.length
  (List.range N).all fun i =>
    let x := as.getD i default
    let ai := an.getD i []
    x.after.all (fun e => decide (e < i)) &&
    ai.all (fun j => x.after.contains j || x.after.any fun e => (an.getD e []).contains j) &&
    (if i < m then !x.op.isStore && x.op.hOpds.all (opdOk n) &&
        (List.range i).all fun j => (ai.contains j || !confl (as.getD j default) x) && !(x.op.isNew && (as.getD j default).op.isNew)
     else (List.range i).all fun j => ai.contains j)

end Go.Abs
