/-
  Abs, part O: a region whose order is open: every order that its edges allow comes to what the text's order comes to. Own work of this seat.
-/
import Derived.Test.YtainplhaaklpeaaDoorAbsN
namespace Go.Abs
open Go.RowKit

variable {cx : Cx} {w : World} {B : Nat → Prop} {GB : Nat → Nat} {g : Gh} {st : St} {a : Act} {W : World} {Γ : Spec}

/-- What one operation changes. -/
structure Ud where
  d : Option Nat
  v : V
  o : Bool
  tk : Option Pos
  nw : Option (List V)

def Ud.app (u : Ud) (st : St) : St :=
  match u.nw with
  | none => (st.take u.tk).put u.d u.v u.o
  | some cs => (st.new cs).put u.d (.ptr st.nH 0) false

/-- the same, of an operation that stores nothing -/
def udOf (Γ : Spec) (gl : Nat → Option (List V)) (x : AOper) (st : St) : Option Ud :=
  if st.wants x then
    match x.op with
    | .new cs => some ⟨x.dst, Nil, false, none, some cs⟩
    | .box y => if (st.ev y).cells.all V.sc then some ⟨x.dst, Nil, false, none, some (st.ev y).cells⟩ else none
    | op => (peval Γ gl st.H st.own st.tm op).map fun r => ⟨x.dst, r.v, r.o, r.tk, none⟩
  else some ⟨x.dst, Nil, false, none, none⟩

theorem exec_of_ud {gl : Nat → Option (List V)} {x : AOper} {st : St} {u : Ud} (hns : x.op.isStore = false) (h : udOf Γ gl x st = some u) : exec Γ gl x st = some (u.app st) := by
  unfold udOf at h
  unfold exec
  split at h
  · rename_i hw
    rw [if_pos hw]
    obtain ⟨d, op, gd, af⟩ := x
    cases op <;> simp only [AOp.isStore, Bool.true_eq_false] at hns <;> simp only at h
    case new cs => simp only [Option.some.injEq] at h; subst h; rfl
    case box y =>
      split at h
      · rename_i hall
        simp only [Option.some.injEq] at h; subst h
        simp only [exec1, hall, if_true]; rfl
      · simp at h
    all_goals
      simp only [Option.map_eq_some_iff] at h
      obtain ⟨r, hr, rfl⟩ := h
      simp only [exec1, hr, Option.map_some]
      rfl
  · rename_i hw
    rw [if_neg hw]
    simp only [Option.some.injEq] at h; subst h; rfl

theorem ud_of_exec {gl : Nat → Option (List V)} {x : AOper} {st st' : St} (hns : x.op.isStore = false) (h : exec Γ gl x st = some st') : ∃ u, udOf Γ gl x st = some u ∧ st' = u.app st := by
  unfold exec at h
  unfold udOf
  split at h
  · rename_i hw
    rw [if_pos hw]
    obtain ⟨d, op, gd, af⟩ := x
    cases op <;> simp only [AOp.isStore, Bool.true_eq_false] at hns <;> simp only [exec1] at h
    case new cs => simp only [Option.some.injEq] at h; subst h; exact ⟨_, rfl, rfl⟩
    case box y =>
      split at h
      · rename_i hall
        simp only [Option.some.injEq] at h; subst h
        exact ⟨⟨d, Nil, false, none, some (st.ev y).cells⟩, by simp only [hall, if_true], rfl⟩
      · simp at h
    all_goals
      simp only [Option.map_eq_some_iff] at h
      obtain ⟨r, hr, rfl⟩ := h
      exact ⟨⟨d, r.v, r.o, r.tk, none⟩, by simp only [hr, Option.map_some], rfl⟩
  · rename_i hw
    rw [if_neg hw]
    simp only [Option.some.injEq] at h; subst h
    exact ⟨_, rfl, rfl⟩

theorem ud_d {gl : Nat → Option (List V)} {x : AOper} {st : St} {u : Ud} (h : udOf Γ gl x st = some u) : u.d = x.dst := by
  unfold udOf at h
  split at h
  · split at h
    · simp only [Option.some.injEq] at h; subst h; rfl
    · split at h
      · simp only [Option.some.injEq] at h; subst h; rfl
      · simp at h
    · simp only [Option.map_eq_some_iff] at h; obtain ⟨r, _, rfl⟩ := h; rfl
  · simp only [Option.some.injEq] at h; subst h; rfl

/-- what of the right to append it may take -/
theorem ud_tk {gl : Nat → Option (List V)} {x : AOper} {st : St} {u : Ud} (h : udOf Γ gl x st = some u) : u.tk = none ∨ (∃ t, u.tk = some (.slot t) ∧ t ∈ x.op.owns) ∨ (x.op.isLdo = true ∧ ∃ id j, u.tk = some (.cell id j)) := by
  unfold udOf at h
  split at h
  · rename_i hw
    obtain ⟨d, op, gd, af⟩ := x
    cases op <;> simp only at h
    case new cs => simp only [Option.some.injEq] at h; subst h; exact .inl rfl
    case box y =>
      split at h
      · simp only [Option.some.injEq] at h; subst h; exact .inl rfl
      · simp at h
    all_goals
      simp only [Option.map_eq_some_iff] at h
      obtain ⟨r, hr, rfl⟩ := h
      simp only [peval] at hr
    case mvo t => simp only [Option.some.injEq] at hr; subst hr; exact .inr (.inl ⟨t, rfl, by simp [AOp.owns]⟩)
    case ldo x =>
      unfold vLdo at hr
      split at hr
      · simp only [Option.bind_eq_some_iff, Option.map_eq_some_iff] at hr
        obtain ⟨_, _, _, _, rfl⟩ := hr
        exact .inr (.inr ⟨rfl, _, _, rfl⟩)
      · simp at hr
    case app sz s x =>
      unfold vApp at hr
      split at hr
      · split at hr
        · simp only [Option.some.injEq] at hr; subst hr; exact .inl rfl
        · simp at hr
      · split at hr
        · simp only [Option.some.injEq] at hr; subst hr
          cases s with
          | tmp t => exact .inr (.inl ⟨t, rfl, by simp [AOp.owns, opdR]⟩)
          | const v => exact .inl rfl
        · simp at hr
      · simp at hr
    case slc sz x lo hi mx =>
      unfold vSlc at hr
      split at hr
      · split at hr
        · simp only [Option.map_eq_some_iff] at hr; obtain ⟨_, _, rfl⟩ := hr; exact .inl rfl
        · simp at hr
      · split at hr
        · simp only [Option.map_eq_some_iff] at hr; obtain ⟨_, _, rfl⟩ := hr; exact .inl rfl
        · simp at hr
      · simp at hr
    case bsl sz xs => split at hr <;> simp at hr; subst hr; exact .inl rfl
    case s2b x => unfold vS2b at hr; split at hr <;> simp at hr; subst hr; exact .inl rfl
    case mks sz z x y =>
      unfold vMks at hr
      split at hr
      · split at hr
        · simp only [Option.some.injEq] at hr; subst hr; exact .inl rfl
        · simp at hr
      · simp at hr
    case call f xs => simp only [Option.map_eq_some_iff] at hr; obtain ⟨_, _, rfl⟩ := hr; exact .inl rfl
    case callv f xs =>
      unfold vCallv at hr
      split at hr
      · simp only [Option.map_eq_some_iff] at hr; obtain ⟨_, _, rfl⟩ := hr; exact .inl rfl
      · simp at hr
    case mv x => simp only [Option.some.injEq] at hr; subst hr; exact .inl rfl
    case mkf f xs => simp only [Option.some.injEq] at hr; subst hr; exact .inl rfl
    all_goals first
      | (obtain ⟨_, _, rfl⟩ := resV_some hr; exact .inl rfl)
      | simp at hr
  · simp only [Option.some.injEq] at h; subst h; exact .inl rfl


theorem St.ext' {s t : St} (h1 : s.tm = t.tm) (h2 : s.own = t.own) (h3 : s.H = t.H) (h4 : s.nH = t.nH) : s = t := by cases s; cases t; simp_all

def Ud.val (u : Ud) (st : St) : V := match u.nw with | none => u.v | some _ => .ptr st.nH 0
def Ud.flag (u : Ud) : Bool := match u.nw with | none => u.o | some _ => false
def Ud.took (u : Ud) : Option Pos := match u.nw with | none => u.tk | some _ => none

theorem app_tm (u : Ud) (st : St) (t : Nat) : (u.app st).tm t = if u.d = some t then u.val st else st.tm t := by
  obtain ⟨d, v, o, tk, nw⟩ := u
  cases nw <;> cases d <;> simp [Ud.app, Ud.val, St.put, upd, St.new, eq_comm]

def isCellOf (id : Nat) : Pos → Bool
  | .cell i _ => i == id
  | .slot _ => false

theorem app_own (u : Ud) (st : St) (p : Pos) : (u.app st).own p = if u.d.map Pos.slot = some p then u.flag else if u.took = some p then false else if u.nw.isSome = true ∧ isCellOf st.nH p = true then false else st.own p := by
  obtain ⟨d, v, o, tk, nw⟩ := u
  have h1 : ∀ d : Nat, (Option.map Pos.slot (some d) = some p) ↔ p = .slot d := fun d => by simp [eq_comm (a := p)]
  have h2 : ∀ q : Pos, (some q = some p) ↔ p = q := fun q => by simp [eq_comm (a := p)]
  have h3 : (Option.map Pos.slot (none : Option Nat) = some p) ↔ False := by simp
  have h4 : ((none : Option Pos) = some p) ↔ False := by simp
  cases nw with
  | none =>
    cases d with
    | none =>
      cases tk with
      | none => simp [Ud.app, Ud.took, St.put, St.take]
      | some q => simp only [Ud.app, Ud.took, St.put, St.take, updP, h2, h3, if_false]; simp
    | some d =>
      cases tk with
      | none => simp only [Ud.app, Ud.took, Ud.flag, St.put, St.take, updP, h1, h4, if_false]; simp
      | some q => simp only [Ud.app, Ud.took, Ud.flag, St.put, St.take, updP, h1, h2]; simp
  | some cs =>
    cases d with
    | none => cases p <;> simp [Ud.app, Ud.took, St.put, St.new, isCellOf]
    | some d =>
      simp only [Ud.app, Ud.took, Ud.flag, St.put, St.new, updP, h1, h4, if_false]
      cases p <;> simp [isCellOf]

theorem app_H (u : Ud) (st : St) : (u.app st).H = (match u.nw with | none => st.H | some cs => upd st.H st.nH (some (.cells cs))) ∧ (u.app st).nH = st.nH + (if u.nw.isSome then 1 else 0) := by
  obtain ⟨d, v, o, tk, nw⟩ := u
  cases nw <;> cases d <;> simp [Ud.app, St.put, St.new]

def isCell : Option Pos → Bool
  | some (.cell _ _) => true
  | _ => false

/-- Two changes that do not meet. -/
structure Apart (u v : Ud) : Prop where
  d : ∀ t, u.d = some t → v.d ≠ some t
  tu : ∀ t, u.tk = some (.slot t) → v.d ≠ some t ∧ v.tk ≠ some (.slot t)
  tv : ∀ t, v.tk = some (.slot t) → u.d ≠ some t ∧ u.tk ≠ some (.slot t)
  c : ¬ (isCell u.tk = true ∧ isCell v.tk = true)
  n : ¬ (u.nw.isSome = true ∧ v.nw.isSome = true)
  nu : u.nw.isSome = true → isCell v.tk = false
  nv : v.nw.isSome = true → isCell u.tk = false

theorem Ud.took_slot {u : Ud} {t : Nat} (h : u.took = some (.slot t)) : u.tk = some (.slot t) := by
  unfold Ud.took at h; split at h
  · exact h
  · cases h
theorem Ud.took_cell {u : Ud} {id j : Nat} (h : u.took = some (.cell id j)) : isCell u.tk = true ∧ u.nw = none := by
  unfold Ud.took at h; split at h
  · rename_i e; rw [h]; exact ⟨rfl, e⟩
  · cases h

theorem app_comm {u v : Ud} (h : Apart u v) (st : St) : u.app (v.app st) = v.app (u.app st) := by
  obtain ⟨hu1, hu2⟩ := app_H u st
  obtain ⟨hv1, hv2⟩ := app_H v st
  obtain ⟨huv1, huv2⟩ := app_H u (v.app st)
  obtain ⟨hvu1, hvu2⟩ := app_H v (u.app st)
  have hn : u.nw = none ∨ v.nw = none := by
    cases hu : u.nw with
    | none => exact .inl rfl
    | some a => cases hv : v.nw with
      | none => exact .inr rfl
      | some b => exact absurd ⟨by simp [hu], by simp [hv]⟩ h.n
  have valu : u.val (v.app st) = u.val st := by
    unfold Ud.val
    rcases hn with e | e
    · rw [e]
    · rw [hv2, e]; rfl
  have valv : v.val (u.app st) = v.val st := by
    unfold Ud.val
    rcases hn with e | e
    · rw [hu2, e]; rfl
    · rw [e]
  apply St.ext'
  · funext t
    rw [app_tm, app_tm, app_tm, app_tm, valu, valv]
    by_cases e1 : u.d = some t
    · rw [if_pos e1, if_neg (h.d t e1), if_pos e1]
    · rw [if_neg e1, if_neg e1]
  · funext p
    rw [app_own, app_own, app_own, app_own]
    cases p with
    | slot t =>
      have e : ∀ x : Option Nat, (x.map Pos.slot = some (.slot t)) ↔ x = some t := by intro x; cases x <;> simp
      simp only [e, isCellOf, Bool.false_eq_true, and_false, if_false]
      by_cases c1 : u.d = some t
      · have c2 := h.d t c1
        have c3 : v.took ≠ some (.slot t) := fun e => (h.tv t (Ud.took_slot e)).1 c1
        simp [c1, c2, c3]
      · by_cases c2 : v.d = some t
        · have c3 : u.took ≠ some (.slot t) := fun e => (h.tu t (Ud.took_slot e)).1 c2
          simp [c1, c2, c3]
        · simp only [c1, c2, if_false]
          by_cases c3 : u.took = some (.slot t) <;> by_cases c4 : v.took = some (.slot t) <;> simp [c3, c4]
    | cell id j =>
      have e : ∀ x : Option Nat, (x.map Pos.slot = some (Pos.cell id j)) ↔ False := by intro x; cases x <;> simp
      simp only [e, if_false]
      have c2 : ∀ (x : Ud) (s s' : St), x.nw = none → ((x.nw.isSome = true ∧ isCellOf s.nH (.cell id j) = true) ↔ False) := fun x s s' hx => by simp [hx]
      rcases hn with hu | hv
      · have hnH : (u.app st).nH = st.nH := by rw [hu2, hu]; simp
        rw [hnH]
        simp only [hu, Option.isSome_none, Bool.false_eq_true, false_and, if_false]
        by_cases c3 : u.took = some (.cell id j)
        · by_cases c4 : v.took = some (.cell id j)
          · simp [c3, c4]
          · simp only [c3, c4, if_true, if_false]
            by_cases c5 : v.nw.isSome = true ∧ isCellOf st.nH (.cell id j) = true
            · exact absurd (Ud.took_cell c3).1 (by rw [h.nv c5.1]; simp)
            · simp [c5]
        · simp only [c3, if_false]
      · have hnH : (v.app st).nH = st.nH := by rw [hv2, hv]; simp
        rw [hnH]
        simp only [hv, Option.isSome_none, Bool.false_eq_true, false_and, if_false]
        by_cases c3 : v.took = some (.cell id j)
        · by_cases c4 : u.took = some (.cell id j)
          · simp [c3, c4]
          · simp only [c3, c4, if_true, if_false]
            by_cases c5 : u.nw.isSome = true ∧ isCellOf st.nH (.cell id j) = true
            · exact absurd (Ud.took_cell c3).1 (by rw [h.nu c5.1]; simp)
            · simp [c5]
        · simp only [c3, if_false]
  · rw [huv1, hvu1]
    rcases hn with hu | hv
    · rw [hu]; simp only; rw [hv1]; rw [hu1, hu2, hu]; simp
    · rw [hv]; simp only; rw [hu1]; rw [hv1, hv2, hv]; simp
  · rw [huv2, hvu2, hu2, hv2]; omega

end Go.Abs
