/-
  Parts of the proof, one behind the other. Own work of this seat; some printed by its programs.
-/
import Derived.Test.YtghjeddphkmciaaDoorM0
import Derived.IntWalk
import Derived.Test.YtghjeddphkmciaaDoorRows
import Derived.Deep.Slices
import Derived.ReadAgain
import Derived.Carry
import Derived.OpenShut
/-
  Abs, part R: regions whose order is open: the theorem. Own work of this seat.
-/
namespace Go.Abs
open Go.RowKit

variable {cx : Cx} {w : World} {B : Nat → Prop} {GB : Gh} {g : Gh} {st : St} {a : Act} {W : World} {Γ : Spec}

theorem meets_false {l m : List Nat} (h : meets l m = false) {t : Nat} (hl : t ∈ l) : t ∉ m := by
  intro hm
  have := List.any_eq_false.1 h t hl
  simp [hm] at this

theorem apart_of {gl : Nat → Option (List V)} {x y : AOper} {s s' : St} {u v : Ud} (hu : udOf Γ gl x s = some u) (hv : udOf Γ gl y s' = some v) (hc : confl x y = false) (hnu : u.nw.isSome = true → x.op.isNew = true) (hnv : v.nw.isSome = true → y.op.isNew = true) : Apart u v := by
  simp only [confl, Bool.or_eq_false_iff] at hc
  obtain ⟨⟨⟨⟨⟨⟨c1, c2⟩, c3⟩, c4⟩, c5⟩, c6⟩, c7⟩ := hc
  have du := ud_d hu
  have dv := ud_d hv
  have tu := ud_tk hu
  have tv := ud_tk hv
  have mem : ∀ {z : AOper} {t : Nat}, z.dst = some t → t ∈ z.ws := fun h => by simp [AOper.ws, h]
  have cellu : isCell u.tk = true → x.op.isLdo = true := fun h => by
    rcases tu with e | ⟨t, e, _⟩ | ⟨e, _⟩
    · rw [e] at h; cases h
    · rw [e] at h; cases h
    · exact e
  have cellv : isCell v.tk = true → y.op.isLdo = true := fun h => by
    rcases tv with e | ⟨t, e, _⟩ | ⟨e, _⟩
    · rw [e] at h; cases h
    · rw [e] at h; cases h
    · exact e
  have slotu : ∀ t, u.tk = some (.slot t) → t ∈ x.op.owns := fun t h => by
    rcases tu with e | ⟨t', e, h'⟩ | ⟨_, id, j, e⟩
    · rw [e] at h; cases h
    · rw [e] at h; cases h; exact h'
    · rw [e] at h; cases h
  have slotv : ∀ t, v.tk = some (.slot t) → t ∈ y.op.owns := fun t h => by
    rcases tv with e | ⟨t', e, h'⟩ | ⟨_, id, j, e⟩
    · rw [e] at h; cases h
    · rw [e] at h; cases h; exact h'
    · rw [e] at h; cases h
  refine ⟨fun t h1 h2 => ?_, fun t h => ⟨fun h2 => ?_, fun h2 => ?_⟩, fun t h => ⟨fun h2 => ?_, fun h2 => ?_⟩, fun ⟨h1, h2⟩ => ?_, fun ⟨h1, h2⟩ => ?_, fun h => ?_, fun h => ?_⟩
  · rw [du] at h1; rw [dv] at h2
    exact meets_false c1 (mem h1) (by simp [mem h2])
  · rw [dv] at h2
    exact meets_false c2 (mem h2) (by simp [slotu t h])
  · exact meets_false c3 (slotu t h) (slotv t h2)
  · rw [du] at h2
    exact meets_false c1 (mem h2) (by simp [slotv t h])
  · exact meets_false c3 (slotu t h2) (slotv t h)
  · rw [cellu h1, cellv h2] at c4; cases c4
  · rw [hnu h1, hnv h2] at c5; cases c5
  · cases hh : isCell v.tk with
    | false => rfl
    | true => rw [hnu h, cellv hh] at c6; cases c6
  · cases hh : isCell u.tk with
    | false => rfl
    | true => rw [hnv h, cellu hh] at c7; cases c7

theorem confl_symm {x y : AOper} (h : confl x y = false) : confl y x = false := by
  simp only [confl, Bool.or_eq_false_iff] at h ⊢
  obtain ⟨⟨⟨⟨⟨⟨c1, c2⟩, c3⟩, c4⟩, c5⟩, c6⟩, c7⟩ := h
  have m1 : ∀ {l m : List Nat}, (∀ t ∈ l, t ∉ m) → meets l m = false := fun h => List.any_eq_false.2 fun t ht => by simpa using h t ht
  refine ⟨⟨⟨⟨⟨⟨m1 fun t ht hm => ?_, m1 fun t ht hm => ?_⟩, m1 fun t ht hm => meets_false c3 hm ht⟩, by rw [Bool.and_comm]; exact c4⟩, by rw [Bool.and_comm]; exact c5⟩, by rw [Bool.and_comm]; exact c7⟩, by rw [Bool.and_comm]; exact c6⟩
  · simp only [List.append_assoc, List.mem_append] at hm
    rcases hm with hm | hm | hm
    · exact meets_false c2 ht (by simp [hm])
    · exact meets_false c1 hm (by simp [ht])
    · exact meets_false c2 ht (by simp [hm])
  · simp only [List.mem_append] at hm
    rcases hm with hm | hm
    · exact meets_false c1 ht (by simp [hm])
    · exact meets_false c1 ht (by simp [hm])

theorem ud_new {gl : Nat → Option (List V)} {x : AOper} {s : St} {u : Ud} (h : udOf Γ gl x s = some u) (hn : u.nw.isSome = true) : x.op.isNew = true := by
  unfold udOf at h
  split at h
  · split at h
    · rename_i e; simp [AOp.isNew, e]
    · rename_i e; simp [AOp.isNew, e]
    · simp only [Option.map_eq_some_iff] at h; obtain ⟨r, _, rfl⟩ := h; simp at hn
  · simp only [Option.some.injEq] at h; subst h; simp at hn

/-- the same change at another state that reads the same -/
theorem ud_congr {gl : Nat → Option (List V)} {x : AOper} {s s' : St} {u : Ud} (hns : x.op.isStore = false) (h : udOf Γ gl x s = some u) (htm : ∀ t ∈ x.rd, s'.tm t = s.tm t) (how : ∀ t ∈ x.op.owns, s'.own (.slot t) = s.own (.slot t))
    (hl : x.op.isLdo = true → ∀ id j, s'.own (.cell id j) = s.own (.cell id j))
    (hH : ∀ y ∈ x.op.hOpds, ∀ id, refId (evO s.tm y) = some id → (s.H id).isSome = true → s'.H id = s.H id) : udOf Γ gl x s' = some u := by
  have hr : ∀ t ∈ x.op.reads, s'.tm t = s.tm t := fun t ht => htm t (by simp [AOper.rd, ht])
  have hw : s'.wants x = s.wants x := by
    unfold St.wants
    split
    · rfl
    · rename_i t wt e
      rw [htm t (by simp [AOper.rd, e])]
  unfold udOf at h ⊢
  rw [hw]
  split at h
  · rename_i hwt
    rw [if_pos hwt]
    split at h
    · exact h
    · rename_i y e
      rw [e] at hr
      have : s'.ev y = s.ev y := evO_congr fun t ht => hr t (by simp [AOp.reads, ht])
      rw [this]; exact h
    · rename_i op h1 h2
      simp only [Option.map_eq_some_iff] at h
      obtain ⟨r, hr0, rfl⟩ := h
      have hsome := peval_some hr0
      have e : peval Γ gl s'.H s'.own s'.tm x.op = some r := by
        rw [← hr0, ← peval_congr (Γ := Γ) (gl := gl) (H := s'.H) (own := s.own) (own' := s'.own) (tm := s.tm) (tm' := s'.tm) (ao := x.op) (fun t ht => (hr t ht).symm) (fun t ht => (how t ht).symm) (fun hx id j => (hl hx id j).symm)]
        exact peval_H fun y hy id hid => hH y hy id hid (hsome y hy id hid)
      rw [e]; rfl
  · rename_i hwt
    rw [if_neg hwt]; exact h


theorem ancs_getD : ∀ (aos : List AOper) (acc : List (List Nat)), (ancs aos acc).length = acc.length + aos.length
  | [], acc => by simp [ancs]
  | x :: r, acc => by simp [ancs, ancs_getD r]; omega

theorem getD_map {α : Type} [Inhabited α] {l : List α} {i : Nat} {x : α} (h : l[i]? = some x) : l.getD i default = x := by simp [List.getD, h]

/-- WHATEVER ORDER. -/
theorem draw_wpAny (hs : Scope cx w B GB) (hΓ : Sound cx Γ) {n : Nat} {ops : Array Oper} {aos : List AOper} (hc : cOpers cx.P n ops ops.toList = some aos) {m : Nat} (hm : m ≤ aos.length) (hok : drawOk n aos m = true) (h : SR w B GB g st a W) (hn : a.tmps.size = n)
    {st' : St} (he : execs Γ cx.gl aos st = some st') {Q : Exit → Act → World → Prop} (hnext : ∀ g' a' W', SR w B GB g' st' a' W' → a'.tmps.size = n → Q .normal a' W') :
    wpAny cx.P .any ops Q ops.size (Array.replicate ops.size false) a W := by
  obtain ⟨hl, hget⟩ := cOpers_get hc
  simp only [Array.length_toList] at hl
  have hget' : ∀ i, i < ops.size → ∃ (o : Oper) (x : AOper), ops[i]? = some o ∧ aos[i]? = some x ∧ cOper cx.P n ops o = some x := fun i hi => by
    obtain ⟨x, h1, h2⟩ := hget i ops[i] (by simp [hi])
    exact ⟨ops[i], x, Array.getElem?_eq_getElem hi, h1, h2⟩
  -- the states of the text's order
  obtain ⟨s, hs0, hsn, hstep⟩ : ∃ s : Nat → St, s 0 = st ∧ s aos.length = st' ∧ ∀ (i : Nat) (x : AOper), aos[i]? = some x → exec Γ cx.gl x (s i) = some (s (i + 1)) := by
    have key : ∀ (l : List AOper) (s0 s1 : St), execs Γ cx.gl l s0 = some s1 → ∃ s : Nat → St, s 0 = s0 ∧ s l.length = s1 ∧ ∀ (i : Nat) (x : AOper), l[i]? = some x → exec Γ cx.gl x (s i) = some (s (i + 1)) := by
      intro l
      induction l with
      | nil => intro s0 s1 h; simp only [execs, Option.some.injEq] at h; subst h; exact ⟨fun _ => s0, rfl, rfl, fun i x h => by simp at h⟩
      | cons x r ih =>
        intro s0 s1 h
        simp only [execs] at h
        split at h
        · rename_i s2 h2
          obtain ⟨s, h3, h4, h5⟩ := ih s2 s1 h
          refine ⟨fun i => if i = 0 then s0 else s (i - 1), by simp, by simp [h4], fun i y hy => ?_⟩
          cases i with
          | zero => simp at hy; subst hy; simp [h3, h2]
          | succ i => have := h5 i y (by simpa using hy); simpa using this
        · simp at h
    exact key aos st st' he
  -- what the check says
  have hchk : ∀ i, i < aos.length → ∀ x, aos[i]? = some x → (∀ e ∈ x.after, e < i) ∧ (∀ j ∈ (ancs aos []).getD i [], j ∈ x.after ∨ ∃ e ∈ x.after, j ∈ (ancs aos []).getD e []) ∧
      (i < m → x.op.isStore = false ∧ (∀ y ∈ x.op.hOpds, opdOk n y = true) ∧ ∀ j, j < i → ∀ y, aos[j]? = some y → (j ∈ (ancs aos []).getD i [] ∨ confl y x = false) ∧ ¬ (x.op.isNew = true ∧ y.op.isNew = true)) ∧
      (m ≤ i → ∀ j, j < i → j ∈ (ancs aos []).getD i []) := by
    intro i hi x hx
    have := List.all_eq_true.1 hok i (List.mem_range.2 hi)
    simp only [getD_map hx, Bool.and_eq_true, List.all_eq_true, decide_eq_true_eq, Bool.or_eq_true, List.any_eq_true, List.contains_iff_mem] at this
    obtain ⟨⟨h1, h2⟩, h3⟩ := this
    refine ⟨h1, h2, fun hlt => ?_, fun hge => ?_⟩
    · rw [if_pos hlt] at h3
      simp only [Bool.and_eq_true, List.all_eq_true, List.mem_range, Bool.or_eq_true, List.contains_iff_mem, Bool.not_eq_true', Bool.and_eq_false_iff] at h3
      obtain ⟨⟨h3, h4⟩, h5⟩ := h3
      refine ⟨h3, h4, fun j hj y hy => ?_⟩
      obtain ⟨h6, h7⟩ := h5 j hj
      rw [getD_map hy] at h6 h7
      exact ⟨h6, fun ⟨e1, e2⟩ => by rcases h7 with h7 | h7 <;> simp_all⟩
    · rw [if_neg (by omega)] at h3
      simp only [List.all_eq_true, List.mem_range, List.contains_iff_mem] at h3
      exact h3
  have hud : ∀ i, ∃ u : Ud, i < m → ∃ x, aos[i]? = some x ∧ udOf Γ cx.gl x (s i) = some u ∧ s (i + 1) = u.app (s i) := by
    intro i
    by_cases hi : i < m
    · have hx := List.getElem?_eq_getElem (show i < aos.length by omega)
      obtain ⟨u, h1, h2⟩ := ud_of_exec ((hchk i (by omega) _ hx).2.2.1 hi).1 (hstep i _ hx)
      exact ⟨u, fun _ => ⟨_, hx, h1, h2⟩⟩
    · exact ⟨⟨none, Nil, false, none, none⟩, fun h => absurd h hi⟩
  obtain ⟨U, hU⟩ := Classical.axiomOfChoice hud
  have hfold : ∀ i, i ≤ m → foldU U (fun _ => true) st i = s i := by
    intro i
    induction i with
    | zero => intro _; exact hs0.symm
    | succ i ih =>
      intro hi
      obtain ⟨x, _, _, h3⟩ := hU i (by omega)
      simp only [foldU, if_true, ih (by omega), h3]
  have hone : OneNew U m := by
    intro k k' hk hk' h1 h2
    obtain ⟨x, hx, hux, _⟩ := hU k hk
    obtain ⟨y, hy, huy, _⟩ := hU k' hk'
    have n1 := ud_new hux h1
    have n2 := ud_new huy h2
    rcases Nat.lt_trichotomy k k' with hlt | heq | hgt
    · exact absurd ⟨n2, n1⟩ (((hchk k' (by omega) y hy).2.2.1 hk').2.2 k hlt x hx).2
    · exact heq
    · exact absurd ⟨n1, n2⟩ (((hchk k (by omega) x hx).2.2.1 hk).2.2 k' hgt y hy).2
  -- one more operation of the unordered part
  have step1 : ∀ (S : Nat → Bool) (i : Nat), i < m → S i = false → (∀ k, S k = true → k < m) → (∀ k, S k = true → ∀ j ∈ (ancs aos []).getD k [], S j = true) → (∀ j ∈ (ancs aos []).getD i [], S j = true) →
      ∀ g' a' W', SR w B GB g' (foldU U S st m) a' W' → a'.tmps.size = n → ∀ x, aos[i]? = some x → exec Γ cx.gl x (foldU U S st m) = some (foldU U (fun k => S k || k == i) st m) := by
    intro S i hi hSi hSm hcl hpre g' a' W' hsr hn' x hx
    obtain ⟨x', hx', hux, _⟩ := hU i hi
    rw [hx] at hx'; cases hx'
    obtain ⟨hst, hop, hpair⟩ := (hchk i (by omega) x hx).2.2.1 hi
    -- those that meet i stand on the right side of it
    have side : ∀ k y, k < m → aos[k]? = some y → k ≠ i → confl y x = true → S k = decide (k < i) := by
      intro k y hk hy hne hcf
      rcases Nat.lt_or_ge k i with hlt | hge
      · have := (hpair k hlt y hy).1
        rw [hcf] at this
        rw [hpre k (this.resolve_right (by simp))]; simp [hlt]
      · have hgt : i < k := by omega
        have := (((hchk k (by omega) y hy).2.2.1 hk).2.2 i hgt x hx).1
        have hcf' : confl x y = true := by
          cases hh : confl x y with
          | true => rfl
          | false => rw [confl_symm hh] at hcf; cases hcf
        rw [hcf'] at this
        have hin := this.resolve_right (by simp)
        cases hSk : S k with
        | false => simp; omega
        | true => rw [hcl k hSk i hin] at hSi; cases hSi
    have hsi : foldU U (fun k => decide (k < i)) st m = s i := by rw [foldU_lt (by omega), hfold i (by omega)]
    have cf : ∀ {y : AOper}, (∃ t, t ∈ y.ws ∧ (t ∈ x.rd ∨ t ∈ x.ws ∨ t ∈ x.op.owns)) → confl y x = true := by
      intro y ⟨t, h1, h2⟩
      cases hh : confl y x with
      | true => rfl
      | false =>
        simp only [confl, Bool.or_eq_false_iff] at hh
        exact absurd (by simp only [List.append_assoc, List.mem_append]; exact h2) (meets_false hh.1.1.1.1.1.1 h1)
    have cf2 : ∀ {y : AOper} {t : Nat}, t ∈ y.op.owns → t ∈ x.op.owns → confl y x = true := by
      intro y t h1 h2
      cases hh : confl y x with
      | true => rfl
      | false =>
        simp only [confl, Bool.or_eq_false_iff] at hh
        exact absurd h2 (meets_false hh.1.1.1.1.2 h1)
    have htm : ∀ t ∈ x.rd, (foldU U S st m).tm t = (s i).tm t := by
      intro t ht
      rw [← hsi]
      refine foldU_tm hone (Nat.le_refl _) fun k hk hd => ?_
      by_cases hki : k = i
      · subst hki; rw [hSi]; simp
      · obtain ⟨y, hy, huy, _⟩ := hU k hk
        rw [ud_d huy] at hd
        exact side k y hk hy hki (cf ⟨t, by simp [AOper.ws, hd], .inl ht⟩)
    have how : ∀ t ∈ x.op.owns, (foldU U S st m).own (.slot t) = (s i).own (.slot t) := by
      intro t ht
      rw [← hsi]
      refine foldU_own hone (Nat.le_refl _) fun k hk hd => ?_
      by_cases hki : k = i
      · subst hki; rw [hSi]; simp
      · obtain ⟨y, hy, huy, _⟩ := hU k hk
        simp only [touches, Bool.or_eq_true, beq_iff_eq] at hd
        rcases hd with hd | hd
        · rw [ud_d huy] at hd
          exact side k y hk hy hki (cf ⟨t, by simp [AOper.ws, hd], .inr (.inr ht)⟩)
        · rcases ud_tk huy with e | ⟨t', e, h'⟩ | ⟨_, id, j, e⟩
          · rw [e] at hd; cases hd
          · rw [e] at hd; cases hd; exact side k y hk hy hki (cf2 h' ht)
          · rw [e] at hd; cases hd
    have hldo : x.op.isLdo = true → ∀ id j, (foldU U S st m).own (.cell id j) = (s i).own (.cell id j) := by
      intro hx1 id j
      rw [← hsi]
      refine foldU_own hone (Nat.le_refl _) fun k hk hd => ?_
      by_cases hki : k = i
      · subst hki; rw [hSi]; simp
      · obtain ⟨y, hy, huy, _⟩ := hU k hk
        simp only [touches, Bool.or_eq_true] at hd
        refine side k y hk hy hki ?_
        rcases hd with hd | hd
        · have hy1 : y.op.isLdo = true := by
            rcases ud_tk huy with e | ⟨t', e, _⟩ | ⟨h, _⟩
            · rw [e] at hd; cases hd
            · rw [e] at hd; cases hd
            · exact h
          simp [confl, hx1, hy1]
        · have hy1 := ud_new huy hd
          simp [confl, hx1, hy1]
    have hH : ∀ y ∈ x.op.hOpds, ∀ id, refId (evO (s i).tm y) = some id → ((s i).H id).isSome = true → (foldU U S st m).H id = (s i).H id := by
      intro y hy id hid hsome
      have hid' : refId (evO (foldU U S st m).tm y) = some id := by
        rw [← hid]; congr 1
        refine evO_congr fun t ht => htm t ?_
        have : t ∈ x.op.reads := by
          revert hy; cases x.op <;> simp only [AOp.hOpds, List.mem_singleton, List.not_mem_nil, false_implies] <;> intro hy <;> subst hy <;> simp [AOp.reads, ht]
        simp [AOper.rd, this]
      have hlt := hsr.ref hn' (hop y hy) hid'
      by_cases hex : ∃ k, k < m ∧ (U k).nw.isSome = true
      · obtain ⟨k, hk, hnw⟩ := hex
        obtain ⟨cs, hcs⟩ := Option.isSome_iff_exists.1 hnw
        have none_of : ∀ (T : Nat → Bool), T k = false → (∀ j, j < m → T j = true → (U j).nw = none) := by
          intro T hT j hj hTj
          cases hjn : (U j).nw with
          | none => rfl
          | some z => have := hone j k hj hk (by rw [hjn]; rfl) hnw; subst this; rw [hT] at hTj; cases hTj
        have hsid : ∀ (b : Bool), decide (k < i) = b → (s i).H = (if b = true then upd st.H st.nH (some (.cells cs)) else st.H) := by
          intro b hb
          rw [← hsi]
          cases b with
          | true => rw [(foldU_H1 (S := fun k => decide (k < i)) hone hcs (by simpa using hb) hk (Nat.le_refl _)).1]; simp
          | false => rw [(foldU_H0 (n := m) (none_of (fun k => decide (k < i)) hb)).1]; simp
        cases hSk : S k with
        | true =>
          rw [(foldU_H1 hone hcs hSk hk (Nat.le_refl _)).1]
          rw [hsid _ rfl] at hsome ⊢
          by_cases hki : k < i
          · simp [hki]
          · simp only [hki, decide_false, Bool.false_eq_true, if_false] at hsome ⊢
            have : id ≠ st.nH := fun e => by subst e; rw [h.obn _ (Nat.le_refl _)] at hsome; cases hsome
            simp [upd, this]
        | false =>
          obtain ⟨e1, e2⟩ := foldU_H0 (s0 := st) (n := m) (none_of S hSk)
          rw [e2] at hlt
          rw [e1, hsid _ rfl]
          by_cases hki : k < i
          · simp only [hki, decide_true, if_true]
            have : id ≠ st.nH := by omega
            simp [upd, this]
          · simp [hki]
      · have hnone : ∀ (T : Nat → Bool) j, j < m → T j = true → (U j).nw = none := fun T j hj _ => by
          cases hjn : (U j).nw with
          | none => rfl
          | some z => exact absurd ⟨j, hj, by rw [hjn]; rfl⟩ hex
        rw [(foldU_H0 (n := m) (hnone S)).1, ← hsi, (foldU_H0 (n := m) (hnone _)).1]
    have hu := ud_congr hst hux htm how hldo hH
    rw [exec_of_ud hst hu]
    congr 1
    symm
    refine foldU_add hSi (fun k => rfl) hi fun k h1 h2 h3 => ?_
    obtain ⟨y, hy, huy, _⟩ := hU k h2
    refine apart_of huy hux ?_ (fun h => ud_new huy h) (fun h => ud_new hux h)
    cases hh : confl y x with
    | false => rfl
    | true => have := side k y h2 hy (by omega) hh; rw [h3] at this; simp at this; omega
  -- the induction
  have hnl : aos.length = ops.size := hl
  have aft : ∀ (i : Nat) (o : Oper) (x : AOper), ops[i]? = some o → cOper cx.P n ops o = some x → x.after = afters o := fun i o x _ hx => by
    simp only [cOper, Option.bind_eq_some_iff, Option.map_eq_some_iff] at hx
    obtain ⟨_, _, _, _, rfl⟩ := hx; rfl
  have getD_lt : ∀ (l : Array Bool) (k : Nat), l.size = ops.size → k < ops.size → l.getD k true = l.getD k false := fun l k h1 h2 => by simp [Array.getD, show k < l.size by omega]
  have nolist : ∀ (l : Array Bool), l.size = ops.size → Region.ready .any ops l = [] → ∀ k, k < ops.size → l.getD k false = true := by
    intro l hls hre k
    induction k using Nat.strongRecOn with
    | _ k ih =>
      intro hk
      cases hv : l.getD k false with
      | true => rfl
      | false =>
        obtain ⟨o, x, ho, hx, hcx⟩ := hget' k hk
        have : k ∈ Region.ready .any ops l := by
          refine mem_ready.2 ⟨by rw [getD_lt l k hls hk]; exact hv, o, ho, fun e he hb => ?_⟩
          have hea : e.on ∈ x.after := by rw [aft k o x ho hcx]; exact List.mem_map.2 ⟨e, List.mem_filter.2 ⟨by simpa using he, hb⟩, rfl⟩
          have hlt := (hchk k (by omega) x hx).1 _ hea
          exact ih e.on hlt (by omega)
        rw [hre] at this; cases this
  have main : ∀ (fuel : Nat) (l : Array Bool) (g' : Gh) (a' : Act) (W' : World), l.size = ops.size → l.toList.count false ≤ fuel →
      ((∀ k, l.getD k false = true → k < m) ∧ (∀ k, l.getD k false = true → ∀ j ∈ (ancs aos []).getD k [], l.getD j false = true) ∧ SR w B GB g' (foldU U (fun k => l.getD k false) st m) a' W' ∨
        ∃ i, m ≤ i ∧ i ≤ ops.size ∧ (∀ k, k < ops.size → l.getD k false = decide (k < i)) ∧ SR w B GB g' (s i) a' W') → a'.tmps.size = n → wpAny cx.P .any ops Q fuel l a' W' := by
    intro fuel
    have fin : ∀ (l : Array Bool) (g' : Gh) (a' : Act) (W' : World), l.size = ops.size → (∀ k, k < ops.size → l.getD k false = true) →
        ((∀ k, l.getD k false = true → k < m) ∧ (∀ k, l.getD k false = true → ∀ j ∈ (ancs aos []).getD k [], l.getD j false = true) ∧ SR w B GB g' (foldU U (fun k => l.getD k false) st m) a' W' ∨
          ∃ i, m ≤ i ∧ i ≤ ops.size ∧ (∀ k, k < ops.size → l.getD k false = decide (k < i)) ∧ SR w B GB g' (s i) a' W') → a'.tmps.size = n → Q .normal a' W' := by
      intro l g' a' W' hls hall hj hn'
      rcases hj with ⟨h1, _, h3⟩ | ⟨i, h1, h2, h3, h4⟩
      · have hmn : m = ops.size := by
          rcases Nat.lt_or_ge m ops.size with hlt | hge
          · have := h1 m (hall m hlt); omega
          · omega
        have e : foldU U (fun k => l.getD k false) st m = st' := by
          rw [foldU_congr (S' := fun _ => true) fun k hk => hall k (by omega), hfold m (Nat.le_refl _), ← hsn, hnl, hmn]
        rw [e] at h3
        exact hnext g' a' W' h3 hn'
      · have : i = ops.size := by
          rcases Nat.lt_or_ge i ops.size with hlt | hge
          · have := h3 i hlt; rw [hall i hlt] at this; simp at this
          · omega
        subst this
        rw [← hnl, hsn] at h4
        exact hnext g' a' W' h4 hn'
    induction fuel with
    | zero =>
      intro l g' a' W' hls hcnt hj hn'
      have hall : ∀ k, k < ops.size → l.getD k false = true := by
        intro k hk
        cases hv : l.getD k false with
        | true => rfl
        | false =>
          have hk' : k < l.size := by omega
          have : false ∈ l.toList := by
            have e : l[k] = false := by simpa [Array.getD, hk'] using hv
            rw [← e]; simp
          have := List.count_pos_iff.2 this
          omega
      refine ⟨?_, fin l g' a' W' hls hall hj hn'⟩
      apply List.eq_nil_iff_forall_not_mem.2
      intro k hk
      obtain ⟨h1, o, h2, _⟩ := mem_ready.1 hk
      have hlt := (Array.getElem?_eq_some_iff.1 h2).1
      rw [getD_lt l k hls hlt, hall k hlt] at h1; cases h1
    | succ fuel ih =>
      intro l g' a' W' hls hcnt hj hn'
      refine ⟨fun hre => fin l g' a' W' hls (nolist l hls hre) hj hn', fun i hi => ?_⟩
      obtain ⟨h1, o, ho, hedges⟩ := mem_ready.1 hi
      have hilt := (Array.getElem?_eq_some_iff.1 ho).1
      rw [getD_lt l i hls hilt] at h1
      obtain ⟨o', x, ho', hx, hcx⟩ := hget' i hilt
      rw [ho] at ho'; cases ho'
      have hilt' : i < l.size := by omega
      have hls' : (l.setIfInBounds i true).size = ops.size := by simpa using hls
      have hcnt' : (l.setIfInBounds i true).toList.count false ≤ fuel := by
        have hi2 : i < l.toList.length := by simpa using hilt'
        have e : l.toList[i] = false := by simpa [Array.getD, hilt'] using h1
        have hpos : 0 < l.toList.count false := List.count_pos_iff.2 (by rw [← e]; exact List.getElem_mem hi2)
        rw [Array.toList_setIfInBounds, List.count_set hi2, e]
        simp only [show (false == false) = true from rfl, show (true == false) = false from rfl, if_true, Bool.false_eq_true, if_false]
        omega
      have hS' : ∀ k, (l.setIfInBounds i true).getD k false = (l.getD k false || k == i) := by
        intro k
        by_cases hki : k = i
        · subst hki; simp [Array.getD, hilt']
        · rw [getD_set_ne false (fun e => hki e.symm)]; simp [hki]
      have haft : ∀ e ∈ x.after, l.getD e false = true := by
        intro e he
        rw [aft i o x ho hcx] at he
        obtain ⟨ed, hed, rfl⟩ := List.mem_map.1 he
        obtain ⟨hed1, hed2⟩ := List.mem_filter.1 hed
        exact hedges ed (by simpa using hed1) hed2
      obtain ⟨c1, c2, c3, c4⟩ := hchk i (by omega) x hx
      have hclosed : ∀ k, l.getD k false = true → ∀ j ∈ (ancs aos []).getD k [], l.getD j false = true := by
        rcases hj with ⟨_, h, _⟩ | ⟨i0, _, h2, h3, _⟩
        · exact h
        · intro k hk j hj'
          have hk' : k < ops.size := by
            rcases Nat.lt_or_ge k ops.size with h | h
            · exact h
            · simp [Array.getD, show ¬ k < l.size by omega] at hk
          have hxk := List.getElem?_eq_getElem (show k < aos.length by omega)
          obtain ⟨d1, d2, _, _⟩ := hchk k (by omega) _ hxk
          have hki0 : k < i0 := by have := h3 k hk'; rw [hk] at this; simpa using this.symm
          have jlt : ∀ k, k < aos.length → ∀ j ∈ (ancs aos []).getD k [], j < k := by
            intro k
            induction k using Nat.strongRecOn with
            | _ k ihk =>
              intro hk2 j hj2
              have hxk := List.getElem?_eq_getElem hk2
              obtain ⟨d1, d2, _, _⟩ := hchk k hk2 _ hxk
              rcases d2 j hj2 with h | ⟨e, he, h⟩
              · exact d1 j h
              · have := d1 e he
                have := ihk e this (by omega) j h
                omega
          have := jlt k (by omega) j hj'
          rw [h3 j (by omega)]; simp; omega
      have hpre : ∀ j ∈ (ancs aos []).getD i [], l.getD j false = true := by
        intro j hj'
        rcases c2 j hj' with h | ⟨e, he, h⟩
        · exact haft j h
        · exact hclosed e (haft e he) j h
      have hst : ∀ (st2 : St), SR w B GB g' st2 a' W' → ∀ st3, exec Γ cx.gl x st2 = some st3 → (∀ g2 a2 W2, SR w B GB g2 st3 a2 W2 → ((∀ k, (l.setIfInBounds i true).getD k false = true → k < m) ∧ (∀ k, (l.setIfInBounds i true).getD k false = true → ∀ j ∈ (ancs aos []).getD k [], (l.setIfInBounds i true).getD j false = true) ∧ SR w B GB g2 (foldU U (fun k => (l.setIfInBounds i true).getD k false) st m) a2 W2 ∨
          ∃ i', m ≤ i' ∧ i' ≤ ops.size ∧ (∀ k, k < ops.size → (l.setIfInBounds i true).getD k false = decide (k < i')) ∧ SR w B GB g2 (s i') a2 W2)) →
          wpOp cx.P ops Q i (wpAny cx.P .any ops Q fuel (l.setIfInBounds i true)) a' W' :=
        fun st2 hsr st3 hex hnx => exec_wpOp hs hΓ hsr hn' ho hcx hex fun g2 a2 W2 h2 hn2 => ih _ g2 a2 W2 hls' hcnt' (hnx g2 a2 W2 h2) hn2
      by_cases him : i < m
      · rcases hj with ⟨j1, j2, j3⟩ | ⟨i0, j1, j2, j3, _⟩
        · refine hst _ j3 _ (step1 (fun k => l.getD k false) i him h1 j1 j2 hpre g' a' W' j3 hn' x hx) fun g2 a2 W2 h2 => .inl ⟨fun k hk => ?_, fun k hk j hj' => ?_, ?_⟩
          · rw [hS'] at hk; simp only [Bool.or_eq_true, beq_iff_eq] at hk
            rcases hk with hk | rfl
            · exact j1 k hk
            · exact him
          · rw [hS'] at hk ⊢; simp only [Bool.or_eq_true, beq_iff_eq] at hk
            rcases hk with hk | rfl
            · simp [j2 k hk j hj']
            · simp [hpre j hj']
          · rw [foldU_congr (S' := fun k => l.getD k false || k == i) fun k _ => hS' k]; exact h2
        · have := j3 i hilt; rw [h1] at this; simp at this; omega
      · have hge : m ≤ i := by omega
        have hall := c4 hge
        have hfull : ∀ j, j < i → l.getD j false = true := fun j hj' => hpre j (hall j hj')
        have hsi : SR w B GB g' (s i) a' W' := by
          rcases hj with ⟨j1, _, j3⟩ | ⟨i0, j1, j2, j3, j4⟩
          · have him' : i = m := by
              rcases Nat.lt_or_ge m i with hlt | hge'
              · have := j1 m (hfull m hlt); omega
              · omega
            rw [foldU_congr (S' := fun _ => true) fun k hk => hfull k (by omega), hfold m (Nat.le_refl _), ← him'] at j3
            exact j3
          · have hii : i = i0 := by
              have h5 := j3 i hilt
              rw [h1] at h5
              have h6 : ¬ i < i0 := by simpa using h5.symm
              rcases Nat.lt_or_ge i0 i with hlt | hge'
              · have h7 := j3 i0 (by omega)
                rw [hfull i0 hlt] at h7; simp at h7
              · omega
            rw [hii]; exact j4
        refine hst _ hsi _ (hstep i x hx) fun g2 a2 W2 h2 => .inr ⟨i + 1, by omega, by omega, fun k hk => ?_, h2⟩
        rw [hS']
        rcases Nat.lt_trichotomy k i with hlt | heq | hgt
        · rw [hfull k hlt]; simp; omega
        · subst heq; simp
        · have hkf : l.getD k false = false := by
            rcases hj with ⟨j1, _, _⟩ | ⟨i0, j1, j2, j3, _⟩
            · cases hv : l.getD k false with
              | false => rfl
              | true => have := j1 k hv; omega
            · have h5 := j3 i hilt
              rw [h1] at h5
              rw [j3 k hk]
              have h6 : ¬ i < i0 := by simpa using h5.symm
              simp; omega
          have q1 : (k == i) = false := by simp; omega
          have q2 : decide (k < i + 1) = false := by simp; omega
          rw [hkf, q1, q2]; rfl
  refine main ops.size (Array.replicate ops.size false) g a W (by simp) (by simp [List.count_replicate]) (.inl ⟨fun k hk => ?_, fun k hk => ?_, ?_⟩) hn
  · exfalso; revert hk; simp [Array.getD]
  · exfalso; revert hk; simp [Array.getD]
  · have : ∀ j, foldU U (fun k => (Array.replicate ops.size false).getD k false) st j = st := by
      intro j
      induction j with
      | zero => rfl
      | succ j ih => simp only [foldU]; rw [if_neg (by simp [Array.getD]), ih]
    rw [this]; exact h

end Go.Abs
/-
  Abs, part S: code: what it comes to from a plain state (a weakest precondition); that the machine follows; a function's contract. Own work of this seat.
-/
namespace Go.Abs
open Go.RowKit

def thenQ (K : St → Prop) (Q : Ex → St → Prop) : Ex → St → Prop
  | .normal, s => K s
  | e, s => Q e s

def loopN (body : (Ex → St → Prop) → St → Prop) (Q : Ex → St → Prop) : Nat → St → Prop
  | 0, _ => False
  | k + 1, st => body (thenQ (loopN body Q k) Q) st

def condP (v : V) (p q : Prop) : Prop := match v with | .bool true => p | .bool false => q | _ => False
def someP (o : Option St) (p : St → Prop) : Prop := match o with | some s => p s | none => False

def awp (Γ : Spec) (gl : Nat → Option (List V)) : ACode → (Ex → St → Prop) → St → Prop
  | .skip, Q, st => Q .normal st
  | .region ops _, Q, st => someP (execs Γ gl ops st) (Q .normal)
  | .seq a b, Q, st => awp Γ gl a (thenQ (awp Γ gl b Q) Q) st
  | .cond c a b, Q, st => condP (evO st.tm c) (awp Γ gl a Q st) (awp Γ gl b Q st)
  | .block id b, Q, st => awp Γ gl b (fun e s => Q (e.inBlock id) s) st
  | .loop b, Q, st => ∃ k, loopN (awp Γ gl b) Q k st
  | .exit id, Q, st => Q (.exit id) st
  | .ret, Q, st => Q .ret st
  | .fail, _, _ => False

theorem thenQ_mono {K K' : St → Prop} {Q Q' : Ex → St → Prop} (hK : ∀ s, K s → K' s) (hQ : ∀ e s, Q e s → Q' e s) : ∀ e s, thenQ K Q e s → thenQ K' Q' e s
  | .normal, s, h => hK s h
  | .exit _, s, h => hQ _ s h
  | .ret, s, h => hQ _ s h

theorem awp_mono {Γ : Spec} {gl : Nat → Option (List V)} : ∀ {c : ACode} {Q Q' : Ex → St → Prop} {st : St}, (∀ e s, Q e s → Q' e s) → awp Γ gl c Q st → awp Γ gl c Q' st := by
  intro c
  induction c with
  | skip => intro Q Q' st hq h; exact hq _ _ h
  | region ops d =>
    intro Q Q' st hq h
    simp only [awp] at h ⊢
    unfold someP at h ⊢
    split at h
    · exact hq _ _ h
    · exact h.elim
  | seq a b iha ihb => intro Q Q' st hq h; exact iha (thenQ_mono (fun s => ihb hq) hq) h
  | cond c a b iha ihb =>
    intro Q Q' st hq h
    simp only [awp] at h ⊢
    unfold condP at h ⊢
    split at h
    · exact iha hq h
    · exact ihb hq h
    · exact h.elim
  | block id b ih => intro Q Q' st hq h; exact ih (fun e s => hq _ s) h
  | loop b ih =>
    intro Q Q' st hq h
    obtain ⟨k, h⟩ := h
    refine ⟨k, ?_⟩
    induction k generalizing st with
    | zero => exact h.elim
    | succ k ihk => exact ih (thenQ_mono (fun s => ihk) hq) h
  | exit id => intro Q Q' st hq h; exact hq _ _ h
  | ret => intro Q Q' st hq h; exact hq _ _ h
  | fail => intro Q Q' st hq h; exact h.elim

theorem awp_loop {Γ : Spec} {gl : Nat → Option (List V)} {b : ACode} {Q : Ex → St → Prop} {st : St} (I : St → Prop) (μ : St → Nat) (h0 : I st)
    (round : ∀ s, I s → awp Γ gl b (thenQ (fun s' => I s' ∧ μ s' < μ s) Q) s) : awp Γ gl (.loop b) Q st := by
  have key : ∀ k s, I s → μ s < k → loopN (awp Γ gl b) Q k s := by
    intro k
    induction k with
    | zero => intro s _ h; omega
    | succ k ih => intro s hI hk; exact awp_mono (thenQ_mono (fun s' h => ih s' h.1 (by have := h.2; omega)) fun _ _ h => h) (round s hI)
  exact ⟨μ st + 1, key _ st h0 (by omega)⟩

/-! ## reading the loaded code -/
def mOf (aos : List AOper) : Nat :=
  let an := ancs aos []
  let N := aos.length
  N - ((List.range N).reverse.takeWhile fun i => (List.range i).all fun j => (an.getD i []).contains j).length

/-- without its edges, of which its value knows nothing -/
def AOper.bare (o : AOper) : AOper := ⟨o.dst, o.op, o.guard, []⟩

theorem execs_bare {Γ : Spec} {gl : Nat → Option (List V)} : ∀ {aos : List AOper} {st : St}, execs Γ gl (aos.map AOper.bare) st = execs Γ gl aos st
  | [], _ => rfl
  | o :: r, st => by
    simp only [List.map_cons, execs]
    have : exec Γ gl o.bare st = exec Γ gl o st := rfl
    rw [this]
    cases exec Γ gl o st with
    | none => rfl
    | some s => exact execs_bare

def comp (P : Program) (n : Nat) : Code → ACode
  | .skip => .skip
  | .region _ ops draw => match cOpers P n ops ops.toList with
    | some aos => if draw then (if mOf aos ≤ aos.length ∧ drawOk n aos (mOf aos) = true then .region (aos.map AOper.bare) true else .fail) else .region (aos.map AOper.bare) false
    | none => .fail
  | .seq a b => .seq (comp P n a) (comp P n b)
  | .cond c a b => match cOpd P n 0 c with | some c => .cond c (comp P n a) (comp P n b) | none => .fail
  | .block id b => .block id (comp P n b)
  | .loop b => .loop (comp P n b)
  | .exit id => .exit id
  | .ret => .ret
  | _ => .fail

def exm : Ex → Exit
  | .normal => .normal
  | .exit id => .exit id
  | .ret => .ret

theorem SR.drew {w B GB g st a W} (h : SR w B GB g st a W) : SR w B GB g st a W.drew := by
  have := h.adv (Adv.refl h none).drew
  simpa [St.take] using this

variable {cx : Cx} {w : World} {B : Nat → Prop} {GB : Gh} {Γ : Spec}

theorem comp_sound (hs : Scope cx w B GB) (hΓ : Sound cx Γ) (hm : cx.P.follows .mixedOrders = true) {n : Nat} : ∀ (c : Code) (Q : Ex → St → Prop) (g : Gh) (st : St) (a : Act) (W : World) (R : Exit → Act → World → Prop),
    SR w B GB g st a W → a.tmps.size = n → awp Γ cx.gl (comp cx.P n c) Q st → (∀ e st g a W, Q e st → SR w B GB g st a W → a.tmps.size = n → R (exm e) a W) → c.wp cx.P R a W := by
  intro c
  induction c with
  | skip => intro Q g st a W R h hn hq hR; exact wp_skip (hR .normal st g a W hq h hn)
  | exit id => intro Q g st a W R h hn hq hR; exact wp_exit (hR (.exit id) st g a W hq h hn)
  | ret => intro Q g st a W R h hn hq hR; exact wp_ret (hR .ret st g a W hq h hn)
  | region id ops draw =>
    intro Q g st a W R h hn hq hR
    simp only [comp] at hq
    split at hq
    · rename_i aos has
      have fin : ∀ d, awp Γ cx.gl (.region (aos.map AOper.bare) d) Q st → ∃ st', execs Γ cx.gl aos st = some st' ∧ Q .normal st' := by
        intro d hq
        simp only [awp, execs_bare] at hq
        unfold someP at hq
        split at hq
        · exact ⟨_, by assumption, hq⟩
        · exact hq.elim
      cases draw with
      | false =>
        simp only [Bool.false_eq_true, if_false] at hq
        obtain ⟨st', he, hq⟩ := fin _ hq
        refine wp_region ?_
        rw [List.range_eq_range']
        exact execs_wpOps hs hΓ has (fun g' a' W' h' hn' => hR .normal st' g' a' W' hq h' hn') ops.size 0 g st a W (by omega) h hn (by simpa using he)
      | true =>
        simp only [if_true] at hq
        split at hq
        · rename_i hc
          obtain ⟨st', he, hq⟩ := fin _ hq
          exact wp_region_any hm (draw_wpAny hs hΓ has hc.1 hc.2 h.drew hn he fun g' a' W' h' hn' => hR .normal st' g' a' W' hq h' hn')
        · exact hq.elim
    · exact hq.elim
  | seq x y ihx ihy =>
    intro Q g st a W R h hn hq hR
    refine wp_seq (ihx _ g st a W _ h hn hq fun e st g a W hq h hn => ?_)
    cases e with
    | normal => exact ihy Q g st a W R h hn hq hR
    | exit id => exact hR (.exit id) st g a W hq h hn
    | ret => exact hR .ret st g a W hq h hn
  | cond c x y ihx ihy =>
    intro Q g st a W R h hn hq hR
    simp only [comp] at hq
    split at hq
    · rename_i c' hc
      have hr := cOpd_rep h hn hc
      simp only [awp] at hq
      unfold condP at hq
      split at hq
      · rename_i he; rw [he] at hr; cases hr' : a.eval c <;> rw [hr'] at hr <;> cases hr
        exact wp_cond hr' (ihx Q g st a W R h hn hq hR)
      · rename_i he; rw [he] at hr; cases hr' : a.eval c <;> rw [hr'] at hr <;> cases hr
        exact wp_cond hr' (ihy Q g st a W R h hn hq hR)
      · exact hq.elim
    · exact hq.elim
  | block id x ih =>
    intro Q g st a W R h hn hq hR
    refine wp_block (ih _ g st a W _ h hn hq fun e st g a W hq h hn => ?_)
    cases e with
    | normal => exact hR .normal st g a W hq h hn
    | exit i =>
      simp only [exm, Exit.inBlock]
      simp only [Ex.inBlock] at hq
      split
      · rename_i hi; rw [if_pos hi] at hq; exact hR .normal st g a W hq h hn
      · rename_i hi; rw [if_neg hi] at hq; exact hR (.exit i) st g a W hq h hn
    | ret => exact hR .ret st g a W hq h hn
  | loop x ih =>
    intro Q g st a W R h hn hq hR
    obtain ⟨k, hk⟩ := hq
    have key : ∀ (k : Nat) (g : Gh) (st : St) (a : Act) (W : World), SR w B GB g st a W → a.tmps.size = n → loopN (awp Γ cx.gl (comp cx.P n x)) Q k st → ∀ b kk cs,
        ∃ e a' w', R e a' w' ∧ Arrives cx.P (lone (b.at a (.code x :: .inLoop x :: kk)) cs W) b kk cs e a' w' := by
      intro k
      induction k with
      | zero => intro g st a W _ _ hl; exact hl.elim
      | succ k ihk =>
        intro g st a W h hn hl b kk cs
        have hwp := ih _ g st a W (fun e a' W' => match e with
          | .normal => ∃ g' st', SR w B GB g' st' a' W' ∧ a'.tmps.size = n ∧ loopN (awp Γ cx.gl (comp cx.P n x)) Q k st'
          | e => R e a' W') h hn hl fun e st' g' a' W' hq h' hn' => by
            cases e with
            | normal => exact ⟨g', st', h', hn', hq⟩
            | exit i => exact hR (.exit i) st' g' a' W' hq h' hn'
            | ret => exact hR .ret st' g' a' W' hq h' hn'
        obtain ⟨e, a₁, w₁, hq, harr⟩ := hwp b (.inLoop x :: kk) cs
        cases e with
        | normal =>
          obtain ⟨g', st', h', hn', hl'⟩ := hq
          obtain ⟨e₂, a₂, w₂, hq₂, harr₂⟩ := ihk g' st' a₁ w₁ h' hn' hl' b kk cs
          exact ⟨e₂, a₂, w₂, hq₂, .of_steps (Steps.trans harr (.one step_inLoop)) harr₂⟩
        | exit id => exact ⟨_, a₁, w₁, hq, .pass (x := .inLoop x) rfl (fun _ _ => .inl (by simp)) harr⟩
        | goto l => exact ⟨_, a₁, w₁, hq, .pass (x := .inLoop x) rfl (fun _ _ => .inl (by simp)) harr⟩
        | ret => exact ⟨_, a₁, w₁, hq, .pass (x := .inLoop x) rfl (fun _ _ => .inl (by simp)) harr⟩
        | panic ch => exact ⟨_, a₁, w₁, hq, .pass (x := .inLoop x) rfl (fun _ _ => .inl (by simp)) harr⟩
        | outgrown => exact ⟨_, a₁, w₁, hq, .pass (x := .inLoop x) rfl (fun _ _ => .inl (by simp)) harr⟩
    intro b kk cs
    obtain ⟨e, a', w', hq, harr⟩ := key k g st a W h hn hk b kk cs
    exact ⟨e, a', w', hq, .of_steps (.one step_loop) harr⟩
  | _ => intro Q g st a W R h hn hq hR; exact hq.elim

/-! ## values that name no object -/
mutual
def V.clean : V → Bool
  | .osl _ _ _ _ _ | .ptr _ _ | .map _ => false
  | .agg cs => cleanL cs
  | .sl _ _ cs => cleanL cs
  | .el cs _ => cleanL cs
  | .fn _ cs => cleanL cs
  | .mfn _ cs => cleanL cs
  | .tup cs => cleanL cs
  | .iface _ v => v.clean
  | _ => true
def cleanL : List V → Bool
  | [] => true
  | v :: r => v.clean && cleanL r
end
theorem cleanL_iff : ∀ {l : List V}, cleanL l = true ↔ ∀ v ∈ l, v.clean = true
  | [] => by simp [cleanL]
  | v :: r => by simp [cleanL, cleanL_iff (l := r)]

theorem V.clean_cells {v : V} (h : v.clean = true) : ∀ c ∈ v.cells, c.clean = true := by
  cases v <;> simp only [V.cells, List.mem_singleton, forall_eq] <;> first | exact h | exact cleanL_iff.1 (by simpa [V.clean] using h)

theorem Rep.clean {W G φ φ' v x} (h : Rep W G φ v x) (hc : v.clean = true) : Rep W G φ' v x := by
  induction h with
  | bool b => exact .bool b
  | int k n => exact .int k n
  | str l s h => exact .str l s h
  | agg cs xs hl hs h ih =>
    exact .agg cs xs hl hs fun i c x hi hx => ih i c x hi hx (cleanL_iff.1 (by simpa [V.clean] using hc) c (List.mem_of_getElem? hi))
  | slnil sz => exact .slnil sz
  | sl sz xs b off cap rd hcap hG hx hrd _ ih =>
    exact .sl sz xs b off cap rd hcap hG hx hrd fun i x j c hi hj => ih i x j c hi hj (V.clean_cells (cleanL_iff.1 (by simpa [V.clean] using hc) x (List.mem_of_getElem? hi)) c (List.mem_of_getElem? hj))
  | sl0 sz a => exact .sl0 sz a
  | osl => simp [V.clean] at hc
  | el cs off b base rd hG hs hrd _ ih =>
    exact .el cs off b base rd hG hs hrd fun k c hk => ih k c hk (cleanL_iff.1 (by simpa [V.clean] using hc) c (List.mem_of_getElem? hk))
  | gp g off => exact .gp g off
  | ptr => simp [V.clean] at hc
  | nilptr => exact .nilptr
  | map => simp [V.clean] at hc
  | nilmap => exact .nilmap
  | fn f cs xs hl _ ih =>
    exact .fn f cs xs hl fun i c x hi hx => ih i c x hi hx (cleanL_iff.1 (by simpa [V.clean] using hc) c (List.mem_of_getElem? hi))
  | mfn f cs xs hl _ ih =>
    exact .mfn f cs xs hl fun i c x hi hx => ih i c x hi hx (cleanL_iff.1 (by simpa [V.clean] using hc) c (List.mem_of_getElem? hi))
  | nilfn => exact .nilfn
  | iface t v x _ ih => exact .iface t v x (ih (by simpa [V.clean] using hc))
  | nilif => exact .nilif
  | tup cs xs hl _ ih =>
    exact .tup cs xs hl fun i c x hi hx => ih i c x hi hx (cleanL_iff.1 (by simpa [V.clean] using hc) c (List.mem_of_getElem? hi))

/-! ## functions -/
/-- where a result stands: in a slot, or in the object that a slot points to -/
inductive RS where
  | t (k : Nat)
  | c (k : Nat) (n : Option Nat)
  deriving Inhabited

structure AFn where
  n : Nat
  body : ACode
  res : List RS

def cRes (P : Program) (n : Nat) : List ResultVar → Option (List RS)
  | [] => some []
  | .tmp t :: r => if t < n then (cRes P n r).map (.t t :: ·) else none
  | .cell t ty :: r => if t < n then (ldN P ty).bind fun k => (cRes P n r).map (.c t k :: ·) else none

def cFn (P : Program) (f : FuncId) : Option AFn :=
  match P.funcs[f]? with
  | some fn => match fn.body with
    | some c => if fn.name = "runtime.NumGoroutine" then none else (cRes P fn.ntmps fn.results.toList).map fun rs => ⟨fn.ntmps, comp P fn.ntmps c, rs⟩
    | none => none
  | none => none

def St.init (args : List V) : St := ⟨fun t => args.getD t Nil, fun _ => false, fun _ => none, 0⟩

def rv (st : St) : RS → Option (V × Bool)
  | .t k => some (st.tm k, st.own (.slot k))
  | .c k n => match st.tm k with
    | .ptr id off => ((hCells st.H id).bind fun cs => ldCells n cs off).map fun v => (v, false)
    | _ => none
def rvs (st : St) : List RS → Option (List V)
  | [] => some []
  | r :: rs => (rv st r).bind fun p => (rvs st rs).map (p.1 :: ·)
def resOf (res : List RS) (st : St) : Option (V × Bool) :=
  match res with
  | [r] => rv st r
  | rs => (rvs st rs).map fun vs => (.tup vs, false)

def retQ (res : List RS) (r : V × Bool) : Ex → St → Prop
  | .exit _, _ => False
  | _, st => ∃ p, resOf res st = some p ∧ p.1 = r.1 ∧ (r.2 = true → p.2 = true)

def resM (tmps : Array Value) : ResultVar → Sem Value
  | .tmp t => pure (tmps.getD t undef)
  | .cell a t => do loadVar t (← asAddr (tmps.getD a undef))

theorem results_eq (fn : Func) (tmps : Array Value) (P : Program) (W : World) {ys : List Value} (h : (fn.results.toList.mapM (resM tmps)).run P W = .ok ys W) :
    (results fn tmps).run P W = .ok (if h : ys.toArray.size = 1 then ys.toArray[0] else .tuple ys.toArray) W := by
  have e : fn.results = fn.results.toList.toArray := rfl
  have key : (fn.results.mapM (resM tmps)).run P W = .ok ys.toArray W := by
    rw [e]
    simp only [List.mapM_toArray] at h ⊢
    simp [h]
  have e2 : results fn tmps = (fn.results.mapM (resM tmps)) >>= fun vs => pure (if h : vs.size = 1 then vs[0] else .tuple vs) := by
    unfold results
    congr 1
  rw [e2, Sem.run_bind, key]
  simp only [Result.andThen_ok, Sem.run_pure]

theorem rv_run {g : Gh} {st : St} {a : Act} {W : World} (hs : Scope cx w B GB) (h : SR w B GB g st a W) {r : ResultVar} {s : RS} (hc : cRes cx.P a.tmps.size [r] = some [s]) {p : V × Bool} (hp : rv st s = some p) :
    ∃ y, (resM a.tmps r).run cx.P W = .ok y W ∧ Rep W g.G g.φ p.1 y ∧ (p.2 = true → ∃ t, s = .t t ∧ p = (st.tm t, st.own (.slot t)) ∧ t < a.tmps.size ∧ y = a.tmps.getD t undef) := by
  cases r with
  | tmp t =>
    simp only [cRes] at hc
    split at hc
    · rename_i ht
      simp at hc; subst hc
      simp only [rv, Option.some.injEq] at hp; subst hp
      exact ⟨_, by simp [resM, Act.eval], h.get ht, fun _ => ⟨t, rfl, rfl, ht, rfl⟩⟩
    · simp at hc
  | cell t ty =>
    simp only [cRes] at hc
    split at hc
    · rename_i ht
      simp only [Option.bind_eq_some_iff, Option.map_some, Option.some.injEq, List.cons.injEq, and_true] at hc
      obtain ⟨k, hk, rfl⟩ := hc
      have hr := h.get ht
      simp only [rv] at hp
      split at hp
      · rename_i id off hid
        rw [hid] at hr
        simp only [Option.map_eq_some_iff] at hp
        obtain ⟨v, hv, rfl⟩ := hp
        obtain ⟨y, h1, h2⟩ := d_load hs h (u := .ptr id off) hk hr (by simpa [vLoad] using hv)
        refine ⟨y, ?_, h2, fun h => by cases h⟩
        simp only [Act.eval] at h1 hr
        generalize hxe : a.tmps.getD t undef = xv at hr h1
        cases hr
        simp only [resM, hxe]
        simpa [Instr.loadAt, Instr.sureAddr, asAddr] using h1
      · cases hp
    · simp at hc

theorem rvs_run {g : Gh} {st : St} {a : Act} {W : World} (hs : Scope cx w B GB) (h : SR w B GB g st a W) : ∀ {rs : List ResultVar} {ss : List RS} {vs : List V}, cRes cx.P a.tmps.size rs = some ss → rvs st ss = some vs →
    ∃ ys : List Value, (rs.mapM (resM a.tmps)).run cx.P W = .ok ys W ∧ vs.length = ys.length ∧ ∀ (i : Nat) (c : V) (x : Value), vs[i]? = some c → ys[i]? = some x → Rep W g.G g.φ c x
  | [], ss, vs, h1, h2 => by
    simp [cRes] at h1; subst h1
    simp [rvs] at h2; subst h2
    exact ⟨[], by simp, rfl, fun i c x hc => by simp at hc⟩
  | r :: rs, ss, vs, h1, h2 => by
    have hsplit : ∃ s ss', ss = s :: ss' ∧ cRes cx.P a.tmps.size [r] = some [s] ∧ cRes cx.P a.tmps.size rs = some ss' := by
      cases r with
      | tmp t =>
        simp only [cRes] at h1 ⊢
        split at h1
        · rename_i ht
          simp only [Option.map_eq_some_iff] at h1
          obtain ⟨ss', h3, rfl⟩ := h1
          exact ⟨_, _, rfl, by simp [ht], h3⟩
        · simp at h1
      | cell t ty =>
        simp only [cRes] at h1 ⊢
        split at h1
        · rename_i ht
          simp only [Option.bind_eq_some_iff, Option.map_eq_some_iff] at h1
          obtain ⟨k, hk, ss', h3, rfl⟩ := h1
          exact ⟨_, _, rfl, by simp [ht, hk], h3⟩
        · simp at h1
    obtain ⟨s, ss', rfl, h3, h4⟩ := hsplit
    simp only [rvs, Option.bind_eq_some_iff, Option.map_eq_some_iff] at h2
    obtain ⟨p, hp, vs', hvs, rfl⟩ := h2
    obtain ⟨y, q1, q2, _⟩ := rv_run hs h h3 hp
    obtain ⟨ys, q3, q4, q5⟩ := rvs_run hs h h4 hvs
    refine ⟨y :: ys, by simp [q1, q3], by simp [q4], fun i c x hc hx => ?_⟩
    cases i with
    | zero => simp at hc hx; subst hc; subst hx; exact q2
    | succ i => exact q5 i c x (by simpa using hc) (by simpa using hx)

/-- A FUNCTION'S CONTRACT from what its code comes to. -/
theorem pc_of_awp (hgl : GlOK cx) (hm : cx.P.follows .mixedOrders = true) (hΓ : Sound cx Γ) {f : FuncId} {F : AFn} (hf : cFn cx.P f = some F) {args : List V} {r : V × Bool} (hl : args.length ≤ F.n) (hca : cleanL args = true) (hcr : r.1.clean = true)
    (h : awp Γ cx.gl F.body (retQ F.res r) (St.init args)) : PC cx f args r := by
  unfold cFn at hf
  split at hf
  · rename_i fn hfn
    split at hf
    · rename_i c hc
      split at hf
      · simp at hf
      · rename_i hname
        simp only [Option.map_eq_some_iff] at hf
        obtain ⟨ts, hts, rfl⟩ := hf
        have hl' : args.length ≤ fn.ntmps := hl
        refine ⟨⟨fn, hfn, hname, by simp [hc]⟩, fun W G φ xs hW hxs => ?_⟩
        have hB0 : cx.w0.heap.size ≤ W.heap.size := hW.below.size
        have hs : Scope cx W (fun b => W.heap.size ≤ b) ⟨G, fun _ => none, fun _ => none⟩ := ⟨hW.below, fun b hb => Nat.le_trans hB0 hb, hW.Glo, hgl⟩
        have hargs : ∀ (t : Nat) (x : Value), (xs ++ Array.replicate (fn.ntmps - xs.size) undef)[t]? = some x → Rep W G (fun _ => none) ((St.init args).tm t) x := by
          intro t x hx
          by_cases ht : t < xs.size
          · rw [Array.getElem?_append_left ht] at hx
            obtain ⟨v, hv⟩ : ∃ v, args[t]? = some v := ⟨_, List.getElem?_eq_getElem (by rw [hxs.1]; exact ht)⟩
            have : (St.init args).tm t = v := by simp [St.init, List.getD, hv]
            rw [this]
            exact (hxs.2 t v x hv hx).clean (cleanL_iff.1 hca v (List.mem_of_getElem? hv))
          · rw [Array.getElem?_append_right (by omega)] at hx
            have hx' : x = undef := by
              rw [Array.getElem?_replicate] at hx
              split at hx <;> simp at hx
              exact hx.symm
            have : (St.init args).tm t = Nil := by simp [St.init, List.getD, List.getElem?_eq_none (show args.length ≤ t by rw [hxs.1]; omega)]
            rw [this, hx']
            exact .tup [] #[] rfl fun i c x hc => by simp at hc
        have h0 : SR W (fun b => W.heap.size ≤ b) ⟨G, fun _ => none, fun _ => none⟩ ⟨G, fun _ => none, fun _ => none⟩ (St.init args) { tmps := xs ++ Array.replicate (fn.ntmps - xs.size) undef, defers := [] } W :=
          ⟨rfl, hargs, fun t x hx ho => by simp [St.init] at ho, fun id cs hc => by simp [St.init] at hc, fun _ _ => rfl, fun id b hb => by simp at hb, fun id id' b hb => by simp at hb, hW.Gz, fun _ _ => rfl, fun _ _ _ => rfl, fun _ => Nat.le_refl _, fun _ _ h => h, .refl _ _, fun _ h => h⟩
        refine calls_of_wp hfn hc (comp_sound hs hΓ hm (n := fn.ntmps) c _ _ _ _ _ _ h0 (by simp [← hxs.1]; omega) h fun e st g a W' hq hsr hn => ?_)
        have hts' : cRes cx.P a.tmps.size fn.results.toList = some ts := by rw [hn]; exact hts
        have fin : (∃ p, resOf ts st = some p ∧ p.1 = r.1 ∧ (r.2 = true → p.2 = true)) → a.defers = [] ∧ ∃ v, (results fn a.tmps).run cx.P W' = .ok v W' ∧ ∃ G' y, Ending.returned v = .returned y ∧ Below W.heap.size W W' ∧ (∀ b, b < W.heap.size → G' b = G b) ∧ (∀ b, W'.heap.size ≤ b → G' b = 0) ∧
            Rep W' G' φ r.1 y ∧ (r.2 = true → ∀ ow q, (∀ b, W.heap.size ≤ b → ow b = some q) → OwnAt W' (fun b => W.heap.size ≤ b) ⟨G', φ, ow⟩ q r.1 y) := by
          rintro ⟨p, hp, hr1, hr2⟩
          obtain ⟨rv0, ro⟩ := r
          simp only at hr1 hr2 hcr
          subst hr1
          by_cases h1 : ∃ s, ts = [s]
          · obtain ⟨s, rfl⟩ := h1
            simp only [resOf] at hp
            have hone : ∃ rr, fn.results.toList = [rr] := by
              cases hL : fn.results.toList with
              | nil => rw [hL] at hts; simp [cRes] at hts
              | cons rr l =>
                cases l with
                | nil => exact ⟨rr, rfl⟩
                | cons rr' l =>
                  rw [hL] at hts
                  exfalso
                  have len : ∀ {l : List ResultVar} {ss : List RS}, cRes cx.P fn.ntmps l = some ss → l.length = ss.length := by
                    intro l
                    induction l with
                    | nil => intro ss h; simp [cRes] at h; subst h; rfl
                    | cons x l ih =>
                      intro ss h
                      cases x with
                      | tmp t =>
                        simp only [cRes] at h
                        split at h
                        · simp only [Option.map_eq_some_iff] at h
                          obtain ⟨ss', h3, rfl⟩ := h
                          simp [ih h3]
                        · simp at h
                      | cell t ty =>
                        simp only [cRes] at h
                        split at h
                        · simp only [Option.bind_eq_some_iff, Option.map_eq_some_iff] at h
                          obtain ⟨k, hk, ss', h3, rfl⟩ := h
                          simp [ih h3]
                        · simp at h
                  have := len hts
                  simp at this
            obtain ⟨rr, hrr⟩ := hone
            rw [hrr] at hts'
            obtain ⟨y, q1, q2, q3⟩ := rv_run hs hsr hts' hp
            have hm : (fn.results.toList.mapM (resM a.tmps)).run cx.P W' = .ok [y] W' := by rw [hrr]; simp [q1]
            refine ⟨hsr.defers, _, results_eq fn a.tmps cx.P W' hm, g.G, y, by simp, hsr.below.below, (fun b hb => hsr.Glo b (Nat.not_le.2 hb)), hsr.Gz, q2.clean hcr, fun ho ow q hqq sz ys b off len cap sp hv hx => ?_⟩
            obtain ⟨t, rfl, hpe, ht, hy⟩ := q3 (hr2 ho)
            have e : a.tmps[t]? = some (a.tmps.getD t undef) := by rw [Array.getElem?_eq_getElem ht]; simp [Array.getD, ht]
            subst hpe
            simp only at hv hr2
            rcases hsr.own t _ e (hr2 ho) sz ys b off len cap sp hv (by rw [← hy]; exact hx) with h2 | ⟨h2, h3, h4⟩
            · exact .inl h2
            · exact .inr ⟨h2, hqq b h2, h4⟩
          · have hr' : resOf ts st = (rvs st ts).map fun vs => (.tup vs, false) := by
              unfold resOf
              split
              · exact absurd ⟨_, rfl⟩ h1
              · rfl
            rw [hr', Option.map_eq_some_iff] at hp
            obtain ⟨vs, hvs, rfl⟩ := hp
            obtain ⟨ys, q1, q2, q3⟩ := rvs_run hs hsr hts' hvs
            have hne : ¬ ys.toArray.size = 1 := by
              intro he
              simp at he
              have hl : ∀ {ss : List RS} {vs : List V}, rvs st ss = some vs → ss.length = vs.length := by
                intro ss
                induction ss with
                | nil => intro vs h; simp [rvs] at h; subst h; rfl
                | cons s ss ih =>
                  intro vs h
                  simp only [rvs, Option.bind_eq_some_iff, Option.map_eq_some_iff] at h
                  obtain ⟨p, _, vs', h3, rfl⟩ := h
                  simp [ih h3]
              have := hl hvs
              exact h1 (List.length_eq_one_iff.1 (by omega))
            refine ⟨hsr.defers, _, results_eq fn a.tmps cx.P W' q1, g.G, .tuple ys.toArray, by rw [dif_neg hne], hsr.below.below, (fun b hb => hsr.Glo b (Nat.not_le.2 hb)), hsr.Gz, ?_, fun ho => absurd (hr2 ho) (by simp)⟩
            exact Rep.clean (φ := g.φ) (.tup _ _ (by simpa using q2) fun i c x hi hx => q3 i c x hi (by simpa using hx)) hcr
        cases e with
        | normal => exact fin hq
        | exit i => exact hq.elim
        | ret => exact fin hq
    · simp at hf
  · simp at hf


/-! ## functions that touch objects -/
def St.initH (args : List V) (hs : HS) : St := ⟨fun t => args.getD t Nil, fun p => match p with | .cell i j => hs.co i j | .slot _ => false, hs.H, hs.nH⟩
def retH (res : List RS) (r : V × Bool) (hs' : HS) : Ex → St → Prop
  | .exit _, _ => False
  | _, st => (∃ p, resOf res st = some p ∧ p.1 = r.1 ∧ (r.2 = true → p.2 = true)) ∧ st.hs = hs'
/-- the ghost that a caller is told: of the slots' rows only the result's -/
def Gh.out (g : Gh) (tr : Option Nat) : Gh := ⟨g.G, g.φ, fun b => match g.ow b with | some (.slot t) => if tr = some t then some (.slot 0) else none | q => q⟩
theorem SR.hrelOut {a : Act} {W : World} {g : Gh} {st : St} (h : SR w B GB g st a W) (tr : Option Nat) : HRel B (g.out tr) st.hs W where
  ob id cs hH := by
    obtain ⟨b, xs, t, h1, h2, h3, h4, h5⟩ := h.ob id cs hH
    refine ⟨b, xs, t, h1, h2, h3, h4, fun j v x hv hx ho => ?_⟩
    intro sz ys b' off len cap sp e1 e2
    rcases h5 j v x hv hx ho sz ys b' off len cap sp e1 e2 with h6 | ⟨h6, h7, h8⟩
    · exact .inl h6
    · exact .inr ⟨h6, by simp only [Gh.out, h7], h8⟩
  obn := h.obn
  φ id b hb := by
    obtain ⟨h1, h2, h3, h4, h5⟩ := h.φ id b hb
    exact ⟨h1, h2, h3, by simp only [Gh.out, h4], h5⟩
  inj := h.inj
  Gz := h.Gz
theorem cRes_length {P : Program} {n : Nat} : ∀ {l : List ResultVar} {ss : List RS}, cRes P n l = some ss → l.length = ss.length
  | [], ss, h => by simp [cRes] at h; subst h; rfl
  | .tmp t :: l, ss, h => by
    simp only [cRes] at h
    split at h
    · simp only [Option.map_eq_some_iff] at h
      obtain ⟨ss', h3, rfl⟩ := h
      simp [cRes_length h3]
    · simp at h
  | .cell t ty :: l, ss, h => by
    simp only [cRes] at h
    split at h
    · simp only [Option.bind_eq_some_iff, Option.map_eq_some_iff] at h
      obtain ⟨k, hk, ss', h3, rfl⟩ := h
      simp [cRes_length h3]
    · simp at h
theorem rvs_length {st : St} : ∀ {ss : List RS} {vs : List V}, rvs st ss = some vs → ss.length = vs.length
  | [], vs, h => by simp [rvs] at h; subst h; rfl
  | s :: ss, vs, h => by
    simp only [rvs, Option.bind_eq_some_iff, Option.map_eq_some_iff] at h
    obtain ⟨p, _, vs', h3, rfl⟩ := h
    simp [rvs_length h3]
/-- A CONTRACT OF A FUNCTION THAT TOUCHES OBJECTS, from what its code comes to. -/
theorem pch_of_awp (hgl : GlOK cx) (hm : cx.P.follows .mixedOrders = true) (hΓ : Sound cx Γ) {f : FuncId} {F : AFn} (hf : cFn cx.P f = some F) {args : List V} {hs hs' : HS} {r : V × Bool} (hl : args.length ≤ F.n)
    (h : awp Γ cx.gl F.body (retH F.res r hs') (St.initH args hs)) : PCH cx f args hs r hs' := by
  unfold cFn at hf
  split at hf
  · rename_i fn hfn
    split at hf
    · rename_i c hc
      split at hf
      · simp at hf
      · rename_i hname
        simp only [Option.map_eq_some_iff] at hf
        obtain ⟨ts, hts, rfl⟩ := hf
        have hl' : args.length ≤ fn.ntmps := hl
        refine ⟨⟨fn, hfn, hname, by simp [hc]⟩, fun W M g xs hW hM hrel hsl hxs => ?_⟩
        have hB0 : cx.w0.heap.size ≤ W.heap.size := hW.below.size
        have hsc : Scope cx W (fun b => W.heap.size ≤ b ∨ M b) g := ⟨hW.below, fun b hb => hb.elim (fun h => Nat.le_trans hB0 h) (hM b), hW.Glo, hgl⟩
        have hargs : ∀ (t : Nat) (x : Value), (xs ++ Array.replicate (fn.ntmps - xs.size) undef)[t]? = some x → Rep W g.G g.φ ((St.initH args hs).tm t) x := by
          intro t x hx
          by_cases ht : t < xs.size
          · rw [Array.getElem?_append_left ht] at hx
            obtain ⟨v, hv⟩ : ∃ v, args[t]? = some v := ⟨_, List.getElem?_eq_getElem (by rw [hxs.1]; exact ht)⟩
            have : (St.initH args hs).tm t = v := by simp [St.initH, List.getD, hv]
            rw [this]
            exact hxs.2 t v x hv hx
          · rw [Array.getElem?_append_right (by omega)] at hx
            have hx' : x = undef := by
              rw [Array.getElem?_replicate] at hx
              split at hx <;> simp at hx
              exact hx.symm
            have : (St.initH args hs).tm t = Nil := by simp [St.initH, List.getD, List.getElem?_eq_none (show args.length ≤ t by rw [hxs.1]; omega)]
            rw [this, hx']
            exact .tup [] #[] rfl fun i c x hc => by simp at hc
        have h0 : SR W (fun b => W.heap.size ≤ b ∨ M b) g g (St.initH args hs) { tmps := xs ++ Array.replicate (fn.ntmps - xs.size) undef, defers := [] } W :=
          { defers := rfl
            tm := hargs
            own := fun t x hx ho => by simp [St.initH] at ho
            ob := fun id cs hc => by
              obtain ⟨b, ys, t, h1, h2, h3, h4, h5⟩ := hrel.ob id cs hc
              refine ⟨b, ys, t, h1, h2, h3, h4, fun j v x hv hx ho => ?_⟩
              intro sz zs b' off len cap sp e1 e2
              rcases h5 j v x hv hx ho sz zs b' off len cap sp e1 e2 with h6 | ⟨h6, h7⟩
              · exact .inl h6
              · exact .inr ⟨.inr h6, h7⟩
            obn := hrel.obn
            φ := fun id b hb => by
              obtain ⟨h1, h2⟩ := hrel.φ id b hb
              exact ⟨.inr h1, h2⟩
            inj := hrel.inj
            Gz := hrel.Gz
            Glo := fun _ _ => rfl
            kp := fun _ _ _ => rfl
            kG := fun _ => Nat.le_refl _
            kφ := fun _ _ h => h
            below := .refl _ _
            hB := fun b hb => .inl hb }
        refine calls_of_wp hfn hc (comp_sound hsc hΓ hm (n := fn.ntmps) c _ _ _ _ _ _ h0 (by simp [← hxs.1]; omega) h fun e st gf a W' hq hsr hn => ?_)
        have hts' : cRes cx.P a.tmps.size fn.results.toList = some ts := by rw [hn]; exact hts
        have hkeep : Keeps W g.G g.φ W' gf.G gf.φ := ⟨hsr.kp, hsr.kG, hsr.kφ⟩
        have fin : ((∃ p, resOf ts st = some p ∧ p.1 = r.1 ∧ (r.2 = true → p.2 = true)) ∧ st.hs = hs') → a.defers = [] ∧ ∃ v, (results fn a.tmps).run cx.P W' = .ok v W' ∧ ∃ g' y, Ending.returned v = .returned y ∧ Bel (fun b => W.heap.size ≤ b ∨ M b) W W' ∧ (∀ b, b < W.heap.size → ¬ M b → g'.G b = g.G b) ∧ Keeps W g.G g.φ W' g'.G g'.φ ∧
            HRel (fun b => W.heap.size ≤ b ∨ M b) g' hs' W' ∧ Rep W' g'.G g'.φ r.1 y ∧ (r.2 = true → OwnAt W' (fun b => W.heap.size ≤ b ∨ M b) g' (.slot 0) r.1 y) := by
          rintro ⟨⟨p, hp, hr1, hr2⟩, rfl⟩
          obtain ⟨rv0, ro⟩ := r
          simp only at hr1 hr2
          subst hr1
          have hGlo : ∀ b, b < W.heap.size → ¬ M b → gf.G b = g.G b := fun b h1 h2 => hsr.Glo b fun h3 => h3.elim (fun h => by omega) h2
          by_cases h1 : ∃ s, ts = [s]
          · obtain ⟨s, rfl⟩ := h1
            simp only [resOf] at hp
            obtain ⟨rr, hrr⟩ : ∃ rr, fn.results.toList = [rr] := List.length_eq_one_iff.1 (by have := cRes_length hts; simpa using this)
            rw [hrr] at hts'
            obtain ⟨y, q1, q2, q3⟩ := rv_run hsc hsr hts' hp
            have hm : (fn.results.toList.mapM (resM a.tmps)).run cx.P W' = .ok [y] W' := by rw [hrr]; simp [q1]
            refine ⟨hsr.defers, _, results_eq fn a.tmps cx.P W' hm, gf.out (match s with | .t t => some t | _ => none), y, by simp, hsr.below, hGlo, hkeep, hsr.hrelOut _, q2, fun ho => ?_⟩
            obtain ⟨t, rfl, hpe, ht, hy⟩ := q3 (hr2 ho)
            have e : a.tmps[t]? = some (a.tmps.getD t undef) := by rw [Array.getElem?_eq_getElem ht]; simp [Array.getD, ht]
            subst hpe
            intro sz xs b off len cap sp hv hx
            simp only at hv hr2
            rcases hsr.own t _ e (hr2 ho) sz xs b off len cap sp hv (by rw [← hy]; exact hx) with h2 | ⟨h2, h3, h4⟩
            · exact .inl h2
            · exact .inr ⟨h2, by simp only [Gh.out, h3, if_true], h4⟩
          · have hr' : resOf ts st = (rvs st ts).map fun vs => (.tup vs, false) := by
              unfold resOf
              split
              · exact absurd ⟨_, rfl⟩ h1
              · rfl
            rw [hr', Option.map_eq_some_iff] at hp
            obtain ⟨vs, hvs, rfl⟩ := hp
            obtain ⟨ys, q1, q2, q3⟩ := rvs_run hsc hsr hts' hvs
            have hne : ¬ ys.toArray.size = 1 := by
              intro he
              simp at he
              have := rvs_length hvs
              exact h1 (List.length_eq_one_iff.1 (by omega))
            refine ⟨hsr.defers, _, results_eq fn a.tmps cx.P W' q1, gf.out none, .tuple ys.toArray, by rw [dif_neg hne], hsr.below, hGlo, hkeep, hsr.hrelOut _, ?_, fun ho => absurd (hr2 ho) (by simp)⟩
            exact .tup _ _ (by simpa using q2) fun i c x hi hx => q3 i c x hi (by simpa using hx)
        cases e with
        | normal => exact fin hq
        | exit i => exact hq.elim
        | ret => exact fin hq
    · simp at hf
  · simp at hf
end Go.Abs
/-
  Abs, part T: how 'simp' runs a plain code, from its head on. Own work of this seat.
-/
namespace Go.Abs
open Go.RowKit

/-- many of one (a word that 'simp' does not unfold) -/
def repl {α : Type} (n : Nat) (x : α) : List α := List.replicate n x
@[simp] theorem repl_length {α : Type} (n : Nat) (x : α) : (repl n x).length = n := by simp [repl]
@[simp] theorem mem_repl {α : Type} (n : Nat) (x y : α) : (y ∈ repl n x) = (n ≠ 0 ∧ y = x) := by simp [repl]

abbrev Glob := Nat → Option (List V)

def runs (Γ : Abs.Spec) (gl : Glob) : List AOper → (St → Prop) → St → Prop
  | [], K, st => K st
  | o :: r, K, st => someP (exec Γ gl o st) (runs Γ gl r K)

theorem runs_eq {Γ : Abs.Spec} {gl : Glob} : ∀ {os : List AOper} {st : St} {K : St → Prop}, someP (execs Γ gl os st) K = runs Γ gl os K st
  | [], _, _ => rfl
  | o :: r, st, K => by
    simp only [execs, runs]
    cases exec Γ gl o st with
    | none => rfl
    | some s => exact runs_eq

def blockQ (i : Nat) (Q : Ex → St → Prop) (e : Ex) (s : St) : Prop := Q (e.inBlock i) s
def condA (v : V) (Γ : Abs.Spec) (gl : Glob) (a b : ACode) (Q : Ex → St → Prop) (st : St) : Prop := condP v (awp Γ gl a Q st) (awp Γ gl b Q st)

variable {Γ : Abs.Spec} {gl : Glob} {Q : Ex → St → Prop} {st : St}
@[simp] theorem someP_some (s : St) (p : St → Prop) : someP (some s) p = p s := (rfl)
section
variable {a b : ACode}
@[simp] theorem condA_true : condA (.bool true) Γ gl a b Q st = awp Γ gl a Q st := (rfl)
@[simp] theorem condA_false : condA (.bool false) Γ gl a b Q st = awp Γ gl b Q st := (rfl)
theorem condA_bool {c : Bool} (h1 : c = true → awp Γ gl a Q st) (h2 : c = false → awp Γ gl b Q st) : condA (.bool c) Γ gl a b Q st := by
  cases c
  · exact h2 rfl
  · exact h1 rfl
theorem condA_dec {P : Prop} [Decidable P] (h1 : P → awp Γ gl a Q st) (h2 : ¬ P → awp Γ gl b Q st) : condA (.bool (decide P)) Γ gl a b Q st := by
  by_cases h : P
  · simpa [h] using h1 h
  · simpa [h] using h2 h
theorem condA_ndec {P : Prop} [Decidable P] (h1 : ¬ P → awp Γ gl a Q st) (h2 : P → awp Γ gl b Q st) : condA (.bool (!decide P)) Γ gl a b Q st := by
  by_cases h : P
  · simpa [h] using h2 h
  · simpa [h] using h1 h
end
@[simp] theorem thenQ_normal (K : St → Prop) (Q : Ex → St → Prop) (s : St) : thenQ K Q .normal s = K s := (rfl)
@[simp] theorem thenQ_exit (K : St → Prop) (Q : Ex → St → Prop) (i : Nat) (s : St) : thenQ K Q (.exit i) s = Q (.exit i) s := (rfl)
@[simp] theorem thenQ_ret (K : St → Prop) (Q : Ex → St → Prop) (s : St) : thenQ K Q .ret s = Q .ret s := (rfl)
@[simp] theorem blockQ_normal (i : Nat) (Q : Ex → St → Prop) (s : St) : blockQ i Q .normal s = Q .normal s := (rfl)
@[simp] theorem blockQ_ret (i : Nat) (Q : Ex → St → Prop) (s : St) : blockQ i Q .ret s = Q .ret s := (rfl)
@[simp] theorem blockQ_exit (i j : Nat) (Q : Ex → St → Prop) (s : St) : blockQ i Q (.exit j) s = if j = i then Q .normal s else Q (.exit j) s := by
  simp only [blockQ, Ex.inBlock]; split <;> rfl

@[simp] theorem awp_skip : awp Γ gl .skip Q st = Q .normal st := (rfl)
@[simp] theorem awp_region (os : List AOper) (d : Bool) : awp Γ gl (.region os d) Q st = runs Γ gl os (Q .normal) st := by rw [← runs_eq]; rfl
@[simp] theorem awp_seq (a b : ACode) : awp Γ gl (.seq a b) Q st = awp Γ gl a (thenQ (awp Γ gl b Q) Q) st := (rfl)
@[simp] theorem awp_cond (c : Opd) (a b : ACode) : awp Γ gl (.cond c a b) Q st = condA (evO st.tm c) Γ gl a b Q st := (rfl)
@[simp] theorem awp_block (i : Nat) (b : ACode) : awp Γ gl (.block i b) Q st = awp Γ gl b (blockQ i Q) st := (rfl)
@[simp] theorem awp_exit (i : Nat) : awp Γ gl (.exit i) Q st = Q (.exit i) st := (rfl)
@[simp] theorem awp_ret : awp Γ gl .ret Q st = Q .ret st := (rfl)
@[simp] theorem runs_nil (K : St → Prop) : runs Γ gl [] K st = K st := (rfl)
@[simp] theorem runs_cons (o : AOper) (r : List AOper) (K : St → Prop) : runs Γ gl (o :: r) K st = someP (exec Γ gl o st) (runs Γ gl r K) := (rfl)

/-! ## the state -/
@[simp] theorem evO_tmp (tm : Nat → V) (t : Nat) : evO tm (.tmp t) = tm t := (rfl)
@[simp] theorem evO_const (tm : Nat → V) (v : V) : evO tm (.const v) = v := (rfl)
@[simp] theorem put_none (v : V) (o : Bool) : st.put none v o = st := (rfl)
@[simp] theorem put_tm (d : Nat) (v : V) (o : Bool) (t : Nat) : (st.put (some d) v o).tm t = if t = d then v else st.tm t := (rfl)
@[simp] theorem put_own (d : Nat) (v : V) (o : Bool) (t : Nat) : (st.put (some d) v o).own (.slot t) = if t = d then o else st.own (.slot t) := by simp [St.put, updP]
@[simp] theorem put_ownc (d : Nat) (v : V) (o : Bool) (i j : Nat) : (st.put (some d) v o).own (.cell i j) = st.own (.cell i j) := by simp [St.put, updP]
@[simp] theorem put_H (d : Nat) (v : V) (o : Bool) : (st.put (some d) v o).H = st.H := (rfl)
@[simp] theorem put_nH (d : Nat) (v : V) (o : Bool) : (st.put (some d) v o).nH = st.nH := (rfl)
@[simp] theorem take_none : st.take none = st := (rfl)
@[simp] theorem take_own (p q : Pos) : (st.take (some p)).own q = if q = p then false else st.own q := (rfl)
@[simp] theorem new_tm (cs : List V) : (st.new cs).tm = st.tm := (rfl)
@[simp] theorem new_own (cs : List V) (t : Nat) : (st.new cs).own (.slot t) = st.own (.slot t) := (rfl)
@[simp] theorem new_ownc (cs : List V) (i j : Nat) : (st.new cs).own (.cell i j) = if i = st.nH then false else st.own (.cell i j) := (rfl)
@[simp] theorem new_H (cs : List V) (i : Nat) : (st.new cs).H i = if i = st.nH then some (.cells cs) else st.H i := (rfl)
@[simp] theorem new_nH (cs : List V) : (st.new cs).nH = st.nH + 1 := (rfl)
@[simp] theorem setOb_tm (id : Nat) (cs : List V) (off : Nat) (ys : List V) : (st.setOb id cs off ys).tm = st.tm := (rfl)
@[simp] theorem setOb_own (id : Nat) (cs : List V) (off : Nat) (ys : List V) (t : Nat) : (st.setOb id cs off ys).own (.slot t) = st.own (.slot t) := (rfl)
@[simp] theorem setOb_ownc (id : Nat) (cs : List V) (off : Nat) (ys : List V) (i j : Nat) : (st.setOb id cs off ys).own (.cell i j) = if i = id ∧ off ≤ j ∧ j < off + ys.length then false else st.own (.cell i j) := (rfl)
@[simp] theorem setOb_H (id : Nat) (cs : List V) (off : Nat) (ys : List V) (i : Nat) : (st.setOb id cs off ys).H i = if i = id then some (.cells (setAt cs off ys)) else st.H i := (rfl)
@[simp] theorem setOb_nH (id : Nat) (cs : List V) (off : Nat) (ys : List V) : (st.setOb id cs off ys).nH = st.nH := (rfl)
@[simp] theorem stoOb_tm (id : Nat) (cs : List V) (off t : Nat) : (st.stoOb id cs off t).tm = st.tm := (rfl)
@[simp] theorem stoOb_own (id : Nat) (cs : List V) (off t u : Nat) : (st.stoOb id cs off t).own (.slot u) = if u = t then false else st.own (.slot u) := by simp [St.stoOb, updP]
@[simp] theorem stoOb_ownc (id : Nat) (cs : List V) (off t i j : Nat) : (st.stoOb id cs off t).own (.cell i j) = if i = id ∧ j = off then st.own (.slot t) else st.own (.cell i j) := by simp [St.stoOb, updP]
@[simp] theorem stoOb_H (id : Nat) (cs : List V) (off t i : Nat) : (st.stoOb id cs off t).H i = if i = id then some (.cells (setAt cs off [st.tm t])) else st.H i := (rfl)
@[simp] theorem stoOb_nH (id : Nat) (cs : List V) (off t : Nat) : (st.stoOb id cs off t).nH = st.nH := (rfl)
@[simp] theorem init_tm (args : List V) (t : Nat) : (St.init args).tm t = args.getD t Nil := (rfl)
@[simp] theorem init_own (args : List V) (p : Pos) : (St.init args).own p = false := (rfl)
@[simp] theorem init_H (args : List V) (i : Nat) : (St.init args).H i = none := (rfl)
@[simp] theorem init_nH (args : List V) : (St.init args).nH = 0 := (rfl)

/-! ## operations -/
def putV (st : St) (d : Option Nat) (v : Option V) : Option St := v.map fun v => st.put d v false
def putR (st : St) (d : Option Nat) (r : Option Res) : Option St := r.map fun r => (st.take r.tk).put d r.v r.o
@[simp] theorem putV_some (d : Option Nat) (v : V) : putV st d (some v) = some (st.put d v false) := (rfl)
@[simp] theorem putR_some (d : Option Nat) (v : V) (o : Bool) (p : Option Pos) : putR st d (some ⟨v, o, p⟩) = some ((st.take p).put d v o) := (rfl)

variable {d : Option Nat} {g : Option (Nat × Bool)} {a : List Nat}
theorem resV_put (v : Option V) : ((resV v).map fun r => (st.take r.tk).put d r.v r.o) = putV st d v := by cases v <;> rfl

@[simp] theorem exec_none (op : AOp) : exec Γ gl ⟨d, op, none, a⟩ st = exec1 Γ gl ⟨d, op, none, a⟩ st := (rfl)
@[simp] theorem exec_some (op : AOp) (t : Nat) (w : Bool) : exec Γ gl ⟨d, op, some (t, w), a⟩ st = if (match st.tm t with | .bool b => b == w | _ => false) = true then exec1 Γ gl ⟨d, op, some (t, w), a⟩ st else some (st.put d Nil false) := (rfl)
@[simp] theorem e_mv (x : Opd) : exec1 Γ gl ⟨d, .mv x, g, a⟩ st = some (st.put d (evO st.tm x) false) := (rfl)
@[simp] theorem e_mvo (t : Nat) : exec1 Γ gl ⟨d, .mvo t, g, a⟩ st = some ((st.take (some (.slot t))).put d (st.tm t) (st.own (.slot t))) := (rfl)
@[simp] theorem e_pick (c x y : Opd) : exec1 Γ gl ⟨d, .pick c x y, g, a⟩ st = putV st d (vPick (evO st.tm c) (evO st.tm x) (evO st.tm y)) := resV_put _
@[simp] theorem e_ext (t : Opd) (i : Nat) : exec1 Γ gl ⟨d, .ext t i, g, a⟩ st = putV st d (vExt (evO st.tm t) i) := resV_put _
@[simp] theorem e_bin (op : BinOp) (q : EqK) (x y : Opd) : exec1 Γ gl ⟨d, .bin op q x y, g, a⟩ st = putV st d (abin op q (evO st.tm x) (evO st.tm y)) := resV_put _
@[simp] theorem e_un (op : UnOp) (x : Opd) : exec1 Γ gl ⟨d, .un op x, g, a⟩ st = putV st d (aun op (evO st.tm x)) := resV_put _
@[simp] theorem e_len (s : Bool) (x : Opd) : exec1 Γ gl ⟨d, .len s x, g, a⟩ st = putV st d (vLen s (evO st.tm x)) := resV_put _
@[simp] theorem e_mnx (m : Bool) (x y : Opd) : exec1 Γ gl ⟨d, .mnx m x y, g, a⟩ st = putV st d (vMnx m (evO st.tm x) (evO st.tm y)) := resV_put _
@[simp] theorem e_iaddr (sz : Nat) (x i : Opd) : exec1 Γ gl ⟨d, .iaddr sz x i, g, a⟩ st = putV st d (vIaddr sz (evO st.tm x) (evO st.tm i)) := resV_put _
@[simp] theorem e_iarr (n sz : Nat) (x i : Opd) : exec1 Γ gl ⟨d, .iarr n sz x i, g, a⟩ st = putV st d (vIarr n sz (evO st.tm x) (evO st.tm i)) := resV_put _
@[simp] theorem e_faddr (off : Nat) (x : Opd) : exec1 Γ gl ⟨d, .faddr off x, g, a⟩ st = putV st d (vFaddr off (evO st.tm x)) := resV_put _
@[simp] theorem e_load (n : Option Nat) (x : Opd) : exec1 Γ gl ⟨d, .load n x, g, a⟩ st = putV st d (vLoad gl st.H n (evO st.tm x)) := resV_put _
@[simp] theorem e_ldo (x : Opd) : exec1 Γ gl ⟨d, .ldo x, g, a⟩ st = putR st d (vLdo st.H st.own (evO st.tm x)) := (rfl)
@[simp] theorem e_fld (n : Option Nat) (off : Nat) (x : Opd) : exec1 Γ gl ⟨d, .fld n off x, g, a⟩ st = putV st d (vFld n off (evO st.tm x)) := resV_put _
@[simp] theorem e_idx (x i : Opd) : exec1 Γ gl ⟨d, .idx x i, g, a⟩ st = putV st d (vIdx (evO st.tm x) (evO st.tm i)) := resV_put _
@[simp] theorem e_idxa (l sz : Nat) (n : Option Nat) (x i : Opd) : exec1 Γ gl ⟨d, .idxa l sz n x i, g, a⟩ st = putV st d (vIdxa l sz n (evO st.tm x) (evO st.tm i)) := resV_put _
@[simp] theorem e_sls (x : Opd) (lo hi : Option Opd) : exec1 Γ gl ⟨d, .sls x lo hi, g, a⟩ st = putV st d (vSls (evO st.tm x) (lo.map (evO st.tm)) (hi.map (evO st.tm))) := resV_put _
@[simp] theorem e_slc (sz : Nat) (x : Opd) (lo hi mx : Option Opd) : exec1 Γ gl ⟨d, .slc sz x lo hi mx, g, a⟩ st = putR st d (vSlc sz (evO st.tm x) (lo.map (evO st.tm)) (hi.map (evO st.tm)) (mx.map (evO st.tm))) := (rfl)
@[simp] theorem e_slca (n sz : Nat) (x : Opd) (lo hi mx : Option Opd) : exec1 Γ gl ⟨d, .slca n sz x lo hi mx, g, a⟩ st = putV st d (vSlca n sz (evO st.tm x) (lo.map (evO st.tm)) (hi.map (evO st.tm)) (mx.map (evO st.tm))) := resV_put _
@[simp] theorem e_build (z : List V) (ps : List (Nat × Nat × Opd)) : exec1 Γ gl ⟨d, .build z ps, g, a⟩ st = putV st d ((fillV z (ps.map fun p => (p.1, p.2.1, evO st.tm p.2.2))).map .agg) := resV_put _
@[simp] theorem e_bsl (sz : Nat) (ps : List Opd) : exec1 Γ gl ⟨d, .bsl sz ps, g, a⟩ st = putR st d (if fits sz (ps.map (evO st.tm)) then some ⟨.sl false sz (ps.map (evO st.tm)), true, none⟩ else none) := (rfl)
@[simp] theorem e_s2b (x : Opd) : exec1 Γ gl ⟨d, .s2b x, g, a⟩ st = putR st d (vS2b (evO st.tm x)) := (rfl)
@[simp] theorem e_b2s (x : Opd) : exec1 Γ gl ⟨d, .b2s x, g, a⟩ st = putV st d (vB2s st.H (evO st.tm x)) := resV_put _
@[simp] theorem e_i2i (k : IntKind) (x : Opd) : exec1 Γ gl ⟨d, .i2i k x, g, a⟩ st = putV st d (vI2i k (evO st.tm x)) := resV_put _
@[simp] theorem e_s2s (x : Opd) : exec1 Γ gl ⟨d, .s2s x, g, a⟩ st = putV st d (vS2s (evO st.tm x)) := resV_put _
@[simp] theorem e_s2a (n : Nat) (x : Opd) : exec1 Γ gl ⟨d, .s2a n x, g, a⟩ st = putV st d (vS2a n (evO st.tm x)) := resV_put _
def putC (st : St) (d : Option Nat) (r : Option (V × Bool)) : Option St := r.map fun r => st.put d r.1 r.2
@[simp] theorem putC_some (v : V) (o : Bool) : putC st d (some (v, o)) = some (st.put d v o) := (rfl)
@[simp] theorem e_call (f : Nat) (xs : List Opd) : exec1 Γ gl ⟨d, .call f xs, g, a⟩ st = putC st d (Γ f (xs.map (evO st.tm))) := by
  show ((Γ f (xs.map (evO st.tm))).map fun r => (⟨r.1, r.2, none⟩ : Res)).map _ = _
  cases Γ f (xs.map (evO st.tm)) <;> rfl
@[simp] theorem e_callv (f : Opd) (xs : List Opd) : exec1 Γ gl ⟨d, .callv f xs, g, a⟩ st = putR st d (vCallv Γ (evO st.tm f) (xs.map (evO st.tm))) := (rfl)
@[simp] theorem e_mkf (f : Nat) (xs : List Opd) : exec1 Γ gl ⟨d, .mkf f xs, g, a⟩ st = some (st.put d (.fn f (xs.map (evO st.tm))) false) := (rfl)
@[simp] theorem e_mkm (f : Nat) (xs : List Opd) : exec1 Γ gl ⟨d, .mkm f xs, g, a⟩ st = some (st.put d (.mfn f (xs.map (evO st.tm))) false) := (rfl)
@[simp] theorem e_nilck (x : Opd) : exec1 Γ gl ⟨d, .nilck x, g, a⟩ st = putV st d (vNilck (evO st.tm x)) := resV_put _
@[simp] theorem e_mks (sz : Nat) (z : List V) (l c : Opd) : exec1 Γ gl ⟨d, .mks sz z l c, g, a⟩ st = putR st d (vMks sz (evO st.tm l) (evO st.tm c)) := (rfl)
@[simp] theorem e_app (sz : Nat) (s x : Opd) : exec1 Γ gl ⟨d, .app sz s x, g, a⟩ st = putR st d (vApp st.H (ownO st.own s) sz (posO s) (evO st.tm s) (evO st.tm x)) := (rfl)
@[simp] theorem e_new (cs : List V) : exec1 Γ gl ⟨d, .new cs, g, a⟩ st = some ((st.new cs).put d (.ptr st.nH 0) false) := (rfl)
@[simp] theorem e_box (x : Opd) : exec1 Γ gl ⟨d, .box x, g, a⟩ st = if (evO st.tm x).cells.all V.sc then some ((st.new (evO st.tm x).cells).put d (.ptr st.nH 0) false) else none := (rfl)
def doStore (st : St) (d : Option Nat) (n : Nat) (ys : List V) : V → Option St
  | .ptr id off => (hCells st.H id).bind fun cs => if ys.length = n ∧ ys.all V.sc = true ∧ off + n ≤ cs.length then some ((st.setOb id cs off ys).put d Nil false) else none
  | _ => none
@[simp] theorem e_store (n : Nat) (x y : Opd) : exec1 Γ gl ⟨d, .store n x y, g, a⟩ st = doStore st d n (evO st.tm y).cells (evO st.tm x) := by
  simp only [exec1, St.ev]
  cases evO st.tm x <;> try rfl
  rename_i id off
  simp only [doStore, St.storeOb]
  cases hCells st.H id <;> simp
def doSto (st : St) (d : Option Nat) (t : Nat) : V → Option St
  | .ptr id off => (hCells st.H id).bind fun cs => if (st.tm t).sc = true ∧ off < cs.length then some ((st.stoOb id cs off t).put d Nil false) else none
  | _ => none
@[simp] theorem e_sto (x : Opd) (t : Nat) : exec1 Γ gl ⟨d, .sto x t, g, a⟩ st = doSto st d t (evO st.tm x) := by
  simp only [exec1, St.ev]
  cases evO st.tm x <;> try rfl
  rename_i id off
  simp only [doSto]
  cases hCells st.H id <;> simp
@[simp] theorem doStore_ptr (n : Nat) (ys : List V) (id off : Nat) : doStore st d n ys (.ptr id off) = (hCells st.H id).bind fun cs => if ys.length = n ∧ ys.all V.sc = true ∧ off + n ≤ cs.length then some ((st.setOb id cs off ys).put d Nil false) else none := (rfl)
@[simp] theorem doSto_ptr (t : Nat) (id off : Nat) : doSto st d t (.ptr id off) = (hCells st.H id).bind fun cs => if (st.tm t).sc = true ∧ off < cs.length then some ((st.stoOb id cs off t).put d Nil false) else none := (rfl)

@[simp] theorem ownO_tmp (own : Pos → Bool) (t : Nat) : ownO own (.tmp t) = own (.slot t) := (rfl)
@[simp] theorem ownO_const (own : Pos → Bool) (v : V) : ownO own (.const v) = false := (rfl)
@[simp] theorem posO_tmp (t : Nat) : posO (.tmp t) = some (.slot t) := (rfl)
@[simp] theorem posO_const (v : V) : posO (.const v) = none := (rfl)

/-! ## texts in their order -/
section
theorem less_irrefl : ∀ a : Bytes, Op.bytesLess a a = false
  | [] => rfl
  | a :: r => by simp [Op.bytesLess, less_irrefl r]
theorem less_trans : ∀ {a b c : Bytes}, Op.bytesLess a b = true → Op.bytesLess b c = true → Op.bytesLess a c = true
  | _, _, [], h1, h2 => by cases ‹Bytes› <;> simp [Op.bytesLess] at h2
  | [], _, _ :: _, _, _ => rfl
  | _ :: _, [], _ :: _, h1, _ => by simp [Op.bytesLess] at h1
  | x :: a, y :: b, z :: c, h1, h2 => by
    simp only [Op.bytesLess, Bool.or_eq_true, decide_eq_true_eq, Bool.and_eq_true, beq_iff_eq] at h1 h2 ⊢
    rcases h1 with h1 | ⟨rfl, h1⟩ <;> rcases h2 with h2 | ⟨rfl, h2⟩
    · exact .inl (UInt8.lt_trans h1 h2)
    · exact .inl h1
    · exact .inl h2
    · exact .inr ⟨rfl, less_trans h1 h2⟩
theorem less_tri : ∀ {a b : Bytes}, Op.bytesLess a b = false → Op.bytesLess b a = false → a = b
  | [], [], _, _ => rfl
  | [], _ :: _, h, _ => by simp [Op.bytesLess] at h
  | _ :: _, [], _, h => by simp [Op.bytesLess] at h
  | x :: a, y :: b, h1, h2 => by
    simp only [Op.bytesLess, Bool.or_eq_false_iff, decide_eq_false_iff_not, Bool.and_eq_false_iff, beq_eq_false_iff_ne] at h1 h2
    have hxy : x = y := by
      rcases Classical.em (x = y) with h | h
      · exact h
      · rcases UInt8.lt_or_lt_of_ne h with h | h
        · exact absurd h h1.1
        · exact absurd h h2.1
    subst hxy
    rw [less_tri (h1.2.resolve_left (by simp)) (h2.2.resolve_left (by simp))]
theorem less_asymm {a b : Bytes} (h : Op.bytesLess a b = true) : Op.bytesLess b a = false := by
  cases h' : Op.bytesLess b a with
  | false => rfl
  | true => have := less_trans h h'; rw [less_irrefl] at this; cases this
theorem less_gtr (a b : Bytes) : (!(Op.bytesLess a b || decide (a = b))) = Op.bytesLess b a := by
  cases h : Op.bytesLess a b with
  | true => simp [less_asymm h]
  | false =>
    by_cases he : a = b
    · subst he; simp [less_irrefl]
    · cases h' : Op.bytesLess b a with
      | true => simp [he]
      | false => exact absurd (less_tri h h') he

end

/-! ## values -/
@[simp] theorem vLen_str (s : Bytes) : vLen true (.str s) = some (.int .i64 s.length) := (rfl)
@[simp] theorem vLen_sl (nl : Bool) (sz : Nat) (xs : List V) : vLen false (.sl nl sz xs) = some (.int .i64 xs.length) := (rfl)
@[simp] theorem vLen_osl (id off n c sz : Nat) : vLen false (.osl id off n c sz) = some (.int .i64 n) := (rfl)
@[simp] theorem vPick_bool (t : Bool) (x y : V) : vPick (.bool t) x y = some (if t then x else y) := (rfl)
@[simp] theorem vExt_tup (vs : List V) (i : Nat) : vExt (.tup vs) i = vs[i]? := (rfl)
theorem vIaddr_sl (sz : Nat) (s : Nat) (xs : List V) (k : IntKind) (n : Int) : vIaddr sz (.sl false s xs) (.int k n) = if 0 ≤ n ∧ s = sz then (xs[n.toNat]?).map fun e => .el e.cells 0 else none := (rfl)
@[simp] theorem vIaddr_at (nl : Bool) (sz : Nat) (xs : List V) (k : IntKind) (n : Nat) (e : V) (h : xs[n]? = some e) (hnl : xs ≠ [] → nl = false) : vIaddr sz (.sl nl sz xs) (.int k (n : Int)) = some (.el e.cells 0) := by
  have : nl = false := hnl (fun hx => by simp [hx] at h)
  subst this
  simp [vIaddr, h]
@[simp] theorem vIaddr_0 (nl : Bool) (sz : Nat) (xs : List V) (k : IntKind) (e : V) (h : xs[0]? = some e) (hnl : xs ≠ [] → nl = false) : vIaddr sz (.sl nl sz xs) (.int k 0) = some (.el e.cells 0) := vIaddr_at nl sz xs k 0 e h hnl
@[simp] theorem vIaddr_1 (nl : Bool) (sz : Nat) (xs : List V) (k : IntKind) (e : V) (h : xs[1]? = some e) (hnl : xs ≠ [] → nl = false) : vIaddr sz (.sl nl sz xs) (.int k 1) = some (.el e.cells 0) := vIaddr_at nl sz xs k 1 e h hnl
@[simp] theorem vIaddr_2 (nl : Bool) (sz : Nat) (xs : List V) (k : IntKind) (e : V) (h : xs[2]? = some e) (hnl : xs ≠ [] → nl = false) : vIaddr sz (.sl nl sz xs) (.int k 2) = some (.el e.cells 0) := vIaddr_at nl sz xs k 2 e h hnl
@[simp] theorem np1_ne0 (n : Nat) : ((n : Int) + 1 = 0) = False := eq_false (by omega)
@[simp] theorem np1_pos (n : Nat) : (0 < (n : Int) + 1) = True := eq_true (by omega)
@[simp] theorem np1_nneg (n : Nat) : (0 ≤ (n : Int) + 1) = True := eq_true (by omega)
@[simp] theorem np1_one (n : Nat) : (1 ≤ (n : Int) + 1) = True := eq_true (by omega)
@[simp] theorem np1_le0 (n : Nat) : ((n : Int) + 1 ≤ 0) = False := eq_false (by omega)
@[simp] theorem np1_lt0 (n : Nat) : ((n : Int) + 1 < 0) = False := eq_false (by omega)
@[simp] theorem fillV_nil (cs : List V) : fillV cs [] = some cs := (rfl)
@[simp] theorem fillV_cons (cs : List V) (off n : Nat) (v : V) (r : List (Nat × Nat × V)) : fillV cs ((off, n, v) :: r) = if v.cells.length = n ∧ v.cells.all V.sc = true ∧ off + n ≤ cs.length then fillV (setAt cs off v.cells) r else none := (rfl)
@[simp] theorem vFaddr_ptr (off id o : Nat) : vFaddr off (.ptr id o) = some (.ptr id (o + off)) := (rfl)
@[simp] theorem vFaddr_el (off : Nat) (cs : List V) (o : Nat) : vFaddr off (.el cs o) = some (.el cs (o + off)) := (rfl)
@[simp] theorem vFaddr_gp (off g o : Nat) : vFaddr off (.gp g o) = some (.gp g (o + off)) := (rfl)
@[simp] theorem vLoad_el (gl : Glob) (H : Hp) (n : Option Nat) (cs : List V) (o : Nat) : vLoad gl H n (.el cs o) = ldCells n cs o := (rfl)
@[simp] theorem vLoad_gp (gl : Glob) (H : Hp) (n : Option Nat) (g o : Nat) : vLoad gl H n (.gp g o) = (gl g).bind fun cs => ldCells n cs o := (rfl)
@[simp] theorem vLoad_ptr (gl : Glob) (H : Hp) (n : Option Nat) (id o : Nat) : vLoad gl H n (.ptr id o) = (hCells H id).bind fun cs => ldCells n cs o := (rfl)
@[simp] theorem vFld_agg (n : Option Nat) (off : Nat) (cs : List V) : vFld n off (.agg cs) = ldCells n cs off := (rfl)
theorem hCells_of {H : Hp} {id : Nat} {cs : List V} (h : H id = some (.cells cs)) : hCells H id = some cs := by simp [hCells, h]
@[simp] theorem hCells_new (cs : List V) (i : Nat) : hCells (st.new cs).H i = if i = st.nH then some cs else hCells st.H i := by
  by_cases h : i = st.nH <;> simp [hCells, h]
@[simp] theorem hCells_setOb (id : Nat) (cs : List V) (off : Nat) (ys : List V) (i : Nat) : hCells (st.setOb id cs off ys).H i = if i = id then some (setAt cs off ys) else hCells st.H i := by
  by_cases h : i = id <;> simp [hCells, h]
@[simp] theorem hCells_stoOb (id : Nat) (cs : List V) (off t : Nat) (i : Nat) : hCells (st.stoOb id cs off t).H i = if i = id then some (setAt cs off [st.tm t]) else hCells st.H i := by
  by_cases h : i = id <;> simp [hCells, h]
@[simp] theorem hCells_init (args : List V) (i : Nat) : hCells (St.init args).H i = none := (rfl)
@[simp] theorem ldCells_none (cs : List V) (off : Nat) : ldCells none cs off = cs[off]? := (rfl)
@[simp] theorem ldCells_some (k : Nat) (cs : List V) (off : Nat) : ldCells (some k) cs off = if off + k ≤ cs.length then some (.agg ((cs.drop off).take k)) else none := (rfl)
@[simp] theorem aun_not (b : Bool) : aun .not (.bool b) = some (.bool !b) := (rfl)
@[simp] theorem aun_neg (k : IntKind) (n : Int) : aun .neg (.int k n) = some (.int k (k.wrap (0 - n))) := (rfl)
variable {q : EqK} {k : IntKind} {x y : Int} {s t : Bytes}
@[simp] theorem b_add : abin .add q (.int k x) (.int k y) = some (.int k (k.wrap (x + y))) := by simp [abin, aint]
@[simp] theorem b_sub : abin .sub q (.int k x) (.int k y) = some (.int k (k.wrap (x - y))) := by simp [abin, aint]
@[simp] theorem b_mul : abin .mul q (.int k x) (.int k y) = some (.int k (k.wrap (x * y))) := by simp [abin, aint]
@[simp] theorem b_quo : abin .quo q (.int k x) (.int k y) = if y = 0 then none else some (.int k (k.wrap (x.tdiv y))) := by simp [abin, aint]
@[simp] theorem b_rem : abin .rem q (.int k x) (.int k y) = if y = 0 then none else some (.int k (x.tmod y)) := by simp [abin, aint]
@[simp] theorem b_eql : abin .eql q (.int k x) (.int k y) = some (.bool (decide (x = y))) := by simp [abin, aint]
@[simp] theorem b_neq : abin .neq q (.int k x) (.int k y) = some (.bool (!decide (x = y))) := by simp [abin, aint]
@[simp] theorem b_lss : abin .lss q (.int k x) (.int k y) = some (.bool (decide (x < y))) := by simp [abin, aint]
@[simp] theorem b_leq : abin .leq q (.int k x) (.int k y) = some (.bool (decide (x ≤ y))) := by simp [abin, aint]
@[simp] theorem b_gtr : abin .gtr q (.int k x) (.int k y) = some (.bool (decide (y < x))) := by simp [abin, aint]
@[simp] theorem b_geq : abin .geq q (.int k x) (.int k y) = some (.bool (decide (y ≤ x))) := by simp [abin, aint]
@[simp] theorem s_eql : abin .eql q (.str s) (.str t) = some (.bool (decide (s = t))) := (rfl)
@[simp] theorem s_neq : abin .neq q (.str s) (.str t) = some (.bool (!decide (s = t))) := (rfl)
@[simp] theorem s_lss : abin .lss q (.str s) (.str t) = some (.bool (Op.bytesLess s t)) := (rfl)
@[simp] theorem s_gtr : abin .gtr q (.str s) (.str t) = some (.bool (Op.bytesLess t s)) := by rw [← less_gtr]; rfl
@[simp] theorem s_geq : abin .geq q (.str s) (.str t) = some (.bool (!Op.bytesLess s t)) := (rfl)
@[simp] theorem s_add : abin .add q (.str s) (.str t) = if s.length + t.length ≤ 4611686018427387904 then some (.str (s ++ t)) else none := (rfl)
@[simp] theorem sl_eql (nl : Bool) (z z' : Nat) (xs : List V) : abin .eql .slice (.sl nl z xs) (.sl true z' []) = some (.bool nl) := by cases nl <;> rfl
@[simp] theorem sl_neq (nl : Bool) (z z' : Nat) (xs : List V) : abin .neq .slice (.sl nl z xs) (.sl true z' []) = some (.bool !nl) := by cases nl <;> rfl
@[simp] theorem fl_eql (ks : List (Option IntKind × Bool)) (xs ys : List V) : abin .eql (.flat ks) (.agg xs) (.agg ys) = (flatEq ks xs ys).map .bool := (rfl)
@[simp] theorem fl_neq (ks : List (Option IntKind × Bool)) (xs ys : List V) : abin .neq (.flat ks) (.agg xs) (.agg ys) = (flatEq ks xs ys).map fun b => .bool !b := (rfl)
@[simp] theorem flatEq_nil : flatEq [] [] [] = some true := (rfl)
@[simp] theorem flatEq_step (k : Option IntKind × Bool) (ks : List (Option IntKind × Bool)) (x y : V) (xs ys : List V) : flatEq (k :: ks) (x :: xs) (y :: ys) = (kdEq k x y).bind fun b => (flatEq ks xs ys).map (b && ·) := (rfl)
@[simp] theorem kdEq_int (k : IntKind) (t : Bool) (x y : Int) : kdEq (some k, t) (.int k x) (.int k y) = some (decide (x = y)) := by simp [kdEq]
@[simp] theorem kdEq_str (x y : Bytes) : kdEq (none, true) (.str x) (.str y) = some (decide (x = y)) := (rfl)
@[simp] theorem kdEq_bool (x y : Bool) : kdEq (none, false) (.bool x) (.bool y) = some (x == y) := (rfl)
theorem flatEq_bytes (t : Bool) : ∀ {n : Nat} {a b : Bytes}, a.length = n → b.length = n → flatEq (repl n (some .u8, t)) (encB a) (encB b) = some (decide (a = b))
  | 0, a, b, ha, hb => by
    have h1 := List.length_eq_zero_iff.1 ha; have h2 := List.length_eq_zero_iff.1 hb
    subst h1; subst h2; rfl
  | n + 1, [], _, ha, _ => by simp at ha
  | n + 1, _ :: _, [], _, hb => by simp at hb
  | n + 1, x :: a, y :: b, ha, hb => by
    have ih := flatEq_bytes t (n := n) (a := a) (b := b) (by simpa using ha) (by simpa using hb)
    simp only [repl, encB, List.map_cons, List.replicate_succ] at ih ⊢
    rw [flatEq_step, ih, byteV, byteV, kdEq_int]
    have e : ((x.toNat : Int) = (y.toNat : Int)) = (x = y) := by rw [Int.ofNat_inj]; exact propext UInt8.toNat_inj
    by_cases h : x = y <;> simp [h, e]
@[simp] theorem retQ_normal (res : List RS) (r : V × Bool) : retQ res r .normal st = (∃ p, resOf res st = some p ∧ p.1 = r.1 ∧ (r.2 = true → p.2 = true)) := (rfl)
@[simp] theorem retQ_ret (res : List RS) (r : V × Bool) : retQ res r .ret st = (∃ p, resOf res st = some p ∧ p.1 = r.1 ∧ (r.2 = true → p.2 = true)) := (rfl)
@[simp] theorem retQ_exit (res : List RS) (r : V × Bool) (i : Nat) : retQ res r (.exit i) st = False := (rfl)
@[simp] theorem resOf_one (t : Nat) : resOf [.t t] st = some (st.tm t, st.own (.slot t)) := (rfl)

@[simp] theorem natCast_eq' (a b : Nat) : ((a : Int) = (b : Int)) = (a = b) := propext Int.ofNat_inj
theorem w64 (n : Int) (h : -9223372036854775808 ≤ n ∧ n ≤ 9223372036854775807) : IntKind.wrap .i64 n = n := Go.IntWalk.i64_in n h

@[simp] theorem cells_agg (cs : List V) : (V.agg cs).cells = cs := (rfl)
@[simp] theorem cells_bool (b : Bool) : (V.bool b).cells = [.bool b] := (rfl)
@[simp] theorem cells_int (k : IntKind) (n : Int) : (V.int k n).cells = [.int k n] := (rfl)
@[simp] theorem cells_str (s : Bytes) : (V.str s).cells = [.str s] := (rfl)
@[simp] theorem cells_sl (nl : Bool) (z : Nat) (xs : List V) : (V.sl nl z xs).cells = [.sl nl z xs] := (rfl)
@[simp] theorem cells_fn (f : Nat) (cs : List V) : (V.fn f cs).cells = [.fn f cs] := (rfl)
@[simp] theorem cells_ptr (i o : Nat) : (V.ptr i o).cells = [.ptr i o] := (rfl)
@[simp] theorem cells_nilptr : V.nilptr.cells = [.nilptr] := (rfl)
@[simp] theorem cells_nilif : V.nilif.cells = [.nilif] := (rfl)
@[simp] theorem sc_agg (cs : List V) : (V.agg cs).sc = false := (rfl)
@[simp] theorem sc_tup (cs : List V) : (V.tup cs).sc = false := (rfl)
@[simp] theorem sc_bool (b : Bool) : (V.bool b).sc = true := (rfl)
@[simp] theorem sc_int (k : IntKind) (n : Int) : (V.int k n).sc = true := (rfl)
@[simp] theorem sc_str (s : Bytes) : (V.str s).sc = true := (rfl)
@[simp] theorem sc_sl (nl : Bool) (z : Nat) (xs : List V) : (V.sl nl z xs).sc = true := (rfl)
@[simp] theorem sc_fn (f : Nat) (cs : List V) : (V.fn f cs).sc = true := (rfl)
@[simp] theorem sc_ptr (i o : Nat) : (V.ptr i o).sc = true := (rfl)
@[simp] theorem sc_nilptr : V.nilptr.sc = true := (rfl)
@[simp] theorem sc_nilif : V.nilif.sc = true := (rfl)
@[simp] theorem sc_encB {l : Bytes} {x : V} (h : x ∈ encB l) : x.sc = true := by
  simp only [encB, List.mem_map] at h
  obtain ⟨b, _, rfl⟩ := h; rfl
@[simp] theorem encB_length (l : Bytes) : (encB l).length = l.length := by simp [encB]
@[simp] theorem ldCells_full {k : Nat} {cs : List V} (h : cs.length = k) : ldCells (some k) cs 0 = some (.agg cs) := by simp [ldCells, ← h]
@[simp] theorem setAt_full {cs ys : List V} (h : ys.length = cs.length) : setAt cs 0 ys = ys := by simp [setAt, h]
@[simp] theorem clean_bool (b : Bool) : (V.bool b).clean = true := (rfl)
@[simp] theorem clean_int (k : IntKind) (n : Int) : (V.int k n).clean = true := (rfl)
@[simp] theorem clean_str (s : Bytes) : (V.str s).clean = true := (rfl)
@[simp] theorem clean_agg (cs : List V) : (V.agg cs).clean = cleanL cs := (rfl)
@[simp] theorem clean_sl (nl : Bool) (z : Nat) (xs : List V) : (V.sl nl z xs).clean = cleanL xs := (rfl)
@[simp] theorem clean_fn (f : Nat) (cs : List V) : (V.fn f cs).clean = cleanL cs := (rfl)
@[simp] theorem clean_tup (cs : List V) : (V.tup cs).clean = cleanL cs := (rfl)
@[simp] theorem cleanL_nil : cleanL [] = true := (rfl)
@[simp] theorem cleanL_cons (v : V) (r : List V) : cleanL (v :: r) = (v.clean && cleanL r) := (rfl)
@[simp] theorem cleanL_encB (l : Bytes) : cleanL (encB l) = true := cleanL_iff.2 fun v hv => by
  simp only [encB, List.mem_map] at hv
  obtain ⟨b, _, rfl⟩ := hv; rfl
theorem cleanL_map {α : Type} {f : α → V} (h : ∀ x, (f x).clean = true) (l : List α) : cleanL (l.map f) = true := cleanL_iff.2 fun v hv => by
  obtain ⟨x, _, rfl⟩ := List.mem_map.1 hv; exact h x
theorem getE {α : Type} {l : List α} {k : Nat} (h : k < l.length) : ∃ x, l[k]? = some x := ⟨_, List.getElem?_eq_getElem h⟩

@[simp] theorem vTail_sl (H : Hp) (sz : Nat) (nl : Bool) (ys : List V) : vTail H sz (.sl nl sz ys) = some ys := by simp [vTail]
@[simp] theorem vTail_str (H : Hp) (b : Bytes) : vTail H 1 (.str b) = some (encB b) := (rfl)
@[simp] theorem vApp_nil (H : Hp) (own : Bool) (sz z : Nat) (p : Option Pos) (xs : List V) (x : V) : vApp H own sz p (.sl true z xs) x = (vTail H sz x).bind fun ys => if ys.length ≤ Lim then some ⟨.sl ys.isEmpty sz ys, true, none⟩ else none := by
  simp only [vApp]; cases vTail H sz x <;> rfl
@[simp] theorem vApp_sl (H : Hp) (sz : Nat) (p : Option Pos) (xs : List V) (x : V) : vApp H true sz p (.sl false sz xs) x = (vTail H sz x).bind fun ys => if xs.length + ys.length ≤ Lim then some ⟨.sl false sz (xs ++ ys), true, p⟩ else none := by
  simp only [vApp]; cases vTail H sz x <;> simp
/-- an append, whether there was a row or not -/
theorem vApp_gen (H : Hp) {own nl : Bool} {sz : Nat} (p : Option Pos) {xs : List V} (x : V) (hn : nl = true → xs = []) (ho : nl = false → own = true) :
    vApp H own sz p (.sl nl sz xs) x = (vTail H sz x).bind fun ys => if xs.length + ys.length ≤ Lim then some ⟨.sl (nl && ys.isEmpty) sz (xs ++ ys), true, if nl then none else p⟩ else none := by
  cases nl
  · rw [ho rfl, vApp_sl]; rfl
  · rw [hn rfl, vApp_nil]; simp
@[simp] theorem take_ite_own (c : Prop) [Decidable c] (q r : Pos) : (st.take (if c then none else some q)).own r = if ¬ c ∧ r = q then false else st.own r := by
  by_cases h : c <;> simp [h]
@[simp] theorem fits_nil (sz : Nat) : fits sz [] = true := (rfl)
@[simp] theorem fits_cons (sz : Nat) (x : V) (r : List V) : fits sz (x :: r) = ((x.cells.length == sz && x.cells.all V.sc) && fits sz r) := (rfl)
@[simp] theorem vIdx_str (s : Bytes) (k : IntKind) (n : Nat) : vIdx (.str s) (.int k (n : Int)) = (s[n]?).map byteV := by simp [vIdx]
@[simp] theorem vIdx_zero (s : Bytes) (k : IntKind) : vIdx (.str s) (.int k 0) = (s[0]?).map byteV := by simp [vIdx]
theorem byteV_eq (b : UInt8) : byteV b = .int .u8 b.toNat := (rfl)
@[simp] theorem vSls_lh (s : Bytes) (k k' : IntKind) (l h : Int) : vSls (.str s) (some (.int k l)) (some (.int k' h)) = if 0 ≤ l ∧ l ≤ h ∧ h ≤ s.length then some (.str ((s.take h.toNat).drop l.toNat)) else none := by
  simp only [vSls, vOpt, cut3]
  by_cases hc : 0 ≤ l ∧ l ≤ h ∧ h ≤ s.length
  · have : 0 ≤ h := by omega
    simp [hc, this]
  · rw [if_neg hc, if_neg]
    · rfl
    · simp; omega
@[simp] theorem vSls_l (s : Bytes) (k : IntKind) (l : Int) : vSls (.str s) (some (.int k l)) none = if 0 ≤ l ∧ l ≤ s.length then some (.str (s.drop l.toNat)) else none := by
  simp only [vSls, vOpt, cut3]
  by_cases hc : 0 ≤ l ∧ l ≤ s.length
  · simp [hc]
  · rw [if_neg hc, if_neg]
    · rfl
    · simp; omega
@[simp] theorem vSls_h (s : Bytes) (k : IntKind) (h : Int) : vSls (.str s) none (some (.int k h)) = if 0 ≤ h ∧ h ≤ s.length then some (.str (s.take h.toNat)) else none := by
  simp only [vSls, vOpt, cut3]
  by_cases hc : 0 ≤ h ∧ h ≤ s.length
  · simp [hc]
  · rw [if_neg hc, if_neg]
    · rfl
    · simp; omega
@[simp] theorem vSlc_l (sz z : Nat) (nl : Bool) (xs : List V) (k : IntKind) (l : Int) : vSlc sz (.sl nl z xs) (some (.int k l)) none none = if z = sz ∧ 0 ≤ l ∧ l ≤ xs.length then some ⟨.sl nl sz (xs.drop l.toNat), false, none⟩ else none := by
  simp only [vSlc, vOpt, cut3]
  by_cases hc : z = sz ∧ 0 ≤ l ∧ l ≤ xs.length
  · obtain ⟨rfl, h1, h2⟩ := hc
    simp [h1, h2]
  · rw [if_neg hc]
    by_cases hz : z = sz
    · rw [if_pos (by simp [hz]), if_neg]
      · rfl
      · simp; omega
    · rw [if_neg (by simp [hz])]
@[simp] theorem vSlc_h (sz z : Nat) (nl : Bool) (xs : List V) (k : IntKind) (h : Int) : vSlc sz (.sl nl z xs) none (some (.int k h)) none = if z = sz ∧ 0 ≤ h ∧ h ≤ xs.length then some ⟨.sl nl sz (xs.take h.toNat), false, none⟩ else none := by
  simp only [vSlc, vOpt, cut3]
  by_cases hc : z = sz ∧ 0 ≤ h ∧ h ≤ xs.length
  · obtain ⟨rfl, h1, h2⟩ := hc
    simp [h1, h2]
  · rw [if_neg hc]
    by_cases hz : z = sz
    · rw [if_pos (by simp [hz]), if_neg]
      · rfl
      · simp; omega
    · rw [if_neg (by simp [hz])]
@[simp] theorem all_encB (l : Bytes) : (∀ a ∈ encB l, a.sc = true) = True := eq_true fun _ h => sc_encB h

/-! ## loops, one round at a time -/
theorem awp_ex : ∀ {c : ACode} {P : Nat → Ex → St → Prop} {st : St}, (∀ k e s, P k e s → P (k + 1) e s) → awp Γ gl c (fun e s => ∃ k, P k e s) st → ∃ k, awp Γ gl c (P k) st := by
  intro c
  induction c with
  | skip => intro P st _ h; exact h
  | region ops d =>
    intro P st _ h
    simp only [awp] at h ⊢
    unfold someP at h ⊢
    split at h
    · exact h
    · exact h.elim
  | seq a b iha ihb =>
    intro P st hm h
    have : awp Γ gl a (fun e s => ∃ k, thenQ (awp Γ gl b (P k)) (P k) e s) st := awp_mono (fun e s h => by
      cases e with
      | normal => exact ihb hm h
      | exit i => exact h
      | ret => exact h) h
    exact iha (fun k => thenQ_mono (fun s => awp_mono (hm k)) (hm k)) this
  | cond c a b iha ihb =>
    intro P st hm h
    simp only [awp] at h ⊢
    unfold condP at h ⊢
    split at h
    · exact iha hm h
    · exact ihb hm h
    · exact h.elim
  | block id b ih => intro P st hm h; exact ih (fun k e s => hm k _ s) h
  | loop b ih =>
    intro P st hm h
    obtain ⟨n, h⟩ := h
    have key : ∀ n st, loopN (awp Γ gl b) (fun e s => ∃ k, P k e s) n st → ∃ k, loopN (awp Γ gl b) (P k) n st := by
      intro n
      induction n with
      | zero => intro st h; exact h.elim
      | succ n ihn =>
        intro st h
        have : awp Γ gl b (fun e s => ∃ k, thenQ (loopN (awp Γ gl b) (P k) n) (P k) e s) st := awp_mono (fun e s h => by
          cases e with
          | normal => exact ihn s h
          | exit i => exact h
          | ret => exact h) h
        refine ih (fun k => thenQ_mono (fun s hs => ?_) (hm k)) this
        have mono : ∀ n s, loopN (awp Γ gl b) (P k) n s → loopN (awp Γ gl b) (P (k + 1)) n s := by
          intro n
          induction n with
          | zero => intro s h; exact h.elim
          | succ n ihn => intro s h; exact awp_mono (thenQ_mono (fun s => ihn s) (hm k)) h
        exact mono n s hs
    obtain ⟨k, h⟩ := key n st h
    exact ⟨k, n, h⟩
  | exit id => intro P st _ h; exact h
  | ret => intro P st _ h; exact h
  | fail => intro P st _ h; exact h.elim

theorem loopN_succ {b : ACode} : ∀ {n : Nat} {s : St}, loopN (awp Γ gl b) Q n s → loopN (awp Γ gl b) Q (n + 1) s
  | 0, _, h => h.elim
  | _ + 1, _, h => awp_mono (thenQ_mono (fun _ => loopN_succ) fun _ _ h => h) h

/-- one round -/
theorem awp_round {b : ACode} (h : awp Γ gl b (thenQ (awp Γ gl (.loop b) Q) Q) st) : awp Γ gl (.loop b) Q st := by
  have : awp Γ gl b (fun e s => ∃ k, thenQ (loopN (awp Γ gl b) Q k) Q e s) st := awp_mono (fun e s h => by
    cases e with
    | normal => exact h
    | exit i => exact ⟨0, h⟩
    | ret => exact ⟨0, h⟩) h
  obtain ⟨k, h⟩ := awp_ex (fun k => thenQ_mono (fun s => loopN_succ) fun _ _ h => h) this
  exact ⟨k + 1, h⟩

theorem awp_roundK {b : ACode} (h : ∀ K : St → Prop, (∀ s, awp Γ gl (.loop b) Q s → K s) → awp Γ gl b (thenQ K Q) st) : awp Γ gl (.loop b) Q st := awp_round (h _ fun _ h => h)
theorem drop_cons {α : Type} {l : List α} {k : Nat} {x : α} {r : List α} (h : l.drop k = x :: r) : ∃ hlt : k < l.length, l[k] = x ∧ l[k]? = some x ∧ l.drop (k + 1) = r ∧ l ≠ [] := by
  have hlt : k < l.length := by
    rcases Nat.lt_or_ge k l.length with h' | h'
    · exact h'
    · rw [List.drop_eq_nil_of_le h'] at h; cases h
  have hx : l[k]? = some x := by have := congrArg (fun l => l[0]?) h; simpa using this
  refine ⟨hlt, by rw [List.getElem?_eq_getElem hlt] at hx; exact Option.some.inj hx, hx, by rw [← List.drop_drop, h]; rfl, by rintro rfl; simp at hlt⟩
theorem drop_nil {α : Type} {l : List α} {k : Nat} (h : l.drop k = []) (hk : k ≤ l.length) : k = l.length := by
  have := List.drop_eq_nil_iff.1 h; omega
end Go.Abs
/-
  Abs, part U: what came in, as plain values; what goes out. Own work of this seat.
-/
namespace Go.Abs
open Go.RowKit Go.ChangeShapes Go.WideShapes
open Go.Proofs.YtghjeddphkmciaaDoor (Rows.uptoBulk Rows.uptoBulkAll)

mutual
def V.wt : V → Nat
  | .str s => s.length + 1
  | .agg cs => wtL cs + 1
  | .sl _ _ xs => wtL xs + 1
  | _ => 1
def wtL : List V → Nat
  | [] => 0
  | v :: r => v.wt + wtL r
end
theorem wtL_append (a b : List V) : wtL (a ++ b) = wtL a + wtL b := by
  induction a with
  | nil => simp [wtL]
  | cons x a ih => simp only [List.cons_append, wtL, ih]; omega
theorem wtL_mem {l : List V} {v : V} (h : v ∈ l) : v.wt ≤ wtL l := by
  induction l with
  | nil => cases h
  | cons x r ih =>
    simp only [wtL]
    rcases List.mem_cons.1 h with rfl | h
    · omega
    · have := ih h; omega
theorem wt_pos (v : V) : 1 ≤ v.wt := by cases v <;> simp [V.wt]
theorem wtL_length (l : List V) : l.length ≤ wtL l := by
  induction l with
  | nil => simp
  | cons x r ih => simp only [wtL, List.length_cons]; have := wt_pos x; omega

def plainT (P : Program) : Nat → TypeId → Bool
  | 0, _ => false
  | m + 1, t => match P.underlying t with
    | some .bool | some (.int _) | some .string => true
    | some (.slice e) => plainT P m e
    | some (.array _ e) => plainT P m e
    | some (.struct fs) => fs.toList.all fun f => plainT P m f.type
    | _ => false

def isAgT (P : Program) (t : TypeId) : Bool := match P.underlying t with | some (.struct _) | some (.array _ _) => true | _ => false
def elV (P : Program) (t : TypeId) (ws : List V) : V := if isAgT P t then .agg ws else ws.headD Nil

/-- A row of cells of this type. -/
def HasT (P : Program) : Nat → TypeId → List V → Prop
  | 0, _, _ => False
  | m + 1, t, vs => match P.underlying t with
    | some .bool => ∃ b, vs = [.bool b]
    | some (.int k) => ∃ n, vs = [.int k n] ∧ k.min ≤ n ∧ n ≤ k.max
    | some .string => ∃ s, vs = [.str s]
    | some (.slice e) => vs = [.sl true (P.cellsOf e) []] ∨ ∃ xs, vs = [.sl false (P.cellsOf e) xs] ∧ ∀ x ∈ xs, ∃ ws, HasT P m e ws ∧ x = elV P e ws
    | some (.array n e) => ∃ wss : List (List V), wss.length = n ∧ (∀ ws ∈ wss, HasT P m e ws) ∧ vs = wss.flatten
    | some (.struct fs) => ∃ wss : List (List V), wss.length = fs.size ∧ (∀ (i : Nat) (f : Field) (ws : List V), fs[i]? = some f → wss[i]? = some ws → HasT P m f.type ws) ∧ vs = wss.flatten
    | _ => False

def RL (W : World) (G : Nat → Nat) (φ : Nat → Option Nat) (vs : List V) (cs : List Value) : Prop :=
  vs.length = cs.length ∧ ∀ (i : Nat) (c : V) (x : Value), vs[i]? = some c → cs[i]? = some x → Rep W G φ c x

theorem RL.append {W G φ a b cs} (h1 : RL W G φ a (cs.take a.length)) (h2 : RL W G φ b (cs.drop a.length)) (hl : a.length ≤ cs.length) : RL W G φ (a ++ b) cs := by
  refine ⟨?_, fun i c x hc hx => ?_⟩
  · have := h2.1; simp at this ⊢; omega
  · rw [List.getElem?_append] at hc
    split at hc
    · rename_i hlt
      exact h1.2 i c x hc (by rw [List.getElem?_take, if_pos hlt]; exact hx)
    · rename_i hge
      exact h2.2 (i - a.length) c x hc (by rw [List.getElem?_drop]; rw [show a.length + (i - a.length) = i by omega]; exact hx)

theorem RL.flatten {W G φ} : ∀ {wss : List (List V)} {cs : List Value}, cs.length = (wss.map List.length).sum →
    (∀ (i : Nat) (ws : List V), wss[i]? = some ws → RL W G φ ws ((cs.drop ((wss.take i).map List.length).sum).take ws.length)) → RL W G φ wss.flatten cs
  | [], cs, hl, _ => ⟨by simp at hl; rw [hl]; rfl, fun i c x hc => by simp at hc⟩
  | w :: r, cs, hl, h => by
    rw [List.flatten_cons]
    simp only [List.map_cons, List.sum_cons] at hl
    refine RL.append (by simpa using h 0 w rfl) (RL.flatten (by simp; omega) fun i ws hi => ?_) (by omega)
    have := h (i + 1) ws (by simpa using hi)
    simpa [List.take_succ_cons, List.drop_drop, Nat.add_comm] using this

section
variable {H : Type} {enc : TypeId × Value → H} {P : Program} {w : World} {held : Bool} {φ : Nat → Option Nat}

theorem cell_lt {w : World} {b i : Nat} {s : Option Nat} {v : Value} (h : w.cell? ⟨b, i, s⟩ = some v) : s = none ∧ i < G0 w b := by
  simp only [World.cell?] at h
  split at h
  · rename_i c t f hc
    split at h
    · simp at h
    · rename_i hs
      refine ⟨by simpa using hs, ?_⟩
      simp only [G0, hc]
      exact (Array.getElem?_eq_some_iff.1 h).1
  · simp at h

theorem bulkAll_range (n : Nat) (f : Nat → List V) (D : Nat → DataW H) (k : Nat) (h : ∀ i, i < n → wtL (f i) ≤ Rows.uptoBulk (D (k + i))) : wtL ((List.range n).map f).flatten ≤ Rows.uptoBulkAll ((List.range n).map fun i => D (k + i)) := by
  induction n generalizing f k with
  | zero => simp [wtL]
  | succ n ih =>
    rw [List.range_succ_eq_map]
    simp only [List.map_cons, List.flatten_cons, wtL_append, Rows.uptoBulkAll, List.map_map]
    have h0 := h 0 (by omega)
    have := ih (fun i => f (i + 1)) (k + 1) fun i hi => by have := h (i + 1) (by omega); rwa [show k + (i + 1) = k + 1 + i by omega] at this
    have e : ((fun i => D (k + i)) ∘ Nat.succ) = fun i => D (k + 1 + i) := by funext i; simp [Function.comp, Nat.succ_eq_add_one]; congr 1; omega
    rw [e]
    have e2 : (f ∘ Nat.succ) = fun i => f (i + 1) := rfl
    rw [e2]
    omega

theorem RL.one {W G φ v x} (h : Rep W G φ v x) : RL W G φ [v] [x] := ⟨rfl, fun i c y hc hy => by
  cases i with
  | zero => simp at hc hy; subst hc; subst hy; exact h
  | succ i => simp at hc⟩

theorem elV_cells {t : TypeId} {ws : List V} (h : isAgT P t = false → ∃ v, ws = [v] ∧ v.sc = true) : (elV P t ws).cells = ws := by
  unfold elV
  split
  · rfl
  · rename_i ha
    obtain ⟨v, rfl, hv⟩ := h (by simpa using ha)
    cases v <;> first | rfl | simp at hv

theorem elV_clean {t : TypeId} {ws : List V} (h : ∀ c ∈ ws, c.clean = true) : (elV P t ws).clean = true := by
  unfold elV
  split
  · exact cleanL_iff.2 h
  · cases ws with
    | nil => rfl
    | cons a r => exact h a (by simp)

theorem pieces {K : Nat} {n : Nat} {f : Nat → List V} {c : Nat → Nat} (hn : K ≤ n) (hf : ∀ i, i < n → (f i).length = c i) : ((((List.range n).map f).take K).map List.length).sum = ((List.range K).map c).sum := by
  rw [← List.map_take, List.take_range, Nat.min_eq_left hn, List.map_map]
  congr 1
  exact List.map_congr_left fun i hi => hf i (by have := List.mem_range.1 hi; omega)

theorem trod_rep (K : Kids P (· < P.types.size)) (hz : ∀ t e, t < P.types.size → P.underlying t = some (.slice e) → 0 < P.cellsOf e) : ∀ (m fuel : Nat) (t : TypeId) (cs : List Value) (x : DataW H × List MemPlace), t < P.types.size → plainT P m t = true →
    DataW.trod enc P w 0 (fun _ => true) held fuel t cs = some x →
    ∃ vs, RL w (G0 w) φ vs cs ∧ (∀ c ∈ vs, c.sc = true ∧ c.clean = true) ∧ HasT P m t vs ∧ (elV P t vs).wt ≤ Rows.uptoBulk x.1 ∧ wtL vs ≤ Rows.uptoBulk x.1 ∧ (isAgT P t = false → ∃ v, vs = [v] ∧ v.sc = true) := by
  intro m
  induction m with
  | zero => intro fuel t cs x _ hp; simp [plainT] at hp
  | succ m ih =>
    intro fuel t cs x ht hp h
    unfold plainT at hp
    split at hp
    · rename_i hu
      obtain ⟨b, rfl, rfl⟩ := DataW.trod_bool hu h
      have ha : isAgT P t = false := by simp [isAgT, hu]
      exact ⟨[.bool b], RL.one (.bool b), by simp, by simp [HasT, hu], by simp [elV, ha, V.wt, Rows.uptoBulk], by simp [wtL, V.wt, Rows.uptoBulk], fun _ => ⟨_, rfl, rfl⟩⟩
    · rename_i k hu
      obtain ⟨n, rfl, rfl, hw⟩ := DataW.trod_int hu h
      have ha : isAgT P t = false := by simp [isAgT, hu]
      simp only [Lit.wf, Bool.and_eq_true, decide_eq_true_eq] at hw
      exact ⟨[.int k n], RL.one (.int k n), by simp, by simp [HasT, hu, hw], by simp [elV, ha, V.wt, Rows.uptoBulk], by simp [wtL, V.wt, Rows.uptoBulk], fun _ => ⟨_, rfl, rfl⟩⟩
    · rename_i hu
      obtain ⟨s, rfl, rfl, hw⟩ := DataW.trod_string hu h
      have ha : isAgT P t = false := by simp [isAgT, hu]
      exact ⟨[.str s.data.toList], RL.one (.str _ s rfl), by simp, by simp [HasT, hu], by simp [elV, ha, V.wt, Rows.uptoBulk], by simp [wtL, V.wt, Rows.uptoBulk], fun _ => ⟨_, rfl, rfl⟩⟩
    · rename_i e hu
      have ha : isAgT P t = false := by simp [isAgT, hu]
      have hte := K.slice ht hu
      have hz0 := hz t e ht hu
      rcases Deep.open_slice hu h with ⟨rfl, rfl⟩ | ⟨a, len, cap, mm, n, D, Pl, rfl, _, hl, _, hmm, rfl, hel⟩
      · exact ⟨[.sl true (P.cellsOf e) []], RL.one (.slnil _), by simp, by simp [HasT, hu], by simp [elV, ha, V.wt, wtL, Rows.uptoBulk], by simp [wtL, V.wt, Rows.uptoBulk], fun _ => ⟨_, rfl, rfl⟩⟩
      · simp only [if_true] at hmm
        subst hmm
        have hpick : ∀ i, i < mm → ∃ ws : List V, ∃ cs', w.cells? 0 (a.add (i * P.cellsOf e)) (P.cellsOf e) = some cs' ∧ RL w (G0 w) φ ws cs' ∧ (∀ c ∈ ws, c.sc = true ∧ c.clean = true) ∧ HasT P m e ws ∧ (elV P e ws).wt ≤ Rows.uptoBulk (D i) ∧ (isAgT P e = false → ∃ v, ws = [v] ∧ v.sc = true) := fun i hi => by
          obtain ⟨cs', h1, h2⟩ := hel i hi
          obtain ⟨ws, q1, q2, q3, q4, _, q6⟩ := ih n e cs' _ hte hp h2
          exact ⟨ws, cs', h1, q1, q2, q3, q4, q6⟩
        obtain ⟨f, hf⟩ := Deep.choose_lt hpick
        have hbulk : wtL ((List.range len).map fun i => elV P e (f i)) + 1 ≤ Rows.uptoBulk (DataW.slice ((List.range len).map D) ((List.range (mm - len)).map fun j => D (len + j))) := by
          have key : ∀ k, k ≤ mm → wtL ((List.range k).map fun i => elV P e (f i)) ≤ Rows.uptoBulkAll ((List.range k).map D) := by
            have app : ∀ (l r : List (DataW H)), Rows.uptoBulkAll (l ++ r) = Rows.uptoBulkAll l + Rows.uptoBulkAll r := by
              intro l r
              induction l with
              | nil => simp [Rows.uptoBulkAll]
              | cons x l ih => simp only [List.cons_append, Rows.uptoBulkAll, ih]; omega
            intro k
            induction k with
            | zero => intro _; simp [wtL]
            | succ k ihk =>
              intro hk
              obtain ⟨_, _, _, _, _, q4, _⟩ := hf k (by omega)
              rw [List.range_succ, List.map_append, List.map_append, wtL_append, app]
              have := ihk (by omega)
              simp only [List.map_cons, List.map_nil, wtL, Rows.uptoBulkAll]
              omega
          simp only [Rows.uptoBulk]
          have := key len (by omega)
          omega
        have hcl : ∀ v ∈ ((List.range len).map fun i => elV P e (f i)), v.clean = true := fun v hv => by
          obtain ⟨i, hi, rfl⟩ := List.mem_map.1 hv
          obtain ⟨_, _, _, q2, _⟩ := hf i (by have := List.mem_range.1 hi; omega)
          exact elV_clean fun c hc => (q2 c hc).2
        refine ⟨[.sl false (P.cellsOf e) ((List.range len).map fun i => elV P e (f i))], RL.one ?_, by simpa using cleanL_iff.2 hcl, ?_, by simpa [elV, ha, V.wt] using hbulk, by simpa [wtL, V.wt] using hbulk, fun _ => ⟨_, rfl, rfl⟩⟩
        · -- where it lies
          by_cases hc0 : mm = 0
          · have hl0 : len = 0 := by omega
            subst hc0; subst hl0
            exact .sl0 _ a
          · obtain ⟨cs0, p1, _⟩ := hf 0 (by omega)
            have hsp : a.spot = none := by
              obtain ⟨_, _, hc⟩ := World.cells?_some p1
              have h0 := hc 0 hz0
              simp only [Nat.zero_mul, Addr.add, if_true] at h0
              have hlen : 0 < cs0.length := by obtain ⟨_, q, _⟩ := World.cells?_some p1; omega
              rw [List.getElem?_eq_getElem hlen] at h0
              obtain ⟨ab, ao, asp⟩ := a
              exact (cell_lt h0).1
            obtain ⟨ab, ao, asp⟩ := a
            simp only at hsp
            subst hsp
            have hcell : ∀ i, i < mm → ∀ j, j < P.cellsOf e → ∃ cs', w.cells? 0 (Addr.add ⟨ab, ao, none⟩ (i * P.cellsOf e)) (P.cellsOf e) = some cs' ∧ w.cell? ⟨ab, ao + (i * P.cellsOf e + j), none⟩ = cs'[j]? ∧ j < cs'.length := fun i hi j hj => by
              obtain ⟨cs', p1, _⟩ := hf i hi
              obtain ⟨_, q, hc⟩ := World.cells?_some p1
              refine ⟨cs', p1, ?_, by omega⟩
              have := hc j hj
              rw [addr_add, addr_add] at this
              rw [← this, Nat.add_assoc]
            have hlenm : ((List.range len).map fun i => elV P e (f i)).length = len := by simp
            have hrep := Rep.sl (W := w) (G := G0 w) (φ := φ) (P.cellsOf e) ((List.range len).map fun i => elV P e (f i)) ab ao mm (fun k => (w.cell? ⟨ab, ao + k, none⟩).getD undef) (by simpa using hl) ?_ ?_ ?_ ?_
            · rw [hlenm] at hrep; exact hrep
            · rw [hlenm]
              have hlast : ao + (mm - 1 + 1) * P.cellsOf e ≤ G0 w ab := by
                obtain ⟨cs', p1, p2, p3⟩ := hcell (mm - 1) (by omega) (P.cellsOf e - 1) (by omega)
                rw [List.getElem?_eq_getElem p3] at p2
                have := (cell_lt p2).2
                rw [Nat.add_mul]; omega
              have : len * P.cellsOf e ≤ (mm - 1 + 1) * P.cellsOf e := Nat.mul_le_mul_right _ (by omega)
              omega
            · intro v hv
              obtain ⟨i, hi, rfl⟩ := List.mem_map.1 hv
              obtain ⟨cs', p1, q1, q2, _, _, q6⟩ := hf i (by have := List.mem_range.1 hi; omega)
              rw [elV_cells q6]
              exact ⟨by rw [q1.1]; exact (World.cells?_some p1).2.1, fun c hc => (q2 c hc).1⟩
            · intro k hk
              rw [hlenm] at hk
              have hi : k / P.cellsOf e < len := (Nat.div_lt_iff_lt_mul hz0).2 hk
              have hk' : k = k / P.cellsOf e * P.cellsOf e + k % P.cellsOf e := by rw [Nat.mul_comm]; exact (Nat.div_add_mod k _).symm
              obtain ⟨cs', p1, p2, p3⟩ := hcell (k / P.cellsOf e) (by omega) (k % P.cellsOf e) (Nat.mod_lt _ hz0)
              rw [← hk', List.getElem?_eq_getElem p3] at p2
              rw [p2]; rfl
            · intro i v j c hi hj
              have hilt : i < len := by have := (List.getElem?_eq_some_iff.1 hi).1; simpa using this
              simp only [List.getElem?_map, List.getElem?_range hilt, Option.map_some, Option.some.injEq] at hi
              subst hi
              obtain ⟨cs', p1, q1, q2, _, _, q6⟩ := hf i (by omega)
              rw [elV_cells q6] at hj
              have hjl : j < P.cellsOf e := by have := (List.getElem?_eq_some_iff.1 hj).1; rw [q1.1, (World.cells?_some p1).2.1] at this; exact this
              obtain ⟨cs'', p1', p2, p3⟩ := hcell i (by omega) j hjl
              rw [p1] at p1'; cases p1'
              rw [p2, List.getElem?_eq_getElem p3]
              exact q1.2 j c _ hj (List.getElem?_eq_getElem p3)
        · unfold HasT
          rw [hu]
          refine .inr ⟨_, rfl, fun v hv => ?_⟩
          obtain ⟨i, hi, rfl⟩ := List.mem_map.1 hv
          obtain ⟨_, _, _, _, q3, _⟩ := hf i (by have := List.mem_range.1 hi; omega)
          exact ⟨f i, q3, rfl⟩
    · rename_i n e hu
      have ha : isAgT P t = true := by simp [isAgT, hu]
      obtain ⟨hte, hsz⟩ := K.array ht hu
      obtain ⟨xs, m', _, rfl, hl, hxl, hel⟩ := DataW.trod_array hu h
      have hpick : ∀ i, i < n → ∃ ws : List V, RL w (G0 w) φ ws ((cs.drop (i * P.cellsOf e)).take (P.cellsOf e)) ∧ (∀ c ∈ ws, c.sc = true ∧ c.clean = true) ∧ HasT P m e ws ∧ wtL ws ≤ Rows.uptoBulk ((xs.map (·.1)).getD i .nil) := fun i hi => by
        have h1 := hel i hi
        rw [List.getElem?_eq_getElem (by omega)] at h1
        obtain ⟨ws, q1, q2, q3, _, q5, _⟩ := ih m' e _ _ hte hp h1
        refine ⟨ws, q1, q2, q3, ?_⟩
        simpa [List.getD, show i < xs.length by omega] using q5
      obtain ⟨f, hf⟩ := Deep.choose_lt hpick
      have hfl : ∀ i, i < n → (f i).length = P.cellsOf e := fun i hi => by
        have := (hf i hi).1.1
        simp only [List.length_take, List.length_drop, hl, hsz] at this
        have h2 : (i + 1) * P.cellsOf e ≤ n * P.cellsOf e := Nat.mul_le_mul_right _ hi
        rw [Nat.add_mul] at h2
        omega
      have hsum : ∀ k, ((List.range k).map fun _ => P.cellsOf e).sum = k * P.cellsOf e := fun k => by
        induction k with
        | zero => simp
        | succ k ihk => rw [List.range_succ, List.map_append, List.sum_append, ihk, Nat.add_mul]; simp
      have hbulk : wtL ((List.range n).map f).flatten + 1 ≤ Rows.uptoBulk (DataW.agg (xs.map (·.1))) := by
        have := bulkAll_range n f (fun i => (xs.map (·.1)).getD i .nil) 0 fun i hi => by simpa using (hf i hi).2.2.2
        have e1 : ((List.range n).map fun i => (xs.map (·.1)).getD (0 + i) DataW.nil) = xs.map (·.1) := by
          apply List.ext_getElem
          · simp [hxl]
          · intro i h1 h2
            simp at h1 h2
            simp [List.getD, h2]
        rw [e1] at this
        simp only [Rows.uptoBulk]; omega
      refine ⟨((List.range n).map f).flatten, RL.flatten ?_ fun i ws hi => ?_, fun c hc => ?_, ?_, by simpa [elV, ha, V.wt] using hbulk, Nat.le_of_lt hbulk, fun hh => by rw [ha] at hh; cases hh⟩
      · have := pieces (K := n) (n := n) (f := f) (c := fun _ => P.cellsOf e) (Nat.le_refl _) hfl
        rw [List.take_of_length_le (by simp)] at this
        rw [this, hsum, hl, hsz]
      · have hin : i < n := by have := (List.getElem?_eq_some_iff.1 hi).1; simpa using this
        rw [pieces (by omega) hfl, hsum]
        simp only [List.getElem?_map, List.getElem?_range hin, Option.map_some, Option.some.injEq] at hi
        subst hi
        rw [hfl i hin]; exact (hf i hin).1
      · obtain ⟨ws, hws, hc⟩ := List.mem_flatten.1 hc
        obtain ⟨i, hi, rfl⟩ := List.mem_map.1 hws
        exact (hf i (List.mem_range.1 hi)).2.1 c hc
      · unfold HasT
        rw [hu]
        refine ⟨(List.range n).map f, by simp, fun ws hws => ?_, rfl⟩
        obtain ⟨i, hi, rfl⟩ := List.mem_map.1 hws
        exact (hf i (List.mem_range.1 hi)).2.2.1
    · rename_i fs hu
      have ha : isAgT P t = true := by simp [isAgT, hu]
      obtain ⟨hte, hsz, hoff⟩ := K.struct ht hu
      obtain ⟨xs, m', _, rfl, hl, hxl, hel⟩ := DataW.trod_struct hu h
      let c : Nat → Nat := fun i => match fs[i]? with | some f => P.cellsOf f.type | none => 0
      have hc : ∀ (i : Nat) (fd : Field), fs[i]? = some fd → c i = P.cellsOf fd.type := fun i fd hi => by simp only [c, hi]
      have htake : ∀ k, k ≤ fs.size → (fs.toList.take k).map (fun f => P.cellsOf f.type) = (List.range k).map c := fun k hk => by
        apply List.ext_getElem
        · simp; omega
        · intro i h1 h2
          simp at h1 h2
          have hi : fs[i]? = some fs[i] := by simp
          simp [hc i _ hi]
      have hoff' : ∀ (i : Nat) (fd : Field), fs[i]? = some fd → fd.offset = ((List.range i).map c).sum := fun i fd hi => by
        have hlt : i < fs.size := (Array.getElem?_eq_some_iff.1 hi).1
        rw [hoff i fd (by simpa using hi), htake i (by omega)]
      have hsz' : P.cellsOf t = ((List.range fs.size).map c).sum := by
        rw [hsz, ← htake fs.size (Nat.le_refl _), List.take_of_length_le (by simp)]
      have hsub : ∀ i, i < fs.size → ((List.range i).map c).sum + c i ≤ P.cellsOf t := fun i hi => by
        have mono : ∀ k, i + 1 ≤ k → ((List.range (i + 1)).map c).sum ≤ ((List.range k).map c).sum := by
          intro k hk
          induction hk with
          | refl => exact Nat.le_refl _
          | step _ ih =>
            refine Nat.le_trans ih ?_
            rename_i k _
            have e : ((List.range (k + 1)).map c).sum = ((List.range k).map c).sum + c k := by rw [List.range_succ, List.map_append, List.sum_append]; simp
            show _ ≤ ((List.range (k + 1)).map c).sum
            rw [e]; exact Nat.le_add_right _ _
        have := mono fs.size hi
        rw [← hsz', List.range_succ, List.map_append, List.sum_append] at this
        simpa using this
      have hpick : ∀ i, i < fs.size → ∃ ws : List V, ∀ fd, fs[i]? = some fd → RL w (G0 w) φ ws ((cs.drop fd.offset).take (P.cellsOf fd.type)) ∧ (∀ c ∈ ws, c.sc = true ∧ c.clean = true) ∧ HasT P m fd.type ws ∧ wtL ws ≤ Rows.uptoBulk ((xs.map (·.1)).getD i .nil) := fun i hi => by
        have hfd : fs[i]? = some fs[i] := by simp [hi]
        have h1 := hel i _ hfd
        rw [List.getElem?_eq_getElem (by omega)] at h1
        obtain ⟨ws, q1, q2, q3, _, q5, _⟩ := ih m' fs[i].type _ _ (hte _ (by simp)) (List.all_eq_true.1 hp _ (by simp)) h1
        refine ⟨ws, fun fd hfd' => ?_⟩
        rw [hfd] at hfd'; cases hfd'
        refine ⟨q1, q2, q3, ?_⟩
        simpa [List.getD, show i < xs.length by omega] using q5
      obtain ⟨f, hf⟩ := Deep.choose_lt hpick
      have hget : ∀ i, i < fs.size → fs[i]? = some (fs.getD i default) := fun i hi => by simp [Array.getD, hi]
      have hfl : ∀ i, i < fs.size → (f i).length = c i := fun i hi => by
        have hfd := hget i hi
        have := (hf i hi _ hfd).1.1
        simp only [List.length_take, List.length_drop, hl] at this
        rw [hoff' i _ hfd, ← hc i _ hfd] at this
        have h2 := hsub i hi
        omega
      have hbulk : wtL ((List.range fs.size).map f).flatten + 1 ≤ Rows.uptoBulk (DataW.agg (xs.map (·.1))) := by
        have := bulkAll_range fs.size f (fun i => (xs.map (·.1)).getD i .nil) 0 fun i hi => by simpa using (hf i hi _ (hget i hi)).2.2.2
        have e1 : ((List.range fs.size).map fun i => (xs.map (·.1)).getD (0 + i) DataW.nil) = xs.map (·.1) := by
          apply List.ext_getElem
          · simp [hxl]
          · intro i h1 h2
            simp at h1 h2
            simp [List.getD, h2]
        rw [e1] at this
        simp only [Rows.uptoBulk]; omega
      refine ⟨((List.range fs.size).map f).flatten, RL.flatten ?_ fun i ws hi => ?_, fun c hc => ?_, ?_, by simpa [elV, ha, V.wt] using hbulk, Nat.le_of_lt hbulk, fun hh => by rw [ha] at hh; cases hh⟩
      · have := pieces (K := fs.size) (n := fs.size) (f := f) (c := c) (Nat.le_refl _) hfl
        rw [List.take_of_length_le (by simp)] at this
        rw [this, hl, hsz']
      · have hin : i < fs.size := by have := (List.getElem?_eq_some_iff.1 hi).1; simpa using this
        rw [pieces (by omega) hfl]
        simp only [List.getElem?_map, List.getElem?_range hin, Option.map_some, Option.some.injEq] at hi
        subst hi
        have hfd := hget i hin
        rw [hfl i hin, ← hoff' i _ hfd, hc i _ hfd]; exact (hf i hin _ hfd).1
      · obtain ⟨ws, hws, hc⟩ := List.mem_flatten.1 hc
        obtain ⟨i, hi, rfl⟩ := List.mem_map.1 hws
        exact (hf i (List.mem_range.1 hi) _ (hget i (List.mem_range.1 hi))).2.1 c hc
      · unfold HasT
        rw [hu]
        refine ⟨(List.range fs.size).map f, by simp, fun i fd ws hfd hws => ?_, rfl⟩
        have hin : i < fs.size := (Array.getElem?_eq_some_iff.1 hfd).1
        simp only [List.getElem?_map, List.getElem?_range hin, Option.map_some, Option.some.injEq] at hws
        subst hws
        exact (hf i hin fd hfd).2.2.1
    · simp at hp

/-- a value that came in -/
theorem Trod.rep (K : Kids P (· < P.types.size)) (hz : ∀ t e, t < P.types.size → P.underlying t = some (.slice e) → 0 < P.cellsOf e) {m : Nat} {t : TypeId} {v : Value} {d : DataW H} {ps : List MemPlace} {base : Nat} (ht : t < P.types.size) (hp : plainT P m t = true)
    (h : DataW.Trod enc P w 0 (fun _ => true) held t v d ps) (hval : Value.okWide P w .any base t v) :
    ∃ vs, Rep w (G0 w) φ (elV P t vs) v ∧ HasT P m t vs ∧ (elV P t vs).wt ≤ Rows.uptoBulk d ∧ (elV P t vs).clean = true := by
  obtain ⟨n, h⟩ := h
  obtain ⟨vs, h1, h2, h3, h4, _, h6⟩ := trod_rep (φ := φ) K hz m n t _ _ ht hp h
  refine ⟨vs, ?_, h3, h4, elV_clean fun c hc => (h2 c hc).2⟩
  unfold elV
  by_cases ha : isAgT P t = true
  · rw [if_pos ha]
    have : ∃ cs, v = .agg cs := by
      unfold Value.okWide at hval
      unfold isAgT at ha
      split at ha
      · rename_i hu; rw [hu] at hval; obtain ⟨cs, rfl, _⟩ := hval; exact ⟨cs, rfl⟩
      · rename_i hu; rw [hu] at hval; obtain ⟨cs, rfl, _⟩ := hval; exact ⟨cs, rfl⟩
      · simp at ha
    obtain ⟨cs, rfl⟩ := this
    refine .agg vs cs (by simpa [Value.cells] using h1.1) (fun c hc => (h2 c hc).1) fun i c x hc hx => h1.2 i c x hc (by simpa [Value.cells] using hx)
  · rw [if_neg ha]
    obtain ⟨u, rfl, hu⟩ := h6 (by simpa using ha)
    have hv : v.cells.toList = [v] := by
      cases v with
      | agg cs =>
        exfalso
        unfold Value.okWide at hval
        unfold isAgT at ha
        split at hval
        · rename_i hu; simp [hu] at ha
        · rename_i hu; simp [hu] at ha
        · unfold Cell.okWide Cell.ok at hval
          split at hval <;> simp_all
      | _ => rfl
    rw [hv] at h1
    exact h1.2 0 u v rfl rfl
end

/-! ## what goes out -/
theorem post_true {H : Type} {enc : TypeId × Value → H} {P : Program} (K : Kids P (· < P.types.size)) (hz : ∀ t e, t < P.types.size → P.underlying t = some (.slice e) → 0 < P.cellsOf e) {f : Func} {s : ChangeSpec} {apart fresh handsOn again : Bool} {W W' : World} {args : Array Value} {ds : List (DataW H)} {before : List MemPlace} {tb : TypeId}
    (hvars : s.vars = []) (hfn : s.fn H ds = { results := [.lit (.bool true)], args := ds }) (hrt : f.resultTypes = #[tb]) (htb : P.underlying tb = some .bool) (hpt : ∀ t ∈ f.params.toList, t < P.types.size)
    (hW : DataW.Whole enc P f.params.toList s.vars apart W args.toList ds [] before) (hB : Below W.heap.size W W') : s.post enc P f apart fresh handsOn again W args (.bool true) W' := by
  have hlt := hW.lt
  have hW0 := hW
  obtain ⟨p, q, hA, hV, rfl, hfz, hnd⟩ := hW
  rw [hvars] at hV
  have hq : q = [] := hV
  subst hq
  have carry : ∀ {ts : List TypeId} {vs : List Value} {ds : List (DataW H)} {ps : List MemPlace}, DataW.TrodAll enc P W 0 (fun _ => true) true ts vs ds ps → (∀ p ∈ ps, p.block < W.heap.size) → DataW.TrodAll enc P W' 0 (fun _ => true) true ts vs ds ps := by
    intro ts
    induction ts with
    | nil => intro vs ds ps h _; cases vs <;> cases ds <;> first | exact h | exact h.elim
    | cons t ts ih =>
      intro vs ds ps h hb
      cases vs with
      | nil => exact h.elim
      | cons v vs =>
        cases ds with
        | nil => exact h.elim
        | cons d ds =>
          obtain ⟨p, q, ⟨n, h1⟩, h2, rfl⟩ := h
          exact ⟨p, q, ⟨n, DataW.trod_carry n _ _ _ h1 fun x hx => hB.same (hb x (List.mem_append_left _ hx))⟩, ih h2 fun x hx => hb x (List.mem_append_right _ hx), rfl⟩
  have hA' := carry hA fun x hx => hlt x (by simpa using hx)
  have hargs : ∀ sp : Nat → Bool, (∀ x ∈ p, sp x.block = true) → DataW.TrodAll enc P W' 0 sp true f.params.toList args.toList ds p := fun sp hsp => hA'.respare K hz hpt hsp
  have hres : ∀ (b : Nat) (sp : Nat → Bool) (hd : Bool), DataW.TrodAll enc P W' b sp hd f.resultTypes.toList ((Value.bool true).resultList f.resultTypes.size) [.lit (.bool true)] [] := by
    intro b sp hd
    rw [hrt]
    exact trodAll_cons_mk (shut_bool htb _) trodAll_mk0
  have hsimp : s.fn H (ds ++ []) = { results := [.lit (.bool true)], args := ds } := by rw [List.append_nil]; exact hfn
  have hold : ∀ x ∈ p, (fun b => decide (b < W.heap.size)) x.block = true := fun x hx => by simpa using hlt x (by simpa using hx)
  refine ⟨ds, [], p ++ [], [], p, [], hW0, by rw [hsimp]; exact hres _ _ _, by rw [hsimp]; exact hargs _ hold, by rw [hsimp, hvars]; rfl, World.keptBut_mono (fun x f => f.elim) (hB.frame fun _ => False), fun _ => ?_⟩
  refine ⟨ok_one hrt rfl (okWide_bool_mk htb _), _, [], ([] ++ p) ++ [], ⟨[] ++ p, [], trodAll_append (hargs _ (fun _ _ => rfl)) (hres _ _ _), by rw [hvars]; rfl, rfl, ?_, ?_⟩, ?_⟩
  · intro b off hp
    have hp' : MemPlace.cell b off ∈ p := by simpa using hp
    rw [hB.frozen (p := ⟨b, off, none⟩) (hlt (.cell b off) (by simpa using hp'))]
    exact hfz b off (by simpa using hp')
  · intro ha
    simpa using hnd ha
  · intro x hx _
    simpa using hx
end Go.Abs
/-
  Abs, part W: rows of contracts; a law's end. Own work of this seat.
-/
namespace Go.Abs
open Go.RowKit

/-- A family of contracts of one function. -/
structure Ctr where
  α : Type
  args : α → List V
  res : α → V × Bool
  ok : α → Prop
  inj : ∀ a b, args a = args b → res a = res b

open Classical in
noncomputable def ofC (cs : List (Nat × Ctr)) : Abs.Spec := ⟨fun f args =>
  match cs.find? (fun p => p.1 == f) with
  | some p => if h : ∃ a, p.2.ok a ∧ p.2.args a = args then some (p.2.res h.choose) else none
  | none => none, fun _ _ _ => none⟩

def Ctr.Holds (cx : Cx) (f : Nat) (c : Ctr) : Prop := ∀ a, c.ok a → PC cx f (c.args a) (c.res a)

theorem ofC_sound {cx : Cx} {cs : List (Nat × Ctr)} (h : ∀ p ∈ cs, p.2.Holds cx p.1) : Sound cx (ofC cs) := by
  refine ⟨?_, fun _ _ _ _ h => by cases h⟩
  intro f args r hr
  unfold ofC at hr
  simp only at hr
  split at hr
  · rename_i p hp
    split at hr
    · rename_i hex
      have hf : p.1 = f := by simpa using List.find?_some hp
      simp only [Option.some.injEq] at hr
      have := h p (List.mem_of_find?_eq_some hp) hex.choose hex.choose_spec.1
      rw [hex.choose_spec.2, hr, hf] at this
      exact this
    · simp at hr
  · simp at hr

theorem ofC_eq {cs : List (Nat × Ctr)} {f : Nat} {c : Ctr} (hf : cs.find? (fun p => p.1 == f) = some (f, c)) (a : c.α) (ha : c.ok a) : ofC cs f (c.args a) = some (c.res a) := by
  unfold ofC
  simp only
  rw [hf]
  have hex : ∃ b, c.ok b ∧ c.args b = c.args a := ⟨a, ha, rfl⟩
  simp only [dif_pos hex, Option.some.injEq]
  exact c.inj _ _ hex.choose_spec.2

/-- of a contract of the kit's -/
theorem PC.of {cx : Cx} {f : FuncId} {args : List V} {r : V × Bool} (hc : Callable cx.P f)
    (h : ∀ W G φ xs, OKW cx W G → RepL W G φ args xs → Calls cx.P f xs W fun e W' => ∃ G' y, e = .returned y ∧ Below W.heap.size W W' ∧ (∀ b, b < W.heap.size → G' b = G b) ∧ (∀ b, W'.heap.size ≤ b → G' b = 0) ∧
      Rep W' G' φ r.1 y ∧ (r.2 = true → ∀ ow q, (∀ b, W.heap.size ≤ b → ow b = some q) → OwnAt W' (fun b => W.heap.size ≤ b) ⟨G', φ, ow⟩ q r.1 y)) : PC cx f args r := ⟨hc, h⟩

/-- .. that turns nothing and gives a value without memory -/
theorem PC.pure {cx : Cx} {f : FuncId} {args : List V} {v : V} (hc : Callable cx.P f) (h : ∀ W G φ xs, OKW cx W G → RepL W G φ args xs → Calls cx.P f xs W fun e W' => ∃ y, e = .returned y ∧ Below W.heap.size W W' ∧ ∀ W' G' , Rep W' G' φ v y) : PC cx f args (v, false) :=
  .of hc fun W G φ xs hW hxs => (h W G φ xs hW hxs).mono fun e W' ⟨y, he, hB, hr⟩ => ⟨G, y, he, hB, fun _ _ => rfl, fun b hb => hW.Gz b (Nat.le_trans hB.size hb), hr _ _, fun h => by cases h⟩

/-- .. that gives a new row of texts -/
theorem PC.texts {cx : Cx} {f : FuncId} {args : List V} {l : List Bytes} (hc : Callable cx.P f)
    (h : ∀ W G φ xs, OKW cx W G → RepL W G φ args xs → Calls cx.P f xs W fun e W' => ∃ (ss : List ByteArray) (t : TypeId), ss.map (·.data.toList) = l ∧ e = .returned (.slice (some ⟨W.heap.size, 0, none⟩) ss.length ss.length) ∧ W' = W.alloc (.cells (ss.map Value.string).toArray t)) :
    PC cx f args (.sl false 1 (l.map .str), true) := by
  refine .of hc fun W G φ xs hW hxs => (h W G φ xs hW hxs).mono fun e W' => ?_
  rintro ⟨ss, t, rfl, rfl, rfl⟩
  have hblk : (W.alloc (.cells (ss.map Value.string).toArray t)).heap[W.heap.size]? = some (.cells (ss.map Value.string).toArray t (0, 0)) := heap_alloc_new _ _
  have hcell : ∀ k, (W.alloc (.cells (ss.map Value.string).toArray t)).cell? ⟨W.heap.size, k, none⟩ = (ss.map Value.string)[k]? := fun k => by
    rw [cell_of_row _ W.heap.size k _ t (0, 0) hblk]; simp
  refine ⟨fun b => if b = W.heap.size then ss.length else G b, _, rfl, (Below.refl _ _).alloc (Nat.le_refl _) _, fun b hb => if_neg (by omega), fun b hb => ?_, ?_, fun _ ow q how sz ys b off len cap sp hv hx => ?_⟩
  · simp at hb
    dsimp only; rw [if_neg (by omega)]; exact hW.Gz b (by omega)
  · have := Rep.sl (W := W.alloc (.cells (ss.map Value.string).toArray t)) (G := fun b => if b = W.heap.size then ss.length else G b) (φ := φ) 1 ((ss.map (·.data.toList)).map V.str) W.heap.size 0 ss.length (fun k => .string (ss.getD k default)) (by simp) (by simp) (fun x hx => ?_) (fun k hk => ?_) (fun i x j c hi hj => ?_)
    · simpa using this
    · obtain ⟨s, _, rfl⟩ := List.mem_map.1 hx; simp
    · simp at hk
      rw [Nat.zero_add, hcell]; simp [List.getD, hk]
    · simp only [List.map_map, List.getElem?_map, Option.map_eq_some_iff] at hi
      obtain ⟨s, hs, rfl⟩ := hi
      cases j with
      | zero => simp at hj; subst hj; simp [List.getD, hs]; exact .str _ _ rfl
      | succ j => simp at hj
  · cases hx; exact .inl rfl

/-- A LAW's END: from its contract to the kit's. -/
theorem law_calls {cx : Cx} {f : FuncId} {args : List V} {xs : Array Value} {o : Bool} (h : PC cx f args (.bool true, o)) (hr : RepL cx.w0 (G0 cx.w0) (fun _ => none) args xs) :
    Calls cx.P f xs cx.w0 fun e W' => e = .returned (.bool true) ∧ Below cx.w0.heap.size cx.w0 W' := by
  refine (h.2 cx.w0 (G0 cx.w0) (fun _ => none) xs ⟨.refl _ _, fun _ _ => rfl, fun b hb => by simp [G0, Array.getElem?_eq_none hb]⟩ hr).mono fun e W' => ?_
  rintro ⟨G', y, rfl, hB, _, _, hy, _⟩
  cases hy
  exact ⟨rfl, hB⟩
end Go.Abs
/-
  Ext, part 1: values but for which empty row is nil; one operation at a time (words that a program of this seat prints). Own work of this seat.
-/
namespace Go.Abs
open Go.RowKit

/-! ## values, but for which empty rows are nil -/
mutual
def V.nf : V → V
  | .agg cs => .agg (nfL cs)
  | .sl true sz [] => .sl false sz []
  | .sl true _ (_ :: _) => .map 0
  | .sl false sz xs => .sl false sz (nfL xs)
  | .el cs off => .el (nfL cs) off
  | .tup cs => .tup (nfL cs)
  | .fn f cs => .fn f (nfL cs)
  | .mfn f cs => .mfn f (nfL cs)
  | .iface t v => .iface t v.nf
  | .bool b => .bool b
  | .int k n => .int k n
  | .str s => .str s
  | .osl a b c d e => .osl a b c d e
  | .gp g o => .gp g o
  | .ptr i o => .ptr i o
  | .nilptr => .nilptr
  | .map i => .map i
  | .nilmap => .nilmap
  | .nilfn => .nilfn
  | .nilif => .nilif
def nfL : List V → List V
  | [] => []
  | v :: r => v.nf :: nfL r
end
theorem nfL_map : ∀ l : List V, nfL l = l.map V.nf
  | [] => rfl
  | v :: r => by rw [nfL, nfL_map r]; rfl
@[simp] theorem nfL_length (l : List V) : (nfL l).length = l.length := by rw [nfL_map]; simp
theorem nfL_get (l : List V) (i : Nat) : (nfL l)[i]? = (l[i]?).map V.nf := by rw [nfL_map]; simp
theorem nfL_append (a b : List V) : nfL (a ++ b) = nfL a ++ nfL b := by simp [nfL_map]
theorem nfL_drop (a : List V) (k : Nat) : nfL (a.drop k) = (nfL a).drop k := by simp [nfL_map, List.map_drop]
theorem nfL_take (a : List V) (k : Nat) : nfL (a.take k) = (nfL a).take k := by simp [nfL_map, List.map_take]
theorem nfL_setAt (a : List V) (k : Nat) (b : List V) : nfL (setAt a k b) = setAt (nfL a) k (nfL b) := by
  simp only [setAt, nfL_append, nfL_take, nfL_drop, nfL_length]

theorem nf_bool {v : V} {b : Bool} (h : v.nf = .bool b) : v = .bool b := by
  cases v <;> simp_all [V.nf]
  all_goals (rename_i nl sz xs; cases nl <;> cases xs <;> simp [V.nf] at h)
theorem nf_int {v : V} {k : IntKind} {n : Int} (h : v.nf = .int k n) : v = .int k n := by
  cases v <;> simp_all [V.nf]
  all_goals (rename_i nl sz xs; cases nl <;> cases xs <;> simp [V.nf] at h)
theorem nf_str {v : V} {s : Bytes} (h : v.nf = .str s) : v = .str s := by
  cases v <;> simp_all [V.nf]
  all_goals (rename_i nl sz xs; cases nl <;> cases xs <;> simp [V.nf] at h)
theorem nf_ptr {v : V} {i o : Nat} (h : v.nf = .ptr i o) : v = .ptr i o := by
  cases v <;> simp_all [V.nf]
  all_goals (rename_i nl sz xs; cases nl <;> cases xs <;> simp [V.nf] at h)
theorem nf_agg {v : V} {l : List V} (h : v.nf = .agg l) : ∃ cs, v = .agg cs ∧ nfL cs = l := by
  cases v <;> simp_all [V.nf]
  all_goals (rename_i nl sz xs; cases nl <;> cases xs <;> simp [V.nf] at h)
theorem nf_el {v : V} {l : List V} {o : Nat} (h : v.nf = .el l o) : ∃ cs, v = .el cs o ∧ nfL cs = l := by
  cases v <;> simp_all [V.nf]
  all_goals (rename_i nl sz xs; cases nl <;> cases xs <;> simp [V.nf] at h)
theorem nf_tup {v : V} {l : List V} (h : v.nf = .tup l) : ∃ cs, v = .tup cs ∧ nfL cs = l := by
  cases v <;> simp_all [V.nf]
  all_goals (rename_i nl sz xs; cases nl <;> cases xs <;> simp [V.nf] at h)
theorem nf_fn {v : V} {f : Nat} {l : List V} (h : v.nf = .fn f l) : ∃ cs, v = .fn f cs ∧ nfL cs = l := by
  cases v <;> simp_all [V.nf]
  all_goals (rename_i nl sz xs; cases nl <;> cases xs <;> simp [V.nf] at h)
theorem nf_sl {v : V} {sz : Nat} {l : List V} (h : v.nf = .sl false sz l) : ∃ nl xs, v = .sl nl sz xs ∧ nfL xs = l ∧ (nl = true → xs = []) := by
  cases v <;> simp_all [V.nf]
  rename_i nl sz' xs
  cases nl <;> cases xs <;> simp_all [V.nf, nfL]
theorem sl_nf {nl : Bool} {sz : Nat} {xs : List V} (h : nl = true → xs = []) : (V.sl nl sz xs).nf = .sl false sz (nfL xs) := by
  cases nl
  · rfl
  · rw [h rfl]; rfl
theorem nf_sc (v : V) : v.nf.sc = v.sc := by
  cases v <;> try rfl
  rename_i nl sz xs
  cases nl <;> cases xs <;> rfl
theorem nf_cells (v : V) : v.nf.cells = nfL v.cells := by
  cases v <;> try rfl
  rename_i nl sz xs
  cases nl <;> cases xs <;> rfl
theorem nfL_sc {l : List V} (h : (nfL l).all V.sc = true) : l.all V.sc = true := by
  rw [nfL_map] at h
  simpa [nf_sc] using h
mutual
theorem nf_clean : ∀ {v : V}, v.nf.clean = true → v.clean = true
  | .agg cs, h => by simp only [V.nf, V.clean] at h ⊢; exact nfL_clean h
  | .sl true sz [], _ => rfl
  | .sl true _ (_ :: _), h => by simp [V.nf, V.clean] at h
  | .sl false sz xs, h => by simp only [V.nf, V.clean] at h ⊢; exact nfL_clean h
  | .el cs off, h => by simp only [V.nf, V.clean] at h ⊢; exact nfL_clean h
  | .tup cs, h => by simp only [V.nf, V.clean] at h ⊢; exact nfL_clean h
  | .fn f cs, h => by simp only [V.nf, V.clean] at h ⊢; exact nfL_clean h
  | .mfn f cs, h => by simp only [V.nf, V.clean] at h ⊢; exact nfL_clean h
  | .iface t v, h => by simp only [V.nf, V.clean] at h ⊢; exact nf_clean h
  | .bool b, _ => rfl
  | .int k n, _ => rfl
  | .str s, _ => rfl
  | .osl a b c d e, h => by simp [V.nf, V.clean] at h
  | .gp g o, _ => rfl
  | .ptr i o, h => by simp [V.nf, V.clean] at h
  | .nilptr, _ => rfl
  | .map i, h => by simp [V.nf, V.clean] at h
  | .nilmap, _ => rfl
  | .nilfn, _ => rfl
  | .nilif, _ => rfl
theorem nfL_clean : ∀ {l : List V}, cleanL (nfL l) = true → cleanL l = true
  | [], _ => rfl
  | v :: r, h => by
    simp only [nfL, cleanL, Bool.and_eq_true] at h ⊢
    exact ⟨nf_clean h.1, nfL_clean h.2⟩
end

/-- a value that may be appended to -/
def Own (v : V) (o : Bool) : Prop := o = true ∨ ∃ sz, v = .sl true sz []
abbrev OwnS (s : St) (t : Nat) : Prop := Own (s.tm t) (s.own (.slot t))

/-! ## one operation at a time -/
variable {Γ : Abs.Spec} {gl : Glob} {K : St → Prop} {s : St} {d : Option Nat} {r : List AOper} {af : List Nat} {g : Option (Nat × Bool)}

theorem x_start {Q : Ex → St → Prop} {os : List AOper} {b : Bool} (k : runs Γ gl os (Q .normal) s) : awp Γ gl (.region os b) Q s := by rw [awp_region]; exact k
theorem x_done (k : K s) : runs Γ gl [] K s := k
theorem x_step {op : AOp} {s' : St} (h : exec1 Γ gl ⟨d, op, none, af⟩ s = some s') (k : runs Γ gl r K s') : runs Γ gl (⟨d, op, none, af⟩ :: r) K s := by
  rw [runs_cons, exec_none, h]; exact k
/-- a guard: it is done -/
theorem x_gy {op : AOp} {t : Nat} {w b : Bool} (h : s.tm t = .bool b) (hb : b = w) (k : runs Γ gl (⟨d, op, none, af⟩ :: r) K s) : runs Γ gl (⟨d, op, some (t, w), af⟩ :: r) K s := by
  subst hb
  rw [runs_cons, exec_none] at k
  rw [runs_cons, exec_some, h]
  have e : exec1 Γ gl ⟨d, op, some (t, b), af⟩ s = exec1 Γ gl ⟨d, op, none, af⟩ s := rfl
  rw [e, if_pos (by simp)]; exact k
/-- a guard: it is not done -/
theorem x_gn {op : AOp} {t : Nat} {w b : Bool} (h : s.tm t = .bool b) (hb : b = !w) (k : runs Γ gl r K (s.put d Nil false)) : runs Γ gl (⟨d, op, some (t, w), af⟩ :: r) K s := by
  subst hb
  rw [runs_cons, exec_some, h]
  have : ((!w) == w) = false := by cases w <;> rfl
  simpa [this] using k

/-- a guard that was not reached -/
theorem x_gnil {op : AOp} {t : Nat} {w : Bool} (h : s.tm t = Nil) (k : runs Γ gl r K (s.put d Nil false)) : runs Γ gl (⟨d, op, some (t, w), af⟩ :: r) K s := by
  rw [runs_cons, exec_some, h]
  simpa using k

theorem x_mv {x : Opd} {y : V} (h : (evO s.tm x).nf = y) (k : ∀ v, v.nf = y → runs Γ gl r K (s.put d v false)) : runs Γ gl (⟨d, .mv x, none, af⟩ :: r) K s :=
  x_step (e_mv x) (k _ h)
theorem x_mv' {x : Opd} {y : V} (h : evO s.tm x = y) (k : runs Γ gl r K (s.put d y false)) : runs Γ gl (⟨d, .mv x, none, af⟩ :: r) K s :=
  x_step (e_mv x) (h ▸ k)
theorem x_mvo {t : Nat} {y : V} (h : (s.tm t).nf = y) (k : ∀ v o, v.nf = y → (OwnS s t → Own v o) → runs Γ gl r K ((s.take (some (.slot t))).put d v o)) : runs Γ gl (⟨d, .mvo t, none, af⟩ :: r) K s :=
  x_step (e_mvo t) (k _ _ h id)
theorem x_pickt {c a b : Opd} {p : Bool} {y : V} (hc : evO s.tm c = .bool p) (hp : p = true) (h : (evO s.tm a).nf = y) (k : ∀ v, v.nf = y → runs Γ gl r K (s.put d v false)) : runs Γ gl (⟨d, .pick c a b, none, af⟩ :: r) K s := by
  subst hp
  refine x_step (s' := s.put d (evO s.tm a) false) ?_ (k _ h)
  rw [e_pick, hc, vPick_bool]; rfl
theorem x_pickf {c a b : Opd} {p : Bool} {y : V} (hc : evO s.tm c = .bool p) (hp : p = false) (h : (evO s.tm b).nf = y) (k : ∀ v, v.nf = y → runs Γ gl r K (s.put d v false)) : runs Γ gl (⟨d, .pick c a b, none, af⟩ :: r) K s := by
  subst hp
  refine x_step (s' := s.put d (evO s.tm b) false) ?_ (k _ h)
  rw [e_pick, hc, vPick_bool]; rfl
theorem x_pickt' {c a b : Opd} {p : Bool} {y : V} (hc : evO s.tm c = .bool p) (hp : p = true) (h : evO s.tm a = y) (k : runs Γ gl r K (s.put d y false)) : runs Γ gl (⟨d, .pick c a b, none, af⟩ :: r) K s := by
  subst hp; subst h
  refine x_step (s' := s.put d (evO s.tm a) false) ?_ k
  rw [e_pick, hc, vPick_bool]; rfl
theorem x_pickf' {c a b : Opd} {p : Bool} {y : V} (hc : evO s.tm c = .bool p) (hp : p = false) (h : evO s.tm b = y) (k : runs Γ gl r K (s.put d y false)) : runs Γ gl (⟨d, .pick c a b, none, af⟩ :: r) K s := by
  subst hp; subst h
  refine x_step (s' := s.put d (evO s.tm b) false) ?_ k
  rw [e_pick, hc, vPick_bool]; rfl
theorem x_ext {t : Opd} {i : Nat} {l : List V} {y : V} (h : (evO s.tm t).nf = .tup l) (hi : l[i]? = some y) (k : ∀ v, v.nf = y → runs Γ gl r K (s.put d v false)) : runs Γ gl (⟨d, .ext t i, none, af⟩ :: r) K s := by
  obtain ⟨cs, hv, rfl⟩ := nf_tup h
  rw [nfL_get, Option.map_eq_some_iff] at hi
  obtain ⟨v, hi, rfl⟩ := hi
  refine x_step (s' := s.put d v false) ?_ (k _ rfl)
  rw [e_ext, hv, vExt_tup, hi]; rfl
theorem x_bin {op : BinOp} {q : EqK} {x y : Opd} {a b c : V} (hx : evO s.tm x = a) (hy : evO s.tm y = b) (h : abin op q a b = some c) (k : runs Γ gl r K (s.put d c false)) : runs Γ gl (⟨d, .bin op q x y, none, af⟩ :: r) K s := by
  refine x_step (s' := s.put d c false) ?_ k
  rw [e_bin, hx, hy, h]; rfl
theorem x_un {op : UnOp} {x : Opd} {a c : V} (hx : evO s.tm x = a) (h : aun op a = some c) (k : runs Γ gl r K (s.put d c false)) : runs Γ gl (⟨d, .un op x, none, af⟩ :: r) K s := by
  refine x_step (s' := s.put d c false) ?_ k
  rw [e_un, hx, h]; rfl
theorem x_lens {x : Opd} {b : Bytes} (hx : evO s.tm x = .str b) (k : runs Γ gl r K (s.put d (.int .i64 (b.length : Nat)) false)) : runs Γ gl (⟨d, .len true x, none, af⟩ :: r) K s :=
  x_step (s' := s.put d (.int .i64 (b.length : Nat)) false) (by rw [e_len, hx]; rfl) k
theorem x_len {α : Type} {E : α → V} {l : List α} {x : Opd} {sz : Nat} (hx : (evO s.tm x).nf = .sl false sz (l.map E)) (k : runs Γ gl r K (s.put d (.int .i64 (l.length : Nat)) false)) : runs Γ gl (⟨d, .len false x, none, af⟩ :: r) K s := by
  obtain ⟨nl, xs, hv, hl, _⟩ := nf_sl hx
  have : xs.length = l.length := by have := congrArg List.length hl; simpa using this
  exact x_step (s' := s.put d (.int .i64 (l.length : Nat)) false) (by rw [e_len, hv, vLen_sl, this]; rfl) k
theorem x_mnx {mx : Bool} {x y : Opd} {a b c : V} (hx : evO s.tm x = a) (hy : evO s.tm y = b) (h : vMnx mx a b = some c) (k : runs Γ gl r K (s.put d c false)) : runs Γ gl (⟨d, .mnx mx x y, none, af⟩ :: r) K s := by
  refine x_step (s' := s.put d c false) ?_ k
  rw [e_mnx, hx, hy, h]; rfl

/-- an element of a row -/
def at? {α : Type} (l : List α) (n : Int) : Option α := if 0 ≤ n then l[n.toNat]? else none
@[simp] theorem at?_nat {α : Type} (l : List α) (n : Nat) : at? l (n : Int) = l[n]? := by simp [at?]
theorem x_iaddr {α : Type} {E : α → V} {l : List α} {x i : Opd} {sz : Nat} {kd : IntKind} {n : Int} {a : α} (hx : (evO s.tm x).nf = .sl false sz (l.map E)) (hi : evO s.tm i = .int kd n) (ha : at? l n = some a)
    (k : ∀ v, v.nf = .el (E a).cells 0 → runs Γ gl r K (s.put d v false)) : runs Γ gl (⟨d, .iaddr sz x i, none, af⟩ :: r) K s := by
  obtain ⟨nl, xs, hv, hl, hn⟩ := nf_sl hx
  unfold at? at ha
  split at ha
  · rename_i h0
    have h1 : (nfL xs)[n.toNat]? = some (E a) := by rw [hl]; simp [ha]
    rw [nfL_get, Option.map_eq_some_iff] at h1
    obtain ⟨e, he, hE⟩ := h1
    have hnl : nl = false := by cases nl; rfl; rw [hn rfl] at he; simp at he
    subst hnl
    refine x_step (s' := s.put d (.el e.cells 0) false) ?_ (k _ ?_)
    · rw [e_iaddr, hv, hi, vIaddr_sl, if_pos ⟨h0, rfl⟩, he]; rfl
    · rw [← hE, nf_cells]; rfl
  · cases ha
theorem ldCells_nf {n : Option Nat} {cs : List V} {o : Nat} {y : V} (h : ldCells n (nfL cs) o = some y) : ∃ v, ldCells n cs o = some v ∧ v.nf = y := by
  cases n with
  | none =>
    simp only [ldCells_none, nfL_get, Option.map_eq_some_iff] at h ⊢
    exact h
  | some k =>
    simp only [ldCells_some, nfL_length] at h ⊢
    split at h
    · rename_i hc
      rw [if_pos hc]
      cases h
      exact ⟨_, rfl, by rw [V.nf, nfL_take, nfL_drop]⟩
    · cases h
theorem x_faddr_el {off : Nat} {x : Opd} {l : List V} {o : Nat} (hx : (evO s.tm x).nf = .el l o) (k : ∀ v, v.nf = .el l (o + off) → runs Γ gl r K (s.put d v false)) : runs Γ gl (⟨d, .faddr off x, none, af⟩ :: r) K s := by
  obtain ⟨cs, hv, rfl⟩ := nf_el hx
  exact x_step (s' := s.put d (.el cs (o + off)) false) (by rw [e_faddr, hv, vFaddr_el]; rfl) (k _ rfl)
theorem x_faddr {off : Nat} {x : Opd} {i o : Nat} (hx : evO s.tm x = .ptr i o) (k : runs Γ gl r K (s.put d (.ptr i (o + off)) false)) : runs Γ gl (⟨d, .faddr off x, none, af⟩ :: r) K s :=
  x_step (by rw [e_faddr, hx, vFaddr_ptr]; rfl) k
theorem x_faddr_gp {off : Nat} {x : Opd} {i o : Nat} (hx : evO s.tm x = .gp i o) (k : runs Γ gl r K (s.put d (.gp i (o + off)) false)) : runs Γ gl (⟨d, .faddr off x, none, af⟩ :: r) K s :=
  x_step (by rw [e_faddr, hx, vFaddr_gp]; rfl) k
theorem x_load_el {n : Option Nat} {x : Opd} {l : List V} {o : Nat} {y : V} (hx : (evO s.tm x).nf = .el l o) (hl : ldCells n l o = some y) (k : ∀ v, v.nf = y → runs Γ gl r K (s.put d v false)) : runs Γ gl (⟨d, .load n x, none, af⟩ :: r) K s := by
  obtain ⟨cs, hv, rfl⟩ := nf_el hx
  obtain ⟨v, h1, h2⟩ := ldCells_nf hl
  exact x_step (s' := s.put d v false) (by rw [e_load, hv, vLoad_el, h1]; rfl) (k _ h2)
/-- the cells of an object -/
def Cells (s : St) (id : Nat) (l : List V) : Prop := ∃ cs, hCells s.H id = some cs ∧ nfL cs = l
theorem x_load {n : Option Nat} {x : Opd} {l : List V} {i o : Nat} {y : V} (hx : evO s.tm x = .ptr i o) (hc : Cells s i l) (hl : ldCells n l o = some y) (k : ∀ v, v.nf = y → runs Γ gl r K (s.put d v false)) : runs Γ gl (⟨d, .load n x, none, af⟩ :: r) K s := by
  obtain ⟨cs, hv, rfl⟩ := hc
  obtain ⟨v, h1, h2⟩ := ldCells_nf hl
  exact x_step (s' := s.put d v false) (by rw [e_load, hx, vLoad_ptr, hv]; simp [h1]) (k _ h2)
theorem x_load_gp {n : Option Nat} {x : Opd} {l : List V} {i o : Nat} {y : V} (hx : evO s.tm x = .gp i o) (hc : gl i = some l) (hl : ldCells n l o = some y) (k : runs Γ gl r K (s.put d y false)) : runs Γ gl (⟨d, .load n x, none, af⟩ :: r) K s :=
  x_step (s' := s.put d y false) (by rw [e_load, hx, vLoad_gp, hc]; simp [hl]) k
abbrev OwnC (s : St) (id j : Nat) : Prop := ∀ cs v, hCells s.H id = some cs → cs[j]? = some v → Own v (s.own (.cell id j))
theorem x_ldo {x : Opd} {l : List V} {i o : Nat} {y : V} (hx : evO s.tm x = .ptr i o) (hc : Cells s i l) (hl : l[o]? = some y) (k : ∀ v w, v.nf = y → (OwnC s i o → Own v w) → runs Γ gl r K ((s.take (some (.cell i o))).put d v w)) : runs Γ gl (⟨d, .ldo x, none, af⟩ :: r) K s := by
  obtain ⟨cs, hv, rfl⟩ := hc
  rw [nfL_get, Option.map_eq_some_iff] at hl
  obtain ⟨v, h1, h2⟩ := hl
  refine x_step (s' := (s.take (some (.cell i o))).put d v (s.own (.cell i o))) ?_ (k _ _ h2 fun h => h cs v hv h1)
  rw [e_ldo, hx]; simp [vLdo, hv, h1]
theorem x_fld {n : Option Nat} {off : Nat} {x : Opd} {l : List V} {y : V} (hx : (evO s.tm x).nf = .agg l) (hl : ldCells n l off = some y) (k : ∀ v, v.nf = y → runs Γ gl r K (s.put d v false)) : runs Γ gl (⟨d, .fld n off x, none, af⟩ :: r) K s := by
  obtain ⟨cs, hv, rfl⟩ := nf_agg hx
  obtain ⟨v, h1, h2⟩ := ldCells_nf hl
  exact x_step (s' := s.put d v false) (by rw [e_fld, hv, vFld_agg, h1]; rfl) (k _ h2)
theorem x_idx {x i : Opd} {p : Bytes} {kd : IntKind} {n : Int} {b : UInt8} (hx : evO s.tm x = .str p) (hi : evO s.tm i = .int kd n) (hb : at? p n = some b) (k : runs Γ gl r K (s.put d (.int .u8 b.toNat) false)) : runs Γ gl (⟨d, .idx x i, none, af⟩ :: r) K s := by
  unfold at? at hb
  split at hb
  · rename_i h0
    refine x_step (s' := s.put d (.int .u8 b.toNat) false) ?_ k
    rw [e_idx, hx, hi]; simp [vIdx, h0, hb, byteV]
  · cases hb
theorem x_idxa {len sz : Nat} {m : Option Nat} {x i : Opd} {l : List V} {kd : IntKind} {n : Int} {y : V} (hx : (evO s.tm x).nf = .agg l) (hi : evO s.tm i = .int kd n) (h0 : 0 ≤ n ∧ n < len) (hl : ldCells m l (n.toNat * sz) = some y) (k : ∀ v, v.nf = y → runs Γ gl r K (s.put d v false)) : runs Γ gl (⟨d, .idxa len sz m x i, none, af⟩ :: r) K s := by
  obtain ⟨cs, hv, rfl⟩ := nf_agg hx
  obtain ⟨v, h1, h2⟩ := ldCells_nf hl
  refine x_step (s' := s.put d v false) ?_ (k _ h2)
  rw [e_idxa, hv, hi]; simp [vIdxa, h0, h1]

/-! pieces -/
def cut {α : Type} (l : List α) (a b : Int) : Option (List α) := if 0 ≤ a ∧ a ≤ b ∧ b ≤ l.length then some ((l.take b.toNat).drop a.toNat) else none
theorem x_slsh {x h : Opd} {p q : Bytes} {kd : IntKind} {b : Int} (hx : evO s.tm x = .str p) (hh : evO s.tm h = .int kd b) (hc : cut p 0 b = some q) (k : runs Γ gl r K (s.put d (.str q) false)) : runs Γ gl (⟨d, .sls x none (some h), none, af⟩ :: r) K s := by
  unfold cut at hc
  split at hc
  · rename_i h1
    cases hc
    refine x_step (s' := s.put d _ false) ?_ k
    rw [e_sls, hx]; simp only [Option.map_none, Option.map_some, hh, vSls_h]; rw [if_pos ⟨h1.2.1, h1.2.2⟩]; simp
  · cases hc
theorem x_slsl {x l : Opd} {p q : Bytes} {kd : IntKind} {a : Int} (hx : evO s.tm x = .str p) (hl : evO s.tm l = .int kd a) (hc : cut p a p.length = some q) (k : runs Γ gl r K (s.put d (.str q) false)) : runs Γ gl (⟨d, .sls x (some l) none, none, af⟩ :: r) K s := by
  unfold cut at hc
  split at hc
  · rename_i h1
    cases hc
    refine x_step (s' := s.put d _ false) ?_ k
    rw [e_sls, hx]; simp only [Option.map_none, Option.map_some, hl, vSls_l]; rw [if_pos ⟨h1.1, h1.2.1⟩]; simp
  · cases hc
theorem x_slslh {x l h : Opd} {p q : Bytes} {kd ke : IntKind} {a b : Int} (hx : evO s.tm x = .str p) (hl : evO s.tm l = .int kd a) (hh : evO s.tm h = .int ke b) (hc : cut p a b = some q) (k : runs Γ gl r K (s.put d (.str q) false)) : runs Γ gl (⟨d, .sls x (some l) (some h), none, af⟩ :: r) K s := by
  unfold cut at hc
  split at hc
  · rename_i h1
    cases hc
    refine x_step (s' := s.put d _ false) ?_ k
    rw [e_sls, hx]; simp only [Option.map_some, hl, hh, vSls_lh]; rw [if_pos h1]; rfl
  · cases hc
theorem nfsl_cut {α : Type} {E : α → V} {l : List α} {xs : List V} (h : nfL xs = l.map E) (a b : Nat) : nfL ((xs.take b).drop a) = ((l.take b).drop a).map E := by
  rw [nfL_drop, nfL_take, h]; simp [List.map_drop, List.map_take]
theorem x_slc {α : Type} {E : α → V} {l q : List α} {x : Opd} {lo hi : Option Opd} {sz : Nat} {a b : Int} {ka kb : IntKind} (hx : (evO s.tm x).nf = .sl false sz (l.map E))
    (hlo : match lo with | none => a = 0 | some o => evO s.tm o = .int ka a) (hhi : match hi with | none => b = l.length | some o => evO s.tm o = .int kb b) (hc : cut l a b = some q)
    (k : ∀ v, v.nf = .sl false sz (q.map E) → runs Γ gl r K (s.put d v false)) : runs Γ gl (⟨d, .slc sz x lo hi none, none, af⟩ :: r) K s := by
  obtain ⟨nl, xs, hv, hl, hn⟩ := nf_sl hx
  have hlen : xs.length = l.length := by have := congrArg List.length hl; simpa using this
  unfold cut at hc
  split at hc
  · rename_i h1
    cases hc
    refine x_step (s' := s.put d (.sl nl sz ((xs.take b.toNat).drop a.toNat)) false) ?_ (k _ ?_)
    · rw [e_slc, hv]
      have hb0 : 0 ≤ b := by omega
      have hbl : b.toNat ≤ l.length := by omega
      cases lo with
      | none =>
        simp only at hlo; subst hlo
        cases hi with
        | none =>
          simp only at hhi; subst hhi
          simp [vSlc, vOpt, cut3, hlen]
        | some hi =>
          simp only at hhi
          simp [vSlc, vOpt, cut3, hlen, hhi, hb0, h1.2.2]
      | some lo =>
        simp only at hlo
        cases hi with
        | none =>
          simp only at hhi; subst hhi
          simp [vSlc, vOpt, cut3, hlen, hlo, h1.1, h1.2.1]
        | some hi =>
          simp only at hhi
          simp [vSlc, vOpt, cut3, hlen, hlo, hhi, h1, hb0]
    · rw [sl_nf (fun h => by rw [hn h]; simp), nfsl_cut hl]
  · cases hc
/-- a piece that has no room behind -/
theorem x_slc3 {α : Type} {E : α → V} {l q : List α} {x h m : Opd} {lo : Option Opd} {sz : Nat} {a b : Int} {ka kb kc : IntKind} (hx : (evO s.tm x).nf = .sl false sz (l.map E))
    (hlo : match lo with | none => a = 0 | some o => evO s.tm o = .int ka a) (hhi : evO s.tm h = .int kb b) (hmx : evO s.tm m = .int kc b) (hc : cut l a b = some q)
    (k : ∀ v o, v.nf = .sl false sz (q.map E) → Own v o → runs Γ gl r K (s.put d v o)) : runs Γ gl (⟨d, .slc sz x lo (some h) (some m), none, af⟩ :: r) K s := by
  obtain ⟨nl, xs, hv, hl, hn⟩ := nf_sl hx
  have hlen : xs.length = l.length := by have := congrArg List.length hl; simpa using this
  unfold cut at hc
  split at hc
  · rename_i h1
    cases hc
    refine x_step (s' := s.put d (.sl nl sz ((xs.take b.toNat).drop a.toNat)) true) ?_ (k _ _ ?_ (.inl rfl))
    · rw [e_slc, hv]
      have hb0 : 0 ≤ b := by omega
      have hbl : b.toNat ≤ l.length := by omega
      cases lo with
      | none =>
        simp only at hlo; subst hlo
        simp [vSlc, vOpt, cut3, hlen, hhi, hmx, hb0, h1.2.2]
      | some lo =>
        simp only at hlo
        simp [vSlc, vOpt, cut3, hlen, hlo, hhi, hmx, h1, hb0]
    · rw [sl_nf (fun h => by rw [hn h]; simp), nfsl_cut hl]
  · cases hc

/-! what is built -/
theorem fillV_nf : ∀ {ps : List (Nat × Nat × V)} {z l : List V}, fillV (nfL z) (ps.map fun p => (p.1, p.2.1, p.2.2.nf)) = some l → ∃ cs, fillV z ps = some cs ∧ nfL cs = l
  | [], z, l, h => by simp at h; exact ⟨z, rfl, h⟩
  | (o, n, v) :: r, z, l, h => by
    simp only [List.map_cons, fillV_cons, nf_cells, nfL_length] at h ⊢
    split at h
    · rename_i hc
      rw [← nfL_setAt] at h
      obtain ⟨cs, h1, h2⟩ := fillV_nf h
      exact ⟨cs, by rw [if_pos ⟨hc.1, nfL_sc hc.2.1, hc.2.2⟩, h1], h2⟩
    · cases h
/-- a cell of a struct's value that is a nil row -/
def NilAt (v : V) (j : Nat) : Prop := ∃ cs sz, v = .agg cs ∧ cs[j]? = some (.sl true sz [])
theorem setAt_out {cs ys : List V} {o j : Nat} (h : j < o ∨ o + ys.length ≤ j) (ho : o + ys.length ≤ cs.length) : (setAt cs o ys)[j]? = cs[j]? := by
  simp only [setAt]
  rcases h with h | h
  · rw [List.getElem?_append_left (by simp; omega), List.getElem?_append_left (by simp; omega), List.getElem?_take, if_pos h]
  · rw [List.getElem?_append_right (by simp; omega)]
    simp only [List.length_append, List.length_take, Nat.min_eq_left (show o ≤ cs.length by omega), List.getElem?_drop]
    congr 1; omega
theorem fillV_out : ∀ {ps : List (Nat × Nat × V)} {z cs : List V} {j : Nat}, fillV z ps = some cs → (∀ p ∈ ps, j < p.1 ∨ p.1 + p.2.1 ≤ j) → cs[j]? = z[j]?
  | [], z, cs, j, h, _ => by simp at h; rw [h]
  | (o, n, v) :: r, z, cs, j, h, hp => by
    simp only [fillV_cons] at h
    split at h
    · rename_i hc
      rw [fillV_out h fun p hp' => hp p (by simp [hp'])]
      have := hp (o, n, v) (by simp)
      exact setAt_out (by rw [hc.1]; exact this) (by rw [hc.1]; exact hc.2.2)
    · cases h
theorem x_build {z : List V} {ps : List (Nat × Nat × Opd)} {ws : List (Nat × Nat × V)} {l : List V} (hw : (ps.map fun p => (p.1, p.2.1, (evO s.tm p.2.2).nf)) = ws) (hl : fillV (nfL z) ws = some l)
    (k : ∀ v, v.nf = .agg l → (∀ j sz, z[j]? = some (.sl true sz []) → (∀ p ∈ ps, j < p.1 ∨ p.1 + p.2.1 ≤ j) → NilAt v j) → runs Γ gl r K (s.put d v false)) : runs Γ gl (⟨d, .build z ps, none, af⟩ :: r) K s := by
  subst hw
  have h' : fillV (nfL z) ((ps.map fun p => (p.1, p.2.1, evO s.tm p.2.2)).map fun p => (p.1, p.2.1, p.2.2.nf)) = some l := by rw [List.map_map]; exact hl
  obtain ⟨cs, h1, h2⟩ := fillV_nf h'
  refine x_step (s' := s.put d (.agg cs) false) ?_ (k _ (by rw [← h2]; rfl) fun j sz hz hp => ⟨cs, sz, rfl, ?_⟩)
  · rw [e_build, h1]; rfl
  · rw [fillV_out h1 fun p hp' => ?_]
    · exact hz
    · obtain ⟨q, hq, rfl⟩ := List.mem_map.1 hp'
      exact hp q hq
theorem fits_nf {sz : Nat} : ∀ {xs : List V}, fits sz (nfL xs) = true → fits sz xs = true
  | [], _ => rfl
  | v :: r, h => by
    simp only [nfL, fits_cons, Bool.and_eq_true, nf_cells, nfL_length] at h ⊢
    exact ⟨⟨h.1.1, nfL_sc h.1.2⟩, fits_nf h.2⟩
theorem x_bsl {α : Type} {E : α → V} {l : List α} {sz : Nat} {ps : List Opd} (hw : ps.map (fun p => (evO s.tm p).nf) = l.map E) (hf : fits sz (l.map E) = true) (k : ∀ v o, v.nf = .sl false sz (l.map E) → Own v o → runs Γ gl r K (s.put d v o)) : runs Γ gl (⟨d, .bsl sz ps, none, af⟩ :: r) K s := by
  have hn : nfL (ps.map (evO s.tm)) = l.map E := by rw [nfL_map, List.map_map]; exact hw
  refine x_step (s' := s.put d (.sl false sz (ps.map (evO s.tm))) true) ?_ (k _ _ ?_ (.inl rfl))
  · rw [e_bsl, if_pos (fits_nf (by rw [hn]; exact hf))]; rfl
  · show V.sl false sz (nfL (ps.map (evO s.tm))) = _
    rw [hn]

/-! conversions -/
theorem nf_byte (b : UInt8) : (byteV b).nf = byteV b := rfl
theorem nf_encB (l : Bytes) : nfL (encB l) = encB l := by
  rw [nfL_map]; unfold encB; rw [List.map_map]; rfl
theorem nf_bytes {xs : List V} {l : Bytes} (h : nfL xs = l.map byteV) : xs = encB l := by
  rw [nfL_map] at h
  refine List.ext_getElem? fun i => ?_
  have := congrArg (fun l => l[i]?) h
  simp only [List.getElem?_map, encB] at this ⊢
  cases hx : xs[i]? with
  | none => rw [hx] at this; simpa using this
  | some v =>
    rw [hx] at this
    cases hb : l[i]? with
    | none => rw [hb] at this; simp at this
    | some b =>
      rw [hb] at this
      simp only [Option.map_some, Option.some.injEq] at this
      rw [nf_int (v := v) (k := .u8) (n := b.toNat) (by rw [this]; rfl)]; rfl
theorem toBytes_encB : ∀ l : Bytes, toBytes (encB l) = some l
  | [] => rfl
  | b :: r => by
    have ih := toBytes_encB r
    simp only [encB, List.map_cons, byteV] at ih ⊢
    simp [toBytes, ih]
theorem x_s2b {x : Opd} {b : Bytes} (hx : evO s.tm x = .str b) (k : ∀ v o, v.nf = .sl false 1 (b.map byteV) → Own v o → runs Γ gl r K (s.put d v o)) : runs Γ gl (⟨d, .s2b x, none, af⟩ :: r) K s :=
  x_step (s' := s.put d (.sl false 1 (encB b)) true) (by rw [e_s2b, hx]; rfl) (k _ _ (by show V.sl false 1 (nfL (encB b)) = _; rw [nf_encB]; rfl) (.inl rfl))
theorem x_b2s {x : Opd} {b : Bytes} (hx : (evO s.tm x).nf = .sl false 1 (b.map byteV)) (k : runs Γ gl r K (s.put d (.str b) false)) : runs Γ gl (⟨d, .b2s x, none, af⟩ :: r) K s := by
  obtain ⟨nl, xs, hv, hl, hn⟩ := nf_sl hx
  rw [nf_bytes hl] at hv
  exact x_step (s' := s.put d (.str b) false) (by rw [e_b2s, hv]; simp [vB2s, toBytes_encB]) k
theorem x_b2sO {x : Opd} {b : Bytes} {id off len cap : Nat} {l : List V} (hx : evO s.tm x = .osl id off len cap 1) (hc : Cells s id l) (hle : off + len ≤ l.length) (hb : (l.drop off).take len = b.map byteV) (k : runs Γ gl r K (s.put d (.str b) false)) : runs Γ gl (⟨d, .b2s x, none, af⟩ :: r) K s := by
  obtain ⟨cs, hv, rfl⟩ := hc
  rw [← nfL_drop, ← nfL_take] at hb
  refine x_step (s' := s.put d (.str b) false) ?_ k
  rw [e_b2s, hx]
  simp only [nfL_length] at hle
  simp [vB2s, hv, hle, nf_bytes hb, toBytes_encB]
theorem x_i2i {kd ke : IntKind} {x : Opd} {n : Int} (hx : evO s.tm x = .int ke n) (k : runs Γ gl r K (s.put d (.int kd (kd.wrap n)) false)) : runs Γ gl (⟨d, .i2i kd x, none, af⟩ :: r) K s :=
  x_step (s' := s.put d (.int kd (kd.wrap n)) false) (by rw [e_i2i, hx]; rfl) k
theorem x_s2s {x : Opd} {b : Bytes} (hx : evO s.tm x = .str b) (k : runs Γ gl r K (s.put d (.str b) false)) : runs Γ gl (⟨d, .s2s x, none, af⟩ :: r) K s :=
  x_step (s' := s.put d (.str b) false) (by rw [e_s2s, hx]; rfl) k
theorem flat_encB : ∀ b : Bytes, (encB b).flatMap V.cells = encB b
  | [] => rfl
  | c :: b => by
    have ih := flat_encB b
    simp only [encB, List.map_cons, List.flatMap_cons] at ih ⊢; rw [ih]; rfl
theorem x_s2a {n : Nat} {x : Opd} {b : Bytes} (hx : (evO s.tm x).nf = .sl false 1 (b.map byteV)) (hn : n ≤ b.length) (h0 : b ≠ []) (k : ∀ v, v.nf = .el (b.map byteV) 0 → runs Γ gl r K (s.put d v false)) : runs Γ gl (⟨d, .s2a n x, none, af⟩ :: r) K s := by
  obtain ⟨nl, xs, hv, hl, hnl⟩ := nf_sl hx
  have hx' := nf_bytes hl
  subst hx'
  have hf : fits 1 (encB b) = true := by
    unfold fits encB; simp [byteV, V.sc]
  have hfl : (encB b).flatMap V.cells = encB b := flat_encB b
  have hne : encB b ≠ [] := by simpa [encB] using h0
  have : nl = false := by cases nl; rfl; exact absurd (hnl rfl) hne
  subst this
  refine x_step (s' := s.put d (.el (encB b) 0) false) ?_ (k _ ?_)
  · rw [e_s2a, hv]; simp [vS2a, hn, hne, hf, hfl]
  · show V.el (nfL (encB b)) 0 = _
    rw [nf_encB]; rfl

/-! calls -/
theorem x_call {f : Nat} {xs : List Opd} {avs : List V} {y : V} {own : Bool} (hx : xs.map (fun x => (evO s.tm x).nf) = avs) (hC : ∀ args, nfL args = avs → ∃ v o, Γ f args = some (v, o) ∧ v.nf = y ∧ (own = true → Own v o))
    (k : ∀ v o, v.nf = y → (own = true → Own v o) → runs Γ gl r K (s.put d v o)) : runs Γ gl (⟨d, .call f xs, none, af⟩ :: r) K s := by
  obtain ⟨v, o, h1, h2, h3⟩ := hC (xs.map (evO s.tm)) (by rw [nfL_map, List.map_map]; exact hx)
  exact x_step (s' := s.put d v o) (by rw [e_call, h1]; rfl) (k v o h2 h3)
theorem x_callv {f : Opd} {g : Nat} {cs : List V} {xs : List Opd} {avs : List V} {y : V} {own : Bool} (hf : (evO s.tm f).nf = .fn g cs) (hx : xs.map (fun x => (evO s.tm x).nf) ++ cs = avs) (hC : ∀ args, nfL args = avs → ∃ v o, Γ g args = some (v, o) ∧ v.nf = y ∧ (own = true → Own v o))
    (k : ∀ v o, v.nf = y → (own = true → Own v o) → runs Γ gl r K (s.put d v o)) : runs Γ gl (⟨d, .callv f xs, none, af⟩ :: r) K s := by
  obtain ⟨cs', hv, rfl⟩ := nf_fn hf
  obtain ⟨v, o, h1, h2, h3⟩ := hC (xs.map (evO s.tm) ++ cs') (by rw [nfL_append, nfL_map, List.map_map]; exact hx)
  exact x_step (s' := s.put d v o) (by rw [e_callv, hv]; simp [vCallv, h1]) (k v o h2 h3)
theorem x_mkf {f : Nat} {xs : List Opd} {cs : List V} (hx : xs.map (fun x => (evO s.tm x).nf) = cs) (k : ∀ v, v.nf = .fn f cs → runs Γ gl r K (s.put d v false)) : runs Γ gl (⟨d, .mkf f xs, none, af⟩ :: r) K s :=
  x_step (e_mkf f xs) (k _ (by show V.fn f (nfL (xs.map (evO s.tm))) = _; rw [nfL_map, List.map_map, ← hx]; rfl))

/-! rows made and appended to -/
theorem x_mks {sz : Nat} {z : List V} {l c : Opd} {ka kb : IntKind} {n : Int} (hl : evO s.tm l = .int ka 0) (hc : evO s.tm c = .int kb n) (hn : 0 ≤ n ∧ n ≤ Lim) (k : ∀ v o, v.nf = .sl false sz [] → Own v o → runs Γ gl r K (s.put d v o)) : runs Γ gl (⟨d, .mks sz z l c, none, af⟩ :: r) K s :=
  x_step (s' := s.put d (.sl false sz []) true) (by rw [e_mks, hl, hc]; simp [vMks, hn]) (k _ _ rfl (.inl rfl))
/-- other rights to append -/
def ow (s : St) (f : Pos → Bool) : St := { s with own := f }
/-- what is appended -/
def Tail (s : St) (sz : Nat) (x : Opd) (l : List V) : Prop := ∃ ys, vTail s.H sz (evO s.tm x) = some ys ∧ nfL ys = l
theorem tail_sl {sz : Nat} {x : Opd} {l : List V} (hx : (evO s.tm x).nf = .sl false sz l) : Tail s sz x l := by
  obtain ⟨nl, xs, hv, hl, _⟩ := nf_sl hx
  exact ⟨xs, by rw [hv, vTail_sl], hl⟩
theorem tail_str {x : Opd} {b : Bytes} (hx : evO s.tm x = .str b) : Tail s 1 x (b.map byteV) := ⟨encB b, by rw [hx, vTail_str], by rw [nf_encB]; rfl⟩
def appL {α : Type} (l m : List α) : Option (List α) := if l.length + m.length ≤ Lim then some (l ++ m) else none
theorem x_app {α : Type} {E : α → V} {l m q : List α} {t : Nat} {x : Opd} {sz : Nat} (hs : (s.tm t).nf = .sl false sz (l.map E)) (ho : OwnS s t) (hx : Tail s sz x (m.map E)) (hq : appL l m = some q)
    (k : ∀ v o f, v.nf = .sl false sz (q.map E) → Own v o → (∀ u, u ≠ .slot t → f u = s.own u) → runs Γ gl r K ((ow s f).put d v o)) : runs Γ gl (⟨d, .app sz (.tmp t) x, none, af⟩ :: r) K s := by
  obtain ⟨nl, xs, hv, hl, hn⟩ := nf_sl hs
  obtain ⟨ys, hy, hm⟩ := hx
  have hlx : xs.length = l.length := by have := congrArg List.length hl; simpa using this
  have hly : ys.length = m.length := by have := congrArg List.length hm; simpa using this
  unfold appL at hq
  split at hq
  · rename_i hle
    cases hq
    cases nl with
    | true =>
      obtain rfl := hn rfl
      have hl0 : l = [] := by have := congrArg List.length hl; simp at this; exact List.length_eq_zero_iff.1 this.symm
      subst hl0
      refine x_step (s' := s.put d (.sl ys.isEmpty sz ys) true) ?_ (k _ _ s.own ?_ (.inl rfl) fun _ _ => rfl)
      · rw [e_app, evO_tmp, hv, vApp_nil, hy]
        have : ys.length ≤ Lim := by simp at hle; omega
        simp [this]
      · rw [sl_nf (by simp), hm]; simp
    | false =>
      have ho' : s.own (.slot t) = true := by
        rcases ho with h | ⟨z, h⟩
        · exact h
        · rw [hv] at h; cases h
      refine x_step (s' := (ow s (updP s.own (.slot t) false)).put d (.sl false sz (xs ++ ys)) true) ?_ (k _ _ _ ?_ (.inl rfl) fun u hu => ?_)
      · rw [e_app, evO_tmp, hv, ownO_tmp, ho', vApp_sl, hy]
        simp [hlx, hly, hle]; rfl
      · show V.sl false sz (nfL (xs ++ ys)) = _
        rw [nfL_append, hl, hm]; simp
      · simp [updP, hu]
  · cases hq

/-! objects -/
theorem cells_put {id : Nat} {l : List V} {v : V} {o : Bool} (h : Cells s id l) : Cells (s.put d v o) id l := by cases d <;> exact h
theorem x_new {cs : List V} {l : List V} (hl : nfL cs = l) (k : ∀ id, id = s.nH → Cells (s.new cs) id l → runs Γ gl r K ((s.new cs).put d (.ptr id 0) false)) : runs Γ gl (⟨d, .new cs, none, af⟩ :: r) K s :=
  x_step (e_new cs) (k _ rfl ⟨cs, by simp, hl⟩)
theorem cells_new {id : Nat} {l : List V} {cs : List V} (hi : id < s.nH) (h : Cells s id l) : Cells (s.new cs) id l := by
  obtain ⟨c, h1, h2⟩ := h
  exact ⟨c, by rw [hCells_new, if_neg (by omega), h1], h2⟩
theorem x_box {x : Opd} {l : List V} (hl : (evO s.tm x).nf.cells = l) (hc : l.all V.sc = true) (k : ∀ cs id, id = s.nH → nfL cs = l → Cells (s.new cs) id l → runs Γ gl r K ((s.new cs).put d (.ptr id 0) false)) : runs Γ gl (⟨d, .box x, none, af⟩ :: r) K s := by
  rw [nf_cells] at hl
  have : (evO s.tm x).cells.all V.sc = true := nfL_sc (by rw [hl]; exact hc)
  exact x_step (s' := (s.new (evO s.tm x).cells).put d (.ptr s.nH 0) false) (by rw [e_box, if_pos this]) (k _ _ rfl hl ⟨_, by simp, hl⟩)
theorem x_store {n : Nat} {a x : Opd} {i o : Nat} {l ws l' : List V} (ha : evO s.tm a = .ptr i o) (hc : Cells s i l) (hx : (evO s.tm x).nf.cells = ws) (hn : ws.length = n ∧ ws.all V.sc = true ∧ o + n ≤ l.length) (hl : setAt l o ws = l')
    (k : ∀ cs ys, hCells s.H i = some cs → ys.length = n → Cells (s.setOb i cs o ys) i l' → (∀ j, NilAt (evO s.tm x) j → OwnC (s.setOb i cs o ys) i (o + j)) → runs Γ gl r K ((s.setOb i cs o ys).put d Nil false)) : runs Γ gl (⟨d, .store n a x, none, af⟩ :: r) K s := by
  obtain ⟨cs, hv, rfl⟩ := hc
  rw [nf_cells] at hx
  subst hx
  simp only [nfL_length] at hn
  refine x_step (s' := (s.setOb i cs o (evO s.tm x).cells).put d Nil false) ?_ (k cs _ hv hn.1 ⟨_, by simp; rfl, by rw [nfL_setAt, hl]⟩ fun j hj c v hc hv' => ?_)
  case refine_2 =>
    obtain ⟨ds, sz, he, hd⟩ := hj
    rw [hCells_setOb, if_pos rfl] at hc
    cases hc
    rw [he] at hv'
    have hjl : j < ds.length := (List.getElem?_eq_some_iff.1 hd).1
    have hle : o ≤ cs.length := by omega
    simp only [setAt, cells_agg] at hv'
    rw [List.getElem?_append_left (by simp; omega), List.getElem?_append_right (by simp; omega)] at hv'
    simp only [List.length_take, Nat.min_eq_left hle, Nat.add_sub_cancel_left] at hv'
    rw [hd] at hv'; cases hv'
    exact .inr ⟨sz, rfl⟩
  rw [e_store, ha, doStore_ptr, hv]
  simp only [Option.bind_some]
  rw [if_pos ⟨hn.1, nfL_sc hn.2.1, hn.2.2⟩]
theorem cells_setOb {id i : Nat} {l : List V} {cs ys : List V} {o : Nat} (hi : id ≠ i) (h : Cells s id l) : Cells (s.setOb i cs o ys) id l := by
  obtain ⟨c, h1, h2⟩ := h
  exact ⟨c, by rw [hCells_setOb, if_neg hi, h1], h2⟩
theorem ownC_setOb {i j : Nat} {cs ys : List V} {o : Nat} (hcs : hCells s.H i = some cs) (hj : j < o ∨ o + ys.length ≤ j) (hlo : o ≤ cs.length) (h : OwnC s i j) : OwnC (s.setOb i cs o ys) i j := by
  intro c v hc hv
  rw [hCells_setOb, if_pos rfl] at hc
  cases hc
  have hv' : cs[j]? = some v := by
    rw [← hv]
    simp only [setAt]
    rcases hj with hj | hj
    · rw [List.getElem?_append_left (by simp; omega), List.getElem?_append_left (by simp; omega), List.getElem?_take, if_pos hj]
    · rw [List.getElem?_append_right (by simp; omega)]
      simp only [List.length_append, List.length_take, Nat.min_eq_left hlo, List.getElem?_drop]
      congr 1; omega
  have := h cs v hcs hv'
  rw [setOb_ownc, if_neg (by omega)]; exact this
/-- a row is put into an object, with the right to append to it -/
theorem x_sto {a : Opd} {t : Nat} {i o : Nat} {l l' : List V} {y : V} (ha : evO s.tm a = .ptr i o) (hc : Cells s i l) (hx : (s.tm t).nf = y) (hy : y.sc = true) (hn : o < l.length) (hl : setAt l o [y] = l')
    (k : ∀ cs, hCells s.H i = some cs → Cells (s.stoOb i cs o t) i l' → (OwnS s t → OwnC (s.stoOb i cs o t) i o) → runs Γ gl r K ((s.stoOb i cs o t).put d Nil false)) : runs Γ gl (⟨d, .sto a t, none, af⟩ :: r) K s := by
  obtain ⟨cs, hv, rfl⟩ := hc
  subst hx
  simp only [nfL_length] at hn
  rw [nf_sc] at hy
  refine x_step (s' := (s.stoOb i cs o t).put d Nil false) ?_ (k cs hv ⟨_, by simp; rfl, by rw [nfL_setAt, ← hl]; rfl⟩ fun ho c v hc hv => ?_)
  · rw [e_sto, ha, doSto_ptr, hv]
    simp only [Option.bind_some]
    rw [if_pos ⟨hy, hn⟩]
  · rw [hCells_stoOb, if_pos rfl] at hc
    cases hc
    have : v = s.tm t := by
      simp only [setAt] at hv
      rw [List.getElem?_append_left (by simp; omega), List.getElem?_append_right (by simp; omega)] at hv
      simpa [Nat.min_eq_left (Nat.le_of_lt hn)] using hv.symm
    subst this
    rw [stoOb_ownc, if_pos ⟨rfl, rfl⟩]; exact ho
theorem cells_stoOb {id i : Nat} {l : List V} {cs : List V} {o t : Nat} (hi : id ≠ i) (h : Cells s id l) : Cells (s.stoOb i cs o t) id l := by
  obtain ⟨c, h1, h2⟩ := h
  exact ⟨c, by rw [hCells_stoOb, if_neg hi, h1], h2⟩
theorem x_slca {n sz : Nat} {x : Opd} {i o : Nat} (hx : evO s.tm x = .ptr i o) (k : runs Γ gl r K (s.put d (.osl i o n n sz) false)) : runs Γ gl (⟨d, .slca n sz x none none none, none, af⟩ :: r) K s :=
  x_step (s' := s.put d (.osl i o n n sz) false) (by rw [e_slca, hx]; simp [vSlca, vOpt, cut3]) k
theorem x_iarr {n sz : Nat} {x j : Opd} {i o : Nat} {kd : IntKind} {m : Int} (hx : evO s.tm x = .ptr i o) (hj : evO s.tm j = .int kd m) (hm : 0 ≤ m ∧ m < n) (k : runs Γ gl r K (s.put d (.ptr i (o + m.toNat * sz)) false)) : runs Γ gl (⟨d, .iarr n sz x j, none, af⟩ :: r) K s :=
  x_step (s' := s.put d (.ptr i (o + m.toNat * sz)) false) (by rw [e_iarr, hx, hj]; simp [vIarr, hm]) k
theorem x_iarr_el {n sz : Nat} {x j : Opd} {l : List V} {o : Nat} {kd : IntKind} {m : Int} (hx : (evO s.tm x).nf = .el l o) (hj : evO s.tm j = .int kd m) (hm : 0 ≤ m ∧ m < n) (k : ∀ v, v.nf = .el l (o + m.toNat * sz) → runs Γ gl r K (s.put d v false)) : runs Γ gl (⟨d, .iarr n sz x j, none, af⟩ :: r) K s := by
  obtain ⟨cs, hv, rfl⟩ := nf_el hx
  exact x_step (s' := s.put d (.el cs (o + m.toNat * sz)) false) (by rw [e_iarr, hv, hj]; simp [vIarr, hm]) (k _ rfl)

/-! ## code -/
variable {Q : Ex → St → Prop} {a b : ACode}
theorem x_seq (k : awp Γ gl a (thenQ (awp Γ gl b Q) Q) s) : awp Γ gl (.seq a b) Q s := k
theorem x_skip (k : Q .normal s) : awp Γ gl .skip Q s := k
theorem x_retc (k : Q .ret s) : awp Γ gl .ret Q s := k
theorem x_exitc {i : Nat} (k : Q (.exit i) s) : awp Γ gl (.exit i) Q s := k
theorem x_tN {K : St → Prop} (k : K s) : thenQ K Q .normal s := k
theorem x_tE {K : St → Prop} {i : Nat} (k : Q (.exit i) s) : thenQ K Q (.exit i) s := k
theorem x_tR {K : St → Prop} (k : Q .ret s) : thenQ K Q .ret s := k
theorem x_bN {i : Nat} (k : Q .normal s) : blockQ i Q .normal s := k
theorem x_bR {i : Nat} (k : Q .ret s) : blockQ i Q .ret s := k
theorem x_bE {i : Nat} (k : Q .normal s) : blockQ i Q (.exit i) s := by rw [blockQ_exit, if_pos rfl]; exact k
theorem x_bX {i j : Nat} (h : j ≠ i) (k : Q (.exit j) s) : blockQ i Q (.exit j) s := by rw [blockQ_exit, if_neg h]; exact k
theorem x_block {i : Nat} (k : awp Γ gl a (blockQ i Q) s) : awp Γ gl (.block i a) Q s := k
theorem x_ct {c : Opd} {p : Bool} (h : evO s.tm c = .bool p) (hp : p = true) (k : awp Γ gl a Q s) : awp Γ gl (.cond c a b) Q s := by
  subst hp; rw [awp_cond, h, condA_true]; exact k
theorem x_cf {c : Opd} {p : Bool} (h : evO s.tm c = .bool p) (hp : p = false) (k : awp Γ gl b Q s) : awp Γ gl (.cond c a b) Q s := by
  subst hp; rw [awp_cond, h, condA_false]; exact k

/-! ## contracts -/
structure FC where
  f : Nat
  mt : List V → Bool
  own : Bool
  rel : List V → V → Prop
  clean : ∀ avs y, rel avs y → cleanL avs = true ∧ y.clean = true
  fn : ∀ avs y z, rel avs y → rel avs z → y = z

def FC.Holds (cx : Cx) (c : FC) : Prop := ∀ args y, c.rel (nfL args) y → ∃ v o, PC cx c.f args (v, o) ∧ v.nf = y ∧ (c.own = true → Own v o)

def FC.Good (cx : Cx) (c : FC) (args : List V) (p : V × Bool) : Prop := PC cx c.f args p ∧ ∃ y, c.rel (nfL args) y ∧ p.1.nf = y ∧ (c.own = true → Own p.1 p.2)
open Classical in
noncomputable def specOf (cx : Cx) (cs : List FC) : Abs.Spec := ⟨fun f args =>
  match cs.find? (fun c => c.f == f && c.mt (nfL args)) with
  | some c => if h : ∃ p, c.Good cx args p then some h.choose else none
  | none => none, fun _ _ _ => none⟩
theorem specOf_sound (cx : Cx) (cs : List FC) : Sound cx (specOf cx cs) := by
  refine ⟨?_, fun _ _ _ _ h => by cases h⟩
  intro f args p hp
  unfold specOf at hp
  simp only at hp
  split at hp
  · rename_i c hc
    split at hp
    · rename_i hex
      simp only [Option.some.injEq] at hp
      have h1 := hex.choose_spec.1
      have h2 := List.find?_some hc
      simp only [Bool.and_eq_true, beq_iff_eq] at h2
      rw [hp, h2.1] at h1
      exact h1
    · cases hp
  · cases hp
theorem specOf_eq {cx : Cx} {cs : List FC} {c : FC} {args : List V} {y : V} (hc : c.Holds cx) (hf : cs.find? (fun d => d.f == c.f && d.mt (nfL args)) = some c) (hr : c.rel (nfL args) y) :
    ∃ v o, specOf cx cs c.f args = some (v, o) ∧ v.nf = y ∧ (c.own = true → Own v o) := by
  unfold specOf
  simp only
  rw [hf]
  obtain ⟨v, o, h1, h2, h3⟩ := hc args y hr
  have hex : ∃ p, c.Good cx args p := ⟨(v, o), h1, y, hr, h2, h3⟩
  simp only [dif_pos hex]
  obtain ⟨y', q1, q2, q3⟩ := hex.choose_spec.2
  exact ⟨_, _, rfl, q2.trans (c.fn _ _ _ q1 hr), q3⟩

/-- what a code comes to is one thing -/
theorem awp_det : ∀ {c : ACode} {Q : Ex → St → Prop} {s : St}, awp Γ gl c Q s → ∃ e t, Q e t ∧ ∀ Q' : Ex → St → Prop, Q' e t → awp Γ gl c Q' s := by
  intro c
  induction c with
  | skip => intro Q s h; exact ⟨_, _, h, fun _ h => h⟩
  | region ops dr =>
    intro Q s h
    simp only [awp] at h ⊢
    unfold someP at h ⊢
    split at h
    · exact ⟨_, _, h, fun _ h => h⟩
    · exact h.elim
  | seq a b iha ihb =>
    intro Q s h
    obtain ⟨e, t, h1, h2⟩ := iha h
    cases e with
    | normal =>
      obtain ⟨e, t', h3, h4⟩ := ihb h1
      exact ⟨e, t', h3, fun Q' h => h2 _ (h4 Q' h)⟩
    | exit i => exact ⟨_, t, h1, fun Q' h => h2 _ h⟩
    | ret => exact ⟨_, t, h1, fun Q' h => h2 _ h⟩
  | cond c a b iha ihb =>
    intro Q s h
    simp only [awp] at h ⊢
    unfold condP at h ⊢
    split at h
    · exact iha h
    · exact ihb h
    · exact h.elim
  | block id b ih =>
    intro Q s h
    obtain ⟨e, t, h1, h2⟩ := ih h
    exact ⟨_, t, h1, fun Q' h => h2 _ h⟩
  | loop b ih =>
    intro Q s h
    obtain ⟨n, h⟩ := h
    induction n generalizing s with
    | zero => exact h.elim
    | succ n ihn =>
      obtain ⟨e, t, h1, h2⟩ := ih h
      cases e with
      | normal =>
        obtain ⟨e, t', h3, h4⟩ := ihn h1
        refine ⟨e, t', h3, fun Q' h => ?_⟩
        obtain ⟨m, hm⟩ := h4 Q' h
        exact ⟨m + 1, h2 _ hm⟩
      | exit i => exact ⟨_, t, h1, fun Q' h => ⟨1, h2 _ h⟩⟩
      | ret => exact ⟨_, t, h1, fun Q' h => ⟨1, h2 _ h⟩⟩
  | exit id => intro Q s h; exact ⟨_, _, h, fun _ h => h⟩
  | ret => intro Q s h; exact ⟨_, _, h, fun _ h => h⟩
  | fail => intro Q s h; exact h.elim

/-- a function's end -/
def EndsX (res : List RS) (own : Bool) (y : V) (s : St) : Prop := ∃ p, resOf res s = some p ∧ p.1.nf = y ∧ (own = true → Own p.1 p.2)
def endQ (res : List RS) (own : Bool) (y : V) : Ex → St → Prop
  | .exit _, _ => False
  | _, s => EndsX res own y s

theorem FC.holds_of {cx : Cx} (hgl : GlOK cx) (hm : cx.P.follows .mixedOrders = true) {cs : List FC} {c : FC} {F : AFn} (hf : cFn cx.P c.f = some F) (hl : ∀ avs y, c.rel avs y → avs.length ≤ F.n)
    (h : ∀ args y, c.rel (nfL args) y → awp (specOf cx cs) cx.gl F.body (endQ F.res c.own y) (St.init args)) : c.Holds cx := by
  intro args y hr
  obtain ⟨e, t, h1, h2⟩ := awp_det (h args y hr)
  obtain ⟨hc1, hc2⟩ := c.clean _ _ hr
  have hlen := hl _ _ hr
  rw [nfL_length] at hlen
  have he : EndsX F.res c.own y t := by cases e <;> first | exact h1 | exact h1.elim
  obtain ⟨p, hp, hp1, hp2⟩ := he
  refine ⟨p.1, p.2, pc_of_awp hgl hm (specOf_sound cx cs) hf hlen (nfL_clean hc1) (nf_clean (by rw [hp1]; exact hc2)) (h2 _ ?_), hp1, hp2⟩
  cases e with
  | normal => exact ⟨p, hp, rfl, fun h => h⟩
  | ret => exact ⟨p, hp, rfl, fun h => h⟩
  | exit i => exact h1.elim

theorem cleanL_mk {v : V} {r : List V} (h : v.clean = true) (k : cleanL r = true) : cleanL (v :: r) = true := by rw [cleanL_cons, h, k]; rfl
/-- of a Lean function -/
def fc {α β : Type} (f : Nat) (mt : List V → Bool) (own : Bool) (ea : α → List V) (eb : β → V) (g : α → Option β) (ha : ∀ a, cleanL (ea a) = true) (hb : ∀ b, (eb b).clean = true) (hi : ∀ a b, ea a = ea b → a = b) : FC where
  f := f
  mt := mt
  own := own
  rel avs y := ∃ a x, avs = ea a ∧ g a = some x ∧ y = eb x
  clean := by
    rintro avs y ⟨a, x, rfl, _, rfl⟩
    exact ⟨ha a, hb x⟩
  fn := by
    rintro avs y z ⟨a, x, rfl, h1, rfl⟩ ⟨a', x', h2, h3, rfl⟩
    obtain rfl := hi _ _ h2
    rw [h1] at h3
    cases h3; rfl

/-! ## small words -/
theorem nf_of {v w : V} (h : w.nf = w) (e : v = w) : v.nf = w := by rw [e]; exact h
theorem cons_eq {α : Type} {a b : α} {l m : List α} (h : a = b) (k : l = m) : a :: l = b :: m := by rw [h, k]
theorem part_eq {o n : Nat} {v w : V} {l m : List (Nat × Nat × V)} (h : v = w) (k : l = m) : (o, n, v) :: l = (o, n, w) :: m := by rw [h, k]
theorem bnot_t {b : Bool} (h : b = true) : (!b) = false := by rw [h]; rfl
theorem bnot_f {b : Bool} (h : b = false) : (!b) = true := by rw [h]; rfl
theorem cells_of {v w : V} {l : List V} (h : w.cells = l) (k : v.nf = w) : v.nf.cells = l := by rw [k]; exact h
theorem at_k {α : Type} {l : List α} {k : Nat} {a : α} (h : l[k]? = some a) : at? l ((k : Nat) : Int) = some a := by rw [at?_nat]; exact h
def wi (n : Int) : Int := IntKind.wrap .i64 n
theorem wi_of {n : Int} (h : -9223372036854775808 ≤ n) (k : n ≤ 9223372036854775807) : wi n = n := w64 n ⟨h, k⟩
theorem wi_succ {k : Nat} (h : k < 4294967297) : wi (((k : Nat) : Int) + 1) = ((k + 1 : Nat) : Int) := by rw [wi_of (by omega) (by omega)]; rfl
def fuel : Nat := 1000000000000
theorem nfL_cons {v : List V} {x : V} {r : List V} (h : nfL v = x :: r) : ∃ a v', v = a :: v' ∧ a.nf = x ∧ nfL v' = r := by
  cases v with
  | nil => cases h
  | cons a v' => rw [nfL] at h; obtain ⟨h1, h2⟩ := List.cons.inj h; exact ⟨a, v', rfl, h1, h2⟩
theorem nfL_nil {v : List V} (h : nfL v = []) : v = [] := by
  cases v with
  | nil => rfl
  | cons a v' => cases h
theorem map_inj {α β : Type} {f : α → β} (hf : ∀ x y, f x = f y → x = y) {l m : List α} (h : l.map f = m.map f) : l = m := (List.map_inj_right hf).1 h
theorem byteV_inj {a b : UInt8} (h : byteV a = byteV b) : a = b := by
  simp only [byteV, V.int.injEq, true_and] at h
  exact UInt8.toNat_inj.1 (by omega)
theorem encB_inj {a b : Bytes} (h : encB a = encB b) : a = b := map_inj (fun _ _ => byteV_inj) h
theorem cleanL_app (a b : List V) : cleanL (a ++ b) = (cleanL a && cleanL b) := by
  induction a with
  | nil => simp
  | cons x a ih => simp [ih, Bool.and_assoc]
theorem append_inj_l {α : Type} {a b c d : List α} (h : a ++ b = c ++ d) (hl : b.length = d.length) : a = c := (List.append_inj' h hl).1
theorem append_inj_r {α : Type} {a b c d : List α} (h : a ++ b = c ++ d) (hl : b.length = d.length) : b = d := (List.append_inj' h hl).2

/-! rows of bytes of one length -/
def Arr (n : Nat) : Type := { l : Bytes // l.length = n }
instance (n : Nat) : DecidableEq (Arr n) := fun a b => if h : a.1 = b.1 then isTrue (Subtype.ext h) else isFalse fun e => h (by rw [e])
theorem Arr.h {n : Nat} (a : Arr n) : a.1.length = n := a.2
theorem Arr.ext {n : Nat} {a b : Arr n} (h : a.1 = b.1) : a = b := Subtype.ext h
def Arr.zero (n : Nat) : Arr n := ⟨List.replicate n 0, by simp⟩
def Arr.set {n : Nat} (a : Arr n) (i : Int) (b : UInt8) : Arr n := ⟨a.1.set i.toNat b, by simp [a.2]⟩
theorem encB_zero (n : Nat) : encB (List.replicate n 0) = List.replicate n (.int .u8 0) := by simp [encB, byteV]
theorem nf_repl (n : Nat) : nfL (repl n (.int .u8 0)) = List.replicate n (.int .u8 0) := by rw [nfL_map]; simp [repl, V.nf]
theorem nf_zero (n : Nat) : nfL (repl n (.int .u8 0)) = encB (Arr.zero n).1 := by rw [nf_repl]; simp [Arr.zero, encB_zero]
def toArr (n : Nat) (b : Bytes) : Option (Arr n) := if h : b.length = n then some ⟨b, h⟩ else none
theorem toArr_eq {n : Nat} {b : Bytes} {a : Arr n} (h : toArr n b = some a) : a.1 = b := by
  unfold toArr at h; split at h
  · cases h; rfl
  · cases h
theorem toArr_len {n : Nat} {b : Bytes} {a : Arr n} (h : toArr n b = some a) : b.length = n := by rw [← toArr_eq h]; exact a.2
theorem toArr_le {n : Nat} {b : Bytes} {a : Arr n} (h : toArr n b = some a) : n ≤ b.length := by rw [toArr_len h]; exact Nat.le_refl _
theorem toArr_ne {n : Nat} {b : Bytes} {a : Arr n} (h : toArr n b = some a) (hn : n ≠ 0) : b ≠ [] := by
  rintro rfl; exact hn (toArr_len h).symm
def inR (n : Nat) (i : Int) : Option Unit := if 0 ≤ i ∧ i < n then some () else none
theorem inR_ok {n : Nat} {i : Int} {u : Unit} (h : inR n i = some u) : 0 ≤ i ∧ i < n := by
  unfold inR at h; split at h
  · assumption
  · cases h
theorem set_ok {n : Nat} {i : Int} {a : Arr n} {v : V} (h : 0 ≤ i ∧ i < n) (hv : v.sc = true := by rfl) : ([v] : List V).length = 1 ∧ ([v] : List V).all V.sc = true ∧ 0 + i.toNat * 1 + 1 ≤ (encB a.1).length := by
  refine ⟨rfl, by simp [hv], ?_⟩
  rw [encB_length, a.2]; omega
theorem set_arr {n : Nat} {i : Int} {a : Arr n} {b : UInt8} (h : 0 ≤ i ∧ i < n) : setAt (encB a.1) (0 + i.toNat * 1) [V.int .u8 ((b : UInt8).toNat : Int)] = encB (a.set i b).1 := by
  have hl : i.toNat < a.1.length := by rw [a.2]; omega
  have : 0 + i.toNat * 1 = i.toNat := by omega
  rw [this]
  simp only [setAt, Arr.set, encB]
  refine List.ext_getElem? fun j => ?_
  rw [List.getElem?_map, List.getElem?_set]
  by_cases h1 : j < i.toNat
  · rw [List.getElem?_append_left (by simp; omega), List.getElem?_append_left (by simp; omega), List.getElem?_take, if_pos h1, if_neg (by omega), List.getElem?_map]
  · by_cases h2 : j = i.toNat
    · subst h2
      rw [List.getElem?_append_left (by simp; omega), List.getElem?_append_right (by simp; omega)]
      simp [hl, byteV, Nat.min_eq_left (Nat.le_of_lt hl)]
    · rw [if_neg (by omega), List.getElem?_append_right (by simp; omega)]
      simp only [List.length_append, List.length_take, List.length_map, List.length_cons, List.length_nil, Nat.min_eq_left (Nat.le_of_lt hl), List.getElem?_drop, List.getElem?_map]
      congr 2; omega

/-! lengths -/
theorem enc_len {n : Nat} (a : Arr n) : (encB a.1).length = n := by rw [encB_length, a.2]
theorem encB_sc (l : Bytes) : (encB l).all V.sc = true := by simp
theorem len_app {a b : List V} {n m : Nat} (h : a.length = n) (k : b.length = m) : (a ++ b).length = n + m := by rw [List.length_append, h, k]
theorem sc_app {a b : List V} (h : a.all V.sc = true) (k : b.all V.sc = true) : (a ++ b).all V.sc = true := by rw [List.all_append, h, k]; rfl
theorem clean_app {a b : List V} (h : cleanL a = true) (k : cleanL b = true) : cleanL (a ++ b) = true := by rw [cleanL_app, h, k]; rfl
theorem le_len {l : List V} {n x : Nat} (h : l.length = n) (k : x ≤ n) : x ≤ l.length := by rw [h]; exact k
theorem lt_len {l : List V} {n x : Nat} (h : l.length = n) (k : x < n) : x < l.length := by rw [h]; exact k
/-! cells -/
theorem ld_all {l : List V} {n : Nat} (h : l.length = n) : ldCells (some n) l 0 = some (.agg l) := ldCells_full h
theorem ld_arr {n : Nat} (a : Arr n) : ldCells (some n) (encB a.1) 0 = some (.agg (encB a.1)) := ldCells_full (by rw [encB_length, a.2])
theorem ld_left {n : Option Nat} {a b : List V} {o : Nat} (h : o + n.getD 1 ≤ a.length) : ldCells n (a ++ b) o = ldCells n a o := by
  cases n with
  | none => simp only [Option.getD_none] at h; rw [ldCells_none, ldCells_none, List.getElem?_append_left (by omega)]
  | some k =>
    simp only [Option.getD_some] at h
    rw [ldCells_some, ldCells_some, if_pos (by simp; omega), if_pos h, List.drop_append_of_le_length (by omega), List.take_append_of_le_length (by simp; omega)]
theorem ld_right {n : Option Nat} {a b : List V} {o : Nat} (k : Nat) (h : a.length = k) (ho : k ≤ o := by decide) : ldCells n (a ++ b) o = ldCells n b (o - k) := by
  subst h
  cases n with
  | none => rw [ldCells_none, ldCells_none, List.getElem?_append_right ho]
  | some m =>
    rw [ldCells_some, ldCells_some, List.drop_append, List.drop_eq_nil_of_le ho]
    simp only [List.length_append, List.nil_append]
    by_cases hc : o - a.length + m ≤ b.length
    · rw [if_pos hc, if_pos (by omega)]
    · rw [if_neg hc, if_neg (by omega)]
theorem ld_get {l : List V} {o : Nat} {y : V} (h : ldCells none l o = some y) : l[o]? = some y := h
theorem ld_le {n : Nat} {l m : List V} {o : Nat} (h : ldCells (some n) l o = some (.agg m)) : o + n ≤ l.length := by
  rw [ldCells_some] at h; split at h
  · assumption
  · cases h
theorem ld_take {n : Nat} {l : List V} {b : Bytes} {o : Nat} (h : ldCells (some n) l o = some (.agg (encB b))) : (l.drop o).take n = b.map byteV := by
  rw [ldCells_some] at h; split at h
  · injection h with h; injection h
  · cases h
theorem set_left {a b y : List V} {o : Nat} (h : o + y.length ≤ a.length) : setAt (a ++ b) o y = setAt a o y ++ b := by
  simp only [setAt]
  rw [List.take_append_of_le_length (by omega), List.drop_append_of_le_length (by omega)]; simp
theorem set_right {a b y : List V} {o : Nat} (k : Nat) (h : a.length = k) (ho : k ≤ o := by decide) : setAt (a ++ b) o y = a ++ setAt b (o - k) y := by
  subst h
  simp only [setAt]
  rw [List.take_append, List.take_of_length_le ho, List.drop_append, List.drop_eq_nil_of_le (by omega)]
  simp only [List.append_assoc, List.nil_append]
  rw [show o + y.length - a.length = o - a.length + y.length by omega]
theorem fill_step {l l' q : List V} {o n : Nat} {v : V} {r : List (Nat × Nat × V)} (h : setAt l o v.cells = l') (hc : v.cells.length = n ∧ v.cells.all V.sc = true ∧ o + n ≤ l.length) (k : fillV l' r = some q) : fillV l ((o, n, v) :: r) = some q := by
  rw [fillV_cons, if_pos hc, h]; exact k
theorem fill_nil {l : List V} : fillV l [] = some l := rfl
theorem fill_from {z l q : List V} {ws : List (Nat × Nat × V)} (h : nfL z = l) (k : fillV l ws = some q) : fillV (nfL z) ws = some q := by rw [h]; exact k
theorem fits_map {α : Type} {E : α → V} {sz : Nat} (h : ∀ x, (E x).cells.length = sz ∧ (E x).cells.all V.sc = true) : ∀ l : List α, fits sz (l.map E) = true
  | [] => rfl
  | x :: r => by
    simp only [List.map_cons, fits_cons, fits_map h r, (h x).1, (h x).2, BEq.rfl, Bool.and_self]

/-! the right to append -/
theorem own_ow {s : St} {f : Pos → Bool} {t u : Nat} (hf : ∀ p, p ≠ .slot t → f p = s.own p) (h : OwnS s u) (hne : u ≠ t) : Own (s.tm u) (f (.slot u)) := by
  rw [hf _ (by simpa using hne)]; exact h
theorem ownC_ow {s : St} {f : Pos → Bool} {t i j : Nat} (hf : ∀ p, p ≠ .slot t → f p = s.own p) (h : OwnC s i j) : OwnC (ow s f) i j := fun cs v h1 h2 => by
  show Own v (f _)
  rw [hf _ (by simp)]; exact h cs v h1 h2
theorem ownC_new {s : St} {cs : List V} {i j : Nat} (hi : i < s.nH) (h : OwnC s i j) : OwnC (s.new cs) i j := fun c v h1 h2 => by
  rw [hCells_new, if_neg (by omega)] at h1
  rw [new_ownc, if_neg (by omega)]; exact h c v h1 h2
theorem ownC_nil {s : St} {cs : List V} {i j sz : Nat} (hi : i = s.nH) (h : cs[j]? = some (.sl true sz [])) : OwnC (s.new cs) i j := fun c v h1 h2 => by
  rw [hCells_new, if_pos hi] at h1
  cases h1
  rw [h] at h2; cases h2
  exact .inr ⟨sz, rfl⟩
theorem ownC_take {s : St} {id i j o : Nat} (hi : id ≠ i ∨ j ≠ o) (h : OwnC s id j) : OwnC (s.take (some (.cell i o))) id j := fun c v h1 h2 => by
  rw [take_own, if_neg (by simp; omega)]; exact h c v h1 h2
theorem ownC_setObo {s : St} {id i j : Nat} {cs ys : List V} {o : Nat} (hi : id ≠ i) (h : OwnC s id j) : OwnC (s.setOb i cs o ys) id j := fun c v h1 h2 => by
  rw [hCells_setOb, if_neg hi] at h1
  rw [setOb_ownc, if_neg (by omega)]; exact h c v h1 h2
theorem ownC_stoObo {s : St} {id i j : Nat} {cs : List V} {o t : Nat} (hi : id ≠ i) (h : OwnC s id j) : OwnC (s.stoOb i cs o t) id j := fun c v h1 h2 => by
  rw [hCells_stoOb, if_neg hi] at h1
  rw [stoOb_ownc, if_neg (by omega)]; exact h c v h1 h2
theorem ownC_stoOb {s : St} {i j : Nat} {cs : List V} {o t : Nat} (hcs : hCells s.H i = some cs) (hj : j ≠ o) (ho : o < cs.length) (h : OwnC s i j) : OwnC (s.stoOb i cs o t) i j := fun c v h1 h2 => by
  rw [hCells_stoOb, if_pos rfl] at h1
  cases h1
  rw [stoOb_ownc, if_neg (by omega)]
  refine h cs v hcs ?_
  rw [← h2]
  simp only [setAt]
  rcases Nat.lt_or_gt_of_ne hj with hj | hj
  · rw [List.getElem?_append_left (by simp; omega), List.getElem?_append_left (by simp; omega), List.getElem?_take, if_pos hj]
  · rw [List.getElem?_append_right (by simp; omega)]
    simp only [List.length_append, List.length_take, List.length_cons, List.length_nil, Nat.min_eq_left (Nat.le_of_lt ho), List.getElem?_drop]
    congr 1; omega
theorem cs_len {s : St} {i : Nat} {cs l : List V} (hcs : hCells s.H i = some cs) (hc : Cells s i l) : cs.length = l.length := by
  obtain ⟨c, h1, rfl⟩ := hc
  rw [hcs] at h1; cases h1; simp
theorem cs_le {s : St} {i o : Nat} {cs l : List V} (hcs : hCells s.H i = some cs) (hc : Cells s i l) (h : o ≤ l.length) : o ≤ cs.length := by rw [cs_len hcs hc]; exact h
theorem cs_lt {s : St} {i o : Nat} {cs l : List V} (hcs : hCells s.H i = some cs) (hc : Cells s i l) (h : o < l.length) : o < cs.length := by rw [cs_len hcs hc]; exact h

/-! values -/
section
variable {q : EqK} {a b : UInt8} {s t : Bytes} {x y : Bool}
theorem u8_i (a b : UInt8) : ((a.toNat : Int) = b.toNat) = (a = b) := propext ⟨fun h => UInt8.toNat_inj.1 (by omega), fun h => by rw [h]⟩
theorem u8_eql : abin .eql q (.int .u8 a.toNat) (.int .u8 b.toNat) = some (.bool (decide (a = b))) := by rw [b_eql]; simp only [u8_i]
theorem u8_neq : abin .neq q (.int .u8 a.toNat) (.int .u8 b.toNat) = some (.bool (!decide (a = b))) := by rw [b_neq]; simp only [u8_i]
theorem u8_l (a b : UInt8) : ((a.toNat : Int) < b.toNat) = (a < b) := propext ⟨fun h => UInt8.lt_iff_toNat_lt.2 (by omega), fun h => by have := UInt8.lt_iff_toNat_lt.1 h; omega⟩
theorem u8_le (a b : UInt8) : ((a.toNat : Int) ≤ b.toNat) = (a ≤ b) := propext ⟨fun h => UInt8.le_iff_toNat_le.2 (by omega), fun h => by have := UInt8.le_iff_toNat_le.1 h; omega⟩
theorem u8_lss : abin .lss q (.int .u8 a.toNat) (.int .u8 b.toNat) = some (.bool (decide (a < b))) := by rw [b_lss]; simp only [u8_l]
theorem u8_leq : abin .leq q (.int .u8 a.toNat) (.int .u8 b.toNat) = some (.bool (decide (a ≤ b))) := by rw [b_leq]; simp only [u8_le]
theorem u8_gtr : abin .gtr q (.int .u8 a.toNat) (.int .u8 b.toNat) = some (.bool (decide (b < a))) := by rw [b_gtr]; simp only [u8_l]
theorem u8_geq : abin .geq q (.int .u8 a.toNat) (.int .u8 b.toNat) = some (.bool (decide (b ≤ a))) := by rw [b_geq]; simp only [u8_le]
theorem s_leq2 : abin .leq q (.str s) (.str t) = some (.bool (!Op.bytesLess t s)) := by
  show some (V.bool (Op.bytesLess s t || decide (s = t))) = _
  rw [← less_gtr s t]; simp
theorem bool_eql : abin .eql .bool (.bool x) (.bool y) = some (.bool (x == y)) := rfl
theorem bool_neq : abin .neq .bool (.bool x) (.bool y) = some (.bool (!(x == y))) := rfl
def imax (a b : Int) : Int := if a < b then b else a
def imin (a b : Int) : Int := if b < a then b else a
theorem vMnx_max (k : IntKind) (a b : Int) : vMnx true (.int k a) (.int k b) = some (.int k (imax a b)) := by simp [vMnx, imax]
theorem vMnx_min (k : IntKind) (a b : Int) : vMnx false (.int k a) (.int k b) = some (.int k (imin a b)) := by simp [vMnx, imin]
def cat (s t : Bytes) : Option Bytes := if s.length + t.length ≤ 4611686018427387904 then some (s ++ t) else none
def mkOk (n : Int) : Option Unit := if 0 ≤ n ∧ n ≤ Lim then some () else none
theorem mk_ok {n : Int} {u : Unit} (h : mkOk n = some u) : 0 ≤ n ∧ n ≤ Lim := by
  unfold mkOk at h; split at h
  · assumption
  · cases h
theorem flatEq_len : ∀ {ks : List (Option IntKind × Bool)} {a b : List V} {p : Bool}, flatEq ks a b = some p → a.length = ks.length ∧ b.length = ks.length
  | [], [], [], _, _ => ⟨rfl, rfl⟩
  | k :: ks, x :: xs, y :: ys, p, h => by
    simp only [flatEq, Option.bind_eq_some_iff, Option.map_eq_some_iff] at h
    obtain ⟨_, _, _, h, _⟩ := h
    obtain ⟨h1, h2⟩ := flatEq_len h
    exact ⟨by simp [h1], by simp [h2]⟩
  | [], [], _ :: _, _, h => by simp [flatEq] at h
  | [], _ :: _, _, _, h => by simp [flatEq] at h
  | _ :: _, [], _, _, h => by simp [flatEq] at h
  | _ :: _, _ :: _, [], _, h => by simp [flatEq] at h
theorem flatEq_app : ∀ {k1 k2 : List (Option IntKind × Bool)} {a1 a2 b1 b2 : List V} {p r : Bool}, flatEq k1 a1 b1 = some p → flatEq k2 a2 b2 = some r → flatEq (k1 ++ k2) (a1 ++ a2) (b1 ++ b2) = some (p && r)
  | [], k2, [], a2, [], b2, p, r, h1, h2 => by simp [flatEq] at h1; subst h1; simpa using h2
  | k :: k1, k2, x :: a1, a2, y :: b1, b2, p, r, h1, h2 => by
    simp only [flatEq, Option.bind_eq_some_iff, Option.map_eq_some_iff] at h1
    obtain ⟨u, hu, w, hw, rfl⟩ := h1
    simp only [List.cons_append, flatEq, hu, flatEq_app hw h2, Option.bind_some, Option.map_some, Bool.and_assoc]
  | [], _, [], _, _ :: _, _, _, _, h, _ => by simp [flatEq] at h
  | [], _, _ :: _, _, _, _, _, _, h, _ => by simp [flatEq] at h
  | _ :: _, _, [], _, _, _, _, _, h, _ => by simp [flatEq] at h
  | _ :: _, _, _ :: _, _, [], _, _, _, h, _ => by simp [flatEq] at h
theorem flatEq_arr {n : Nat} (u : Bool) (a b : Arr n) : flatEq (repl n (some .u8, u)) (encB a.1) (encB b.1) = some (decide (a = b)) := by
  rw [flatEq_bytes u a.2 b.2]
  congr 1
  by_cases h : a = b
  · subst h; simp
  · have : a.1 ≠ b.1 := fun e => h (Subtype.ext e)
    simp [h, this]
theorem flatEq_int1 {k : IntKind} {u : Bool} (a b : Int) : flatEq [(some k, u)] [.int k a] [.int k b] = some (decide (a = b)) := by simp
theorem flatEq_u81 {u : Bool} (a b : UInt8) : flatEq [(some .u8, u)] [.int .u8 a.toNat] [.int .u8 b.toNat] = some (decide (a = b)) := by
  rw [flatEq_step, kdEq_int]; simp only [u8_i]; simp [flatEq]
theorem flatEq_str1 (a b : Bytes) : flatEq [(none, true)] [.str a] [.str b] = some (decide (a = b)) := by simp
theorem flatEq_bool1 (a b : Bool) : flatEq [(none, false)] [.bool a] [.bool b] = some (decide (a = b)) := by simp; cases a <;> cases b <;> rfl
theorem kdEq_nf {k : Option IntKind × Bool} {x y : V} {p : Bool} (h : kdEq k x.nf y.nf = some p) : kdEq k x y = some p := by
  obtain ⟨k, u⟩ := k
  cases k with
  | some k =>
    cases hx : x.nf <;> rw [hx] at h <;> cases hy : y.nf <;> rw [hy] at h <;> simp [kdEq] at h
    rw [nf_int hx, nf_int hy]; simp [kdEq, h]
  | none =>
    cases u with
    | true =>
      cases hx : x.nf <;> rw [hx] at h <;> cases hy : y.nf <;> rw [hy] at h <;> simp [kdEq] at h
      rw [nf_str hx, nf_str hy]; simp [kdEq, h]
    | false =>
      cases hx : x.nf <;> rw [hx] at h <;> cases hy : y.nf <;> rw [hy] at h <;> simp [kdEq] at h
      rw [nf_bool hx, nf_bool hy]; simp [kdEq, h]
theorem flatEq_nf : ∀ {ks : List (Option IntKind × Bool)} {a b : List V} {p : Bool}, flatEq ks (nfL a) (nfL b) = some p → flatEq ks a b = some p
  | [], [], [], _, h => h
  | k :: ks, x :: xs, y :: ys, p, h => by
    simp only [nfL, flatEq, Option.bind_eq_some_iff, Option.map_eq_some_iff] at h
    obtain ⟨u, hu, w, hw, rfl⟩ := h
    simp only [flatEq, kdEq_nf hu, flatEq_nf hw, Option.bind_some, Option.map_some]
  | [], [], _ :: _, _, h => by simp [nfL, flatEq] at h
  | [], _ :: _, _, _, h => by simp [nfL, flatEq] at h
  | _ :: _, [], _, _, h => by simp [nfL, flatEq] at h
  | _ :: _, _ :: _, [], _, h => by simp [nfL, flatEq] at h
end
section
variable {Γ : Abs.Spec} {gl : Glob} {K : St → Prop} {s : St} {d : Option Nat} {r : List AOper} {af : List Nat}
theorem x_feq {ks : List (Option IntKind × Bool)} {x y : Opd} {a b : List V} {p : Bool} (hx : (evO s.tm x).nf = .agg a) (hy : (evO s.tm y).nf = .agg b) (h : flatEq ks a b = some p) (k : runs Γ gl r K (s.put d (.bool p) false)) : runs Γ gl (⟨d, .bin .eql (.flat ks) x y, none, af⟩ :: r) K s := by
  obtain ⟨xs, hx', rfl⟩ := nf_agg hx
  obtain ⟨ys, hy', rfl⟩ := nf_agg hy
  exact x_bin hx' hy' (by rw [fl_eql, flatEq_nf h]; rfl) k
theorem x_fne {ks : List (Option IntKind × Bool)} {x y : Opd} {a b : List V} {p : Bool} (hx : (evO s.tm x).nf = .agg a) (hy : (evO s.tm y).nf = .agg b) (h : flatEq ks a b = some p) (k : runs Γ gl r K (s.put d (.bool (!p)) false)) : runs Γ gl (⟨d, .bin .neq (.flat ks) x y, none, af⟩ :: r) K s := by
  obtain ⟨xs, hx', rfl⟩ := nf_agg hx
  obtain ⟨ys, hy', rfl⟩ := nf_agg hy
  exact x_bin hx' hy' (by rw [fl_neq, flatEq_nf h]; rfl) k
theorem x_cat {q : EqK} {x y : Opd} {a b z : Bytes} (hx : evO s.tm x = .str a) (hy : evO s.tm y = .str b) (hz : cat a b = some z) (k : runs Γ gl r K (s.put d (.str z) false)) : runs Γ gl (⟨d, .bin .add q x y, none, af⟩ :: r) K s := by
  unfold cat at hz
  split at hz
  · rename_i h
    cases hz
    exact x_bin hx hy (by rw [s_add, if_pos h]) k
  · cases hz
theorem wrap_byte {kd : IntKind} (h : kd ≠ .i8) (n : Int) (hn : 0 ≤ n ∧ n < 256) : kd.wrap n = n := by
  cases kd <;> simp [IntKind.wrap, IntKind.signed, IntKind.bits] at h ⊢ <;> omega
theorem x_i2i_u8 {kd : IntKind} {x : Opd} {b : UInt8} (hx : evO s.tm x = .int .u8 b.toNat) (hk : ∀ n : Int, 0 ≤ n ∧ n < 256 → kd.wrap n = n) (k : runs Γ gl r K (s.put d (.int kd b.toNat) false)) : runs Γ gl (⟨d, .i2i kd x, none, af⟩ :: r) K s := by
  refine x_i2i hx ?_
  rw [hk _ ⟨by omega, by have := b.toNat_lt; omega⟩]; exact k
end
def shlI (k : IntKind) (a b : Int) : Option Int := if b < 0 then none else some (k.wrap (a * 2 ^ (min b.toNat k.bits)))
def shrI (k : IntKind) (a b : Int) : Option Int := if b < 0 then none else some (a.fdiv (2 ^ (min b.toNat k.bits)))
def andI (k : IntKind) (a b : Int) : Int := k.wrap (BitVec.ofInt k.bits a &&& BitVec.ofInt k.bits b).toNat
def orI (k : IntKind) (a b : Int) : Int := k.wrap (BitVec.ofInt k.bits a ||| BitVec.ofInt k.bits b).toNat
def xorI (k : IntKind) (a b : Int) : Int := k.wrap (BitVec.ofInt k.bits a ^^^ BitVec.ofInt k.bits b).toNat
def u8of (n : Int) : UInt8 := UInt8.ofNat (n % 256).toNat
theorem u8of_int (n : Int) : ((u8of n).toNat : Int) = IntKind.wrap .u8 n := by
  have h : (n % 256).toNat < 256 := by omega
  unfold u8of
  rw [UInt8.toNat_ofNat_of_lt' h]
  simp only [IntKind.wrap, IntKind.signed, IntKind.bits]
  simp; omega
section
variable {Γ : Abs.Spec} {gl : Glob} {K : St → Prop} {s : St} {d : Option Nat} {r : List AOper} {af : List Nat} {q : EqK} {k : IntKind} {a b : Int}
theorem b_and : abin .and q (.int k a) (.int k b) = some (.int k (andI k a b)) := by simp [abin, aint, andI]
theorem b_or : abin .or q (.int k a) (.int k b) = some (.int k (orI k a b)) := by simp [abin, aint, orI]
theorem b_xor : abin .xor q (.int k a) (.int k b) = some (.int k (xorI k a b)) := by simp [abin, aint, xorI]
theorem x_shl {x y : Opd} {ke : IntKind} {z : Int} (hx : evO s.tm x = .int k a) (hy : evO s.tm y = .int ke b) (hz : shlI k a b = some z) (kk : runs Γ gl r K (s.put d (.int k z) false)) : runs Γ gl (⟨d, .bin .shl q x y, none, af⟩ :: r) K s := by
  unfold shlI at hz
  split at hz
  · cases hz
  · rename_i h
    cases hz
    exact x_bin hx hy (by simp [abin, h]) kk
theorem x_shr {x y : Opd} {ke : IntKind} {z : Int} (hx : evO s.tm x = .int k a) (hy : evO s.tm y = .int ke b) (hz : shrI k a b = some z) (kk : runs Γ gl r K (s.put d (.int k z) false)) : runs Γ gl (⟨d, .bin .shr q x y, none, af⟩ :: r) K s := by
  unfold shrI at hz
  split at hz
  · cases hz
  · rename_i h
    cases hz
    exact x_bin hx hy (by simp [abin, h]) kk
theorem x_i2u8 {ke : IntKind} {x : Opd} {n : Int} (hx : evO s.tm x = .int ke n) (kk : runs Γ gl r K (s.put d (.int .u8 ((u8of n).toNat : Int)) false)) : runs Γ gl (⟨d, .i2i .u8 x, none, af⟩ :: r) K s := by
  refine x_i2i hx ?_
  rw [← u8of_int]; exact kk
end
def CallsX (Γ : Abs.Spec) (c : FC) : Prop := ∀ args y, c.rel (nfL args) y → ∃ v o, Γ c.f args = some (v, o) ∧ v.nf = y ∧ (c.own = true → Own v o)
theorem specOf_calls {cx : Cx} {cs : List FC} {c : FC} (hc : c.Holds cx) (hf : ∀ avs y, c.rel avs y → cs.find? (fun d => d.f == c.f && d.mt avs) = some c) : CallsX (specOf cx cs) c :=
  fun args y hr => specOf_eq hc (hf _ _ hr) hr
section
variable {Γ : Abs.Spec} {gl : Glob} {K : St → Prop} {s : St} {d : Option Nat} {r : List AOper} {af : List Nat} {α β : Type} {f : Nat} {mt : List V → Bool} {own : Bool} {ea : α → List V} {eb : β → V} {g : α → Option β} {h1 : ∀ a, cleanL (ea a) = true} {h2 : ∀ b, (eb b).clean = true} {h3 : ∀ a b, ea a = ea b → a = b}
theorem x_callF (hC : CallsX Γ (fc f mt own ea eb g h1 h2 h3)) {xs : List Opd} {a : α} {x : β} (hx : xs.map (fun x => (evO s.tm x).nf) = ea a) (hg : g a = some x)
    (k : ∀ v o, v.nf = eb x → (own = true → Own v o) → runs Γ gl r K (s.put d v o)) : runs Γ gl (⟨d, .call f xs, none, af⟩ :: r) K s :=
  x_call (own := own) hx (fun args ha => hC args _ ⟨a, x, ha, hg, rfl⟩) k
theorem x_callvF (hC : CallsX Γ (fc f mt own ea eb g h1 h2 h3)) {F : Opd} {cs : List V} {xs : List Opd} {a : α} {x : β} (hF : (evO s.tm F).nf = .fn f cs) (hx : xs.map (fun x => (evO s.tm x).nf) ++ cs = ea a) (hg : g a = some x)
    (k : ∀ v o, v.nf = eb x → (own = true → Own v o) → runs Γ gl r K (s.put d v o)) : runs Γ gl (⟨d, .callv F xs, none, af⟩ :: r) K s :=
  x_callv (own := own) hF hx (fun args ha => hC args _ ⟨a, x, ha, hg, rfl⟩) k
end
def isFn (f : Nat) : Option V → Bool
  | some (.fn g _) => g == f
  | _ => false
def RV (s : St) (r : RS) (y : V) : Prop := ∃ p, rv s r = some p ∧ p.1.nf = y
theorem rv_t {s : St} {t : Nat} {y : V} (h : (s.tm t).nf = y) : RV s (.t t) y := ⟨_, rfl, h⟩
theorem rv_c {s : St} {t id o : Nat} {n : Option Nat} {l : List V} {y : V} (hp : s.tm t = .ptr id o) (hc : Cells s id l) (hl : ldCells n l o = some y) : RV s (.c t n) y := by
  obtain ⟨cs, hv, rfl⟩ := hc
  obtain ⟨v, h1, h2⟩ := ldCells_nf hl
  exact ⟨(v, false), by simp [rv, hp, hv, h1], h2⟩
def RVs (s : St) (rs : List RS) (ys : List V) : Prop := ∃ vs, rvs s rs = some vs ∧ nfL vs = ys
theorem rvs_nil {s : St} : RVs s [] [] := ⟨[], rfl, rfl⟩
theorem rvs_cons {s : St} {r : RS} {rs : List RS} {y : V} {ys : List V} (h : RV s r y) (k : RVs s rs ys) : RVs s (r :: rs) (y :: ys) := by
  obtain ⟨p, h1, rfl⟩ := h
  obtain ⟨vs, h2, rfl⟩ := k
  exact ⟨p.1 :: vs, by simp [rvs, h1, h2], rfl⟩
theorem ends_t {t : Nat} {own : Bool} {y : V} {s : St} (h : (s.tm t).nf = y) (ho : own = true → OwnS s t) : EndsX [.t t] own y s := ⟨_, rfl, h, ho⟩
theorem ends_one {r : RS} {y : V} {s : St} (h : RV s r y) : EndsX [r] false y s := by
  obtain ⟨p, h1, h2⟩ := h
  exact ⟨p, h1, h2, fun h => nomatch h⟩
theorem ends_tup {rs : List RS} {s : St} {ys : List V} (h : RVs s rs ys) (hl : rs.length ≠ 1) : EndsX rs false (.tup ys) s := by
  obtain ⟨vs, h1, rfl⟩ := h
  have e : resOf rs s = some (.tup vs, false) := by
    unfold resOf
    split
    · simp at hl
    · rw [h1]; rfl
  exact ⟨_, e, rfl, fun h => nomatch h⟩
end Go.Abs
/-
  Y, part 0: calls that touch objects: one specification, by rounds; it says what the code comes to. Own work of this seat.
-/
namespace Go.Abs

structure Spec.Le (Γ Γ' : Abs.Spec) : Prop where
  p : Γ.p = Γ'.p
  h : ∀ f a hs r, Γ.h f a hs = some r → Γ'.h f a hs = some r
theorem Spec.Le.refl (Γ : Abs.Spec) : Γ.Le Γ := ⟨rfl, fun _ _ _ _ h => h⟩
variable {Γ Γ' : Abs.Spec} {gl : Glob}

theorem peval_p (hp : Γ.p = Γ'.p) (H : Hp) (own : Pos → Bool) (tm : Nat → V) (op : AOp) : peval Γ gl H own tm op = peval Γ' gl H own tm op := by
  cases op <;> first | rfl | (simp only [peval, vCallv, hp]; done) | (simp only [peval, vCallv]; split <;> simp only [hp])
theorem doCall_le (hle : Γ.Le Γ') {s s' : St} {d : Option Nat} {f : Nat} {a : List V} (h : s.doCall Γ d f a = some s') : s.doCall Γ' d f a = some s' := by
  unfold St.doCall at h ⊢
  simp only [Option.map_eq_some_iff] at h ⊢
  obtain ⟨r, h1, h2⟩ := h
  exact ⟨r, hle.h _ _ _ _ h1, h2⟩
theorem exec1_le (hle : Γ.Le Γ') {o : AOper} {s s' : St} (h : exec1 Γ gl o s = some s') : exec1 Γ' gl o s = some s' := by
  unfold exec1 at h ⊢
  split at h <;> first | exact h | exact doCall_le hle h | skip
  · split at h
    · rename_i ga e
      rw [← hle.p]
      split at h
      · rename_i r hr
        exact h
      · rename_i hr
        exact doCall_le hle h
    · cases h
  · rw [← peval_p hle.p]; exact h
theorem execs_le (hle : Γ.Le Γ') : ∀ {os : List AOper} {s s' : St}, execs Γ gl os s = some s' → execs Γ' gl os s = some s'
  | [], s, s', h => h
  | o :: os, s, s', h => by
    simp only [execs] at h ⊢
    split at h
    · rename_i s1 h1
      have : exec Γ' gl o s = some s1 := by
        unfold exec at h1 ⊢
        by_cases hw : s.wants o = true
        · rw [if_pos hw] at h1 ⊢
          exact exec1_le hle h1
        · rw [if_neg hw] at h1 ⊢
          exact h1
      rw [this]; exact execs_le hle h
    · cases h
theorem awp_le (hle : Γ.Le Γ') : ∀ {c : ACode} {Q : Ex → St → Prop} {s : St}, awp Γ gl c Q s → awp Γ' gl c Q s := by
  intro c
  induction c with
  | skip => intro Q s h; exact h
  | region ops d =>
    intro Q s h
    simp only [awp] at h ⊢
    unfold someP at h
    split at h
    · rename_i s' hs
      rw [execs_le hle hs]; exact h
    · exact h.elim
  | seq a b iha ihb => intro Q s h; exact iha (awp_mono (thenQ_mono (fun _ h => ihb h) fun _ _ h => h) h)
  | cond c a b iha ihb =>
    intro Q s h
    simp only [awp] at h ⊢
    unfold condP at h ⊢
    split at h
    · exact iha h
    · exact ihb h
    · exact h.elim
  | block id b ih => intro Q s h; exact ih h
  | loop b ih =>
    intro Q s h
    obtain ⟨k, h⟩ := h
    refine ⟨k, ?_⟩
    induction k generalizing s with
    | zero => exact h.elim
    | succ k ihk => exact ih (awp_mono (thenQ_mono (fun _ h => ihk h) fun _ _ h => h) h)
  | exit id => intro Q s h; exact h
  | ret => intro Q s h; exact h
  | fail => intro Q s h; exact h.elim

/-- what a code comes to, for two ends: for both -/
theorem awp_both : ∀ {c : ACode} {Q R : Ex → St → Prop} {s : St}, awp Γ gl c Q s → awp Γ gl c R s → awp Γ gl c (fun e t => Q e t ∧ R e t) s := by
  have tq : ∀ {K K' : St → Prop} {Q R : Ex → St → Prop} (e : Ex) (t : St), (thenQ K Q e t ∧ thenQ K' R e t) → thenQ (fun t => K t ∧ K' t) (fun e t => Q e t ∧ R e t) e t := by
    intro K K' Q R e t h
    cases e <;> exact h
  intro c
  induction c with
  | skip => intro Q R s h k; exact ⟨h, k⟩
  | region ops d =>
    intro Q R s h k
    simp only [awp] at h k ⊢
    unfold someP at h k ⊢
    split at h
    · rename_i s' hs
      simp only [hs] at k ⊢
      exact ⟨h, k⟩
    · exact h.elim
  | seq a b iha ihb =>
    intro Q R s h k
    exact awp_mono (c := a) (fun e t q => thenQ_mono (K := fun t => awp Γ gl b Q t ∧ awp Γ gl b R t) (Q := fun e t => Q e t ∧ R e t) (fun _ h => ihb h.1 h.2) (fun _ _ h => h) e t (tq e t q)) (iha h k)
  | cond c a b iha ihb =>
    intro Q R s h k
    simp only [awp] at h k ⊢
    unfold condP at h k ⊢
    split at h
    · rename_i e
      simp only [e] at k
      exact iha h k
    · rename_i e
      simp only [e] at k
      exact ihb h k
    · exact h.elim
  | block id b ih => intro Q R s h k; exact ih h k
  | loop b ih =>
    intro Q R s h k
    obtain ⟨n, h⟩ := h
    obtain ⟨m, k⟩ := k
    refine ⟨n, ?_⟩
    induction n generalizing s m with
    | zero => exact h.elim
    | succ n ihn =>
      cases m with
      | zero => exact k.elim
      | succ m => exact awp_mono (c := b) (fun e t q => thenQ_mono (K := fun t => loopN (awp Γ gl b) Q n t ∧ loopN (awp Γ gl b) R m t) (Q := fun e t => Q e t ∧ R e t) (fun _ h => ihn h.1 m h.2) (fun _ _ h => h) e t (tq e t q)) (ih h k)
  | exit id => intro Q R s h k; exact ⟨h, k⟩
  | ret => intro Q R s h k; exact ⟨h, k⟩
  | fail => intro Q R s h k; exact h.elim

/-! ## rounds -/
section
variable {G : Nat → Abs.Spec} {Γl : Abs.Spec}
structure Lm (G : Nat → Abs.Spec) (Γl : Abs.Spec) : Prop where
  up : ∀ n, (G n).Le (G (n + 1))
  to : ∀ n, (G n).Le Γl
  of : ∀ f a hs r, Γl.h f a hs = some r → ∃ n, (G n).h f a hs = some r
theorem Spec.Le.trans {a b c : Abs.Spec} (h : a.Le b) (k : b.Le c) : a.Le c := ⟨h.p.trans k.p, fun f x hs r e => k.h f x hs r (h.h f x hs r e)⟩
theorem Lm.le (h : Lm G Γl) {n m : Nat} (hn : n ≤ m) : (G n).Le (G m) := by
  induction hn with
  | refl => exact .refl _
  | step _ ih => exact ih.trans (h.up _)
theorem Lm.exec1 (h : Lm G Γl) {o : AOper} {s s' : St} (he : exec1 Γl gl o s = some s') : ∃ n, exec1 (G n) gl o s = some s' := by
  have call : ∀ {d : Option Nat} {f : Nat} {a : List V}, s.doCall Γl d f a = some s' → ∃ n, s.doCall (G n) d f a = some s' := by
    intro d f a hc
    unfold St.doCall at hc
    simp only [Option.map_eq_some_iff] at hc
    obtain ⟨r, h1, h2⟩ := hc
    obtain ⟨n, hn⟩ := h.of _ _ _ _ h1
    exact ⟨n, by unfold St.doCall; rw [hn, ← h2]; rfl⟩
  unfold Abs.exec1 at he ⊢
  split at he <;> first | exact ⟨0, he⟩ | exact call he | skip
  · split at he
    · rename_i ga e
      split at he
      · rename_i r hr
        exact ⟨0, by simp only [(h.to 0).p, hr]; exact he⟩
      · rename_i hr
        obtain ⟨n, hn⟩ := call he
        exact ⟨n, by simp only [(h.to n).p, hr]; exact hn⟩
    · cases he
  · exact ⟨0, by rw [peval_p (h.to 0).p]; exact he⟩
theorem Lm.execs (h : Lm G Γl) : ∀ {os : List AOper} {s s' : St}, execs Γl gl os s = some s' → ∃ n, execs (G n) gl os s = some s'
  | [], s, s', he => ⟨0, he⟩
  | o :: os, s, s', he => by
    simp only [Abs.execs] at he
    split at he
    · rename_i s1 h1
      have h2 : ∃ n, exec (G n) gl o s = some s1 := by
        unfold exec at h1 ⊢
        by_cases hw : s.wants o = true
        · rw [if_pos hw] at h1
          obtain ⟨n, hn⟩ := h.exec1 h1
          exact ⟨n, by rw [if_pos hw]; exact hn⟩
        · rw [if_neg hw] at h1
          exact ⟨0, by rw [if_neg hw]; exact h1⟩
      obtain ⟨n, hn⟩ := h2
      obtain ⟨m, hm⟩ := Lm.execs h he
      refine ⟨max n m, ?_⟩
      have hn' : exec (G (max n m)) gl o s = some s1 := by
        unfold exec at hn ⊢
        by_cases hw : s.wants o = true
        · rw [if_pos hw] at hn ⊢
          exact exec1_le (h.le (Nat.le_max_left n m)) hn
        · rw [if_neg hw] at hn ⊢
          exact hn
      simp only [Abs.execs, hn']
      exact execs_le (h.le (Nat.le_max_right n m)) hm
    · cases he
theorem Lm.awp (h : Lm G Γl) : ∀ {c : ACode} {Q : Ex → St → Prop} {s : St}, Abs.awp Γl gl c Q s → ∃ n, Abs.awp (G n) gl c Q s := by
  intro c
  induction c with
  | skip => intro Q s hq; exact ⟨0, hq⟩
  | region ops d =>
    intro Q s hq
    simp only [Abs.awp] at hq ⊢
    unfold someP at hq
    split at hq
    · rename_i s' hs
      obtain ⟨n, hn⟩ := h.execs hs
      exact ⟨n, by rw [hn]; exact hq⟩
    · exact hq.elim
  | seq a b iha ihb =>
    intro Q s hq
    obtain ⟨n, hn⟩ := iha hq
    obtain ⟨e, t, h1, h2⟩ := awp_det hn
    cases e with
    | normal =>
      obtain ⟨m, hm⟩ := ihb h1
      refine ⟨max n m, ?_⟩
      exact awp_le (c := a) (h.le (Nat.le_max_left n m)) (h2 (thenQ (Abs.awp (G (max n m)) gl b Q) Q) (show Abs.awp (G (max n m)) gl b Q t from awp_le (h.le (Nat.le_max_right n m)) hm))
    | exit i => exact ⟨n, h2 _ h1⟩
    | ret => exact ⟨n, h2 _ h1⟩
  | cond c a b iha ihb =>
    intro Q s hq
    simp only [Abs.awp] at hq ⊢
    unfold condP at hq ⊢
    split at hq
    · exact iha hq
    · exact ihb hq
    · exact hq.elim
  | block id b ih => intro Q s hq; exact ih hq
  | loop b ih =>
    intro Q s hq
    obtain ⟨k, hq⟩ := hq
    induction k generalizing s with
    | zero => exact hq.elim
    | succ k ihk =>
      obtain ⟨n, hn⟩ := ih hq
      obtain ⟨e, t, h1, h2⟩ := awp_det hn
      cases e with
      | normal =>
        obtain ⟨m, j, hm⟩ := ihk h1
        refine ⟨max n m, j + 1, ?_⟩
        have hm' : Abs.awp (G (max n m)) gl (.loop b) Q t := awp_le (h.le (Nat.le_max_right n m)) ⟨j, hm⟩
        have : Abs.awp (G (max n m)) gl b (thenQ (loopN (Abs.awp (G (max n m)) gl b) Q j) Q) s := by
          refine Abs.awp_le (h.le (Nat.le_max_left n m)) (h2 _ ?_)
          show loopN (Abs.awp (G (max n m)) gl b) Q j t
          have key : ∀ (j : Nat) (t : St), loopN (Abs.awp (G m) gl b) Q j t → loopN (Abs.awp (G (max n m)) gl b) Q j t := by
            intro j
            induction j with
            | zero => exact fun _ h => h
            | succ j ihj => exact fun t ht => awp_le (h.le (Nat.le_max_right n m)) (awp_mono (thenQ_mono (fun _ h => ihj _ h) fun _ _ h => h) ht)
          exact key j t hm
        exact this
      | exit i => exact ⟨n, 1, h2 _ h1⟩
      | ret => exact ⟨n, 1, h2 _ h1⟩
  | exit id => intro Q s hq; exact ⟨0, hq⟩
  | ret => intro Q s hq; exact ⟨0, hq⟩
  | fail => intro Q s hq; exact hq.elim
end

/-! ## the specification -/
/-- a function's end, just as it is -/
def endE (res : List RS) (p : V × Bool × HS) : Ex → St → Prop
  | .exit _, _ => False
  | _, s => resOf res s = some (p.1, p.2.1) ∧ s.hs = p.2.2
def CallE (P : Program) (gl : Glob) (Γ : Abs.Spec) (f : Nat) (args : List V) (hs : HS) (p : V × Bool × HS) : Prop :=
  ∃ F, cFn P f = some F ∧ args.length ≤ F.n ∧ awp Γ gl F.body (endE F.res p) (St.initH args hs)
theorem CallE.one {P : Program} {f : Nat} {args : List V} {hs : HS} {p q : V × Bool × HS} (h : CallE P gl Γ f args hs p) (k : CallE P gl Γ f args hs q) : p = q := by
  obtain ⟨F, h1, _, h2⟩ := h
  obtain ⟨F', k1, _, k2⟩ := k
  rw [h1] at k1; cases k1
  obtain ⟨e, t, h3, _⟩ := awp_det (awp_both h2 k2)
  obtain ⟨p1, p2, p3⟩ := p
  obtain ⟨q1, q2, q3⟩ := q
  have : (resOf F.res t = some (p1, p2) ∧ t.hs = p3) ∧ (resOf F.res t = some (q1, q2) ∧ t.hs = q3) := by
    cases e with
    | exit i => exact h3.1.elim
    | normal => exact h3
    | ret => exact h3
  obtain ⟨⟨a1, a2⟩, b1, b2⟩ := this
  rw [a1] at b1; cases b1; rw [← a2, ← b2]
open Classical in
noncomputable def hN (P : Program) (gl : Glob) (p : Nat → List V → Option (V × Bool)) : Nat → Abs.Spec
  | 0 => ⟨p, fun _ _ _ => none⟩
  | n + 1 => ⟨p, fun f args hs => if h : ∃ q, CallE P gl (hN P gl p n) f args hs q then some h.choose else none⟩
variable {P : Program} {p : Nat → List V → Option (V × Bool)}
open Classical in
theorem hN_succ {n f : Nat} {args : List V} {hs : HS} {r : V × Bool × HS} : (hN P gl p (n + 1)).h f args hs = some r ↔ CallE P gl (hN P gl p n) f args hs r := by
  show (if h : ∃ q, CallE P gl (hN P gl p n) f args hs q then some h.choose else none) = some r ↔ _
  constructor
  · intro h
    split at h
    · rename_i hex
      cases h; exact hex.choose_spec
    · cases h
  · intro h
    have hex : ∃ q, CallE P gl (hN P gl p n) f args hs q := ⟨r, h⟩
    rw [dif_pos hex, hex.choose_spec.one h]
theorem CallE.le (hle : Γ.Le Γ') {f : Nat} {args : List V} {hs : HS} {r : V × Bool × HS} (h : CallE P gl Γ f args hs r) : CallE P gl Γ' f args hs r := by
  obtain ⟨F, h1, h2, h3⟩ := h
  exact ⟨F, h1, h2, awp_le hle h3⟩
theorem hN_up : ∀ n, (hN P gl p n).Le (hN P gl p (n + 1))
  | 0 => ⟨rfl, fun _ _ _ _ h => by cases h⟩
  | n + 1 => ⟨rfl, fun f a hs r h => hN_succ.2 ((hN_succ.1 h).le (hN_up n))⟩
open Classical in
noncomputable def hL (P : Program) (gl : Glob) (p : Nat → List V → Option (V × Bool)) : Abs.Spec :=
  ⟨p, fun f args hs => if h : ∃ r n, (hN P gl p n).h f args hs = some r then some h.choose else none⟩
theorem hN_p : ∀ n, (hN P gl p n).p = p
  | 0 => rfl
  | _ + 1 => rfl
theorem hN_le {n m : Nat} (h : n ≤ m) : (hN P gl p n).Le (hN P gl p m) := by
  induction h with
  | refl => exact .refl _
  | step _ ih => exact ih.trans (hN_up _)
open Classical in
theorem hL_iff {f : Nat} {args : List V} {hs : HS} {r : V × Bool × HS} : (hL P gl p).h f args hs = some r ↔ ∃ n, (hN P gl p n).h f args hs = some r := by
  show (if h : ∃ r n, (hN P gl p n).h f args hs = some r then some h.choose else none) = some r ↔ _
  constructor
  · intro h
    split at h
    · rename_i hex
      cases h; exact hex.choose_spec
    · cases h
  · rintro ⟨n, hn⟩
    have hex : ∃ r n, (hN P gl p n).h f args hs = some r := ⟨r, n, hn⟩
    rw [dif_pos hex]
    obtain ⟨m, hm⟩ := hex.choose_spec
    have h1 := (hN_le (Nat.le_max_left n m)).h _ _ _ _ hn
    have h2 := (hN_le (Nat.le_max_right n m)).h _ _ _ _ hm
    rw [h1] at h2; exact h2.symm
theorem hL_lim : Lm (hN P gl p) (hL P gl p) where
  up := hN_up
  to n := ⟨hN_p n, fun _ _ _ _ h => hL_iff.2 ⟨n, h⟩⟩
  of _ _ _ _ h := hL_iff.1 h
/-- WHAT A CALL'S CODE COMES TO IS WHAT THE CALL COMES TO. -/
theorem hL_of {f : Nat} {args : List V} {hs : HS} {r : V × Bool × HS} (h : CallE P gl (hL P gl p) f args hs r) : (hL P gl p).h f args hs = some r := by
  obtain ⟨F, h1, h2, h3⟩ := h
  obtain ⟨n, hn⟩ := hL_lim.awp h3
  exact hL_iff.2 ⟨n + 1, hN_succ.2 ⟨F, h1, h2, hn⟩⟩
theorem hN_sound {cx : Cx} (hgl : GlOK cx) (hm : cx.P.follows .mixedOrders = true) (hp : ∀ f args r, p f args = some r → PC cx f args r) : ∀ n, Sound cx (hN cx.P cx.gl p n)
  | 0 => ⟨hp, fun _ _ _ _ h => by cases h⟩
  | n + 1 => ⟨hp, fun f args hs r h => by
    obtain ⟨F, h1, h2, h3⟩ := hN_succ.1 h
    exact pch_of_awp hgl hm (hN_sound hgl hm hp n) h1 h2 (awp_mono (fun e s q => by
      cases e with
      | exit i => exact q.elim
      | normal => exact ⟨⟨_, q.1, rfl, fun h => h⟩, q.2⟩
      | ret => exact ⟨⟨_, q.1, rfl, fun h => h⟩, q.2⟩) h3)⟩
theorem hL_sound {cx : Cx} (hgl : GlOK cx) (hm : cx.P.follows .mixedOrders = true) (hp : ∀ f args r, p f args = some r → PC cx f args r) : Sound cx (hL cx.P cx.gl p) where
  p := hp
  h f args hs r h := by
    obtain ⟨n, hn⟩ := hL_iff.1 h
    exact (hN_sound hgl hm hp n).h f args hs r hn
end Go.Abs
/-
  Y, part 1: what a plain code comes to, over values alone: one program (for the meaning, and for its print). Own work of this seat.
-/
namespace Go.Abs

/-! ## operations on values -/
inductive Prim where
  | pick
  | ext (i : Nat)
  | bin (op : BinOp) (q : EqK)
  | un (op : UnOp)
  | len (s : Bool)
  | mnx (mx : Bool)
  | elem (sz : Nat)
  | ld (n : Option Nat) (off : Nat)
  | fld (n : Option Nat) (off : Nat)
  | idx
  | idxa (len sz : Nat) (n : Option Nat)
  | sls (lo hi : Bool)
  | slc (sz : Nat) (lo hi mx : Bool)
  | cat (ss : List (Option Nat))
  | bsl (sz : Nat)
  | app (sz : Nat)
  | mks (sz : Nat)
  | s2b | b2s
  | i2i (k : IntKind)
  | s2s
  | s2a (n : Nat)
  | nilck
  | chk (n : Nat)
  | ldd (n : Option Nat) (base sz : Nat)
  | std (n base sz : Nat)
  | set (n off : Nat)
  | b2so (off len : Nat)
  | sc | scs
  | fn (f : Nat)
  deriving Inhabited

def vElem (sz : Nat) : V → V → Option V
  | .sl _ s xs, .int _ n => if 0 ≤ n ∧ s = sz then xs[n.toNat]? else none
  | _, _ => none
def vSlsC : Bool → Bool → V → List V → Option V
  | true, true, x, [l, h] => vSls x (some l) (some h)
  | true, false, x, [l] => vSls x (some l) none
  | false, true, x, [h] => vSls x none (some h)
  | false, false, x, [] => vSls x none none
  | _, _, _, _ => none
def vSlcC (sz : Nat) : Bool → Bool → Bool → V → List V → Option V
  | true, true, true, x, [l, h, m] => (vSlc sz x (some l) (some h) (some m)).map (·.v)
  | false, true, true, x, [h, m] => (vSlc sz x none (some h) (some m)).map (·.v)
  | true, true, false, x, [l, h] => (vSlc sz x (some l) (some h) none).map (·.v)
  | true, false, false, x, [l] => (vSlc sz x (some l) none none).map (·.v)
  | false, true, false, x, [h] => (vSlc sz x none (some h) none).map (·.v)
  | false, false, false, x, [] => (vSlc sz x none none none).map (·.v)
  | _, _, _, _, _ => none
def catV : List (Option Nat) → List V → Option (List V)
  | [], [] => some []
  | none :: ss, x :: xs => if x.sc = true then (catV ss xs).map (x :: ·) else none
  | some n :: ss, x :: xs => if x.cells.length = n ∧ x.cells.all V.sc = true then (catV ss xs).map (x.cells ++ ·) else none
  | _, _ => none
def noH : Hp := fun _ => none
def vAppC (sz : Nat) (s x : V) : Option V :=
  match s, vTail noH sz x with
  | .sl _ s' xs, some ys => if xs.length + ys.length ≤ Lim ∧ s' = sz then some (.sl false sz (xs ++ ys)) else none
  | _, _ => none
def vS2aC (n : Nat) : V → Option V
  | .sl _ 1 xs => if n ≤ xs.length ∧ xs ≠ [] ∧ fits 1 xs = true then some (.agg (xs.flatMap V.cells)) else none
  | _ => none
def vChk (n : Nat) : V → Option V
  | .int k j => if 0 ≤ j ∧ j < n then some (.int k j) else none
  | _ => none
def vLdd (n : Option Nat) (base sz : Nat) : V → V → Option V
  | x, .int _ j => ldCells n x.cells (base + j.toNat * sz)
  | _, _ => none
def vSet (n off : Nat) (x y : V) : Option V :=
  if y.cells.length = n ∧ y.cells.all V.sc = true ∧ off + n ≤ x.cells.length then some (.agg (setAt x.cells off y.cells)) else none
def vStd (n base sz : Nat) : V → V → V → Option V
  | x, .int _ j, y => vSet n (base + j.toNat * sz) x y
  | _, _, _ => none
def vB2so (off len : Nat) (x : V) : Option V :=
  if off + len ≤ x.cells.length then (toBytes ((x.cells.drop off).take len)).map .str else none

def evp : Prim → List V → Option V
  | .pick, [c, a, b] => vPick c a b
  | .ext i, [t] => vExt t i
  | .bin op q, [x, y] => abin op q x y
  | .un op, [x] => aun op x
  | .len s, [x] => vLen s x
  | .mnx m, [x, y] => vMnx m x y
  | .elem sz, [x, i] => vElem sz x i
  | .ld n off, [x] => ldCells n x.cells off
  | .fld n off, [x] => vFld n off x
  | .idx, [x, i] => vIdx x i
  | .idxa l sz n, [x, i] => vIdxa l sz n x i
  | .sls lo hi, x :: r => vSlsC lo hi x r
  | .slc sz lo hi mx, x :: r => vSlcC sz lo hi mx x r
  | .cat ss, xs => (catV ss xs).map .agg
  | .bsl sz, xs => if fits sz xs then some (.sl false sz xs) else none
  | .app sz, [s, x] => vAppC sz s x
  | .mks sz, [l, c] => (vMks sz l c).map (·.v)
  | .s2b, [x] => (vS2b x).map (·.v)
  | .b2s, [x] => vB2s noH x
  | .i2i k, [x] => vI2i k x
  | .s2s, [x] => vS2s x
  | .s2a n, [x] => vS2aC n x
  | .nilck, [x] => vNilck x
  | .chk n, [i] => vChk n i
  | .ldd n base sz, [x, i] => vLdd n base sz x i
  | .std n base sz, [x, i, y] => vStd n base sz x i y
  | .set n off, [x, y] => vSet n off x y
  | .b2so off len, [x] => vB2so off len x
  | .fn f, xs => some (.fn f xs)
  | .sc, [x] => if x.sc = true then some x else none
  | .scs, [x] => if x.cells.all V.sc = true then some x else none
  | _, _ => none

/-! ## what is known of a slot -/
inductive At where
  | c (v : V) (own : Bool)
  | n (i : Nat) (own sc : Bool)
  | ptr (o off : Nat)
  | ptd (o base i sz : Nat)
  | gp (g off : Nat)
  | gpd (g base i sz : Nat)
  | el (i off : Nat)
  | osl (o off len cap sz : Nat)
  | fp (m : Bool) (f : Nat) (ps : List (Nat × Nat))
  | nil
  deriving Inhabited
inductive Seg where
  | one (a : At)
  | many (n : Option Nat) (a : At)
  deriving Inhabited
inductive Sy where
  | at (a : At)
  | agg (ss : List Seg) (z : Option Nat)
  | tup (az : List At)
  deriving Inhabited

/-- g: how many objects were given -/
structure PS (X : Type) where
  vals : List X
  lits : List (Nat × Bool)
  tm : List (Nat × Sy)
  ob : List (Option (List Seg))
  g : Nat

/-- a label: how a state looks there; n: how many values it takes -/
structure PT where
  n : Nat
  tm : List (Nat × Sy)
  ob : List (Option (List Seg))
  g : Nat
  deriving Inhabited
/-- how results look, and the objects behind a call -/
structure RT where
  n : Nat
  res : List At
  ob : List (Option (List Seg))
  deriving Inhabited
/-- a row of the table; k: its number (of a plain function the function's); ent, ret: of one that takes objects -/
structure FE where
  k : Nat
  f : Nat
  own : Bool
  ar : Nat
  ent : PT
  ret : Option (List RT)
  lab : List (Nat × PT)
  deriving Inhabited
/-- whose results may be appended to; the rows of a function that takes objects; the package's tables -/
structure Cfg where
  ow : Nat → Bool
  he : Nat → List FE
  gl : Nat → Option (List V)

/-- what a program is made of -/
structure Bld (X D : Type) where
  c : V → X
  fail : D
  prim : Prim → List X → Nat → (X → D) → D
  ite : X → D → D → D
  call : Nat → List X → Nat → (X → D) → D
  callv : X → List X → Nat → (X → D) → D
  callh : Nat → List X → Nat → (X → D) → D
  jmp : Nat → List X → D
  ret : List X → D
  amb : X → D → D → D

def vif (x : V) (a b : Option V) : Option V := match x with | .bool true => a | .bool false => b | _ => none
open Classical in
/-- is a row nil? of one without elements that is not known: both ways must come to the same -/
noncomputable def vamb (x : V) (a b : Option V) : Option V := match x with | .sl _ _ [] => if a = b then a else none | .sl _ _ (_ :: _) => b | _ => none
abbrev Gam := Nat → Nat → List V → Option V
def vApply (Γ : Gam) : V → List V → Option V
  | .fn f caps, args => Γ f 0 (args ++ caps)
  | _, _ => none
def oneV : List V → V
  | [x] => x
  | xs => .tup xs
noncomputable def BV (Γ : Gam) (f : Nat) : Bld V (Option V) where
  c v := v
  fail := none
  prim p xs _ k := (evp p xs).bind k
  ite := vif
  call g xs _ k := (Γ g 0 xs).bind k
  callv x xs _ k := (vApply Γ x xs).bind k
  callh g xs _ k := (Γ g 1 xs).bind k
  jmp l xs := Γ f l xs
  ret xs := some (oneV xs)
  amb := vamb

def lk {α : Type} : List (Nat × α) → Nat → Option α
  | [], _ => none
  | (k, a) :: r, t => match Nat.beq k t with | true => some a | false => lk r t

def V.isNilSl : V → Bool
  | .sl true _ [] => true
  | _ => false
def At.noOwn : At → At
  | .n i _ s => .n i false s
  | a => a
/-- of many cells: just a value -/
def At.plain : At → At
  | .c v _ => .c v false
  | .n i _ _ => .n i false false
  | a => a
def Seg.noOwn : Seg → Seg
  | .one a => .one a.noOwn
  | .many n a => .many n a.noOwn
def Sy.noOwn : Sy → Sy
  | .at a => .at a.noOwn
  | .agg ss z => .agg (ss.map Seg.noOwn) z
  | .tup az => .tup (az.map At.noOwn)
def At.owned : At → Bool
  | .c _ o => o
  | .n _ o _ => o
  | _ => false
/-- surely one cell -/
def At.one : At → Bool
  | .c v _ => v.sc
  | .n _ _ s => s
  | .ptr _ _ => true
  | .gp _ _ => true
  | .fp _ _ _ => true
  | _ => false

section
variable {X D : Type}
def PS.get (S : PS X) (t : Nat) : Option Sy := lk S.tm t
def PS.put (S : PS X) (d : Option Nat) (y : Sy) : PS X := match d with | none => S | some d => { S with tm := (d, y) :: S.tm }
def PS.push (S : PS X) (x : X) : PS X := { S with vals := S.vals ++ [x] }
def PS.nx (S : PS X) : Nat := S.vals.length
def PS.disown (S : PS X) (t : Nat) : PS X := match S.get t with | some y => { S with tm := (t, y.noOwn) :: S.tm } | none => S
def PS.know (S : PS X) (i : Nat) (b : Bool) : PS X := { S with lits := (i, b) :: S.lits }
def PS.setOb (S : PS X) (o : Nat) (ss : List Seg) : PS X := { S with ob := S.ob.set o (some ss) }
def PS.obj (S : PS X) (o : Nat) : Option (List Seg) := match S.ob[o]? with | some (some ss) => some ss | _ => none

def constAt (v : V) : Option At :=
  match v with
  | .gp g off => some (.gp g off)
  | v => match v.nf.clean with | true => some (.c v.nf v.isNilSl) | false => none
def PS.opd (S : PS X) : Opd → Option Sy
  | .tmp t => S.get t
  | .const v => (constAt v).map .at

def PS.valA (B : Bld X D) (S : PS X) : At → Option X
  | .c v _ => some (B.c v)
  | .n i _ _ => match lk S.lits i with | some b => some (B.c (.bool b)) | none => S.vals[i]?
  | _ => none
/-- the values among segments -/
def segVals (B : Bld X D) (S : PS X) : List Seg → Option (List (Option Nat) × List X)
  | [] => some ([], [])
  | .one a :: r => match S.valA B a, segVals B S r with | some x, some (ns, xs) => some (none :: ns, x :: xs) | _, _ => none
  | .many (some n) a :: r => match S.valA B a, segVals B S r with | some x, some (ns, xs) => some (some n :: ns, x :: xs) | _, _ => none
  | .many none _ :: _ => none
/-- a slot's value; k is told it, and the state behind -/
def mat (B : Bld X D) (S : PS X) (y : Option Sy) (k : X → PS X → D) : D :=
  match y with
  | some (.at a) => match S.valA B a with | some x => k x S | none => B.fail
  | some (.agg _ (some z)) => match S.vals[z]? with | some x => k x S | none => B.fail
  | some (.agg ss none) => match segVals B S ss with | some (ns, xs) => B.prim (.cat ns) xs S.nx fun x => k x (S.push x) | none => B.fail
  | some (.tup _) => B.fail
  | none => B.fail
def matL (B : Bld X D) (S : PS X) : List Opd → (List X → PS X → D) → D
  | [], k => k [] S
  | o :: r, k => mat B S (S.opd o) fun x S1 => matL B S1 r fun xs S2 => k (x :: xs) S2
/-- surely one cell -/
def Prim.one : Prim → Bool
  | .bin _ _ | .un _ | .len _ | .mnx _ | .idx | .sls _ _ | .slc _ _ _ _ | .bsl _ | .app _ | .mks _ | .s2b | .b2s | .i2i _ | .s2s | .chk _ | .b2so _ _ | .fn _ | .sc => true
  | _ => false
/-- an operation on values, put into a slot -/
def doX (B : Bld X D) (S : PS X) (p : Prim) (xs : List X) (d : Option Nat) (own : Bool) (k : PS X → D) : D :=
  B.prim p xs S.nx fun x => k ((S.push x).put d (.at (.n S.nx own p.one)))
def doP (B : Bld X D) (S : PS X) (p : Prim) (os : List Opd) (d : Option Nat) (own : Bool) (k : PS X → D) : D :=
  matL B S os fun xs S1 => doX B S1 p xs d own k

/-- the simple ones -/
def optL : Option Opd → List Opd
  | none => []
  | some x => [x]
def primOf : AOp → Option (Prim × List Opd × Bool)
  | .ext t i => some (.ext i, [t], false)
  | .bin op q x y => match q with | .slice => none | .ptr => none | q => some (.bin op q, [x, y], false)
  | .un op x => some (.un op, [x], false)
  | .len s x => some (.len s, [x], false)
  | .mnx m x y => some (.mnx m, [x, y], false)
  | .fld n off x => some (.fld n off, [x], false)
  | .idx x i => some (.idx, [x, i], false)
  | .idxa l sz n x i => some (.idxa l sz n, [x, i], false)
  | .sls x lo hi => some (.sls lo.isSome hi.isSome, x :: (optL lo ++ optL hi), false)
  | .slc sz x lo hi mx => some (.slc sz lo.isSome hi.isSome mx.isSome, x :: (optL lo ++ optL hi ++ optL mx), mx.isSome)
  | .bsl sz xs => some (.bsl sz, xs, true)
  | .mks sz _ l c => some (.mks sz, [l, c], true)
  | .s2b x => some (.s2b, [x], true)
  | .b2s x => some (.b2s, [x], false)
  | .i2i k x => some (.i2i k, [x], false)
  | .s2s x => some (.s2s, [x], false)
  | .mkf f xs => some (.fn f, xs, false)
  | _ => none

def PS.truth (S : PS X) : Option Sy → Option Bool
  | some (.at (.c (.bool b) _)) => some b
  | some (.at (.n i _ _)) => lk S.lits i
  | _ => none

def zkind : V → Option IntKind
  | .int k 0 => some k
  | _ => none
/-- how many of a list's first cells are zeros of one kind -/
def zrun (k : IntKind) : List V → Nat
  | v :: r => match zkind v with | some j => (match decide (j = k) with | true => zrun k r + 1 | false => 0) | none => 0
  | [] => 0
def grp : Nat → List V → Option (List Seg)
  | 0, _ => none
  | _ + 1, [] => some []
  | m + 1, v :: r =>
    match zkind v with
    | some k =>
      match Nat.ble 3 (zrun k r) with
      | true => (grp m (r.drop (zrun k r))).map (.many (some (zrun k r + 1)) (.c (.agg (repl (zrun k r + 1) (.int k 0))) false) :: ·)
      | false => (grp m r).map (.one (.c v false) :: ·)
    | none => match v.sc, constAt v with | true, some a => (grp m r).map (.one a :: ·) | _, _ => none

def Seg.len : Seg → Option Nat
  | .one _ => some 1
  | .many n _ => n
/-- the segment in which a cell lies, and where in it; i: how many segments stand ahead -/
def segAt : List Seg → Nat → Nat → Option (Seg × Nat × Nat)
  | [], _, _ => none
  | s :: r, off, i =>
    match s.len with
    | none => some (s, off, i)
    | some n => match Nat.blt off n with | true => some (s, off, i) | false => segAt r (off - n) (i + 1)
/-- how many segments have just so many cells, from the first one on -/
def segCount : List Seg → Nat → Option Nat
  | _, 0 => some 0
  | [], _ + 1 => none
  | s :: r, m + 1 => match s.len with | some n => (match Nat.ble n (m + 1) && Nat.ble 1 n with | true => (segCount r (m + 1 - n)).map (· + 1) | false => none) | none => none

def spl (ss : List Seg) (i : Nat) (m : Nat) (q : List Seg) : List Seg := ss.take i ++ q ++ ss.drop (i + m)

/-- part of a segment's content -/
def ldIn (B : Bld X D) (S : PS X) (a : At) (n : Option Nat) (r : Nat) (k : Sy → PS X → D) : D :=
  mat B S (some (.at a)) fun x S1 => B.prim (.ld n r) [x] S1.nx fun y => k (.at (.n S1.nx false false)) (S1.push y)
/-- some of an object's segments -/
def ldSegs (B : Bld X D) (S : PS X) (ss : List Seg) (i m : Nat) (k : Sy → PS X → D) (alt : D) : D :=
  match segCount (ss.drop i) m with
  | some q =>
    match segVals B S ((ss.drop i).take q) with
    | some (ns, xs) => B.prim (.cat ns) xs S.nx fun x => k (.agg (((ss.drop i).take q).map Seg.noOwn) (some S.nx)) (S.push x)
    | none => k (.agg (((ss.drop i).take q).map Seg.noOwn) none) S
  | none => alt
/-- what stands at a place of an object -/
def ldY (B : Bld X D) (S : PS X) (ss : List Seg) (off : Nat) (n : Option Nat) (k : Sy → PS X → D) : D :=
  match segAt ss off 0, n with
  | some (.one a, 0, _), none => k (.at a.noOwn) S
  | some (.one _, 0, i), some m => ldSegs B S ss i m k B.fail
  | some (.many (some m') a, 0, i), some m =>
    match Nat.beq m m' && Nat.ble 2 m with
    | true => k (.at a.plain) S
    | false => ldSegs B S ss i m k (ldIn B S a n 0 k)
  | some (.many _ a, r, _), _ => ldIn B S a n r k
  | _, _ => B.fail
def ldAt (B : Bld X D) (S : PS X) (ss : List Seg) (off : Nat) (n : Option Nat) (d : Option Nat) (k : PS X → D) : D := ldY B S ss off n fun y S' => k (S'.put d y)

/-- a value as so many cells -/
def asSegs (B : Bld X D) (S : PS X) (n : Nat) (y : Sy) (mny : Bool) (k : List Seg → PS X → D) : D :=
  match y with
  | .tup _ => B.fail
  | .agg q z => match segCount q n with | some m => (match Nat.beq m q.length with | true => (match mny, z with | true, some z => k [.many (some n) (.n z false false)] S | _, _ => k q S) | false => B.fail) | none => B.fail
  | .at a =>
    match n with
    | 1 => match a.one with
      | true => k [.one a.noOwn] S
      | false => mat B S (some (.at a)) fun x S1 => B.prim .sc [x] S1.nx fun z => k [.one (.n S1.nx false true)] (S1.push z)
    | n => mat B S (some (.at a)) fun x S1 => B.prim (.cat [some n]) [x] S1.nx fun z => k [.many (some n) (.n S1.nx false false)] (S1.push z)
/-- cells are put into an object -/
def stAt (B : Bld X D) (S : PS X) (o : Nat) (ss : List Seg) (off n : Nat) (y : Sy) (d : Option Nat) (k : PS X → D) : D :=
  match segAt ss off 0 with
  | some (s, r, i) =>
    match (match r with | 0 => segCount (ss.drop i) n | _ + 1 => none) with
    | some m => asSegs B S n y (match s with | .many (some n') _ => Nat.beq n n' | _ => false) fun q S1 => k ((S1.setOb o (spl ss i m q)).put d (.at .nil))
    | none =>
      match s with
      | .many sn a => mat B S (some (.at a)) fun x S1 => mat B S1 (some y) fun z S2 => B.prim (.set n r) [x, z] S2.nx fun w => k (((S2.push w).setOb o (spl ss i 1 [.many sn (.n S2.nx false false)])).put d (.at .nil))
      | .one _ => B.fail
  | none => B.fail

def At.isVal : At → Bool
  | .c _ _ => true
  | .n _ _ _ => true
  | _ => false
def Seg.isVal : Seg → Bool
  | .one a => a.isVal
  | .many _ a => a.isVal
/-- parts of a struct, as atoms -/
def partAt : Option Sy → Option At
  | some (.at a) => match a.isVal with | true => some a | false => none
  | some (.agg _ (some z)) => some (.n z false false)
  | _ => none
def partAts (S : PS X) : List (Nat × Nat × Opd) → Option (List At)
  | [] => some []
  | p :: r => match partAt (S.opd p.2.2), partAts S r with | some a, some l => some (a :: l) | _, _ => none
def partLen (n : Nat) : Option Nat := match n with | 1 => none | n => some n
def partSeg (n : Nat) (a : At) : Seg := match n with | 1 => .one a.noOwn | n => .many (some n) a.plain
/-- parts that stand one behind the other: how far they go -/
def inRow : Nat → List (Nat × Nat × Opd) → Option Nat
  | o, [] => some o
  | o, p :: r => match Nat.beq p.1 o with | true => inRow (o + p.2.1) r | false => none
def partSegs : List (Nat × Nat × Opd) → List At → List Seg
  | p :: r, a :: l => partSeg p.2.1 a :: partSegs r l
  | _, _ => []
/-- a struct's parts are put into it, one by one -/
def fillS (ss : List Seg) : List (Nat × Nat × Opd) → List At → Option (List Seg)
  | [], _ => some ss
  | p :: r, a :: l =>
    (match segAt ss p.1 0 with
    | some (_, 0, i) => match segCount (ss.drop i) p.2.1 with | some m => fillS (spl ss i m [partSeg p.2.1 a]) r l | none => none
    | _ => none)
  | _ :: _, [] => none
end
end Go.Abs
/-
  Y, part 2: what a plain code comes to, over values alone: operations and code. Own work of this seat.
-/
namespace Go.Abs

section
variable {X D : Type}

/-- a struct is put together -/
def bldP (B : Bld X D) (S : PS X) (z : List V) (ps : List (Nat × Nat × Opd)) (d : Option Nat) (k : PS X → D) : D :=
  match partAts S ps with
  | some ats =>
    matL B S (ps.map (·.2.2)) fun xs S1 => B.prim (.cat (ps.map fun p => partLen p.2.1)) xs S1.nx fun y =>
      match (match inRow 0 ps with | some e => Nat.beq e z.length | none => false) with
      | true => k ((S1.push y).put d (.agg (partSegs ps ats) (some S1.nx)))
      | false =>
        match grp (z.length + 1) z with
        | some ss =>
          (match fillS ss ps ats with
          | some q => (match segVals B (S1.push y) q with
            | some (ns, ys) => B.prim (.cat ns) ys (S1.push y).nx fun w => k (((S1.push y).push w).put d (.agg q (some (S1.push y).nx)))
            | none => B.fail)
          | none => B.fail)
        | none => B.fail
  | none => B.fail
def PS.newOb (S : PS X) (ss : List Seg) : PS X := { S with ob := S.ob ++ [some ss] }

/-! ## calls that take objects -/
/-- the callee's object k is the caller's object o -/
def mO (no : Nat) (ρ : List (Nat × Nat)) (k o : Nat) : Option (List (Nat × Nat)) :=
  match Nat.blt k no with
  | true => match lk ρ k with
    | some o' => (match Nat.beq o o' with | true => some ρ | false => none)
    | none => (match ρ.any (fun p => Nat.beq p.2 o) with | true => none | false => some ((k, o) :: ρ))
  | false => none
def mPs (no : Nat) : List (Nat × Nat) → List (Nat × Nat) → List (Nat × Nat) → Option (List (Nat × Nat))
  | [], [], ρ => some ρ
  | (k, off) :: r, (o, off') :: q, ρ => match Nat.beq off off', mO no ρ k o with | true, some ρ' => mPs no r q ρ' | _, _ => none
  | _, _, _ => none
def mAt (B : Bld X D) (S : PS X) (no : Nat) (T y : At) (ρ : List (Nat × Nat)) (acc : List X) : Option (List (Nat × Nat) × List X) :=
  match T, y with
  | .ptr k off, .ptr o off' => match Nat.beq off off', mO no ρ k o with | true, some ρ' => some (ρ', acc) | _, _ => none
  | .gp o off, .gp o' off' => match Nat.beq o o' && Nat.beq off off' with | true => some (ρ, acc) | false => none
  | .osl k off n c s, .osl o off' n' c' s' => match Nat.beq off off' && Nat.beq n n' && Nat.beq c c' && Nat.beq s s', mO no ρ k o with | true, some ρ' => some (ρ', acc) | _, _ => none
  | .fp m f ps, .fp m' f' ps' => match Bool.xor m m' || !Nat.beq f f', mPs no ps ps' ρ with | false, some ρ' => some (ρ', acc) | _, _ => none
  | .el i off, .el j off' => match Nat.beq i acc.length && Nat.beq off off', S.vals[j]? with | true, some x => some (ρ, acc ++ [x]) | _, _ => none
  | .n i own sc, y => match Nat.beq i acc.length && (!own || y.owned) && (!sc || y.one), S.valA B y with | true, some x => some (ρ, acc ++ [x]) | _, _ => none
  | .c .nilptr false, .c .nilptr _ => some (ρ, acc)
  | _, _ => none
def mSegs (B : Bld X D) (S : PS X) (no : Nat) : List Seg → List Seg → List (Nat × Nat) → List X → Option (List (Nat × Nat) × List X)
  | [], [], ρ, acc => some (ρ, acc)
  | .one a :: r, .one b :: q, ρ, acc => match mAt B S no a b ρ acc with | some (ρ, acc) => mSegs B S no r q ρ acc | none => none
  | .many (some n) a :: r, .many (some m) b :: q, ρ, acc => match Nat.beq n m, mAt B S no a b ρ acc with | true, some (ρ, acc) => mSegs B S no r q ρ acc | _, _ => none
  | .many none a :: r, .many none b :: q, ρ, acc => match mAt B S no a b ρ acc with | some (ρ, acc) => mSegs B S no r q ρ acc | none => none
  | _, _, _, _ => none
/-- the objects, from number k on -/
def mObs (B : Bld X D) (S : PS X) (no : Nat) : List (Option (List Seg)) → Nat → List (Nat × Nat) → List X → Option (List (Nat × Nat) × List X)
  | [], _, ρ, acc => some (ρ, acc)
  | q :: r, k, ρ, acc =>
    match lk ρ k with
    | some o => (match Nat.blt o S.ob.length with
      | true => (match q with
        | none => mObs B S no r (k + 1) ρ acc
        | some ss => match S.obj o with
          | some qs => (match mSegs B S no ss qs ρ acc with | some (ρ, acc) => mObs B S no r (k + 1) ρ acc | none => none)
          | none => none)
      | false => none)
    | none => none
def mAts (B : Bld X D) (S : PS X) (no : Nat) : List At → List At → List (Nat × Nat) → List X → Option (List (Nat × Nat) × List X)
  | [], [], ρ, acc => some (ρ, acc)
  | a :: r, b :: q, ρ, acc => match mAt B S no a b ρ acc with | some (ρ, acc) => mAts B S no r q ρ acc | none => none
  | _, _, _, _ => none
/-- the slots that a call begins with, of these arguments -/
def mArgs (B : Bld X D) (S : PS X) (no : Nat) (az : List At) : List (Nat × Sy) → List (Nat × Nat) → List X → Option (List (Nat × Nat) × List X)
  | [], ρ, acc => some (ρ, acc)
  | (t, .at a) :: r, ρ, acc => (match az[t]? with | some b => (match mAt B S no a b ρ acc with | some (ρ, acc) => mArgs B S no az r ρ acc | none => none) | none => none)
  | _ :: _, _, _ => none
/-- does a call fit a row of the table? -/
def fitE (B : Bld X D) (S : PS X) (E : FE) (az : List At) : Option (List (Nat × Nat) × List X) :=
  match Nat.beq az.length E.ar && Nat.beq E.ent.g E.ent.ob.length with
  | true => match mArgs B S E.ent.g az E.ent.tm [] [] with
    | some (ρ, acc) => match mObs B S E.ent.g E.ent.ob 0 ρ acc with
      | some (ρ, xs) => (match Nat.beq xs.length E.ent.n with | true => some (ρ, xs) | false => none)
      | none => none
    | none => none
  | false => none
def pickE (B : Bld X D) (S : PS X) (az : List At) : List FE → Option (FE × List (Nat × Nat) × List X)
  | [] => none
  | E :: r => match fitE B S E az with | some q => some (E, q) | none => pickE B S az r

/-- names of the callee, for the caller -/
def rnPs (ρ : List (Nat × Nat)) : List (Nat × Nat) → Option (List (Nat × Nat))
  | [] => some []
  | (k, off) :: r => match lk ρ k, rnPs ρ r with | some o, some q => some ((o, off) :: q) | _, _ => none
def rnAt (ρ : List (Nat × Nat)) (b : Nat) : At → Option At
  | .c v o => some (.c v o)
  | .n i o s => some (.n (b + i) o s)
  | .ptr k off => match lk ρ k with | some o => some (.ptr o off) | none => none
  | .gp g off => some (.gp g off)
  | .el i off => some (.el (b + i) off)
  | .osl k off n c s => match lk ρ k with | some o => some (.osl o off n c s) | none => none
  | .fp m f ps => match rnPs ρ ps with | some q => some (.fp m f q) | none => none
  | _ => none
def rnAts (ρ : List (Nat × Nat)) (b : Nat) : List At → Option (List At)
  | [] => some []
  | a :: r => match rnAt ρ b a, rnAts ρ b r with | some x, some l => some (x :: l) | _, _ => none
def rnSegs (ρ : List (Nat × Nat)) (b : Nat) : List Seg → Option (List Seg)
  | [] => some []
  | .one a :: r => match rnAt ρ b a, rnSegs ρ b r with | some x, some l => some (.one x :: l) | _, _ => none
  | .many n a :: r => match rnAt ρ b a, rnSegs ρ b r with | some x, some l => some (.many n x :: l) | _, _ => none
def rlk : List (Nat × Nat) → Nat → Option Nat
  | [], _ => none
  | (k, o) :: r, t => match Nat.beq o t with | true => some k | false => rlk r t
def mapI {α β : Type} (f : Nat → α → β) : Nat → List α → List β
  | _, [] => []
  | i, a :: r => f i a :: mapI f (i + 1) r
def rnO (ρ : List (Nat × Nat)) (b : Nat) (q : Option (Option (List Seg))) : Option (List Seg) := match q with | some (some ss) => rnSegs ρ b ss | _ => none
/-- from k on: these are new ones, from o on -/
def newR : Nat → Nat → Nat → List (Nat × Nat)
  | 0, _, _ => []
  | n + 1, k, o => (k, o) :: newR n (k + 1) (o + 1)
/-- the caller's state behind a call -/
def PS.after (S : PS X) (g : Nat) (ρ : List (Nat × Nat)) (rt : RT) (xs : List X) : List (Nat × Nat) × PS X :=
  let ρ' := ρ ++ newR (rt.ob.length - g) g S.ob.length
  (ρ', { S with vals := S.vals ++ xs, ob := mapI (fun o q => match rlk ρ' o with | some k => rnO ρ' S.vals.length rt.ob[k]? | none => q) 0 (S.ob ++ List.replicate (rt.ob.length - g) none) })
def putRs (B : Bld X D) (S : PS X) (d : Option Nat) (k : PS X → D) : Option (List At) → D
  | some [a] => k (S.put d (.at a))
  | some az => k (S.put d (.tup az))
  | none => B.fail
/-- a value's parts, from the i-th on -/
def unp (B : Bld X D) (v : X) : Nat → Nat → Nat → (List X → D) → D
  | 0, _, _, k => k []
  | n + 1, i, nx, k => B.prim (.ext i) [v] nx fun x => unp B v n (i + 1) (nx + 1) fun xs => k (x :: xs)
def unpR (B : Bld X D) (tag : Bool) (v : X) (n nx : Nat) (k : List X → D) : D :=
  match tag, n with
  | false, 1 => k [v]
  | false, n => unp B v n 0 nx k
  | true, n => unp B v n 1 nx k
def callRs (B : Bld X D) (S : PS X) (g : Nat) (ρ : List (Nat × Nat)) (d : Option Nat) (tag : Bool) (v : X) (rt : RT) (k : PS X → D) : D :=
  match Nat.ble g rt.ob.length with
  | true => unpR B tag v rt.n S.nx fun xs => putRs B (S.after g ρ rt xs).2 d k (rnAts (S.after g ρ rt xs).1 S.vals.length rt.res)
  | false => B.fail
/-- several ways to end: the number tells which -/
def swR (B : Bld X D) (t : X) (k : PS X → RT → D) : PS X → Int → List RT → D
  | _, _, [] => B.fail
  | S, _, [rt] => k S rt
  | S, j, rt :: r => B.prim (.bin .eql .no) [t, B.c (.int .i64 j)] S.nx fun b => B.ite b (k (S.push b) rt) (swR B t k (S.push b) (j + 1) r)
def callE (B : Bld X D) (S : PS X) (d : Option Nat) (k : PS X → D) : Option (FE × List (Nat × Nat) × List X) → D
  | some (E, ρ, xs) => match E.ret with
    | some [rt] => B.callh E.k xs S.nx fun v => callRs B (S.push v) E.ent.g ρ d false v rt k
    | some rts => B.callh E.k xs S.nx fun v => B.prim (.ext 0) [v] (S.nx + 1) fun t => swR B t (fun S1 rt => callRs B S1 E.ent.g ρ d true v rt k) ((S.push v).push t) 0 rts
    | none => B.fail
  | none => B.fail
/-- an argument, as an atom -/
def atO (B : Bld X D) (S : PS X) (y : Option Sy) (k : At → PS X → D) : D :=
  match y with
  | some (.at a) => k a S
  | some (.agg _ (some z)) => k (.n z false false) S
  | some (.agg ss none) => match segVals B S ss with | some (ns, xs) => B.prim (.cat ns) xs S.nx fun x => k (.n S.nx false false) (S.push x) | none => B.fail
  | _ => B.fail
def atsO (B : Bld X D) (S : PS X) : List Opd → (List At → PS X → D) → D
  | [], k => k [] S
  | o :: r, k => atO B S (S.opd o) fun a S1 => atsO B S1 r fun az S2 => k (a.noOwn :: az) S2
def At.isPtr : At → Bool
  | .ptr _ _ => true
  | .osl _ _ _ _ _ => true
  | _ => false
/-- a function over objects -/
def ptrsOf (S : PS X) : List Opd → Option (List (Nat × Nat))
  | [] => some []
  | x :: r => match S.opd x, ptrsOf S r with | some (.at (.ptr o off)), some l => some ((o, off) :: l) | _, _ => none
def psAts (ps : List (Nat × Nat)) : List At := ps.map fun p => .ptr p.1 p.2
/-- ahead of the arguments, or behind them -/
def withPs (m : Bool) (az : List At) (ps : List (Nat × Nat)) : List At := match m with | true => psAts ps ++ az | false => az ++ psAts ps
/-- a part of an object as one segment -/
def coal (B : Bld X D) (S : PS X) (o off n : Nat) (k : PS X → D) : D :=
  match S.obj o with
  | some ss => match segAt ss off 0 with
    | some (.many _ _, _, _) => k S
    | some (.one _, 0, i) => match segCount (ss.drop i) n with
      | some q => (match segVals B S ((ss.drop i).take q) with
        | some (ns, xs) => B.prim (.cat ns) xs S.nx fun x => k ((S.push x).setOb o (spl ss i q [.many (some n) (.n S.nx false false)]))
        | none => B.fail)
      | none => B.fail
    | _ => B.fail
  | none => B.fail
def onO (B : Bld X D) (S : PS X) (x : Opd) (k : Sy → D) : D := match S.opd x with | some y => k y | none => B.fail
def boolAt (b : Bool) : Sy := .at (.c (.bool b) false)
def nat64 (n : Nat) : Sy := .at (.c (.int .i64 n) false)

/-- an operation that is done -/
def op1 (B : Bld X D) (ow : Cfg) (d : Option Nat) (op : AOp) (S : PS X) (k : PS X → D) : D :=
  match op with
  | .mv x => onO B S x fun y => k (S.put d y.noOwn)
  | .mvo t => match S.get t with | some (.at a) => k ((S.disown t).put d (.at a)) | _ => B.fail
  | .pick c a b =>
    match S.truth (S.opd c) with
    | some true => onO B S a fun y => k (S.put d y.noOwn)
    | some false => onO B S b fun y => k (S.put d y.noOwn)
    | none => doP B S .pick [c, a, b] d false k
  | .un op x =>
    match op, S.truth (S.opd x) with
    | .not, some b => k (S.put d (boolAt !b))
    | op, _ => doP B S (.un op) [x] d false k
  | .bin op q x y =>
    match q with
    | .slice =>
      match op, y with
      | .eql, .const (.sl true _ []) => mat B S (S.opd x) fun v S1 => B.amb v (k (S1.put d (boolAt true))) (k (S1.put d (boolAt false)))
      | .neq, .const (.sl true _ []) => mat B S (S.opd x) fun v S1 => B.amb v (k (S1.put d (boolAt false))) (k (S1.put d (boolAt true)))
      | _, _ => B.fail
    | .ptr =>
      match S.opd x, S.opd y with
      | some (.at (.ptr _ _)), some (.at (.c .nilptr _)) => (match op with | .eql => k (S.put d (boolAt false)) | .neq => k (S.put d (boolAt true)) | _ => B.fail)
      | some (.at (.c .nilptr _)), some (.at (.c .nilptr _)) => (match op with | .eql => k (S.put d (boolAt true)) | .neq => k (S.put d (boolAt false)) | _ => B.fail)
      | _, _ => B.fail
    | q =>
      match S.opd x, S.opd y with
      | some (.at (.c v _)), some (.at (.c w _)) => (match abin op q v w with | some z => k (S.put d (.at (.c z false))) | none => B.fail)
      | _, _ => doP B S (.bin op q) [x, y] d false k
  | .len s x =>
    match s, S.opd x with
    | false, some (.at (.osl _ _ n _ _)) => k (S.put d (nat64 n))
    | s, _ => doP B S (.len s) [x] d false k
  | .iaddr sz x i =>
    match S.opd x with
    | some (.at (.osl o off n _ s)) =>
      (match Nat.beq s sz with
      | true => matL B S [i] fun xs S1 => B.prim (.chk n) xs S1.nx fun j => k ((S1.push j).put d (.at (.ptd o off S1.nx sz)))
      | false => B.fail)
    | _ => matL B S [x, i] fun xs S1 => B.prim (.elem sz) xs S1.nx fun e => k ((S1.push e).put d (.at (.el S1.nx 0)))
  | .iarr n sz x i =>
    match S.opd x, i with
    | some (.at (.ptr o off)), .const (.int _ (.ofNat j)) => (match Nat.blt j n with | true => k (S.put d (.at (.ptr o (off + j * sz)))) | false => B.fail)
    | some (.at (.ptr o off)), i => coal B S o off (n * sz) fun S => matL B S [i] fun xs S1 => B.prim (.chk n) xs S1.nx fun j => k ((S1.push j).put d (.at (.ptd o off S1.nx sz)))
    | some (.at (.gp o off)), i => matL B S [i] fun xs S1 => B.prim (.chk n) xs S1.nx fun j => k ((S1.push j).put d (.at (.gpd o off S1.nx sz)))
    | _, _ => B.fail
  | .faddr off x =>
    match S.opd x with
    | some (.at (.ptr o a)) => k (S.put d (.at (.ptr o (a + off))))
    | some (.at (.el i a)) => k (S.put d (.at (.el i (a + off))))
    | some (.at (.ptd o b i sz)) => k (S.put d (.at (.ptd o (b + off) i sz)))
    | some (.at (.gp g a)) => k (S.put d (.at (.gp g (a + off))))
    | _ => B.fail
  | .load n x =>
    match S.opd x with
    | some (.at (.ptr o off)) => (match S.obj o with | some ss => ldAt B S ss off n d k | none => B.fail)
    | some (.at (.ptd o b i sz)) => (match S.obj o with
      | some ss => (match segAt ss b 0, S.vals[i]? with
        | some (.many _ a, r, _), some j => mat B S (some (.at a)) fun x S1 => doX B S1 (.ldd n r sz) [x, j] d false k
        | _, _ => B.fail)
      | none => B.fail)
    | some (.at (.el i off)) => (match S.vals[i]? with | some x => doX B S (.ld n off) [x] d false k | none => B.fail)
    | some (.at (.gp g off)) => (match ow.gl g with | some cs => doX B S (.ld n off) [B.c (.agg cs)] d false k | none => B.fail)
    | some (.at (.gpd g b i sz)) => (match ow.gl g, S.vals[i]? with | some cs, some j => doX B S (.ldd n b sz) [B.c (.agg cs), j] d false k | _, _ => B.fail)
    | _ => B.fail
  | .ldo x =>
    match S.opd x with
    | some (.at (.ptr o off)) => (match S.obj o with
      | some ss => (match segAt ss off 0 with
        | some (.one a, 0, i) => k ((S.setOb o (spl ss i 1 [.one a.noOwn])).put d (.at a))
        | _ => B.fail)
      | none => B.fail)
    | _ => B.fail
  | .fld n off x =>
    match S.opd x with
    | some (.agg ss _) => ldAt B S ss off n d k
    | _ => doP B S (.fld n off) [x] d false k
  | .slca n sz x lo hi mx =>
    match S.opd x, lo, hi, mx with
    | some (.at (.ptr o off)), none, none, none => k (S.put d (.at (.osl o off n n sz)))
    | _, _, _, _ => B.fail
  | .build z ps => bldP B S z ps d k
  | .app sz s x =>
    match S.opd s with
    | some (.at a) => match a.owned with
      | true => matL B S [s, x] fun xs S1 => doX B (match s with | .tmp t => S1.disown t | .const _ => S1) (.app sz) xs d true k
      | false => B.fail
    | _ => B.fail
  | .b2s x =>
    match S.opd x with
    | some (.at (.osl o off n _ 1)) => (match S.obj o with
      | some ss => (match segAt ss off 0 with
        | some (.many _ a, r, _) => mat B S (some (.at a)) fun x S1 => doX B S1 (.b2so r n) [x] d false k
        | _ => B.fail)
      | none => B.fail)
    | _ => doP B S .b2s [x] d false k
  | .s2a n x => matL B S [x] fun xs S1 => B.prim (.s2a n) xs S1.nx fun e => k ((S1.push e).put d (.at (.el S1.nx 0)))
  | .nilck x =>
    match S.opd x with
    | some (.at (.ptr o a)) => k (S.put d (.at (.ptr o a)))
    | some (.at (.el i a)) => k (S.put d (.at (.el i a)))
    | _ => B.fail
  | .call f xs => matL B S xs fun ys S1 => B.call f ys S1.nx fun r => k ((S1.push r).put d (.at (.n S1.nx (ow.ow f) false)))
  | .callh f xs => atsO B S xs fun az S1 => callE B S1 d k (pickE B S1 az (ow.he f))
  | .callvh f xs =>
    match S.opd f with
    | some (.at (.fp m g ps)) => atsO B S xs fun az S1 => (match (withPs m az ps).any At.isPtr with | true => callE B S1 d k (pickE B S1 (withPs m az ps) (ow.he g)) | false => B.fail)
    | some (.at (.c (.fn g []) o)) =>
      (match ow.he g with
      | [] => matL B S xs fun ys S1 => B.call g ys S1.nx fun r => k ((S1.push r).put d (.at (.n S1.nx (ow.ow g) false)))
      | es => atsO B S xs fun az S1 => (match az.any At.isPtr with | true => callE B S1 d k (pickE B S1 az es) | false => B.fail))
    | some (.at a) => matL B S xs fun ys S1 => (match S1.valA B a with | some v => B.callv v ys S1.nx fun r => k ((S1.push r).put d (.at (.n S1.nx false false))) | none => B.fail)
    | _ => B.fail
  | .mkf f xs =>
    match ptrsOf S xs with
    | some (p :: ps) => k (S.put d (.at (.fp false f (p :: ps))))
    | _ => doP B S (.fn f) xs d false k
  | .mkm f xs =>
    match ptrsOf S xs with
    | some (p :: ps) => k (S.put d (.at (.fp true f (p :: ps))))
    | _ => B.fail
  | .ext t i =>
    match S.opd t with
    | some (.tup az) => (match az[i]? with | some a => k (S.put d (.at a.noOwn)) | none => B.fail)
    | _ => doP B S (.ext i) [t] d false k
  | .new cs => match grp (cs.length + 1) cs with | some ss => k ((S.newOb ss).put d (.at (.ptr S.ob.length 0))) | none => B.fail
  | .box x =>
    match S.opd x with
    | some (.agg ss _) => k ((S.newOb (ss.map Seg.noOwn)).put d (.at (.ptr S.ob.length 0)))
    | some (.tup _) => B.fail
    | some (.at a) => (match a.one with
      | true => k ((S.newOb [.one a.noOwn]).put d (.at (.ptr S.ob.length 0)))
      | false => mat B S (some (.at a)) fun x S1 => B.prim .scs [x] S1.nx fun z => k (((S1.push z).newOb [.many none (.n S1.nx false false)]).put d (.at (.ptr S.ob.length 0))))
    | none => B.fail
  | .store n a x =>
    match S.opd a with
    | some (.at (.ptr o off)) => (match S.obj o, S.opd x with
      | some ss, some y => stAt B S o ss off n y d k
      | _, _ => B.fail)
    | some (.at (.ptd o b i sz)) => (match S.obj o with
      | some ss => (match segAt ss b 0, S.vals[i]? with
        | some (.many sn a, r, p), some j => mat B S (some (.at a)) fun c S1 => mat B S1 (S1.opd x) fun y S2 =>
            B.prim (.std n r sz) [c, j, y] S2.nx fun w => k (((S2.push w).setOb o (spl ss p 1 [.many sn (.n S2.nx false false)])).put d (.at .nil))
        | _, _ => B.fail)
      | none => B.fail)
    | _ => B.fail
  | .sto a t =>
    match S.opd a, S.get t with
    | some (.at (.ptr o off)), some (.at y) => (match S.obj o with
      | some ss => (match segAt ss off 0, y.one with
        | some (.one _, 0, i), true => k (((S.disown t).setOb o (spl ss i 1 [.one y])).put d (.at .nil))
        | _, _ => B.fail)
      | none => B.fail)
    | _, _ => B.fail
  | op => match primOf op with | some (p, xs, own) => doP B S p xs d own k | none => B.fail

/-- an operation, perhaps under a guard -/
def opG (B : Bld X D) (ow : Cfg) (o : AOper) (S : PS X) (k : PS X → D) : D :=
  match o.guard with
  | none => op1 B ow o.dst o.op S k
  | some (t, w) =>
    match S.get t with
    | some (.at .nil) => k (S.put o.dst (.at .nil))
    | y =>
      match S.truth y with
      | some b => (match Bool.xor b w with | false => op1 B ow o.dst o.op S k | true => k (S.put o.dst (.at .nil)))
      | none =>
        match y with
        | some (.at (.n i _ _)) =>
          (match S.vals[i]? with
          | some x =>
            (match w with
            | true => B.ite x (op1 B ow o.dst o.op (S.know i true) k) (k ((S.know i false).put o.dst (.at .nil)))
            | false => B.ite x (k ((S.know i true).put o.dst (.at .nil))) (op1 B ow o.dst o.op (S.know i false) k))
          | none => B.fail)
        | _ => B.fail
def opsG (B : Bld X D) (ow : Cfg) : List AOper → PS X → (PS X → D) → D
  | [], S, k => k S
  | o :: r, S, k => opG B ow o S fun S' => opsG B ow r S' k

/-! ## labels -/
def psEq (no : Nat) : List (Nat × Nat) → List (Nat × Nat) → Bool
  | [], [] => true
  | (a, b) :: r, (c, d) :: q => Nat.beq a c && Nat.beq b d && Nat.blt a no && psEq no r q
  | _, _ => false
def gAt (B : Bld X D) (S : PS X) (no : Nat) (T y : At) (acc : List X) : Option (List X) :=
  match T, y with
  | .ptr o off, .ptr o' off' => match Nat.beq o o' && Nat.beq off off' && Nat.blt o no with | true => some acc | false => none
  | .gp o off, .gp o' off' => match Nat.beq o o' && Nat.beq off off' with | true => some acc | false => none
  | .osl o off n c s, .osl o' off' n' c' s' => match Nat.beq o o' && Nat.beq off off' && Nat.beq n n' && Nat.beq c c' && Nat.beq s s' && Nat.blt o no with | true => some acc | false => none
  | .fp m f ps, .fp m' f' ps' => match Bool.xor m m' || !(Nat.beq f f' && psEq no ps ps') with | false => some acc | true => none
  | .c .nilptr false, .c .nilptr _ => some acc
  | .el i off, .el j off' => match Nat.beq i acc.length && Nat.beq off off', S.vals[j]? with | true, some x => some (acc ++ [x]) | _, _ => none
  | .n i own sc, y => match Nat.beq i acc.length && (!own || y.owned) && (!sc || y.one), S.valA B y with | true, some x => some (acc ++ [x]) | _, _ => none
  | _, _ => none
def gSeg (B : Bld X D) (S : PS X) (no : Nat) (T y : Seg) (acc : List X) : Option (List X) :=
  match T, y with
  | .one a, .one b => gAt B S no a b acc
  | .many (some n) a, .many (some m) b => match Nat.beq n m with | true => gAt B S no a b acc | false => none
  | .many none a, .many none b => gAt B S no a b acc
  | _, _ => none
def gSegs (B : Bld X D) (S : PS X) (no : Nat) : List Seg → List Seg → List X → Option (List X)
  | [], [], acc => some acc
  | a :: r, b :: q, acc => match gSeg B S no a b acc with | some acc => gSegs B S no r q acc | none => none
  | _, _, _ => none
def gTm (B : Bld X D) (S : PS X) (no : Nat) : List (Nat × Sy) → List X → Option (List X)
  | [], acc => some acc
  | (t, .at a) :: r, acc =>
    (match S.get t with
    | some (.at b) => match gAt B S no a b acc with | some acc => gTm B S no r acc | none => none
    | some (.agg _ (some z)) => match gAt B S no a (.n z false false) acc with | some acc => gTm B S no r acc | none => none
    | _ => none)
  | (t, .agg ss none) :: r, acc =>
    (match S.get t with
    | some (.agg qs _) => match gSegs B S no ss qs acc with | some acc => gTm B S no r acc | none => none
    | _ => none)
  | (_, .agg _ (some _)) :: _, _ => none
  | (_, .tup _) :: _, _ => none
def gOb (B : Bld X D) (S : PS X) (no : Nat) : List (Option (List Seg)) → List (Option (List Seg)) → List X → Option (List X)
  | [], _, acc => some acc
  | none :: r, _ :: q, acc => gOb B S no r q acc
  | some ss :: r, some qs :: q, acc => match gSegs B S no ss qs acc with | some acc => gOb B S no r q acc | none => none
  | _, _, _ => none
def jump (B : Bld X D) (m : Nat) (T : PT) (S : PS X) : D :=
  match gTm B S T.ob.length T.tm [] with
  | some acc => match gOb B S T.ob.length T.ob S.ob acc with
    | some xs => match Nat.beq xs.length T.n && (Nat.beq T.g S.g && Nat.ble T.g T.ob.length) with | true => B.jmp m xs | false => B.fail
    | none => B.fail
  | none => B.fail
def PT.start (T : PT) (xs : List X) : PS X := ⟨xs, [], T.tm, T.ob, T.g⟩

/-! ## code -/
def ACode.size : ACode → Nat
  | .seq a b => a.size + b.size + 1
  | .cond _ a b => a.size + b.size + 1
  | .block _ b => b.size + 1
  | .loop b => b.size + 1
  | _ => 1

def pe (B : Bld X D) (ow : Cfg) (L : List (Nat × PT)) : ACode → Nat → PS X → (Ex → PS X → D) → D
  | .skip, _, S, k => k .normal S
  | .region os _, _, S, k => opsG B ow os S (k .normal)
  | .seq a b, n, S, k => pe B ow L a (n + 1) S fun e S' =>
      match e with
      | .normal => (match lk L (n + 1 + a.size) with | some T => jump B (n + 1 + a.size) T S' | none => pe B ow L b (n + 1 + a.size) S' k)
      | e => k e S'
  | .cond c a b, n, S, k =>
    match S.truth (S.opd c) with
    | some true => pe B ow L a (n + 1) S k
    | some false => pe B ow L b (n + 1 + a.size) S k
    | none =>
      match S.opd c with
      | some (.at (.n i _ _)) => (match S.vals[i]? with
        | some x => B.ite x (pe B ow L a (n + 1) (S.know i true) k) (pe B ow L b (n + 1 + a.size) (S.know i false) k)
        | none => B.fail)
      | _ => B.fail
  | .block id b, n, S, k => pe B ow L b (n + 1) S fun e S' => k (e.inBlock id) S'
  | .loop _, n, S, _ => match lk L n with | some T => jump B n T S | none => B.fail
  | .exit id, _, S, k => k (.exit id) S
  | .ret, _, S, k => k .ret S
  | .fail, _, _, _ => B.fail

/-- a label's code, from its state on -/
def peL (B : Bld X D) (ow : Cfg) (L : List (Nat × PT)) (c : ACode) (n : Nat) (S : PS X) (k : Ex → PS X → D) : D :=
  match c with
  | .loop b => pe B ow L b (n + 1) S fun e S' =>
      match e with
      | .normal => (match lk L n with | some T => jump B n T S' | none => B.fail)
      | e => k e S'
  | c => pe B ow L c n S k
/-- the code at a place -/
def peAt (B : Bld X D) (ow : Cfg) (L : List (Nat × PT)) (m : Nat) : ACode → Nat → PS X → (Ex → PS X → D) → D
  | .seq a b, n, S, k =>
    match Nat.blt m (n + 1 + a.size) with
    | true => peAt B ow L m a (n + 1) S fun e S' =>
      match e with
      | .normal => (match lk L (n + 1 + a.size) with | some T => jump B (n + 1 + a.size) T S' | none => pe B ow L b (n + 1 + a.size) S' k)
      | e => k e S'
    | false => match Nat.beq m (n + 1 + a.size) with
      | true => peL B ow L b (n + 1 + a.size) S k
      | false => peAt B ow L m b (n + 1 + a.size) S k
  | .cond _ a b, n, S, k =>
    match Nat.blt m (n + 1 + a.size) with
    | true => peAt B ow L m a (n + 1) S k
    | false => peAt B ow L m b (n + 1 + a.size) S k
  | .block id b, n, S, k => peAt B ow L m b (n + 1) S fun e S' => k (e.inBlock id) S'
  | .loop b, n, S, k =>
    match Nat.beq m n with
    | true => peL B ow L (.loop b) n S k
    | false => peAt B ow L m b (n + 1) S fun e S' =>
      match e with
      | .normal => (match lk L n with | some T => jump B n T S' | none => B.fail)
      | e => k e S'
  | _, _, _, _ => B.fail

/-! ## functions -/
/-- one result -/
def resR (B : Bld X D) (S : PS X) (r : RS) (k : X → PS X → D) : D :=
  match r with
  | .t t => mat B S (S.get t) k
  | .c t n => match S.get t with
    | some (.at (.ptr o off)) => (match S.obj o with
      | some ss => ldY B S ss off n fun y S1 => mat B S1 (some y) k
      | none => B.fail)
    | _ => B.fail
def resL (B : Bld X D) (S : PS X) : List RS → List X → D
  | [], acc => B.ret acc
  | r :: rs, acc => resR B S r fun x S1 => resL B S1 rs (acc ++ [x])
def resK (B : Bld X D) (own : Bool) (res : List RS) (e : Ex) (S : PS X) : D :=
  match e with
  | .exit _ => B.fail
  | _ =>
    match own with
    | false => resL B S res []
    | true => match res with
      | [.t t] => (match S.get t with
        | some (.at a) => (match a.owned with | true => resL B S res [] | false => B.fail)
        | _ => B.fail)
      | _ => B.fail

/-- results, as atoms -/
def resA (B : Bld X D) (S : PS X) : List RS → (List At → PS X → D) → D
  | [], k => k [] S
  | .t t :: rs, k => atO B S (S.get t) fun a S1 => resA B S1 rs fun az S2 => k (a :: az) S2
  | .c t n :: rs, k => match S.get t with
    | some (.at (.ptr o off)) => (match S.obj o with
      | some ss => ldY B S ss off n fun y S1 => atO B S1 (some y) fun a S2 => resA B S2 rs fun az S3 => k (a :: az) S3
      | none => B.fail)
    | _ => B.fail
def idR : Nat → List (Nat × Nat)
  | 0 => []
  | n + 1 => idR n ++ [(n, n)]
/-- does an end fit? -/
def fitR (B : Bld X D) (S : PS X) (az : List At) (rt : RT) : Option (List X) :=
  match Nat.ble S.g rt.ob.length && Nat.ble S.g S.ob.length with
  | true => match mAts B S rt.ob.length rt.res az (idR S.g) [] with
    | some (ρ, acc) => match mObs B S rt.ob.length rt.ob 0 ρ acc with
      | some (_, xs) => (match Nat.beq xs.length rt.n with | true => some xs | false => none)
      | none => none
    | none => none
  | false => none
def dum (B : Bld X D) : List X → List X
  | [] => [B.c (.bool true)]
  | xs => xs
def retT (B : Bld X D) (S : PS X) (az : List At) : Int → List RT → D
  | _, [] => B.fail
  | j, rt :: r => match fitR B S az rt with | some xs => B.ret (B.c (.int .i64 j) :: dum B xs) | none => retT B S az (j + 1) r
def retP (B : Bld X D) (S : PS X) (az : List At) : List RT → D
  | [rt] => match fitR B S az rt with | some xs => B.ret xs | none => B.fail
  | rts => retT B S az 0 rts
/-- several results: none to append to -/
def oneA : List At → List At
  | [a] => [a]
  | az => az.map At.noOwn
def resH (B : Bld X D) (rts : List RT) (res : List RS) (e : Ex) (S : PS X) : D :=
  match e with
  | .exit _ => B.fail
  | _ => resA B S res fun az S1 => retP B S1 (oneA az) rts
def resE (B : Bld X D) (E : FE) (res : List RS) (e : Ex) (S : PS X) : D :=
  match E.ret with
  | none => resK B E.own res e S
  | some rts => resH B rts res e S

def params : Nat → List (Nat × Sy)
  | 0 => []
  | n + 1 => params n ++ [(n, .at (.n n false false))]
def entry (n : Nat) : PT := ⟨n, params n, [], 0⟩

/-- what a function (l = 0; that takes objects: l = 1), or what stands behind a label of it, comes to -/
def peF (B : Bld X D) (ow : Cfg) (F : AFn) (E : FE) (l : Nat) (xs : List X) : D :=
  match l with
  | 0 => (match Nat.beq xs.length E.ar && Nat.ble E.ar F.n && Nat.beq E.k E.f && E.ret.isNone with
    | true => pe B ow E.lab F.body 2 ((entry E.ar).start xs) (resE B E F.res)
    | false => B.fail)
  | 1 => (match Nat.beq xs.length E.ent.n && Nat.ble E.ar F.n && E.ret.isSome with
    | true => pe B ow E.lab F.body 2 (E.ent.start xs) (resE B E F.res)
    | false => B.fail)
  | l + 2 =>
    match lk E.lab (l + 2) with
    | some T => (match Nat.beq xs.length T.n with
      | true => peAt B ow E.lab (l + 2) F.body 2 (T.start xs) (resE B E F.res)
      | false => B.fail)
    | none => B.fail
end
end Go.Abs
