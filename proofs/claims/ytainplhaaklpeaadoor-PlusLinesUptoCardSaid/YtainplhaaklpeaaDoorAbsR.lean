/-
  Abs, part R: regions whose order is open: the theorem. Own work of this seat.
-/
import Derived.Test.YtainplhaaklpeaaDoorAbsQ
namespace Go.Abs
open Go.RowKit

variable {cx : Cx} {w : World} {B : Nat → Prop} {GB : Nat → Nat} {g : Gh} {st : St} {a : Act} {W : World} {Γ : Spec}

theorem meets_false {l m : List Nat} (h : meets l m = false) {t : Nat} (hl : t ∈ l) : t ∉ m := by
  intro hm
  have := List.any_eq_false.1 h t hl
  simp [hm] at this

theorem apart_of {gl : Nat → Option (List V)} {x y : AOper} {s s' : St} {u v : Ud} (hu : udOf Γ gl x s = some u) (hv : udOf Γ gl y s' = some v) (hc : confl x y = false) (hnu : u.nw.isSome = true → x.op.isNew = true) (hnv : v.nw.isSome = true → y.op.isNew = true) : Apart u v := by
  simp only [confl, Bool.or_eq_false_iff] at hc
  obtain ⟨⟨⟨⟨⟨⟨c1, c2⟩, c3⟩, c4⟩, c5⟩, c6⟩, c7⟩ := hc
  have du := ud_d hu
  have dv := ud_d hv
  have tu := ud_tk hu
  have tv := ud_tk hv
  have mem : ∀ {z : AOper} {t : Nat}, z.dst = some t → t ∈ z.ws := fun h => by simp [AOper.ws, h]
  have cellu : isCell u.tk = true → x.op.isLdo = true := fun h => by
    rcases tu with e | ⟨t, e, _⟩ | ⟨e, _⟩
    · rw [e] at h; cases h
    · rw [e] at h; cases h
    · exact e
  have cellv : isCell v.tk = true → y.op.isLdo = true := fun h => by
    rcases tv with e | ⟨t, e, _⟩ | ⟨e, _⟩
    · rw [e] at h; cases h
    · rw [e] at h; cases h
    · exact e
  have slotu : ∀ t, u.tk = some (.slot t) → t ∈ x.op.owns := fun t h => by
    rcases tu with e | ⟨t', e, h'⟩ | ⟨_, id, j, e⟩
    · rw [e] at h; cases h
    · rw [e] at h; cases h; exact h'
    · rw [e] at h; cases h
  have slotv : ∀ t, v.tk = some (.slot t) → t ∈ y.op.owns := fun t h => by
    rcases tv with e | ⟨t', e, h'⟩ | ⟨_, id, j, e⟩
    · rw [e] at h; cases h
    · rw [e] at h; cases h; exact h'
    · rw [e] at h; cases h
  refine ⟨fun t h1 h2 => ?_, fun t h => ⟨fun h2 => ?_, fun h2 => ?_⟩, fun t h => ⟨fun h2 => ?_, fun h2 => ?_⟩, fun ⟨h1, h2⟩ => ?_, fun ⟨h1, h2⟩ => ?_, fun h => ?_, fun h => ?_⟩
  · rw [du] at h1; rw [dv] at h2
    exact meets_false c1 (mem h1) (by simp [mem h2])
  · rw [dv] at h2
    exact meets_false c2 (mem h2) (by simp [slotu t h])
  · exact meets_false c3 (slotu t h) (slotv t h2)
  · rw [du] at h2
    exact meets_false c1 (mem h2) (by simp [slotv t h])
  · exact meets_false c3 (slotu t h2) (slotv t h)
  · rw [cellu h1, cellv h2] at c4; cases c4
  · rw [hnu h1, hnv h2] at c5; cases c5
  · cases hh : isCell v.tk with
    | false => rfl
    | true => rw [hnu h, cellv hh] at c6; cases c6
  · cases hh : isCell u.tk with
    | false => rfl
    | true => rw [hnv h, cellu hh] at c7; cases c7

theorem confl_symm {x y : AOper} (h : confl x y = false) : confl y x = false := by
  simp only [confl, Bool.or_eq_false_iff] at h ⊢
  obtain ⟨⟨⟨⟨⟨⟨c1, c2⟩, c3⟩, c4⟩, c5⟩, c6⟩, c7⟩ := h
  have m1 : ∀ {l m : List Nat}, (∀ t ∈ l, t ∉ m) → meets l m = false := fun h => List.any_eq_false.2 fun t ht => by simpa using h t ht
  refine ⟨⟨⟨⟨⟨⟨m1 fun t ht hm => ?_, m1 fun t ht hm => ?_⟩, m1 fun t ht hm => meets_false c3 hm ht⟩, by rw [Bool.and_comm]; exact c4⟩, by rw [Bool.and_comm]; exact c5⟩, by rw [Bool.and_comm]; exact c7⟩, by rw [Bool.and_comm]; exact c6⟩
  · simp only [List.append_assoc, List.mem_append] at hm
    rcases hm with hm | hm | hm
    · exact meets_false c2 ht (by simp [hm])
    · exact meets_false c1 hm (by simp [ht])
    · exact meets_false c2 ht (by simp [hm])
  · simp only [List.mem_append] at hm
    rcases hm with hm | hm
    · exact meets_false c1 ht (by simp [hm])
    · exact meets_false c1 ht (by simp [hm])

theorem ud_new {gl : Nat → Option (List V)} {x : AOper} {s : St} {u : Ud} (h : udOf Γ gl x s = some u) (hn : u.nw.isSome = true) : x.op.isNew = true := by
  unfold udOf at h
  split at h
  · split at h
    · rename_i e; simp [AOp.isNew, e]
    · rename_i e; simp [AOp.isNew, e]
    · simp only [Option.map_eq_some_iff] at h; obtain ⟨r, _, rfl⟩ := h; simp at hn
  · simp only [Option.some.injEq] at h; subst h; simp at hn

/-- the same change at another state that reads the same -/
theorem ud_congr {gl : Nat → Option (List V)} {x : AOper} {s s' : St} {u : Ud} (hns : x.op.isStore = false) (h : udOf Γ gl x s = some u) (htm : ∀ t ∈ x.rd, s'.tm t = s.tm t) (how : ∀ t ∈ x.op.owns, s'.own (.slot t) = s.own (.slot t))
    (hl : x.op.isLdo = true → ∀ id j, s'.own (.cell id j) = s.own (.cell id j))
    (hH : ∀ y ∈ x.op.hOpds, ∀ id, refId (evO s.tm y) = some id → (s.H id).isSome = true → s'.H id = s.H id) : udOf Γ gl x s' = some u := by
  have hr : ∀ t ∈ x.op.reads, s'.tm t = s.tm t := fun t ht => htm t (by simp [AOper.rd, ht])
  have hw : s'.wants x = s.wants x := by
    unfold St.wants
    split
    · rfl
    · rename_i t wt e
      rw [htm t (by simp [AOper.rd, e])]
  unfold udOf at h ⊢
  rw [hw]
  split at h
  · rename_i hwt
    rw [if_pos hwt]
    split at h
    · exact h
    · rename_i y e
      rw [e] at hr
      have : s'.ev y = s.ev y := evO_congr fun t ht => hr t (by simp [AOp.reads, ht])
      rw [this]; exact h
    · rename_i op h1 h2
      simp only [Option.map_eq_some_iff] at h
      obtain ⟨r, hr0, rfl⟩ := h
      have hsome := peval_some hr0
      have e : peval Γ gl s'.H s'.own s'.tm x.op = some r := by
        rw [← hr0, ← peval_congr (Γ := Γ) (gl := gl) (H := s'.H) (own := s.own) (own' := s'.own) (tm := s.tm) (tm' := s'.tm) (ao := x.op) (fun t ht => (hr t ht).symm) (fun t ht => (how t ht).symm) (fun hx id j => (hl hx id j).symm)]
        exact peval_H fun y hy id hid => hH y hy id hid (hsome y hy id hid)
      rw [e]; rfl
  · rename_i hwt
    rw [if_neg hwt]; exact h


theorem ancs_getD : ∀ (as : List AOper) (acc : List (List Nat)), (ancs as acc).length = acc.length + as.length
  | [], acc => by simp [ancs]
  | x :: r, acc => by simp [ancs, ancs_getD r]; omega

theorem getD_map {α : Type} [Inhabited α] {l : List α} {i : Nat} {x : α} (h : l[i]? = some x) : l.getD i default = x := by simp [List.getD, h]

/-- WHATEVER ORDER. -/
theorem draw_wpAny (hs : Scope cx w B GB) (hΓ : Sound cx Γ) {n : Nat} {ops : Array Oper} {as : List AOper} (hc : cOpers cx.P n ops ops.toList = some as) {m : Nat} (hm : m ≤ as.length) (hok : drawOk n as m = true) (h : SR w B GB g st a W) (hn : a.tmps.size = n)
    {st' : St} (he : execs Γ cx.gl as st = some st') {Q : Exit → Act → World → Prop} (hnext : ∀ g' a' W', SR w B GB g' st' a' W' → a'.tmps.size = n → Q .normal a' W') :
    wpAny cx.P .any ops Q ops.size (Array.replicate ops.size false) a W := by
  obtain ⟨hl, hget⟩ := cOpers_get hc
  simp only [Array.length_toList] at hl
  have hget' : ∀ i, i < ops.size → ∃ (o : Oper) (x : AOper), ops[i]? = some o ∧ as[i]? = some x ∧ cOper cx.P n ops o = some x := fun i hi => by
    obtain ⟨x, h1, h2⟩ := hget i ops[i] (by simp [hi])
    exact ⟨ops[i], x, Array.getElem?_eq_getElem hi, h1, h2⟩
  -- the states of the text's order
  obtain ⟨s, hs0, hsn, hstep⟩ : ∃ s : Nat → St, s 0 = st ∧ s as.length = st' ∧ ∀ (i : Nat) (x : AOper), as[i]? = some x → exec Γ cx.gl x (s i) = some (s (i + 1)) := by
    have key : ∀ (l : List AOper) (s0 s1 : St), execs Γ cx.gl l s0 = some s1 → ∃ s : Nat → St, s 0 = s0 ∧ s l.length = s1 ∧ ∀ (i : Nat) (x : AOper), l[i]? = some x → exec Γ cx.gl x (s i) = some (s (i + 1)) := by
      intro l
      induction l with
      | nil => intro s0 s1 h; simp only [execs, Option.some.injEq] at h; subst h; exact ⟨fun _ => s0, rfl, rfl, fun i x h => by simp at h⟩
      | cons x r ih =>
        intro s0 s1 h
        simp only [execs] at h
        split at h
        · rename_i s2 h2
          obtain ⟨s, h3, h4, h5⟩ := ih s2 s1 h
          refine ⟨fun i => if i = 0 then s0 else s (i - 1), by simp, by simp [h4], fun i y hy => ?_⟩
          cases i with
          | zero => simp at hy; subst hy; simp [h3, h2]
          | succ i => have := h5 i y (by simpa using hy); simpa using this
        · simp at h
    exact key as st st' he
  -- what the check says
  have hchk : ∀ i, i < as.length → ∀ x, as[i]? = some x → (∀ e ∈ x.after, e < i) ∧ (∀ j ∈ (ancs as []).getD i [], j ∈ x.after ∨ ∃ e ∈ x.after, j ∈ (ancs as []).getD e []) ∧
      (i < m → x.op.isStore = false ∧ (∀ y ∈ x.op.hOpds, opdOk n y = true) ∧ ∀ j, j < i → ∀ y, as[j]? = some y → (j ∈ (ancs as []).getD i [] ∨ confl y x = false) ∧ ¬ (x.op.isNew = true ∧ y.op.isNew = true)) ∧
      (m ≤ i → ∀ j, j < i → j ∈ (ancs as []).getD i []) := by
    intro i hi x hx
    have := List.all_eq_true.1 hok i (List.mem_range.2 hi)
    simp only [getD_map hx, Bool.and_eq_true, List.all_eq_true, decide_eq_true_eq, Bool.or_eq_true, List.any_eq_true, List.contains_iff_mem] at this
    obtain ⟨⟨h1, h2⟩, h3⟩ := this
    refine ⟨h1, h2, fun hlt => ?_, fun hge => ?_⟩
    · rw [if_pos hlt] at h3
      simp only [Bool.and_eq_true, List.all_eq_true, List.mem_range, Bool.or_eq_true, List.contains_iff_mem, Bool.not_eq_true', Bool.and_eq_false_iff] at h3
      obtain ⟨⟨h3, h4⟩, h5⟩ := h3
      refine ⟨h3, h4, fun j hj y hy => ?_⟩
      obtain ⟨h6, h7⟩ := h5 j hj
      rw [getD_map hy] at h6 h7
      exact ⟨h6, fun ⟨e1, e2⟩ => by rcases h7 with h7 | h7 <;> simp_all⟩
    · rw [if_neg (by omega)] at h3
      simp only [List.all_eq_true, List.mem_range, List.contains_iff_mem] at h3
      exact h3
  have hud : ∀ i, ∃ u : Ud, i < m → ∃ x, as[i]? = some x ∧ udOf Γ cx.gl x (s i) = some u ∧ s (i + 1) = u.app (s i) := by
    intro i
    by_cases hi : i < m
    · have hx := List.getElem?_eq_getElem (show i < as.length by omega)
      obtain ⟨u, h1, h2⟩ := ud_of_exec ((hchk i (by omega) _ hx).2.2.1 hi).1 (hstep i _ hx)
      exact ⟨u, fun _ => ⟨_, hx, h1, h2⟩⟩
    · exact ⟨⟨none, Nil, false, none, none⟩, fun h => absurd h hi⟩
  obtain ⟨U, hU⟩ := Classical.axiomOfChoice hud
  have hfold : ∀ i, i ≤ m → foldU U (fun _ => true) st i = s i := by
    intro i
    induction i with
    | zero => intro _; exact hs0.symm
    | succ i ih =>
      intro hi
      obtain ⟨x, _, _, h3⟩ := hU i (by omega)
      simp only [foldU, if_true, ih (by omega), h3]
  have hone : OneNew U m := by
    intro k k' hk hk' h1 h2
    obtain ⟨x, hx, hux, _⟩ := hU k hk
    obtain ⟨y, hy, huy, _⟩ := hU k' hk'
    have n1 := ud_new hux h1
    have n2 := ud_new huy h2
    rcases Nat.lt_trichotomy k k' with hlt | heq | hgt
    · exact absurd ⟨n2, n1⟩ (((hchk k' (by omega) y hy).2.2.1 hk').2.2 k hlt x hx).2
    · exact heq
    · exact absurd ⟨n1, n2⟩ (((hchk k (by omega) x hx).2.2.1 hk).2.2 k' hgt y hy).2
  -- one more operation of the unordered part
  have step1 : ∀ (S : Nat → Bool) (i : Nat), i < m → S i = false → (∀ k, S k = true → k < m) → (∀ k, S k = true → ∀ j ∈ (ancs as []).getD k [], S j = true) → (∀ j ∈ (ancs as []).getD i [], S j = true) →
      ∀ g' a' W', SR w B GB g' (foldU U S st m) a' W' → a'.tmps.size = n → ∀ x, as[i]? = some x → exec Γ cx.gl x (foldU U S st m) = some (foldU U (fun k => S k || k == i) st m) := by
    intro S i hi hSi hSm hcl hpre g' a' W' hsr hn' x hx
    obtain ⟨x', hx', hux, _⟩ := hU i hi
    rw [hx] at hx'; cases hx'
    obtain ⟨hst, hop, hpair⟩ := (hchk i (by omega) x hx).2.2.1 hi
    -- those that meet i stand on the right side of it
    have side : ∀ k y, k < m → as[k]? = some y → k ≠ i → confl y x = true → S k = decide (k < i) := by
      intro k y hk hy hne hcf
      rcases Nat.lt_or_ge k i with hlt | hge
      · have := (hpair k hlt y hy).1
        rw [hcf] at this
        rw [hpre k (this.resolve_right (by simp))]; simp [hlt]
      · have hgt : i < k := by omega
        have := (((hchk k (by omega) y hy).2.2.1 hk).2.2 i hgt x hx).1
        have hcf' : confl x y = true := by
          cases hh : confl x y with
          | true => rfl
          | false => rw [confl_symm hh] at hcf; cases hcf
        rw [hcf'] at this
        have hin := this.resolve_right (by simp)
        cases hSk : S k with
        | false => simp; omega
        | true => rw [hcl k hSk i hin] at hSi; cases hSi
    have hsi : foldU U (fun k => decide (k < i)) st m = s i := by rw [foldU_lt (by omega), hfold i (by omega)]
    have cf : ∀ {y : AOper}, (∃ t, t ∈ y.ws ∧ (t ∈ x.rd ∨ t ∈ x.ws ∨ t ∈ x.op.owns)) → confl y x = true := by
      intro y ⟨t, h1, h2⟩
      cases hh : confl y x with
      | true => rfl
      | false =>
        simp only [confl, Bool.or_eq_false_iff] at hh
        exact absurd (by simp only [List.append_assoc, List.mem_append]; exact h2) (meets_false hh.1.1.1.1.1.1 h1)
    have cf2 : ∀ {y : AOper} {t : Nat}, t ∈ y.op.owns → t ∈ x.op.owns → confl y x = true := by
      intro y t h1 h2
      cases hh : confl y x with
      | true => rfl
      | false =>
        simp only [confl, Bool.or_eq_false_iff] at hh
        exact absurd h2 (meets_false hh.1.1.1.1.2 h1)
    have htm : ∀ t ∈ x.rd, (foldU U S st m).tm t = (s i).tm t := by
      intro t ht
      rw [← hsi]
      refine foldU_tm hone (Nat.le_refl _) fun k hk hd => ?_
      by_cases hki : k = i
      · subst hki; rw [hSi]; simp
      · obtain ⟨y, hy, huy, _⟩ := hU k hk
        rw [ud_d huy] at hd
        exact side k y hk hy hki (cf ⟨t, by simp [AOper.ws, hd], .inl ht⟩)
    have how : ∀ t ∈ x.op.owns, (foldU U S st m).own (.slot t) = (s i).own (.slot t) := by
      intro t ht
      rw [← hsi]
      refine foldU_own hone (Nat.le_refl _) fun k hk hd => ?_
      by_cases hki : k = i
      · subst hki; rw [hSi]; simp
      · obtain ⟨y, hy, huy, _⟩ := hU k hk
        simp only [touches, Bool.or_eq_true, beq_iff_eq] at hd
        rcases hd with hd | hd
        · rw [ud_d huy] at hd
          exact side k y hk hy hki (cf ⟨t, by simp [AOper.ws, hd], .inr (.inr ht)⟩)
        · rcases ud_tk huy with e | ⟨t', e, h'⟩ | ⟨_, id, j, e⟩
          · rw [e] at hd; cases hd
          · rw [e] at hd; cases hd; exact side k y hk hy hki (cf2 h' ht)
          · rw [e] at hd; cases hd
    have hldo : x.op.isLdo = true → ∀ id j, (foldU U S st m).own (.cell id j) = (s i).own (.cell id j) := by
      intro hx1 id j
      rw [← hsi]
      refine foldU_own hone (Nat.le_refl _) fun k hk hd => ?_
      by_cases hki : k = i
      · subst hki; rw [hSi]; simp
      · obtain ⟨y, hy, huy, _⟩ := hU k hk
        simp only [touches, Bool.or_eq_true] at hd
        refine side k y hk hy hki ?_
        rcases hd with hd | hd
        · have hy1 : y.op.isLdo = true := by
            rcases ud_tk huy with e | ⟨t', e, _⟩ | ⟨h, _⟩
            · rw [e] at hd; cases hd
            · rw [e] at hd; cases hd
            · exact h
          simp [confl, hx1, hy1]
        · have hy1 := ud_new huy hd
          simp [confl, hx1, hy1]
    have hH : ∀ y ∈ x.op.hOpds, ∀ id, refId (evO (s i).tm y) = some id → ((s i).H id).isSome = true → (foldU U S st m).H id = (s i).H id := by
      intro y hy id hid hsome
      have hid' : refId (evO (foldU U S st m).tm y) = some id := by
        rw [← hid]; congr 1
        refine evO_congr fun t ht => htm t ?_
        have : t ∈ x.op.reads := by
          revert hy; cases x.op <;> simp only [AOp.hOpds, List.mem_singleton, List.not_mem_nil, false_implies] <;> intro hy <;> subst hy <;> simp [AOp.reads, ht]
        simp [AOper.rd, this]
      have hlt := hsr.ref hn' (hop y hy) hid'
      by_cases hex : ∃ k, k < m ∧ (U k).nw.isSome = true
      · obtain ⟨k, hk, hnw⟩ := hex
        obtain ⟨cs, hcs⟩ := Option.isSome_iff_exists.1 hnw
        have none_of : ∀ (T : Nat → Bool), T k = false → (∀ j, j < m → T j = true → (U j).nw = none) := by
          intro T hT j hj hTj
          cases hjn : (U j).nw with
          | none => rfl
          | some z => have := hone j k hj hk (by rw [hjn]; rfl) hnw; subst this; rw [hT] at hTj; cases hTj
        have hsid : ∀ (b : Bool), decide (k < i) = b → (s i).H = (if b = true then upd st.H st.nH (some (.cells cs)) else st.H) := by
          intro b hb
          rw [← hsi]
          cases b with
          | true => rw [(foldU_H1 (S := fun k => decide (k < i)) hone hcs (by simpa using hb) hk (Nat.le_refl _)).1]; simp
          | false => rw [(foldU_H0 (n := m) (none_of (fun k => decide (k < i)) hb)).1]; simp
        cases hSk : S k with
        | true =>
          rw [(foldU_H1 hone hcs hSk hk (Nat.le_refl _)).1]
          rw [hsid _ rfl] at hsome ⊢
          by_cases hki : k < i
          · simp [hki]
          · simp only [hki, decide_false, Bool.false_eq_true, if_false] at hsome ⊢
            have : id ≠ st.nH := fun e => by subst e; rw [h.obn _ (Nat.le_refl _)] at hsome; cases hsome
            simp [upd, this]
        | false =>
          obtain ⟨e1, e2⟩ := foldU_H0 (s0 := st) (n := m) (none_of S hSk)
          rw [e2] at hlt
          rw [e1, hsid _ rfl]
          by_cases hki : k < i
          · simp only [hki, decide_true, if_true]
            have : id ≠ st.nH := by omega
            simp [upd, this]
          · simp [hki]
      · have hnone : ∀ (T : Nat → Bool) j, j < m → T j = true → (U j).nw = none := fun T j hj _ => by
          cases hjn : (U j).nw with
          | none => rfl
          | some z => exact absurd ⟨j, hj, by rw [hjn]; rfl⟩ hex
        rw [(foldU_H0 (n := m) (hnone S)).1, ← hsi, (foldU_H0 (n := m) (hnone _)).1]
    have hu := ud_congr hst hux htm how hldo hH
    rw [exec_of_ud hst hu]
    congr 1
    symm
    refine foldU_add hSi (fun k => rfl) hi fun k h1 h2 h3 => ?_
    obtain ⟨y, hy, huy, _⟩ := hU k h2
    refine apart_of huy hux ?_ (fun h => ud_new huy h) (fun h => ud_new hux h)
    cases hh : confl y x with
    | false => rfl
    | true => have := side k y h2 hy (by omega) hh; rw [h3] at this; simp at this; omega
  -- the induction
  have hnl : as.length = ops.size := hl
  have aft : ∀ (i : Nat) (o : Oper) (x : AOper), ops[i]? = some o → cOper cx.P n ops o = some x → x.after = afters o := fun i o x _ hx => by
    simp only [cOper, Option.bind_eq_some_iff, Option.map_eq_some_iff] at hx
    obtain ⟨_, _, _, _, rfl⟩ := hx; rfl
  have getD_lt : ∀ (l : Array Bool) (k : Nat), l.size = ops.size → k < ops.size → l.getD k true = l.getD k false := fun l k h1 h2 => by simp [Array.getD, show k < l.size by omega]
  have nolist : ∀ (l : Array Bool), l.size = ops.size → Region.ready .any ops l = [] → ∀ k, k < ops.size → l.getD k false = true := by
    intro l hls hre k
    induction k using Nat.strongRecOn with
    | _ k ih =>
      intro hk
      cases hv : l.getD k false with
      | true => rfl
      | false =>
        obtain ⟨o, x, ho, hx, hcx⟩ := hget' k hk
        have : k ∈ Region.ready .any ops l := by
          refine mem_ready.2 ⟨by rw [getD_lt l k hls hk]; exact hv, o, ho, fun e he hb => ?_⟩
          have hea : e.on ∈ x.after := by rw [aft k o x ho hcx]; exact List.mem_map.2 ⟨e, List.mem_filter.2 ⟨by simpa using he, hb⟩, rfl⟩
          have hlt := (hchk k (by omega) x hx).1 _ hea
          exact ih e.on hlt (by omega)
        rw [hre] at this; cases this
  have main : ∀ (fuel : Nat) (l : Array Bool) (g' : Gh) (a' : Act) (W' : World), l.size = ops.size → l.toList.count false ≤ fuel →
      ((∀ k, l.getD k false = true → k < m) ∧ (∀ k, l.getD k false = true → ∀ j ∈ (ancs as []).getD k [], l.getD j false = true) ∧ SR w B GB g' (foldU U (fun k => l.getD k false) st m) a' W' ∨
        ∃ i, m ≤ i ∧ i ≤ ops.size ∧ (∀ k, k < ops.size → l.getD k false = decide (k < i)) ∧ SR w B GB g' (s i) a' W') → a'.tmps.size = n → wpAny cx.P .any ops Q fuel l a' W' := by
    intro fuel
    have fin : ∀ (l : Array Bool) (g' : Gh) (a' : Act) (W' : World), l.size = ops.size → (∀ k, k < ops.size → l.getD k false = true) →
        ((∀ k, l.getD k false = true → k < m) ∧ (∀ k, l.getD k false = true → ∀ j ∈ (ancs as []).getD k [], l.getD j false = true) ∧ SR w B GB g' (foldU U (fun k => l.getD k false) st m) a' W' ∨
          ∃ i, m ≤ i ∧ i ≤ ops.size ∧ (∀ k, k < ops.size → l.getD k false = decide (k < i)) ∧ SR w B GB g' (s i) a' W') → a'.tmps.size = n → Q .normal a' W' := by
      intro l g' a' W' hls hall hj hn'
      rcases hj with ⟨h1, _, h3⟩ | ⟨i, h1, h2, h3, h4⟩
      · have hmn : m = ops.size := by
          rcases Nat.lt_or_ge m ops.size with hlt | hge
          · have := h1 m (hall m hlt); omega
          · omega
        have e : foldU U (fun k => l.getD k false) st m = st' := by
          rw [foldU_congr (S' := fun _ => true) fun k hk => hall k (by omega), hfold m (Nat.le_refl _), ← hsn, hnl, hmn]
        rw [e] at h3
        exact hnext g' a' W' h3 hn'
      · have : i = ops.size := by
          rcases Nat.lt_or_ge i ops.size with hlt | hge
          · have := h3 i hlt; rw [hall i hlt] at this; simp at this
          · omega
        subst this
        rw [← hnl, hsn] at h4
        exact hnext g' a' W' h4 hn'
    induction fuel with
    | zero =>
      intro l g' a' W' hls hcnt hj hn'
      have hall : ∀ k, k < ops.size → l.getD k false = true := by
        intro k hk
        cases hv : l.getD k false with
        | true => rfl
        | false =>
          have hk' : k < l.size := by omega
          have : false ∈ l.toList := by
            have e : l[k] = false := by simpa [Array.getD, hk'] using hv
            rw [← e]; simp
          have := List.count_pos_iff.2 this
          omega
      refine ⟨?_, fin l g' a' W' hls hall hj hn'⟩
      apply List.eq_nil_iff_forall_not_mem.2
      intro k hk
      obtain ⟨h1, o, h2, _⟩ := mem_ready.1 hk
      have hlt := (Array.getElem?_eq_some_iff.1 h2).1
      rw [getD_lt l k hls hlt, hall k hlt] at h1; cases h1
    | succ fuel ih =>
      intro l g' a' W' hls hcnt hj hn'
      refine ⟨fun hre => fin l g' a' W' hls (nolist l hls hre) hj hn', fun i hi => ?_⟩
      obtain ⟨h1, o, ho, hedges⟩ := mem_ready.1 hi
      have hilt := (Array.getElem?_eq_some_iff.1 ho).1
      rw [getD_lt l i hls hilt] at h1
      obtain ⟨o', x, ho', hx, hcx⟩ := hget' i hilt
      rw [ho] at ho'; cases ho'
      have hilt' : i < l.size := by omega
      have hls' : (l.setIfInBounds i true).size = ops.size := by simpa using hls
      have hcnt' : (l.setIfInBounds i true).toList.count false ≤ fuel := by
        have hi2 : i < l.toList.length := by simpa using hilt'
        have e : l.toList[i] = false := by simpa [Array.getD, hilt'] using h1
        have hpos : 0 < l.toList.count false := List.count_pos_iff.2 (by rw [← e]; exact List.getElem_mem hi2)
        rw [Array.toList_setIfInBounds, List.count_set hi2, e]
        simp only [show (false == false) = true from rfl, show (true == false) = false from rfl, if_true, Bool.false_eq_true, if_false]
        omega
      have hS' : ∀ k, (l.setIfInBounds i true).getD k false = (l.getD k false || k == i) := by
        intro k
        by_cases hki : k = i
        · subst hki; simp [Array.getD, hilt']
        · rw [getD_set_ne false (fun e => hki e.symm)]; simp [hki]
      have haft : ∀ e ∈ x.after, l.getD e false = true := by
        intro e he
        rw [aft i o x ho hcx] at he
        obtain ⟨ed, hed, rfl⟩ := List.mem_map.1 he
        obtain ⟨hed1, hed2⟩ := List.mem_filter.1 hed
        exact hedges ed (by simpa using hed1) hed2
      obtain ⟨c1, c2, c3, c4⟩ := hchk i (by omega) x hx
      have hclosed : ∀ k, l.getD k false = true → ∀ j ∈ (ancs as []).getD k [], l.getD j false = true := by
        rcases hj with ⟨_, h, _⟩ | ⟨i0, _, h2, h3, _⟩
        · exact h
        · intro k hk j hj'
          have hk' : k < ops.size := by
            rcases Nat.lt_or_ge k ops.size with h | h
            · exact h
            · simp [Array.getD, show ¬ k < l.size by omega] at hk
          have hxk := List.getElem?_eq_getElem (show k < as.length by omega)
          obtain ⟨d1, d2, _, _⟩ := hchk k (by omega) _ hxk
          have hki0 : k < i0 := by have := h3 k hk'; rw [hk] at this; simpa using this.symm
          have jlt : ∀ k, k < as.length → ∀ j ∈ (ancs as []).getD k [], j < k := by
            intro k
            induction k using Nat.strongRecOn with
            | _ k ihk =>
              intro hk2 j hj2
              have hxk := List.getElem?_eq_getElem hk2
              obtain ⟨d1, d2, _, _⟩ := hchk k hk2 _ hxk
              rcases d2 j hj2 with h | ⟨e, he, h⟩
              · exact d1 j h
              · have := d1 e he
                have := ihk e this (by omega) j h
                omega
          have := jlt k (by omega) j hj'
          rw [h3 j (by omega)]; simp; omega
      have hpre : ∀ j ∈ (ancs as []).getD i [], l.getD j false = true := by
        intro j hj'
        rcases c2 j hj' with h | ⟨e, he, h⟩
        · exact haft j h
        · exact hclosed e (haft e he) j h
      have hst : ∀ (st2 : St), SR w B GB g' st2 a' W' → ∀ st3, exec Γ cx.gl x st2 = some st3 → (∀ g2 a2 W2, SR w B GB g2 st3 a2 W2 → ((∀ k, (l.setIfInBounds i true).getD k false = true → k < m) ∧ (∀ k, (l.setIfInBounds i true).getD k false = true → ∀ j ∈ (ancs as []).getD k [], (l.setIfInBounds i true).getD j false = true) ∧ SR w B GB g2 (foldU U (fun k => (l.setIfInBounds i true).getD k false) st m) a2 W2 ∨
          ∃ i', m ≤ i' ∧ i' ≤ ops.size ∧ (∀ k, k < ops.size → (l.setIfInBounds i true).getD k false = decide (k < i')) ∧ SR w B GB g2 (s i') a2 W2)) →
          wpOp cx.P ops Q i (wpAny cx.P .any ops Q fuel (l.setIfInBounds i true)) a' W' :=
        fun st2 hsr st3 hex hnx => exec_wpOp hs hΓ hsr hn' ho hcx hex fun g2 a2 W2 h2 hn2 => ih _ g2 a2 W2 hls' hcnt' (hnx g2 a2 W2 h2) hn2
      by_cases him : i < m
      · rcases hj with ⟨j1, j2, j3⟩ | ⟨i0, j1, j2, j3, _⟩
        · refine hst _ j3 _ (step1 (fun k => l.getD k false) i him h1 j1 j2 hpre g' a' W' j3 hn' x hx) fun g2 a2 W2 h2 => .inl ⟨fun k hk => ?_, fun k hk j hj' => ?_, ?_⟩
          · rw [hS'] at hk; simp only [Bool.or_eq_true, beq_iff_eq] at hk
            rcases hk with hk | rfl
            · exact j1 k hk
            · exact him
          · rw [hS'] at hk ⊢; simp only [Bool.or_eq_true, beq_iff_eq] at hk
            rcases hk with hk | rfl
            · simp [j2 k hk j hj']
            · simp [hpre j hj']
          · rw [foldU_congr (S' := fun k => l.getD k false || k == i) fun k _ => hS' k]; exact h2
        · have := j3 i hilt; rw [h1] at this; simp at this; omega
      · have hge : m ≤ i := by omega
        have hall := c4 hge
        have hfull : ∀ j, j < i → l.getD j false = true := fun j hj' => hpre j (hall j hj')
        have hsi : SR w B GB g' (s i) a' W' := by
          rcases hj with ⟨j1, _, j3⟩ | ⟨i0, j1, j2, j3, j4⟩
          · have him' : i = m := by
              rcases Nat.lt_or_ge m i with hlt | hge'
              · have := j1 m (hfull m hlt); omega
              · omega
            rw [foldU_congr (S' := fun _ => true) fun k hk => hfull k (by omega), hfold m (Nat.le_refl _), ← him'] at j3
            exact j3
          · have hii : i = i0 := by
              have h5 := j3 i hilt
              rw [h1] at h5
              have h6 : ¬ i < i0 := by simpa using h5.symm
              rcases Nat.lt_or_ge i0 i with hlt | hge'
              · have h7 := j3 i0 (by omega)
                rw [hfull i0 hlt] at h7; simp at h7
              · omega
            rw [hii]; exact j4
        refine hst _ hsi _ (hstep i x hx) fun g2 a2 W2 h2 => .inr ⟨i + 1, by omega, by omega, fun k hk => ?_, h2⟩
        rw [hS']
        rcases Nat.lt_trichotomy k i with hlt | heq | hgt
        · rw [hfull k hlt]; simp; omega
        · subst heq; simp
        · have hkf : l.getD k false = false := by
            rcases hj with ⟨j1, _, _⟩ | ⟨i0, j1, j2, j3, _⟩
            · cases hv : l.getD k false with
              | false => rfl
              | true => have := j1 k hv; omega
            · have h5 := j3 i hilt
              rw [h1] at h5
              rw [j3 k hk]
              have h6 : ¬ i < i0 := by simpa using h5.symm
              simp; omega
          have q1 : (k == i) = false := by simp; omega
          have q2 : decide (k < i + 1) = false := by simp; omega
          rw [hkf, q1, q2]; rfl
  refine main ops.size (Array.replicate ops.size false) g a W (by simp) (by simp [List.count_replicate]) (.inl ⟨fun k hk => ?_, fun k hk => ?_, ?_⟩) hn
  · exfalso; revert hk; simp [Array.getD]
  · exfalso; revert hk; simp [Array.getD]
  · have : ∀ j, foldU U (fun k => (Array.replicate ops.size false).getD k false) st j = st := by
      intro j
      induction j with
      | zero => rfl
      | succ j ih => simp only [foldU]; rw [if_neg (by simp [Array.getD]), ih]
    rw [this]; exact h

#print axioms draw_wpAny
end Go.Abs
