/-
  Abs, part I: '==' of structs and arrays of plain cells; of the rest. Own work of this seat.
-/
import Derived.Test.YtainplhaaklpeaaDoorAbsH
import Derived.ChangeKeysEq
import Derived.Laws.StructEq
namespace Go.Abs
open Go.RowKit

variable {P : Program} {W : World} {G : Nat → Nat} {φ : Nat → Option Nat}

abbrev Kd := Option IntKind × Bool

def flatFields (F : TypeId → Option (List Kd)) (C : TypeId → Nat) : Nat → List Field → Option (List Kd)
  | _, [] => some []
  | off, f :: fs => (F f.type).bind fun ks => if f.name ≠ "_" ∧ f.offset = off ∧ C f.type = ks.length then (flatFields F C (off + ks.length) fs).map (ks ++ ·) else none

def flatK (P : Program) : Nat → TypeId → Option (List Kd)
  | 0, _ => none
  | n + 1, t =>
    match P.underlying t with
    | some (.int k) => some [(some k, true)]
    | some .string => some [(none, true)]
    | some .bool => some [(none, false)]
    | some (.struct fs) => if P.stoodInHeld t = false ∧ (P.info? t).isSome = true then (flatFields (flatK P n) P.cellsOf 0 fs.toList).bind fun ks => if P.cellsOf t = ks.length then some ks else none else none
    | some (.array m e) => (flatK P n e).bind fun ks => if P.cellsOf e = ks.length ∧ (P.info? e).isSome = true ∧ (P.info? t).isSome = true ∧ P.cellsOf t = m * ks.length then some (List.replicate m ks).flatten else none
    | _ => none

theorem flatEq_cons {k : Kd} {ks : List Kd} {xs ys : List V} {r : Bool} (h : flatEq (k :: ks) xs ys = some r) :
    ∃ x xs' y ys' b r', xs = x :: xs' ∧ ys = y :: ys' ∧ kdEq k x y = some b ∧ flatEq ks xs' ys' = some r' ∧ r = (b && r') := by
  cases xs with
  | nil => simp [flatEq] at h
  | cons x xs =>
    cases ys with
    | nil => simp [flatEq] at h
    | cons y ys =>
      simp only [flatEq, Option.bind_eq_some_iff, Option.map_eq_some_iff] at h
      obtain ⟨b, h1, r', h2, h3⟩ := h
      exact ⟨x, xs, y, ys, b, r', rfl, rfl, h1, h2, h3.symm⟩

theorem flatEq_length : ∀ {ks : List Kd} {xs ys : List V} {r : Bool}, flatEq ks xs ys = some r → xs.length = ks.length ∧ ys.length = ks.length := by
  intro ks
  induction ks with
  | nil => intro xs ys r h; cases xs <;> cases ys <;> simp [flatEq] at h <;> simp
  | cons k ks ih =>
    intro xs ys r h
    obtain ⟨x, xs', y, ys', b, r', rfl, rfl, _, h2, _⟩ := flatEq_cons h
    obtain ⟨h3, h4⟩ := ih h2
    simp [h3, h4]

theorem flatEq_append : ∀ {ks ls : List Kd} {xs xs' ys ys' : List V} {r : Bool}, xs.length = ks.length → ys.length = ks.length → flatEq (ks ++ ls) (xs ++ xs') (ys ++ ys') = some r →
    ∃ r1 r2, flatEq ks xs ys = some r1 ∧ flatEq ls xs' ys' = some r2 ∧ r = (r1 && r2) := by
  intro ks
  induction ks with
  | nil =>
    intro ls xs xs' ys ys' r hx hy h
    have hx' : xs = [] := by simpa using hx
    have hy' : ys = [] := by simpa using hy
    subst hx'; subst hy'
    exact ⟨true, r, rfl, by simpa using h, by simp⟩
  | cons k ks ih =>
    intro ls xs xs' ys ys' r hx hy h
    cases xs with
    | nil => simp at hx
    | cons x xs =>
      cases ys with
      | nil => simp at hy
      | cons y ys =>
        simp only [List.cons_append] at h
        obtain ⟨x2, xs2, y2, ys2, b, r', e1, e2, h1, h2, rfl⟩ := flatEq_cons h
        cases e1; cases e2
        obtain ⟨r1, r2, h3, h4, rfl⟩ := ih (by simpa using hx) (by simpa using hy) h2
        exact ⟨b && r1, r2, by simp [flatEq, h1, h3], h4, by simp [Bool.and_assoc]⟩

theorem RepL.cut {cs : List V} {X : Array Value} (h : RepL W G φ cs X) (off n : Nat) (hle : off + n ≤ cs.length) : RepL W G φ ((cs.drop off).take n) (X.extract off (off + n)) := by
  have h1 := h.1
  refine ⟨by simp; omega, fun i c x hc hx => ?_⟩
  rw [getElem?_takeDrop] at hc
  split at hc
  · rw [Array.getElem?_extract] at hx
    split at hx
    · exact h.2 _ c x hc hx
    · simp at hx
  · simp at hc

theorem info_of_some {t : TypeId} (h : (P.info? t).isSome = true) : ∃ i, P.info? t = some i ∧ i.size = P.cellsOf t := by
  obtain ⟨i, hi⟩ := Option.isSome_iff_exists.1 h
  exact ⟨i, hi, by simp [Program.cellsOf, hi]⟩

/-- what a flat type's '==' comes to -/
theorem eq_flat : ∀ (n : Nat) (t : TypeId) (ks : List Kd), flatK P n t = some ks → ∀ (d : Nat), n ≤ d → ∀ (cs ds : List V) (X Y : Array Value) (off : Nat) (r : Bool),
    RepL W G φ cs X → RepL W G φ ds Y → flatEq ks ((cs.drop off).take ks.length) ((ds.drop off).take ks.length) = some r →
    ∃ a b, (part t X off).run P W = .ok a W ∧ (part t Y off).run P W = .ok b W ∧ (Op.equalIn d t a b).run P W = .ok r W := by
  intro n
  induction n with
  | zero => intro t ks h; simp [flatK] at h
  | succ n ih =>
    intro t ks h d hd cs ds X Y off r hX hY hr
    obtain ⟨d, rfl⟩ : ∃ m, d = m + 1 := ⟨d - 1, by omega⟩
    have leaf : ∀ {u : TypeDesc}, P.underlying t = some u → (∀ fs, u ≠ .struct fs) → (∀ m e, u ≠ .array m e) → ∀ (cs : List V) (X : Array Value) (v : V), RepL W G φ cs X → (cs.drop off).take 1 = [v] → ∃ x, (part t X off).run P W = .ok x W ∧ Rep W G φ v x := by
      intro u hu h1 h2 cs X v hX hv
      have hv' : cs[off]? = some v := by
        have := congrArg (·[0]?) hv
        simpa [getElem?_takeDrop] using this
      have hlt : off < X.size := by rw [← hX.1]; exact (List.getElem?_eq_some_iff.1 hv').1
      refine ⟨X[off], ?_, hX.2 off v _ hv' (Array.getElem?_eq_getElem hlt)⟩
      have ha : (isAgg t).run P W = .ok false W := by
        simp only [isAgg, Sem.run_bind, run_underlying hu, Result.andThen_ok]
        cases u <;> first | rfl | exact (h1 _ rfl).elim | exact (h2 _ _ rfl).elim
      simp [part, ha, hlt]
    have one : ∀ {u : TypeDesc} {k : Kd}, P.underlying t = some u → (∀ fs, u ≠ .struct fs) → (∀ m e, u ≠ .array m e) → flatEq [k] ((cs.drop off).take 1) ((ds.drop off).take 1) = some r →
        ∃ v w x y, (part t X off).run P W = .ok x W ∧ (part t Y off).run P W = .ok y W ∧ Rep W G φ v x ∧ Rep W G φ w y ∧ kdEq k v w = some r := by
      intro u k hu h1 h2 hr
      obtain ⟨v, vs, w, ws, b, r', e1, e2, h3, h4, rfl⟩ := flatEq_cons hr
      have hvs : vs = [] := by
        have := congrArg List.length e1; simp at this; exact List.length_eq_zero_iff.1 (by omega)
      have hws : ws = [] := by
        have := congrArg List.length e2; simp at this; exact List.length_eq_zero_iff.1 (by omega)
      subst hvs; subst hws
      simp only [flatEq, Option.some.injEq] at h4
      subst h4
      obtain ⟨x, p1, q1⟩ := leaf hu h1 h2 cs X v hX e1
      obtain ⟨y, p2, q2⟩ := leaf hu h1 h2 ds Y w hY e2
      exact ⟨v, w, x, y, p1, p2, q1, q2, by simpa using h3⟩
    unfold flatK at h
    split at h
    · rename_i k hu
      simp only [Option.some.injEq] at h; subst h
      obtain ⟨v, w, x, y, p1, p2, q1, q2, hk⟩ := one hu (by simp) (by simp) hr
      refine ⟨x, y, p1, p2, ?_⟩
      cases q1 <;> cases q2 <;> simp only [kdEq, reduceCtorEq] at hk
      split at hk
      · rename_i hc
        obtain ⟨rfl, rfl⟩ := hc
        simp only [Option.some.injEq] at hk; subst hk
        rw [run_equalIn_int W d t _ _ _ _ hu]; congr 1
      · simp at hk
    · rename_i hu
      simp only [Option.some.injEq] at h; subst h
      obtain ⟨v, w, x, y, p1, p2, q1, q2, hk⟩ := one hu (by simp) (by simp) hr
      refine ⟨x, y, p1, p2, ?_⟩
      cases q1 <;> cases q2 <;> simp only [kdEq, reduceCtorEq, Option.some.injEq] at hk
      subst hk
      rename_i l1 s1 h1 l2 s2 h2
      rw [run_equalIn_string W d t _ _ hu, toList_data, toList_data, h1, h2, beq_list]
    · rename_i hu
      simp only [Option.some.injEq] at h; subst h
      obtain ⟨v, w, x, y, p1, p2, q1, q2, hk⟩ := one hu (by simp) (by simp) hr
      refine ⟨x, y, p1, p2, ?_⟩
      cases q1 <;> cases q2 <;> simp only [kdEq, reduceCtorEq, Option.some.injEq] at hk
      subst hk
      exact run_equalIn_bool' W d t _ _ hu
    · rename_i fs hu
      split at h
      · rename_i hc
        obtain ⟨hst, hinf⟩ := hc
        simp only [Option.bind_eq_some_iff] at h
        obtain ⟨ks', hks, h⟩ := h
        split at h
        · rename_i hsz
          simp only [Option.some.injEq] at h; subst h
          obtain ⟨i, hi, his⟩ := info_of_some hinf
          obtain ⟨hl1, hl2⟩ := flatEq_length hr
          have ha : (isAgg t).run P W = .ok true W := by simp only [isAgg, Sem.run_bind, run_underlying hu, Result.andThen_ok]; rfl
          have hle1 : off + i.size ≤ cs.length ∨ ks' = [] := by
            by_cases h0 : ks'.length = 0
            · exact .inr (List.length_eq_zero_iff.1 h0)
            · left; simp at hl1; omega
          have hle2 : off + i.size ≤ ds.length ∨ ks' = [] := by
            by_cases h0 : ks'.length = 0
            · exact .inr (List.length_eq_zero_iff.1 h0)
            · left; simp at hl2; omega
          refine ⟨.agg (X.extract off (off + i.size)), .agg (Y.extract off (off + i.size)), by simp [part, ha, run_sizeOf' hi], by simp [part, ha, run_sizeOf' hi], ?_⟩
          have hfs : P.fieldsOf t = fs := by simp [Program.fieldsOf, hu]
          rw [run_equalIn_struct W d t _ _ (by rw [hfs]; exact hu) hst, hfs]
          have hcX : RepL W G φ ((cs.drop off).take ks'.length) (X.extract off (off + i.size)) := by
            rcases hle1 with hle | rfl
            · have := hX.cut off i.size hle; rwa [his, hsz] at this ⊢
            · have h0 : i.size = 0 := by rw [his, hsz]; rfl
              rw [h0]; exact ⟨by simp; omega, fun i c x hc => by simp at hc⟩
          have hcY : RepL W G φ ((ds.drop off).take ks'.length) (Y.extract off (off + i.size)) := by
            rcases hle2 with hle | rfl
            · have := hY.cut off i.size hle; rwa [his, hsz] at this ⊢
            · have h0 : i.size = 0 := by rw [his, hsz]; rfl
              rw [h0]; exact ⟨by simp; omega, fun i c x hc => by simp at hc⟩
          have key : ∀ (fl : List Field) (o : Nat) (kl : List Kd) (r : Bool), flatFields (flatK P n) P.cellsOf o fl = some kl → flatEq kl (((cs.drop off).take ks'.length).drop o) (((ds.drop off).take ks'.length).drop o) = some r →
              (Op.eqFields d (X.extract off (off + i.size)) (Y.extract off (off + i.size)) fl).run P W = .ok r W := by
            intro fl
            induction fl with
            | nil =>
              intro o kl r h1 h2
              simp only [flatFields, Option.some.injEq] at h1; subst h1
              have e1 := (flatEq_length h2).1
              have e2 := (flatEq_length h2).2
              have : r = true := by
                have z1 := List.length_eq_zero_iff.1 e1
                have z2 := List.length_eq_zero_iff.1 e2
                rw [z1, z2] at h2; simpa [flatEq] using h2.symm
              subst this; rfl
            | cons f fl ihf =>
              intro o kl r h1 h2
              simp only [flatFields, Option.bind_eq_some_iff] at h1
              obtain ⟨k1, hk1, h1⟩ := h1
              split at h1
              · rename_i hc
                obtain ⟨hnm, rfl, hcl⟩ := hc
                simp only [Option.map_eq_some_iff] at h1
                obtain ⟨k2, hk2, rfl⟩ := h1
                obtain ⟨hL1, hL2⟩ := flatEq_length h2
                simp only [List.length_append] at hL1 hL2
                have sp : ∀ (l : List V), l = l.take k1.length ++ l.drop k1.length := fun l => (List.take_append_drop _ _).symm
                rw [sp (((cs.drop off).take ks'.length).drop f.offset), sp (((ds.drop off).take ks'.length).drop f.offset)] at h2
                obtain ⟨r1, r2, h3, h4, rfl⟩ := flatEq_append (by rw [List.length_take, hL1]; omega) (by rw [List.length_take, hL2]; omega) h2
                obtain ⟨a, b, p1, p2, p3⟩ := ih f.type k1 hk1 d (by omega) _ _ _ _ f.offset r1 hcX hcY h3
                rw [List.drop_drop, List.drop_drop] at h4
                have h5 := ihf (f.offset + k1.length) k2 r2 hk2 h4
                simp only [Op.eqFields, hnm, ne_eq, not_false_eq_true, if_true, Sem.run_bind, p1, p2, p3, Result.andThen_ok]
                cases r1
                · simp
                · simpa using h5
              · simp at h1
          exact key fs.toList 0 ks' r hks (by simpa using hr)
        · simp at h
      · simp at h
    · rename_i m e hu
      simp only [Option.bind_eq_some_iff] at h
      obtain ⟨k1, hk1, h⟩ := h
      split at h
      · rename_i hc
        obtain ⟨hce, hie, hit, hct⟩ := hc
        simp only [Option.some.injEq] at h; subst h
        obtain ⟨i, hi, his⟩ := info_of_some hit
        obtain ⟨ie, hie', hies⟩ := info_of_some hie
        have hkl : (List.replicate m k1).flatten.length = m * k1.length := by simp
        rw [hkl] at hr
        obtain ⟨hl1, hl2⟩ := flatEq_length hr
        rw [hkl] at hl1 hl2
        have ha : (isAgg t).run P W = .ok true W := by simp only [isAgg, Sem.run_bind, run_underlying hu, Result.andThen_ok]; rfl
        refine ⟨.agg (X.extract off (off + i.size)), .agg (Y.extract off (off + i.size)), by simp [part, ha, run_sizeOf' hi], by simp [part, ha, run_sizeOf' hi], ?_⟩
        rw [run_equalIn_array W d _ _ hu hie', hce]
        have hs0 : i.size = m * k1.length := by rw [his, hct]
        have hcX : RepL W G φ ((cs.drop off).take (m * k1.length)) (X.extract off (off + i.size)) := by
          rcases Nat.eq_zero_or_pos (m * k1.length) with h0 | h0
          · rw [hs0, h0]; exact ⟨by simp; omega, fun i c x hc => by simp at hc⟩
          · have := hX.cut off i.size (by simp at hl1; omega); rwa [hs0] at this ⊢
        have hcY : RepL W G φ ((ds.drop off).take (m * k1.length)) (Y.extract off (off + i.size)) := by
          rcases Nat.eq_zero_or_pos (m * k1.length) with h0 | h0
          · rw [hs0, h0]; exact ⟨by simp; omega, fun i c x hc => by simp at hc⟩
          · have := hY.cut off i.size (by simp at hl2; omega); rwa [hs0] at this ⊢
        have key : ∀ (c j : Nat) (r : Bool), flatEq (List.replicate c k1).flatten (((cs.drop off).take (m * k1.length)).drop (j * k1.length)) (((ds.drop off).take (m * k1.length)).drop (j * k1.length)) = some r →
            (Op.eqItems d e k1.length (X.extract off (off + i.size)) (Y.extract off (off + i.size)) (List.range' j c)).run P W = .ok r W := by
          intro c
          induction c with
          | zero =>
            intro j r h2
            have e1 := (flatEq_length h2).1
            have e2 := (flatEq_length h2).2
            have : r = true := by
              have z1 := List.length_eq_zero_iff.1 e1
              have z2 := List.length_eq_zero_iff.1 e2
              rw [z1, z2] at h2; simpa [flatEq] using h2.symm
            subst this; rfl
          | succ c ihc =>
            intro j r h2
            rw [List.replicate_succ, List.flatten_cons] at h2
            obtain ⟨hL1, hL2⟩ := flatEq_length h2
            simp only [List.length_append] at hL1 hL2
            have sp : ∀ (l : List V), l = l.take k1.length ++ l.drop k1.length := fun l => (List.take_append_drop _ _).symm
            rw [sp (((cs.drop off).take (m * k1.length)).drop (j * k1.length)), sp (((ds.drop off).take (m * k1.length)).drop (j * k1.length))] at h2
            obtain ⟨r1, r2, h3, h4, rfl⟩ := flatEq_append (by rw [List.length_take, hL1]; omega) (by rw [List.length_take, hL2]; omega) h2
            obtain ⟨a, b, p1, p2, p3⟩ := ih e k1 hk1 d (by omega) _ _ _ _ (j * k1.length) r1 hcX hcY h3
            rw [List.drop_drop, List.drop_drop, ← Nat.succ_mul] at h4
            have h5 := ihc (j + 1) r2 h4
            rw [List.range'_succ]
            simp only [Op.eqItems, Sem.run_bind, p1, p2, p3, Result.andThen_ok]
            cases r1
            · simp
            · simpa using h5
        have := key m 0 r (by simpa using hr)
        rwa [← List.range_eq_range'] at this
      · simp at h
    · simp at h

end Go.Abs
