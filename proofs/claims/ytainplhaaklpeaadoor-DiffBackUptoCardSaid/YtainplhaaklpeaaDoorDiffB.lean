/-
  The changes back; the changes by way of a third list: walks and plain Lean. Own work of this seat.
-/
import Derived.Test.YtainplhaaklpeaaDoorDiffD
namespace Go.Proofs.YtainplhaaklpeaaDoor
open Go.Abs
variable {Γ : Abs.Spec} {gl : Glob}

/-! ### Same, of files -/
theorem sameI_loop (n1 n2 : Bool) (l m : List Inp) (hn1 : l ≠ [] → n1 = false) (hn2 : m ≠ [] → n2 = false) (hlm : l.length = m.length) (hl : l.length ≤ 1000000000) {Q : Ex → St → Prop}
    (hret : ∀ s, l ≠ m → s.tm 4 = .bool false → s.own (.slot 4) = false → Q .ret s) (hex : ∀ s, l = m → s.own (.slot 4) = false → Q (.exit 0) s) :
    ∀ (r : List Inp) (k : Nat) (s : St), l.drop k = r → k ≤ l.length → s.tm 0 = inps n1 l → s.tm 1 = inps n2 m → s.tm 12 = .int .i64 l.length → s.tm 13 = .int .i64 k → s.own (.slot 4) = false → l.take k = m.take k → awp Γ gl (.loop c_seicheref08_Same_0) Q s := by
  intro r
  induction r with
  | nil =>
    intro k s hr hk h0 h1 h12 h13 hw ht
    obtain rfl := drop_nil hr hk
    refine awp_roundK fun K hK => ?_
    simp [c_seicheref08_Same_0, h12, h13]
    refine hex _ ?_ (by simp [hw])
    rwa [List.take_length, hlm, List.take_length] at ht
  | cons x r ih =>
    intro k s hr hk h0 h1 h12 h13 hw ht
    obtain ⟨hlt, hxe, hx, hr', hne⟩ := drop_cons hr
    have hlt2 : k < m.length := by omega
    obtain ⟨y, hye, hy, hyd⟩ := drop_cons_of hlt2
    have hne2 : m ≠ [] := by rintro rfl; simp at hlt2
    have hids : flatEq (repl 32 (some IntKind.u8, true)) (encB x.id) (encB y.id) = some (decide (x.id = y.id)) := flatEq_bytes true x.h y.h
    refine awp_roundK fun K hK => ?_
    simp [c_seicheref08_Same_0, h0, h1, h12, h13, hlt, hlt2, inps, hn1 hne, hn2 hne2, hxe, hye, hids]
    by_cases he : x = y
    · subst he
      simp [h13, w64 ((k : Int) + 1) (by omega)]
      refine hK _ ?_
      refine ih (k + 1) _ hr' hlt (by simp [h0, inps, hn1 hne]) (by simp [h1, inps, hn2 hne2]) (by simp [h12]) (by simp) (by simp [hw]) ?_
      rw [List.take_add_one, List.take_add_one, ht, hx, hy]
    · have hb : (!decide (x.path = y.path) || !decide (x.id = y.id)) = true := by
        by_cases h1 : x.path = y.path
        · have : x.id ≠ y.id := fun h2 => he (Inp.eq h1 h2)
          simp [this]
        · simp [h1]
      simp [hb]
      refine hret _ ?_ (by simp) (by simp)
      rintro rfl
      rw [hx] at hy; exact he (Option.some.inj hy)
theorem sameI_awp (n1 n2 : Bool) (l m : List Inp) (hn1 : l ≠ [] → n1 = false) (hn2 : m ≠ [] → n2 = false) (hl : l.length ≤ 1000000000) :
    awp Γ gl c_seicheref08_Same (retQ [4] (.bool (decide (l = m)), false)) (St.init [inps n1 l, inps n2 m]) := by
  unfold c_seicheref08_Same
  simp [inps]
  by_cases hlm : l.length = m.length
  · simp [hlm]
    refine sameI_loop n1 n2 l m hn1 hn2 hlm hl (fun s h h4 hw => by simp [h, h4, hw]) (fun s h hw => by simp [h]) l 0 _ rfl (Nat.zero_le _) (by simp [inps]) (by simp [inps]) (by simp [hlm]) (by simp) (by simp) rfl
  · simp [hlm]
    rintro rfl; exact hlm rfl
def K_sameI : Ctr := ⟨(Bool × List Inp) × (Bool × List Inp), fun a => [inps a.1.1 a.1.2, inps a.2.1 a.2.2], fun a => (.bool (decide (a.1.2 = a.2.2)), false), fun a => (a.1.2 ≠ [] → a.1.1 = false) ∧ (a.2.2 ≠ [] → a.2.1 = false) ∧ a.1.2.length ≤ 1000000000, fun a b h => by
  simp only [List.cons.injEq, and_true] at h
  rw [(inps_inj h.1).2, (inps_inj h.2).2]⟩
theorem sameI_pc (w : World) : K_sameI.Holds (cxD w) F.seicheref08_Same :=
  holds_of w (cs := []) (by simp) cf_seicheref08_Same (fun _ => Nat.le_of_ble_eq_true rfl) (fun a => by simp [K_sameI]) (fun _ => rfl) fun a ha => sameI_awp a.1.1 a.2.1 a.1.2 a.2.2 ha.1 ha.2.1 ha.2.2

/-! ### the changes back -/
def swapC (c : Chg) : Chg := (c.1, if c.2 = 3 then 3 else 3 - c.2)
theorem lists_swap : ∀ (a b : List Inp), lists b a = (lists a b).map swapC
  | [], [] => by rw [lists]; rfl
  | f :: a, [] => by rw [lists, lists, lists_swap a []]; rfl
  | [], g :: b => by rw [lists, lists, lists_swap [] b]; rfl
  | f :: a, g :: b => by
    rw [lists, lists]
    have hs := pcmp_swap f.path g.path
    by_cases h1 : pcmp f.path g.path < 0
    · rw [if_neg (by omega), if_pos (by omega), if_pos h1, lists_swap a (g :: b)]; rfl
    · by_cases h2 : 0 < pcmp f.path g.path
      · rw [if_pos (by omega), if_neg h1, if_pos h2, lists_swap (f :: a) b]; rfl
      · have hp : f.path = g.path := pcmp_zero.1 (by omega)
        rw [if_neg (by omega), if_neg (by omega), if_neg h1, if_neg h2, lists_swap a b]
        by_cases hid : f.id = g.id
        · simp [hid]
        · have : g.id ≠ f.id := fun e => hid e.symm
          simp [hid, this, swapC, hp]
  termination_by a b => a.length + b.length
theorem lists_self : ∀ a : List Inp, lists a a = []
  | [] => by rw [lists]
  | f :: a => by
    have h : pcmp f.path f.path = 0 := pcmp_zero.2 rfl
    rw [lists, if_neg (by omega), if_neg (by omega), if_pos rfl, lists_self a]; rfl
theorem lists_nil : ∀ {a b : List Inp}, lists a b = [] → a = b
  | [], [], _ => rfl
  | f :: a, [], h => by rw [lists] at h; simp at h
  | [], g :: b, h => by rw [lists] at h; simp at h
  | f :: a, g :: b, h => by
    rw [lists] at h
    by_cases h1 : pcmp f.path g.path < 0
    · rw [if_pos h1] at h; simp at h
    · rw [if_neg h1] at h
      by_cases h2 : 0 < pcmp f.path g.path
      · rw [if_pos h2] at h; simp at h
      · rw [if_neg h2] at h
        by_cases hid : f.id = g.id
        · rw [if_pos hid, List.nil_append] at h
          rw [Inp.eq (pcmp_zero.1 (by omega)) hid, lists_nil h]
        · rw [if_neg hid] at h; simp at h
  termination_by a b => a.length + b.length
theorem lists_kind : ∀ (a b : List Inp), ∀ c ∈ lists a b, c.2 = 1 ∨ c.2 = 2 ∨ c.2 = 3
  | [], [], c, h => by rw [lists] at h; cases h
  | f :: a, [], c, h => by
    rw [lists] at h
    rcases List.mem_cons.1 h with rfl | h
    · simp
    · exact lists_kind a [] c h
  | [], g :: b, c, h => by
    rw [lists] at h
    rcases List.mem_cons.1 h with rfl | h
    · simp
    · exact lists_kind [] b c h
  | f :: a, g :: b, c, h => by
    rw [lists] at h
    split at h
    · rcases List.mem_cons.1 h with rfl | h
      · simp
      · exact lists_kind a (g :: b) c h
    · split at h
      · rcases List.mem_cons.1 h with rfl | h
        · simp
        · exact lists_kind (f :: a) b c h
      · split at h
        · exact lists_kind a b c h
        · rcases List.mem_cons.1 h with rfl | h
          · simp
          · exact lists_kind a b c h
  termination_by a b => a.length + b.length

theorem back_loop (L : List Chg) (nl nm : Bool) (hnl : L ≠ [] → nl = false) (hnm : L ≠ [] → nm = false) (hk : ∀ c ∈ L, c.2 = 1 ∨ c.2 = 2 ∨ c.2 = 3) (hl : L.length ≤ 1000000000) {Q : Ex → St → Prop} (hex : ∀ s, Q (.exit 0) s) :
    ∀ (r : List Chg) (k : Nat) (s : St), L.drop k = r → k ≤ L.length → s.tm 38 = chgs nl L → s.tm 39 = .int .i64 L.length → s.tm 40 = .int .i64 k → s.tm 6 = chgs nm (L.map swapC) → awp Γ gl (.loop c_seichelaw09_DiffBack_0) Q s := by
  intro r
  induction r with
  | nil =>
    intro k s hr hkl t38 t39 t40 t6
    obtain rfl := drop_nil hr hkl
    refine awp_roundK fun K hK => ?_
    simp [c_seichelaw09_DiffBack_0, t39, t40]
    exact hex _
  | cons c r ih =>
    intro k s hr hkl t38 t39 t40 t6
    obtain ⟨hlt, hce, hc, hr', hne⟩ := drop_cons hr
    have hck := hk c (List.mem_of_getElem? hc)
    obtain ⟨p, q⟩ := c
    simp only at hck
    refine awp_roundK fun K hK => ?_
    rcases hck with rfl | rfl | rfl
    · simp [c_seichelaw09_DiffBack_0, t38, t39, t40, t6, chgs, hnl hne, hnm hne, hlt, hce, swapC, setAt, w64 2 (by omega), w64 ((k : Int) + 1) (by omega)]
      refine hK _ ?_
      exact ih (k + 1) _ hr' hlt (by simp [t38, chgs, hnl hne]) (by simp [t39]) (by simp) (by simp [t6, chgs, hnm hne])
    · simp [c_seichelaw09_DiffBack_0, t38, t39, t40, t6, chgs, hnl hne, hnm hne, hlt, hce, swapC, setAt, w64 1 (by omega), w64 ((k : Int) + 1) (by omega)]
      refine hK _ ?_
      exact ih (k + 1) _ hr' hlt (by simp [t38, chgs, hnl hne]) (by simp [t39]) (by simp) (by simp [t6, chgs, hnm hne])
    · simp [c_seichelaw09_DiffBack_0, t38, t39, t40, t6, chgs, hnl hne, hnm hne, hlt, hce, swapC, setAt, w64 ((k : Int) + 1) (by omega)]
      refine hK _ ?_
      exact ih (k + 1) _ hr' hlt (by simp [t38, chgs, hnl hne]) (by simp [t39]) (by simp) (by simp [t6, chgs, hnm hne])

theorem bool_neq (x y : Bool) : abin .neq .bool (.bool x) (.bool y) = some (.bool (!(x == y))) := (rfl)
theorem backLaw_awp (n1 n2 : Bool) (a b : List Inp) (hla : a.length + b.length ≤ 1000000000) (hal : Γ F.seichelaw09_alive [] = some (.bool true, false)) (hO : ∀ n l, (n = n1 ∧ l = a) ∨ (n = n2 ∧ l = b) → Γ F.seichelaw09_odd [inps n l] = some (.bool (odd l), false))
    (hL : Γ F.diff_Lists [inps n1 a, inps n2 b] = some (chgs (lists a b).isEmpty (lists a b), !(lists a b).isEmpty)) (hM : Γ F.diff_Lists [inps n2 b, inps n1 a] = some (chgs (lists b a).isEmpty (lists b a), !(lists b a).isEmpty))
    (hS : Γ F.seicheref08_Same [inps n1 a, inps n2 b] = some (.bool (decide (a = b)), false)) :
    awp Γ gl c_seichelaw09_DiffBack (retQ [4] (.bool true, false)) (St.init [inps n1 a, inps n2 b]) := by
  unfold c_seichelaw09_DiffBack
  have hOa := hO n1 a (.inl ⟨rfl, rfl⟩)
  have hOb := hO n2 b (.inr ⟨rfl, rfl⟩)
  cases ha : odd a
  · cases hb : odd b
    · rw [lists_swap a b] at hM
      have hlen : (lists a b).length ≤ 1000000000 := Nat.le_trans (lists_length a b) hla
      have hz : ((lists a b).length = 0) = (a = b) := propext ⟨fun h => lists_nil (List.length_eq_zero_iff.1 h), fun h => by rw [h, lists_self]; rfl⟩
      have hzi : (((lists a b).length : Int) = 0) = (a = b) := by rw [← hz]; exact propext (by omega)
      have hz2 : (lists a b = []) = (a = b) := propext ⟨lists_nil, fun h => by rw [h, lists_self]⟩
      simp [hal, hOa, hOb, ha, hb, hL, hM, hS, chgs, hz2, bool_neq]
      refine back_loop (lists a b) _ _ (fun h => isEmpty_false h) (fun h => isEmpty_false h) (lists_kind a b) hlen (fun s => by simp) (lists a b) 0 _ rfl (Nat.zero_le _) (by simp [chgs]) (by simp) (by simp) (by simp [chgs])
    · simp [hal, hOa, hOb, ha, hb]
  · simp [hal, hOa, ha]
def K_diffBack : Ctr := ⟨(Bool × List Inp) × (Bool × List Inp), fun a => [inps a.1.1 a.1.2, inps a.2.1 a.2.2], fun _ => (.bool true, false), fun a => Fine a.1.1 a.1.2 ∧ Fine a.2.1 a.2.2, fun _ _ _ => rfl⟩
theorem diffBack_pc (w : World) (hw : HasMax w) : K_diffBack.Holds (cxD w) F.seichelaw09_DiffBack :=
  holds_of w (cs := [(_, K_alive), (_, K_odd), (_, K_lists), (_, K_sameI)]) (by simpa using ⟨alive_pc w hw, odd_pc w, lists_pc w hw, sameI_pc w⟩) cf_seichelaw09_DiffBack (fun _ => Nat.le_of_ble_eq_true rfl) (fun a => by simp [K_diffBack]) (fun _ => rfl) fun a ha => by
    obtain ⟨⟨h1, h2, h3⟩, h4, h5, h6⟩ := ha
    refine backLaw_awp a.1.1 a.2.1 a.1.2 a.2.2 (by omega) (ofC_eq (c := K_alive) rfl () trivial) (fun n l h => ?_) (ofC_eq (c := K_lists) rfl a ⟨h1, h4, h3, h6, by omega⟩) (ofC_eq (c := K_lists) rfl (a.2, a.1) ⟨h4, h1, h6, h3, Nat.le_trans (Nat.add_le_add h5 h2) (by decide)⟩) (ofC_eq (c := K_sameI) rfl a ⟨h1, h4, by omega⟩)
    rcases h with ⟨rfl, rfl⟩ | ⟨rfl, rfl⟩
    · exact ofC_eq (c := K_odd) rfl a.1 ⟨h1, by omega, h3⟩
    · exact ofC_eq (c := K_odd) rfl a.2 ⟨h4, by omega, h6⟩
end Go.Proofs.YtainplhaaklpeaaDoor
