/-
  Walks: the laws' own helpers. Own work of this seat.
-/
import Derived.Test.YtainplhaaklpeaaDoorDiffE
namespace Go.Proofs.YtainplhaaklpeaaDoor
open Go.Abs
variable {Γ : Abs.Spec} {gl : Glob}

def sumP (l : List Inp) : Nat := (l.map fun f => f.path.length).sum
def odd (l : List Inp) : Bool := decide (4096 < sumP l) || decide (60 < l.length) || !rises l
theorem sumP_cons (f : Inp) (r : List Inp) : sumP (f :: r) = f.path.length + sumP r := by simp [sumP]
theorem sumP_mem {l : List Inp} {f : Inp} (h : f ∈ l) : f.path.length ≤ sumP l := by
  induction l with
  | nil => cases h
  | cons x r ih =>
    rw [sumP_cons]
    rcases List.mem_cons.1 h with rfl | h
    · omega
    · have := ih h; omega
theorem odd_loop (nl : Bool) (l : List Inp) (hnl : l ≠ [] → nl = false) (hl : l.length ≤ 1000000000) (hb : short l) {Q : Ex → St → Prop}
    (hret : ∀ s, 4096 < sumP l → s.tm 2 = .bool true → Q .ret s) (hex : ∀ s, sumP l ≤ 4096 → s.tm 0 = inps nl l → Q (.exit 0) s) :
    ∀ (r : List Inp) (k n : Nat) (s : St), l.drop k = r → k ≤ l.length → sumP l = n + sumP r → n ≤ 4096 → s.tm 0 = inps nl l → s.tm 3 = .int .i64 n → s.tm 6 = inps nl l → s.tm 7 = .int .i64 l.length → s.tm 8 = .int .i64 k → awp Γ gl (.loop c_seichelaw09_odd_0) Q s := by
  intro r
  induction r with
  | nil =>
    intro k n s hr hk hsum hn t0 t3 t6 t7 t8
    obtain rfl := drop_nil hr hk
    refine awp_roundK fun K hK => ?_
    simp [c_seichelaw09_odd_0, t7, t8]
    exact hex _ (by rw [hsum]; simp [sumP]; omega) (by simp [t0])
  | cons f r ih =>
    intro k n s hr hk hsum hn t0 t3 t6 t7 t8
    obtain ⟨hlt, hxe, hx, hr', hne⟩ := drop_cons hr
    have hf := hb f (List.mem_of_getElem? hx)
    rw [sumP_cons] at hsum
    refine awp_roundK fun K hK => ?_
    simp [c_seichelaw09_odd_0, t0, t3, t6, t7, t8, inps, hnl hne, hlt, hxe, w64 ((n : Int) + f.path.length) (by omega)]
    refine condA_dec (fun hgt => ?_) (fun hle => ?_)
    · simp
      exact hret _ (by omega) (by simp)
    · simp [t8, w64 ((k : Int) + 1) (by omega)]
      refine hK _ ?_
      refine ih (k + 1) (n + f.path.length) _ hr' hlt (by omega) (by omega) (by simp [t0, inps, hnl hne]) (by simp) (by simp [t6, inps, hnl hne]) (by simp [t7]) (by simp)
theorem odd_awp (nl : Bool) (l : List Inp) (hnl : l ≠ [] → nl = false) (hl : l.length ≤ 1000000000) (hb : short l) (hR : Γ F.seicheref09_Rises [inps nl l] = some (.bool (rises l), false)) :
    awp Γ gl c_seichelaw09_odd (retQ [2] (.bool (odd l), false)) (St.init [inps nl l]) := by
  unfold c_seichelaw09_odd
  simp [inps]
  refine odd_loop nl l hnl hl hb (fun s hgt t2 => by simp [t2, odd, hgt]) (fun s hle t0 => ?_) l 0 0 _ rfl (Nat.zero_le _) (by simp) (by omega) (by simp [inps]) (by simp) (by simp [inps]) (by simp) (by simp)
  have hle' : ¬ 4096 < sumP l := by omega
  simp only [inps] at hR
  by_cases h60 : 60 < l.length
  · have : (60 : Int) < l.length := by omega
    simp [t0, inps, this, odd, hle', h60]
  · have : ¬ (60 : Int) < l.length := by omega
    simp [t0, inps, this, odd, hle', h60, hR]
def K_odd : Ctr := ⟨Bool × List Inp, fun a => [inps a.1 a.2], fun a => (.bool (odd a.2), false), fun a => (a.2 ≠ [] → a.1 = false) ∧ a.2.length ≤ 1000000000 ∧ short a.2, fun a b h => by
  simp only [List.cons.injEq, and_true] at h
  rw [(inps_inj h).2]⟩
theorem odd_pc (w : World) : K_odd.Holds (cxD w) F.seichelaw09_odd :=
  holds_of w (cs := [(_, K_rises)]) (by simpa using rises_pc w) cf_seichelaw09_odd (fun _ => Nat.le_of_ble_eq_true rfl) (fun a => by simp [K_odd]) (fun _ => rfl) fun a ha =>
    odd_awp a.1 a.2 ha.1 ha.2.1 ha.2.2 (ofC_eq (c := K_rises) rfl a ha)

/-! ### alive -/
def one (b : UInt8) : Inp := ⟨[b], List.replicate 32 0, rfl⟩
theorem one_v (b : UInt8) : (one b).v = .agg (.str [b] :: repl 32 (.int .u8 0)) := rfl
theorem lists_one : lists [one 97] [one 98] = [([97], 2), ([98], 1)] := by
  have h : pcmp (one 97).path (one 98).path < 0 := by decide
  rw [lists, if_pos h, lists, lists]; rfl
theorem alive_awp (hL : Γ F.diff_Lists [inps false [one 97], inps false [one 98]] = some (chgs false [([97], 2), ([98], 1)], true)) : awp Γ gl c_seichelaw09_alive (retQ [0] (.bool true, false)) (St.init []) := by
  unfold c_seichelaw09_alive
  simp only [inps, List.map_cons, List.map_nil, one_v] at hL
  simp [setAt, hL, chgs, repl_length]
def K_alive : Ctr := ⟨Unit, fun _ => [], fun _ => (.bool true, false), fun _ => True, fun _ _ _ => rfl⟩
theorem one_short (b : UInt8) : short [one b] := fun f hf => by simp at hf; subst hf; simp [one]
theorem alive_pc (w : World) (hw : HasMax w) : K_alive.Holds (cxD w) F.seichelaw09_alive :=
  holds_of w (cs := [(_, K_lists)]) (by simpa using lists_pc w hw) cf_seichelaw09_alive (fun _ => Nat.le_of_ble_eq_true rfl) (fun a => rfl) (fun _ => rfl) fun a _ =>
    alive_awp (by
      have h := ofC_eq (cs := [(F.diff_Lists, K_lists)]) (f := F.diff_Lists) (c := K_lists) rfl ((false, [one 97]), (false, [one 98])) ⟨fun _ => rfl, fun _ => rfl, one_short _, one_short _, by decide⟩
      simp only [K_lists, lists_one] at h
      exact h)

/-! ### the law -/
def Fine (n : Bool) (l : List Inp) : Prop := (l ≠ [] → n = false) ∧ l.length ≤ 100000000 ∧ short l
theorem fine_small {l : List Inp} (h : odd l = false) : l.length ≤ 60 ∧ rises l = true := by
  simp only [odd, Bool.or_eq_false_iff, decide_eq_false_iff_not, Bool.not_eq_false'] at h
  exact ⟨by omega, h.2⟩
theorem law_awp (n1 n2 : Bool) (a b : List Inp) (hal : Γ F.seichelaw09_alive [] = some (.bool true, false)) (hO : ∀ n l, (n = n1 ∧ l = a) ∨ (n = n2 ∧ l = b) → Γ F.seichelaw09_odd [inps n l] = some (.bool (odd l), false))
    (hL : Γ F.diff_Lists [inps n1 a, inps n2 b] = some (chgs (lists a b).isEmpty (lists a b), !(lists a b).isEmpty)) (hF : Γ F.seicheref09_Of [inps n1 a, inps n2 b] = some (chgs (ofC' a b).isEmpty (ofC' a b), false))
    (hS : Γ F.seicheref09_Same [chgs (lists a b).isEmpty (lists a b), chgs (ofC' a b).isEmpty (ofC' a b)] = some (.bool (decide (lists a b = ofC' a b)), false)) :
    awp Γ gl c_seichelaw09_DiffLists (retQ [4] (.bool true, false)) (St.init [inps n1 a, inps n2 b]) := by
  unfold c_seichelaw09_DiffLists
  have hOa := hO n1 a (.inl ⟨rfl, rfl⟩)
  have hOb := hO n2 b (.inr ⟨rfl, rfl⟩)
  cases ha : odd a
  · cases hb : odd b
    · have := lists_of (fine_small ha).2 (fine_small hb).2
      rw [this] at hL hS
      simp [hal, hOa, hOb, ha, hb, hL, hF, hS]
    · simp [hal, hOa, hOb, ha, hb]
  · simp [hal, hOa, ha]
def K_diffLists : Ctr := ⟨(Bool × List Inp) × (Bool × List Inp), fun a => [inps a.1.1 a.1.2, inps a.2.1 a.2.2], fun _ => (.bool true, false), fun a => Fine a.1.1 a.1.2 ∧ Fine a.2.1 a.2.2, fun _ _ _ => rfl⟩
theorem lists_length : ∀ (a b : List Inp), (lists a b).length ≤ a.length + b.length
  | [], [] => by rw [lists]; simp
  | f :: a, [] => by have := lists_length a []; rw [lists]; simp at this ⊢; omega
  | [], g :: b => by have := lists_length [] b; rw [lists]; simp at this ⊢; omega
  | f :: a, g :: b => by
    have h1 := lists_length a (g :: b)
    have h2 := lists_length (f :: a) b
    have h3 := lists_length a b
    rw [lists]
    simp only [List.length_cons] at h1 h2 ⊢
    split
    · simp only [List.length_cons]; omega
    · split
      · simp only [List.length_cons]; omega
      · split <;> simp only [List.length_append, List.length_cons, List.length_nil] <;> omega
  termination_by a b => a.length + b.length
theorem chgs_ne {l : List Chg} (h : l ≠ []) : l.isEmpty = false := isEmpty_false h
theorem diffLists_pc (w : World) (hw : HasMax w) : K_diffLists.Holds (cxD w) F.seichelaw09_DiffLists :=
  holds_of w (cs := [(_, K_alive), (_, K_odd), (_, K_lists), (_, K_of), (_, K_same)]) (by simpa using ⟨alive_pc w hw, odd_pc w, lists_pc w hw, of_pc w, same_pc w⟩) cf_seichelaw09_DiffLists (fun _ => Nat.le_of_ble_eq_true rfl) (fun a => by simp [K_diffLists]) (fun _ => rfl) fun a ha => by
    obtain ⟨⟨h1, h2, h3⟩, h4, h5, h6⟩ := ha
    have hok : K_lists.ok a := ⟨h1, h4, h3, h6, by omega⟩
    refine law_awp a.1.1 a.2.1 a.1.2 a.2.2 (ofC_eq (c := K_alive) rfl () trivial) (fun n l h => ?_) (ofC_eq (c := K_lists) rfl a hok) (ofC_eq (c := K_of) rfl a hok)
      (ofC_eq (c := K_same) rfl (((lists a.1.2 a.2.2).isEmpty, lists a.1.2 a.2.2), ((ofC' a.1.2 a.2.2).isEmpty, ofC' a.1.2 a.2.2)) ⟨chgs_ne, chgs_ne, Nat.le_trans (lists_length _ _) (by omega)⟩)
    rcases h with ⟨rfl, rfl⟩ | ⟨rfl, rfl⟩
    · exact ofC_eq (c := K_odd) rfl a.1 ⟨h1, by omega, h3⟩
    · exact ofC_eq (c := K_odd) rfl a.2 ⟨h4, by omega, h6⟩
end Go.Proofs.YtainplhaaklpeaaDoor
