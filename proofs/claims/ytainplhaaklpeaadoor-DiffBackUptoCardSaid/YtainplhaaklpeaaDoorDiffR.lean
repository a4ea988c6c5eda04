/-
  Walks: the document's paths. Own work of this seat.
-/
import Derived.Test.YtainplhaaklpeaaDoorDiffW
namespace Go.Proofs.YtainplhaaklpeaaDoor
open Go.Abs
variable {Γ : Abs.Spec} {gl : Glob}

/-! ### Parts -/
def addHead (cur : Bytes) : List Bytes → List Bytes
  | [] => [cur]
  | x :: xs => (cur ++ x) :: xs
theorem splitOn_cons_eq (c : UInt8) (r : Bytes) (cur : Bytes) : addHead cur (splitOn c (c :: r)) = cur :: splitOn c r := by simp [splitOn, addHead]
theorem splitOn_cons_ne {c b : UInt8} (h : b ≠ c) (r : Bytes) (cur : Bytes) : addHead cur (splitOn c (b :: r)) = addHead (cur ++ [b]) (splitOn c r) := by
  simp only [splitOn, if_neg h]
  cases h' : splitOn c r with
  | nil => exact absurd h' (splitOn_ne _ _)
  | cons x xs => simp [addHead]
theorem addHead_nil (l : List Bytes) (h : l ≠ []) : addHead [] l = l := by
  cases l with
  | nil => exact absurd rfl h
  | cons x xs => rfl

theorem byte47 {b : UInt8} : ((b.toNat : Int) = 47) ↔ b = 47 :=
  ⟨fun h => UInt8.toNat_inj.1 (show b.toNat = 47 by omega), fun h => by rw [h]; rfl⟩
theorem parts_loop (p : Bytes) (hp : p.length ≤ 1000000000) {Q : Ex → St → Prop} (hex : ∀ s, s.tm 3 = strs false (splitOn 47 p) → s.own (.slot 3) = true → Q (.exit 0) s) :
    ∀ (n i fr : Nat) (acc : List Bytes) (s : St), p.length + 1 - i = n → i ≤ p.length + 1 → fr ≤ i → acc.length ≤ i → s.tm 0 = .str p → s.tm 3 = strs acc.isEmpty acc → (acc ≠ [] → s.own (.slot 3) = true) → s.tm 4 = .int .i64 fr → s.tm 5 = .int .i64 i →
      (i ≤ p.length → splitOn 47 p = acc ++ addHead ((p.take i).drop fr) (splitOn 47 (p.drop i))) → (i = p.length + 1 → splitOn 47 p = acc) → awp Γ gl (.loop c_seicheref06_Parts_0) Q s := by
  intro n
  induction n with
  | zero =>
    intro i fr acc s hn hi hf ha h0 h3 hw h4 h5 _ hend
    have he : i = p.length + 1 := by omega
    have hacc := hend he
    have hne : acc ≠ [] := by rw [← hacc]; exact splitOn_ne _ _
    refine awp_roundK fun K hK => ?_
    simp [c_seicheref06_Parts_0, h5, h0, show ¬ i ≤ p.length by omega]
    refine hex _ ?_ (by simp [hw hne])
    have : acc.isEmpty = false := by cases acc <;> simp at hne ⊢
    simp [h3, hacc, this]
  | succ n ih =>
    intro i fr acc s hn hi hf ha h0 h3 hw h4 h5 hmid _
    have hil : i ≤ p.length := by omega
    have hmid := hmid hil
    have hw' : acc.isEmpty = false → s.own (.slot 3) = true := fun h => hw (by rintro rfl; simp at h)
    have hn' : acc.isEmpty = true → acc.map V.str = [] := by simp
    have hfi : (fr : Int) ≤ i := by omega
    have hfl : fr ≤ p.length := by omega
    have hLim : acc.length + 1 ≤ Lim := by unfold Lim; omega
    refine awp_roundK fun K hK => ?_
    by_cases hlast : i = p.length
    · have hd : p.drop i = [] := List.drop_eq_nil_of_le (by omega)
      simp [c_seicheref06_Parts_0, h5, h0, hil, hlast, h4, h3, strs, hfl, vApp_gen _ _ _ hn' hw', hLim, w64 ((p.length : Int) + 1) (by omega)]
      refine hK _ ?_
      refine ih (i + 1) (i + 1) (acc ++ [(p.take i).drop fr]) _ (by omega) (by omega) (Nat.le_refl _) (by simp; omega) (by simp [h0]) ?_ (fun _ => ?_) ?_ ?_ (fun hle => by omega) (fun _ => ?_)
      · simp [strs, hlast]
      · simp
      · simp [hlast]
      · simp [hlast]
      · rw [hmid, hd]; simp [splitOn, addHead]
    · have hlt : i < p.length := by omega
      obtain ⟨b, hb⟩ := getE hlt
      have hbe : p[i] = b := by rw [List.getElem?_eq_getElem hlt] at hb; exact Option.some.inj hb
      have hd : p.drop i = b :: p.drop (i + 1) := by rw [List.drop_eq_getElem_cons hlt, hbe]
      rw [hd] at hmid
      by_cases hsl : b = 47
      · subst hsl
        simp [c_seicheref06_Parts_0, h5, h0, hil, hlast, hbe, hlt, byteV, h4, h3, strs, hfl, hf, vApp_gen _ _ _ hn' hw', hLim, w64 ((i : Int) + 1) (by omega)]
        refine hK _ ?_
        refine ih (i + 1) (i + 1) (acc ++ [(p.take i).drop fr]) _ (by omega) (by omega) (Nat.le_refl _) (by simp; omega) (by simp [h0]) ?_ (fun _ => ?_) ?_ ?_ (fun hle => ?_) (fun he => by omega)
        · simp [strs]
        · simp
        · simp
        · simp
        · rw [hmid, splitOn_cons_eq]
          have : (p.take (i + 1)).drop (i + 1) = [] := by apply List.drop_eq_nil_of_le; simp; omega
          rw [this, addHead_nil _ (splitOn_ne _ _)]; simp
      · have hb64 : ¬ ((b.toNat : Int) = 47) := fun h => hsl (byte47.1 h)
        simp [c_seicheref06_Parts_0, h5, h0, hil, hlast, hbe, hlt, byteV, hb64, w64 ((i : Int) + 1) (by omega)]
        refine hK _ ?_
        refine ih (i + 1) fr acc _ (by omega) (by omega) (by omega) (by omega) (by simp [h0]) (by simp [h3]) (fun h => by simp [hw h]) (by simp [h4]) (by simp) (fun hle => ?_) (fun he => by omega)
        rw [hmid, splitOn_cons_ne hsl]
        congr 2
        have e : p.take (i + 1) = p.take i ++ [b] := by rw [List.take_add_one, hb]; rfl
        rw [e, List.drop_append_of_le_length (by simp; omega)]
theorem parts_awp (p : Bytes) (hp : p.length ≤ 1000000000) : awp Γ gl c_seicheref06_Parts (retQ [2] (strs false (splitOn 47 p), true)) (St.init [.str p]) := by
  unfold c_seicheref06_Parts
  simp
  refine parts_loop p hp (fun s h3 hw => ?_) _ 0 0 [] _ rfl (by omega) (Nat.le_refl _) (Nat.le_refl _) (by simp) (by simp [strs]) (fun h => absurd rfl h) (by simp) (by simp) (fun _ => ?_) (fun h => by omega)
  · simp [h3, hw]
  · simp [addHead_nil _ (splitOn_ne _ _)]
def K_parts : Ctr := ⟨Bytes, fun s => [.str s], fun s => (strs false (splitOn 47 s), true), fun s => s.length ≤ 1000000000, fun a b h => by simp at h; simp [h]⟩
theorem parts_pc (w : World) : K_parts.Holds (cxD w) F.seicheref06_Parts :=
  holds_of w (cs := []) (by simp) cf_seicheref06_Parts (fun _ => Nat.le_of_ble_eq_true rfl) (fun _ => rfl) (fun _ => strs_clean _ _) fun s hs => parts_awp s hs
theorem rSplit_awp (s : Bytes) (hS : Γ F.seicheref06_Parts [.str s] = some (strs false (splitOn 47 s), true)) : awp Γ gl c_seicheref06_Split (retQ [2] (strs s.isEmpty (psplit s), !s.isEmpty)) (St.init [.str s]) := by
  unfold c_seicheref06_Split
  by_cases h : s = []
  · subst h; simp [strs, psplit]
  · simp [strs] at hS
    simp [strs, h, hS, psplit_nonempty h]
def K_rsplit : Ctr := ⟨Bytes, fun s => [.str s], fun s => (strs (s.isEmpty) (psplit s), !s.isEmpty), fun s => s.length ≤ 1000000000, fun a b h => by simp at h; simp [h]⟩
theorem rSplit_pc (w : World) : K_rsplit.Holds (cxD w) F.seicheref06_Split :=
  holds_of w (cs := [(_, K_parts)]) (by simpa using parts_pc w) cf_seicheref06_Split (fun _ => Nat.le_of_ble_eq_true rfl) (fun _ => rfl) (fun _ => strs_clean _ _) fun s hs =>
    rSplit_awp s (ofC_eq (c := K_parts) rfl s hs)

/-! ### Compare -/
theorem drop_cons_of {α : Type} {l : List α} {k : Nat} (h : k < l.length) : ∃ x, l[k] = x ∧ l[k]? = some x ∧ l.drop k = x :: l.drop (k + 1) :=
  ⟨l[k], rfl, List.getElem?_eq_getElem h, List.drop_eq_getElem_cons h⟩
theorem cmpL_cons (a b : Bytes) (r t : List Bytes) : cmpL (a :: r) (b :: t) = if cmpB a b = 0 then cmpL r t else cmpB a b := rfl

theorem rCmp_loop (n1 n2 : Bool) (l1 l2 : List Bytes) (hn1 : l1 ≠ [] → n1 = false) (hn2 : l2 ≠ [] → n2 = false) (hl : l1.length ≤ 1000000000) {Q : Ex → St → Prop}
    (hret : ∀ s, s.tm 4 = .int .i64 (cmpL l1 l2) → s.own (.slot 4) = false → Q .ret s)
    (hex : ∀ (k : Nat) s, s.tm 5 = strs n1 l1 → s.tm 6 = strs n2 l2 → s.own (.slot 4) = false → (l1.length ≤ k ∨ l2.length ≤ k) → cmpL l1 l2 = cmpL (l1.drop k) (l2.drop k) → k ≤ l1.length → k ≤ l2.length → Q (.exit 0) s) :
    ∀ (n k : Nat) (s : St), l1.length - k = n → k ≤ l1.length → k ≤ l2.length → s.tm 5 = strs n1 l1 → s.tm 6 = strs n2 l2 → s.tm 7 = .int .i64 k → s.own (.slot 4) = false → cmpL l1 l2 = cmpL (l1.drop k) (l2.drop k) → awp Γ gl (.loop c_seicheref06_Compare_0) Q s := by
  intro n
  induction n with
  | zero =>
    intro k s hn hk1 hk2 h5 h6 h7 hw hc
    refine awp_roundK fun K hK => ?_
    simp [c_seicheref06_Compare_0, h5, h6, h7, strs, show ¬ k < l1.length by omega]
    exact hex k _ (by simp [h5]) (by simp [h6]) (by simp [hw]) (.inl (by omega)) hc hk1 hk2
  | succ n ih =>
    intro k s hn hk1 hk2 h5 h6 h7 hw hc
    have hlt1 : k < l1.length := by omega
    obtain ⟨x, hx, _, hd1⟩ := drop_cons_of hlt1
    have hne1 : l1 ≠ [] := by rintro rfl; simp at hlt1
    refine awp_roundK fun K hK => ?_
    by_cases hlt2 : k < l2.length
    · obtain ⟨y, hy, _, hd2⟩ := drop_cons_of hlt2
      have hne2 : l2 ≠ [] := by rintro rfl; simp at hlt2
      rw [hd1, hd2, cmpL_cons] at hc
      simp [c_seicheref06_Compare_0, h5, h6, h7, strs, hlt1, hlt2, hn1 hne1, hn2 hne2, hx, hy]
      refine condA_bool (fun hlt => ?_) (fun hge => ?_)
      · simp
        refine hret _ ?_ (by simp)
        rw [hc]; simp [cmpB, hlt]
      · simp [c_seicheref06_Compare_0, h5, h6, h7, strs, hlt1, hlt2, hn1 hne1, hn2 hne2, hx, hy]
        refine condA_bool (fun hgt => ?_) (fun hle => ?_)
        · simp
          refine hret _ ?_ (by simp)
          rw [hc]; simp [cmpB, hge, hgt]
        · simp [h7, w64 ((k : Int) + 1) (by omega)]
          refine hK _ ?_
          refine ih (k + 1) _ (by omega) (by omega) (by omega) (by simp [h5]) (by simp [h6]) (by simp) (by simp [hw]) ?_
          rw [hc]; simp [cmpB, hge, hle]
    · simp [c_seicheref06_Compare_0, h5, h6, h7, strs, hlt1, hlt2]
      exact hex k _ (by simp [h5]) (by simp [h6]) (by simp [hw]) (.inr (by omega)) hc hk1 hk2

theorem rCmp_awp (a b : Bytes) (hla : a.length ≤ 100000000) (hS : ∀ s, s = a ∨ s = b → Γ F.seicheref06_Split [.str s] = some (strs s.isEmpty (psplit s), !s.isEmpty)) : awp Γ gl c_seicheref06_Compare (retQ [4] (.int .i64 (pcmp a b), false)) (St.init [.str a, .str b]) := by
  unfold c_seicheref06_Compare
  simp [hS]
  refine rCmp_loop _ _ (psplit a) (psplit b) psplit_empty psplit_empty (Nat.le_trans (psplit_length a) (by omega)) (fun s h4 hw => by simp [h4, hw, pcmp]) (fun k s h5 h6 hw hk hc h1 h2 => ?_) _ 0 _ rfl (Nat.zero_le _) (Nat.zero_le _) (by simp) (by simp) (by simp) (by simp) rfl
  simp [h5, h6, strs]
  have hp : pcmp a b = cmpL ((psplit a).drop k) ((psplit b).drop k) := hc
  refine condA_dec (fun hlt => ?_) (fun hge => ?_)
  · simp
    obtain ⟨y, _, _, hd2⟩ := drop_cons_of (l := psplit b) (k := k) (by omega)
    rw [hp, @List.drop_eq_nil_of_le _ (psplit a) k (by omega), hd2]; rfl
  · simp [h5, h6, strs]
    refine condA_dec (fun hlt => ?_) (fun hge2 => ?_)
    · simp
      obtain ⟨y, _, _, hd1⟩ := drop_cons_of (l := psplit a) (k := k) (by omega)
      rw [hp, @List.drop_eq_nil_of_le _ (psplit b) k (by omega), hd1]; rfl
    · simp
      rw [hp, @List.drop_eq_nil_of_le _ (psplit b) k (by omega), @List.drop_eq_nil_of_le _ (psplit a) k (by omega)]; rfl
theorem rCmp_pc (w : World) : K_pcmp.Holds (cxD w) F.seicheref06_Compare :=
  holds_of w (cs := [(_, K_rsplit)]) (by simpa using rSplit_pc w) cf_seicheref06_Compare (fun _ => Nat.le_of_ble_eq_true rfl) (fun _ => rfl) (fun _ => rfl) fun p hp =>
    rCmp_awp p.1 p.2 hp.1 fun s hs => ofC_eq (c := K_rsplit) rfl s (by rcases hs with rfl | rfl <;> (have := hp; simp only [K_pcmp] at this; show _ ≤ _; omega))

/-! ### lists of files -/
structure Inp where
  path : Bytes
  id : List UInt8
  h : id.length = 32
theorem Inp.eq {f g : Inp} (h1 : f.path = g.path) (h2 : f.id = g.id) : f = g := by
  cases f; cases g; simp only at h1 h2; subst h1; subst h2; rfl
instance : DecidableEq Inp := fun f g => if h : f.path = g.path ∧ f.id = g.id then isTrue (Inp.eq h.1 h.2) else isFalse fun e => h (by rw [e]; exact ⟨rfl, rfl⟩)
def Inp.v (f : Inp) : V := .agg (.str f.path :: encB f.id)
@[simp] theorem Inp.cells (f : Inp) : f.v.cells = .str f.path :: encB f.id := rfl
@[simp] theorem Inp.len (f : Inp) : f.id.length = 32 := f.h
@[simp] theorem Inp.take (f : Inp) : (encB f.id).take 32 = encB f.id := List.take_of_length_le (by simp)
theorem encB_inj {a b : Bytes} (h : encB a = encB b) : a = b := (List.map_inj_right (fun x y h => by simp [byteV] at h; exact UInt8.toNat_inj.1 h)).1 h
theorem Inp.v_inj {f g : Inp} (h : f.v = g.v) : f = g := by
  simp only [Inp.v, V.agg.injEq, List.cons.injEq, V.str.injEq] at h
  exact Inp.eq h.1 (encB_inj h.2)
@[simp] theorem Inp.clean (f : Inp) : f.v.clean = true := by simp [Inp.v]
def inps (nl : Bool) (l : List Inp) : V := .sl nl 33 (l.map Inp.v)
@[simp] theorem inps_clean (nl : Bool) (l : List Inp) : (inps nl l).clean = true := cleanL_map Inp.clean l
theorem inps_inj {nl nl' : Bool} {l l' : List Inp} (h : inps nl l = inps nl' l') : nl = nl' ∧ l = l' := by
  simp only [inps, V.sl.injEq] at h
  exact ⟨h.1, (List.map_inj_right (fun x y h => Inp.v_inj h)).1 h.2.2⟩

/-! ### At -/
def at' (l : List Inp) (p : Bytes) : Int := match l with
  | [] => -1
  | f :: r => if f.path = p then 0 else if at' r p = -1 then -1 else at' r p + 1
theorem at'_ge (l : List Inp) (p : Bytes) : -1 ≤ at' l p := by
  induction l with
  | nil => simp [at']
  | cons f r ih => simp only [at']; split <;> (try split) <;> omega
theorem at_loop (nl : Bool) (l : List Inp) (p : Bytes) (hnl : l ≠ [] → nl = false) (hl : l.length ≤ 1000000000) {Q : Ex → St → Prop}
    (hret : ∀ s, s.tm 4 = .int .i64 (at' l p) → s.own (.slot 4) = false → Q .ret s) (hex : ∀ s, at' l p = -1 → s.own (.slot 4) = false → Q (.exit 0) s) :
    ∀ (r : List Inp) (k : Nat) (s : St), l.drop k = r → k ≤ l.length → s.tm 7 = inps nl l → s.tm 8 = .int .i64 l.length → s.tm 9 = .int .i64 k → s.tm 1 = .str p → s.own (.slot 4) = false → at' l p = (if at' r p = -1 then -1 else at' r p + k) → awp Γ gl (.loop c_seicheref09_At_0) Q s := by
  intro r
  induction r with
  | nil =>
    intro k s hr hk h7 h8 h9 h1 hw hat
    obtain rfl := drop_nil hr hk
    refine awp_roundK fun K hK => ?_
    simp [c_seicheref09_At_0, h8, h9]
    exact hex _ (by rw [hat]; simp [at']) (by simp [hw])
  | cons f r ih =>
    intro k s hr hk h7 h8 h9 h1 hw hat
    obtain ⟨hlt, hxe, hx, hr', hne⟩ := drop_cons hr
    refine awp_roundK fun K hK => ?_
    simp [c_seicheref09_At_0, h7, h8, h9, h1, inps, hnl hne, hlt, hxe, vFaddr_ptr, hCells]
    refine condA_dec (fun he => ?_) (fun hne2 => ?_)
    · simp [h9]
      refine hret _ ?_ ?_
      · rw [hat]; simp [at', he]
      · simp
    · simp [h9, w64 ((k : Int) + 1) (by omega)]
      refine hK _ ?_
      refine ih (k + 1) _ hr' hlt (by simp [h7, inps, hnl hne]) (by simp [h8]) (by simp) (by simp [h1]) (by simp [hw]) ?_
      rw [hat]
      simp only [at', if_neg hne2]
      by_cases hm : at' r p = -1
      · simp [hm]
      · have := at'_ge r p
        simp only [hm, if_false]
        rw [if_neg (by omega)]
        push_cast
        omega
theorem at_awp (nl : Bool) (l : List Inp) (p : Bytes) (hnl : l ≠ [] → nl = false) (hl : l.length ≤ 1000000000) : awp Γ gl c_seicheref09_At (retQ [4] (.int .i64 (at' l p), false)) (St.init [inps nl l, .str p]) := by
  unfold c_seicheref09_At
  simp [inps]
  refine at_loop nl l p hnl hl (fun s h4 hw => by simp [h4, hw]) (fun s h hw => by simp [h]) l 0 _ rfl (Nat.zero_le _) (by simp [inps]) (by simp) (by simp) (by simp) (by simp) ?_
  have := at'_ge l p
  by_cases h : at' l p = -1 <;> simp [h]
def K_at : Ctr := ⟨(Bool × List Inp) × Bytes, fun a => [inps a.1.1 a.1.2, .str a.2], fun a => (.int .i64 (at' a.1.2 a.2), false), fun a => (a.1.2 ≠ [] → a.1.1 = false) ∧ a.1.2.length ≤ 1000000000, fun a b h => by
  simp only [List.cons.injEq, V.str.injEq, and_true] at h
  rw [(inps_inj h.1).2, h.2]⟩
theorem at_pc (w : World) : K_at.Holds (cxD w) F.seicheref09_At :=
  holds_of w (cs := []) (by simp) cf_seicheref09_At (fun _ => Nat.le_of_ble_eq_true rfl) (fun a => by simp [K_at]) (fun _ => rfl) fun a ha => at_awp a.1.1 a.1.2 a.2 ha.1 ha.2

/-! ### Rises -/
def rises : List Inp → Bool
  | f :: g :: r => decide (pcmp f.path g.path < 0) && rises (g :: r)
  | _ => true
def short (l : List Inp) : Prop := ∀ f ∈ l, f.path.length ≤ 100000000
theorem rises_loop (nl : Bool) (l : List Inp) (hnl : l ≠ [] → nl = false) (hl : l.length ≤ 1000000000) (hs : short l) (hC : ∀ a b : Bytes, a.length ≤ 100000000 → b.length ≤ 100000000 → Γ F.seicheref06_Compare [.str a, .str b] = some (.int .i64 (pcmp a b), false)) {Q : Ex → St → Prop}
    (hret : ∀ s, rises l = false → s.tm 2 = .bool false → s.own (.slot 2) = false → Q .ret s) (hex : ∀ s, rises l = true → s.own (.slot 2) = false → Q (.exit 0) s) :
    ∀ (r : List Inp) (k : Nat) (s : St), l.drop k = r → k ≤ l.length → s.tm 0 = inps nl l → s.tm 5 = .int .i64 l.length → s.tm 6 = .int .i64 k → s.own (.slot 2) = false → rises l = rises (l.drop (k - 1)) → awp Γ gl (.loop c_seicheref09_Rises_0) Q s := by
  intro r
  induction r with
  | nil =>
    intro k s hr hk h0 h5 h6 hw hi
    obtain rfl := drop_nil hr hk
    refine awp_roundK fun K hK => ?_
    simp [c_seicheref09_Rises_0, h5, h6]
    refine hex _ ?_ (by simp [hw])
    rw [hi]
    rcases Nat.eq_zero_or_pos l.length with h0 | h0
    · rw [List.length_eq_zero_iff.1 h0]; rfl
    · obtain ⟨x, _, _, hd⟩ := drop_cons_of (l := l) (k := l.length - 1) (by omega)
      rw [hd, List.drop_eq_nil_of_le (by omega)]; rfl
  | cons f r ih =>
    intro k s hr hk h0 h5 h6 hw hi
    obtain ⟨hlt, hxe, hx, hr', hne⟩ := drop_cons hr
    refine awp_roundK fun K hK => ?_
    have hfm : f ∈ l := List.mem_of_getElem? hx
    rcases Nat.eq_zero_or_pos k with hk0 | hkp
    · subst hk0
      simp [c_seicheref09_Rises_0, h0, h5, h6, hlt, w64 1 (by omega)]
      refine hK _ ?_
      refine ih 1 _ hr' hlt (by simp [h0]) (by simp [h5]) (by simp) (by simp [hw]) ?_
      rfl
    · obtain ⟨g, hge, hg, hgd⟩ := drop_cons_of (l := l) (k := k - 1) (by omega)
      have hgm : g ∈ l := List.mem_of_getElem? hg
      have hk1 : ((k : Int) - 1) = ((k - 1 : Nat) : Int) := by omega
      have hc := hC g.path f.path (hs g hgm) (hs f hfm)
      have hlt' : k - 1 < l.length := by omega
      have hi' : rises l = (decide (pcmp g.path f.path < 0) && rises (l.drop k)) := by
        rw [hi, hgd, show k - 1 + 1 = k by omega, hr]; rfl
      simp [c_seicheref09_Rises_0, h0, h5, h6, hlt, hkp, hk1, inps, hnl hne, hlt', hge, hxe, hc, w64 (((k - 1 : Nat) : Int)) (by omega)]
      refine condA_dec (fun hge0 => ?_) (fun hlt0 => ?_)
      · simp
        refine hret _ ?_ (by simp) (by simp)
        rw [hi', decide_eq_false (by omega)]; rfl
      · simp [h6, w64 ((k : Int) + 1) (by omega)]
        refine hK _ ?_
        refine ih (k + 1) _ hr' hlt (by simp [h0, inps, hnl hne]) (by simp [h5]) (by simp) (by simp [hw]) ?_
        rw [hi', decide_eq_true (by omega)]; rfl
theorem rises_awp (nl : Bool) (l : List Inp) (hnl : l ≠ [] → nl = false) (hl : l.length ≤ 1000000000) (hs : short l) (hC : ∀ a b : Bytes, a.length ≤ 100000000 → b.length ≤ 100000000 → Γ F.seicheref06_Compare [.str a, .str b] = some (.int .i64 (pcmp a b), false)) :
    awp Γ gl c_seicheref09_Rises (retQ [2] (.bool (rises l), false)) (St.init [inps nl l]) := by
  unfold c_seicheref09_Rises
  simp [inps]
  exact rises_loop nl l hnl hl hs hC (fun s h h2 hw => by simp [h, h2, hw]) (fun s h hw => by simp [h]) l 0 _ rfl (Nat.zero_le _) (by simp [inps]) (by simp) (by simp) (by simp) rfl
def K_rises : Ctr := ⟨Bool × List Inp, fun a => [inps a.1 a.2], fun a => (.bool (rises a.2), false), fun a => (a.2 ≠ [] → a.1 = false) ∧ a.2.length ≤ 1000000000 ∧ short a.2, fun a b h => by
  simp only [List.cons.injEq, and_true] at h
  rw [(inps_inj h).2]⟩
theorem rises_pc (w : World) : K_rises.Holds (cxD w) F.seicheref09_Rises :=
  holds_of w (cs := [(_, K_pcmp)]) (by simpa using rCmp_pc w) cf_seicheref09_Rises (fun _ => Nat.le_of_ble_eq_true rfl) (fun a => by simp [K_rises]) (fun _ => rfl) fun a ha =>
    rises_awp a.1 a.2 ha.1 ha.2.1 ha.2.2 fun p q hp hq => ofC_eq (c := K_pcmp) rfl (p, q) ⟨hp, hq⟩

/-! ### lists of changes -/
abbrev Chg := Bytes × Int
def chgV (c : Chg) : V := .agg [.str c.1, .int .i64 c.2]
@[simp] theorem chg_cells (c : Chg) : (chgV c).cells = [.str c.1, .int .i64 c.2] := rfl
theorem chgV_inj {c d : Chg} (h : chgV c = chgV d) : c = d := by
  simp only [chgV, V.agg.injEq, List.cons.injEq, V.str.injEq, V.int.injEq] at h
  exact Prod.ext h.1 h.2.1.2
@[simp] theorem chg_clean (c : Chg) : (chgV c).clean = true := rfl
def chgs (nl : Bool) (l : List Chg) : V := .sl nl 2 (l.map chgV)
@[simp] theorem chgs_clean (nl : Bool) (l : List Chg) : (chgs nl l).clean = true := cleanL_map chg_clean l
theorem chgs_inj {nl nl' : Bool} {l l' : List Chg} (h : chgs nl l = chgs nl' l') : nl = nl' ∧ l = l' := by
  simp only [chgs, V.sl.injEq] at h
  exact ⟨h.1, (List.map_inj_right (fun x y h => chgV_inj h)).1 h.2.2⟩

/-! ### Same, of changes -/
theorem same_loop (n1 n2 : Bool) (l m : List Chg) (hn1 : l ≠ [] → n1 = false) (hn2 : m ≠ [] → n2 = false) (hlm : l.length = m.length) (hl : l.length ≤ 1000000000) {Q : Ex → St → Prop}
    (hret : ∀ s, l ≠ m → s.tm 4 = .bool false → s.own (.slot 4) = false → Q .ret s) (hex : ∀ s, l = m → s.own (.slot 4) = false → Q (.exit 0) s) :
    ∀ (r : List Chg) (k : Nat) (s : St), l.drop k = r → k ≤ l.length → s.tm 0 = chgs n1 l → s.tm 1 = chgs n2 m → s.tm 12 = .int .i64 l.length → s.tm 13 = .int .i64 k → s.own (.slot 4) = false → l.take k = m.take k → awp Γ gl (.loop c_seicheref09_Same_0) Q s := by
  intro r
  induction r with
  | nil =>
    intro k s hr hk h0 h1 h12 h13 hw ht
    obtain rfl := drop_nil hr hk
    refine awp_roundK fun K hK => ?_
    simp [c_seicheref09_Same_0, h12, h13]
    refine hex _ ?_ (by simp [hw])
    rwa [List.take_length, hlm, List.take_length] at ht
  | cons x r ih =>
    intro k s hr hk h0 h1 h12 h13 hw ht
    obtain ⟨hlt, hxe, hx, hr', hne⟩ := drop_cons hr
    have hlt2 : k < m.length := by omega
    obtain ⟨y, hye, hy, hyd⟩ := drop_cons_of hlt2
    have hne2 : m ≠ [] := by rintro rfl; simp at hlt2
    refine awp_roundK fun K hK => ?_
    simp [c_seicheref09_Same_0, h0, h1, h12, h13, hlt, hlt2, chgs, hn1 hne, hn2 hne2, hxe, hye]
    by_cases he : x = y
    · subst he
      simp [h13, w64 ((k : Int) + 1) (by omega)]
      refine hK _ ?_
      refine ih (k + 1) _ hr' hlt (by simp [h0, chgs, hn1 hne]) (by simp [h1, chgs, hn2 hne2]) (by simp [h12]) (by simp) (by simp [hw]) ?_
      rw [List.take_add_one, List.take_add_one, ht, hx, hy]
    · have hb : (!decide (x.1 = y.1) || !decide (x.2 = y.2)) = true := by
        by_cases h1 : x.1 = y.1
        · have : x.2 ≠ y.2 := fun h2 => he (Prod.ext h1 h2)
          simp [this]
        · simp [h1]
      simp [hb]
      refine hret _ ?_ (by simp) (by simp)
      rintro rfl
      rw [hx] at hy; exact he (Option.some.inj hy)
theorem same_awp (n1 n2 : Bool) (l m : List Chg) (hn1 : l ≠ [] → n1 = false) (hn2 : m ≠ [] → n2 = false) (hl : l.length ≤ 1000000000) :
    awp Γ gl c_seicheref09_Same (retQ [4] (.bool (decide (l = m)), false)) (St.init [chgs n1 l, chgs n2 m]) := by
  unfold c_seicheref09_Same
  simp [chgs]
  by_cases hlm : l.length = m.length
  · simp [hlm]
    refine same_loop n1 n2 l m hn1 hn2 hlm hl (fun s h h4 hw => by simp [h, h4, hw]) (fun s h hw => by simp [h]) l 0 _ rfl (Nat.zero_le _) (by simp [chgs]) (by simp [chgs]) (by simp [hlm]) (by simp) (by simp) rfl
  · simp [hlm]
    rintro rfl; exact hlm rfl
def K_same : Ctr := ⟨(Bool × List Chg) × (Bool × List Chg), fun a => [chgs a.1.1 a.1.2, chgs a.2.1 a.2.2], fun a => (.bool (decide (a.1.2 = a.2.2)), false), fun a => (a.1.2 ≠ [] → a.1.1 = false) ∧ (a.2.2 ≠ [] → a.2.1 = false) ∧ a.1.2.length ≤ 1000000000, fun a b h => by
  simp only [List.cons.injEq, and_true] at h
  rw [(chgs_inj h.1).2, (chgs_inj h.2).2]⟩
theorem same_pc (w : World) : K_same.Holds (cxD w) F.seicheref09_Same :=
  holds_of w (cs := []) (by simp) cf_seicheref09_Same (fun _ => Nat.le_of_ble_eq_true rfl) (fun a => by simp [K_same]) (fun _ => rfl) fun a ha => same_awp a.1.1 a.2.1 a.1.2 a.2.2 ha.1 ha.2.1 ha.2.2
end Go.Proofs.YtainplhaaklpeaaDoor
