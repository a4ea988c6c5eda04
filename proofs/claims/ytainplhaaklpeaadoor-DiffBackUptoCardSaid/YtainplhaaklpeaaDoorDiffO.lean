/-
  Walks: the document's changes. Own work of this seat.
-/
import Derived.Test.YtainplhaaklpeaaDoorDiffL
namespace Go.Proofs.YtainplhaaklpeaaDoor
open Go.Abs
variable {Γ : Abs.Spec} {gl : Glob}

def look (l : List Inp) (p : Bytes) : Option Inp := l.find? fun f => decide (f.path = p)
theorem at_look (l : List Inp) (p : Bytes) : (at' l p = -1 ∧ look l p = none) ∨ ∃ (i : Nat) (f : Inp), at' l p = i ∧ i < l.length ∧ l[i]? = some f ∧ look l p = some f := by
  induction l with
  | nil => exact .inl ⟨rfl, rfl⟩
  | cons f r ih =>
    by_cases h : f.path = p
    · exact .inr ⟨0, f, by simp [at', h], by simp, rfl, by simp [look, h]⟩
    · have hl : look (f :: r) p = look r p := by simp [look, h]
      rcases ih with ⟨h1, h2⟩ | ⟨i, g, h1, h2, h3, h4⟩
      · exact .inl ⟨by simp [at', h, h1], by rw [hl, h2]⟩
      · refine .inr ⟨i + 1, g, ?_, by simpa using h2, by simpa using h3, by rw [hl, h4]⟩
        simp only [at', h, if_false, h1]
        rw [if_neg (by omega)]; push_cast; rfl
def of1 (b : List Inp) : List Inp → List Chg
  | [] => []
  | f :: r => (match look b f.path with | none => [(f.path, 2)] | some g => if g.id = f.id then [] else [(f.path, 3)]) ++ of1 b r
def insPos (p : Bytes) (out : List Chg) : Nat → Nat
  | 0 => 0
  | k + 1 => match out[k]? with | some c => if 0 < pcmp c.1 p then insPos p out k else k + 1 | none => 0
theorem insPos_le (p : Bytes) (out : List Chg) : ∀ k, insPos p out k ≤ k
  | 0 => Nat.le_refl _
  | k + 1 => by
    simp only [insPos]
    split
    · split
      · have := insPos_le p out k; omega
      · omega
    · omega
def ins (p : Bytes) (out : List Chg) : List Chg := out.take (insPos p out out.length) ++ (p, 1) :: out.drop (insPos p out out.length)
def of2 (a : List Inp) : List Inp → List Chg → List Chg
  | [], out => out
  | g :: r, out => of2 a r (if at' a g.path < 0 then ins g.path out else out)
def ofC' (a b : List Inp) : List Chg := of2 a b (of1 b a)

theorem of_loop1 (n1 n2 : Bool) (a b : List Inp) (h1 : a ≠ [] → n1 = false) (h2 : b ≠ [] → n2 = false) (hl : a.length + b.length ≤ 1000000000) (hA : ∀ p, Γ F.seicheref09_At [inps n2 b, .str p] = some (.int .i64 (at' b p), false)) {Q : Ex → St → Prop}
    (hex : ∀ s, s.tm 0 = inps n1 a → s.tm 1 = inps n2 b → s.tm 5 = chgs (of1 b a).isEmpty (of1 b a) → (of1 b a ≠ [] → s.own (.slot 5) = true) → Q (.exit 0) s) :
    ∀ (r : List Inp) (k : Nat) (acc : List Chg) (s : St), a.drop k = r → k ≤ a.length → acc.length ≤ k → s.tm 0 = inps n1 a → s.tm 1 = inps n2 b → s.tm 5 = chgs acc.isEmpty acc → (acc ≠ [] → s.own (.slot 5) = true) → s.tm 12 = inps n1 a → s.tm 13 = .int .i64 a.length → s.tm 14 = .int .i64 k →
      of1 b a = acc ++ of1 b r → awp Γ gl (.loop c_seicheref09_Of_0) Q s := by
  intro r
  induction r with
  | nil =>
    intro k acc s hr hk ha t0 t1 t5 hw t12 t13 t14 hL
    obtain rfl := drop_nil hr hk
    refine awp_roundK fun K hK => ?_
    simp [c_seicheref09_Of_0, t13, t14]
    have : of1 b a = acc := by rw [hL]; simp [of1]
    exact hex _ (by simp [t0]) (by simp [t1]) (by simp [t5, this]) (fun h => by simp [hw (this ▸ h)])
  | cons f r ih =>
    intro k acc s hr hk ha t0 t1 t5 hw t12 t13 t14 hL
    obtain ⟨hlt, hxe, hx, hr', hne⟩ := drop_cons hr
    have hw' : acc.isEmpty = false → s.own (.slot 5) = true := fun h => hw (by rintro rfl; simp at h)
    have hn' : acc.isEmpty = true → acc.map chgV = [] := by simp
    have hLim : acc.length + 1 ≤ Lim := by unfold Lim; omega
    have hAf := hA f.path
    simp only [inps] at hAf
    refine awp_roundK fun K hK => ?_
    rcases at_look b f.path with ⟨hat, hlk⟩ | ⟨i, g, hat, hil, hig, hlk⟩
    · rw [hat] at hAf
      simp [c_seicheref09_Of_0, t0, t1, t5, t12, t13, t14, inps, chgs, h1 hne, hlt, hxe, hAf, vApp_gen _ _ _ hn' hw', hLim, setAt, w64 ((k : Int) + 1) (by omega)]
      refine hK _ ?_
      refine ih (k + 1) (acc ++ [(f.path, 2)]) _ hr' hlt (by simp; omega) (by simp [t0, inps]) (by simp [t1, inps]) ?_ (fun _ => ?_) (by simp [t12, inps, h1 hne]) (by simp [t13]) (by simp) ?_
      · simp [chgs, chgV]
      · simp
      · rw [hL]; simp [of1, hlk]
    · rw [hat] at hAf
      have hne2 : b ≠ [] := by rintro rfl; simp at hil
      have hge : b[i] = g := by rw [List.getElem?_eq_getElem hil] at hig; exact Option.some.inj hig
      have hb0 : ¬ ((i : Int) < 0) := by omega
      have hids : flatEq (repl 32 (some IntKind.u8, true)) (encB g.id) (encB f.id) = some (decide (g.id = f.id)) := flatEq_bytes true g.h f.h
      rw [h2 hne2] at hAf
      by_cases hid : g.id = f.id
      · have hid2 : flatEq (repl 32 (some IntKind.u8, true)) (encB f.id) (encB f.id) = some true := by rw [flatEq_bytes true f.h f.h]; simp
        simp [c_seicheref09_Of_0, t0, t1, t5, t12, t13, t14, inps, h1 hne, h2 hne2, hlt, hxe, hAf, hb0, hil, hge, hid, hid2, w64 ((k : Int) + 1) (by omega)]
        refine hK _ ?_
        refine ih (k + 1) acc _ hr' hlt (by omega) (by simp [t0, inps]) (by simp [t1, inps, h2 hne2]) (by simp [t5]) (fun h => by simp [hw h]) (by simp [t12, inps, h1 hne]) (by simp [t13]) (by simp) ?_
        rw [hL]; simp [of1, hlk, hid]
      · simp [c_seicheref09_Of_0, t0, t1, t5, t12, t13, t14, inps, chgs, h1 hne, h2 hne2, hlt, hxe, hAf, hb0, hil, hge, hids, hid, vApp_gen _ _ _ hn' hw', hLim, setAt, w64 ((k : Int) + 1) (by omega)]
        refine hK _ ?_
        refine ih (k + 1) (acc ++ [(f.path, 3)]) _ hr' hlt (by simp; omega) (by simp [t0, inps]) (by simp [t1, inps, h2 hne2]) ?_ (fun _ => ?_) (by simp [t12, inps, h1 hne]) (by simp [t13]) (by simp) ?_
        · simp [chgs, chgV]
        · simp
        · rw [hL]; simp [of1, hlk, hid]

/-- the place to put it -/
theorem of_loop2 (p : Bytes) (cs : List V) (id : Nat) (hcs : cs[0]? = some (.str p)) (out : List Chg) (hl : out.length ≤ 1000000000) (hp : p.length ≤ 100000000) (hs : ∀ c ∈ out, c.1.length ≤ 100000000)
    (hC : ∀ a b : Bytes, a.length ≤ 100000000 → b.length ≤ 100000000 → Γ F.seicheref06_Compare [.str a, .str b] = some (.int .i64 (pcmp a b), false)) {Q : Ex → St → Prop} (s0 : St)
    (hex : ∀ s, s.tm 11 = .int .i64 (insPos p out out.length) → s.tm 5 = s0.tm 5 → s.own (.slot 5) = s0.own (.slot 5) → s.tm 10 = s0.tm 10 → s.H = s0.H → (∀ t, t < 6 ∨ t = 45 ∨ t = 46 ∨ t = 47 → s.tm t = s0.tm t) → Q (.exit 4) s)
    (h5 : s0.tm 5 = chgs out.isEmpty out) (h10 : s0.tm 10 = .ptr id 0) (hH : hCells s0.H id = some cs) :
    ∀ (k : Nat) (s : St), k ≤ out.length → s.tm 11 = .int .i64 k → insPos p out k = insPos p out out.length → s.tm 5 = s0.tm 5 → s.own (.slot 5) = s0.own (.slot 5) → s.tm 10 = s0.tm 10 → s.H = s0.H → (∀ t, t < 6 ∨ t = 45 ∨ t = 46 ∨ t = 47 → s.tm t = s0.tm t) → awp Γ gl (.loop c_seicheref09_Of_1) Q s := by
  intro k
  induction k with
  | zero =>
    intro s hk t11 hi t5 hw t10 tH ht
    refine awp_roundK fun K hK => ?_
    simp [c_seicheref09_Of_1, t11]
    refine hex _ (by rw [← hi]; simp [t11, insPos]) (by simp [t5]) (by simp [hw]) (by simp [t10]) (by simp [tH]) (fun t h => ?_)
    rw [← ht t h]
    have : t ≠ 58 ∧ t ≠ 59 ∧ t ≠ 60 ∧ t ≠ 61 ∧ t ≠ 62 ∧ t ≠ 63 ∧ t ≠ 64 ∧ t ≠ 65 ∧ t ≠ 66 ∧ t ≠ 67 ∧ t ≠ 68 ∧ t ≠ 69 ∧ t ≠ 70 ∧ t ≠ 71 := by omega
    simp [this]
  | succ k ih =>
    intro s hk t11 hi t5 hw t10 tH ht
    have hlt : k < out.length := by omega
    obtain ⟨c, hce, hc, hd⟩ := drop_cons_of hlt
    have hne : out.isEmpty = false := isEmpty_false (by rintro rfl; simp at hlt)
    have hcm := hC c.1 p (hs c (List.mem_of_getElem? hc)) hp
    have hH' : hCells s.H id = some cs := by rw [tH]; exact hH
    have hk1 : ((k : Int) + 1 - 1) = (k : Int) := by omega
    refine awp_roundK fun K hK => ?_
    simp [c_seicheref09_Of_1, t11, t5, h5, t10, h10, hH', hcs, chgs, hne, hce, hlt, hcm, hk1, w64 (k : Int) (by omega)]
    have far : ∀ t, (t < 6 ∨ t = 45 ∨ t = 46 ∨ t = 47) → t ≠ 11 ∧ t ≠ 58 ∧ t ≠ 59 ∧ t ≠ 60 ∧ t ≠ 61 ∧ t ≠ 62 ∧ t ≠ 63 ∧ t ≠ 64 ∧ t ≠ 65 ∧ t ≠ 66 ∧ t ≠ 67 ∧ t ≠ 68 ∧ t ≠ 69 ∧ t ≠ 70 ∧ t ≠ 71 ∧ t ≠ 72 ∧ t ≠ 73 := fun t h => by omega
    refine condA_dec (fun hgt => ?_) (fun hle => ?_)
    · simp [t11, hk1, w64 (k : Int) (by omega)]
      refine hK _ ?_
      refine ih _ (by omega) (by simp) (by rw [← hi]; simp [insPos, hc, hgt]) (by simp [t5, h5, chgs, hne]) (by simp [hw]) (by simp [t10, h10]) (by simp [tH]) (fun t h => ?_)
      rw [← ht t h]
      simp [far t h]
    · simp
      refine hex _ (by rw [← hi]; simp [insPos, hc, hle, t11]) (by simp [t5, h5, chgs, hne]) (by simp [hw]) (by simp [t10, h10]) (by simp [tH]) (fun t h => ?_)
      rw [← ht t h]
      simp [far t h]

theorem ins_length (p : Bytes) (out : List Chg) : (ins p out).length = out.length + 1 := by
  have := insPos_le p out out.length
  simp [ins]; omega
theorem ins_short {p : Bytes} {out : List Chg} (hp : p.length ≤ 100000000) (h : ∀ c ∈ out, c.1.length ≤ 100000000) : ∀ c ∈ ins p out, c.1.length ≤ 100000000 := by
  intro c hc
  simp only [ins, List.mem_append, List.mem_cons] at hc
  rcases hc with hc | rfl | hc
  · exact h c (List.mem_of_mem_take hc)
  · exact hp
  · exact h c (List.mem_of_mem_drop hc)
theorem of1_length (b : List Inp) : ∀ a : List Inp, (of1 b a).length ≤ a.length
  | [] => Nat.le_refl _
  | f :: r => by
    have := of1_length b r
    simp only [of1, List.length_append, List.length_cons]
    split
    · simp; omega
    · split <;> simp <;> omega
theorem of1_short (b : List Inp) : ∀ a : List Inp, short a → ∀ c ∈ of1 b a, c.1.length ≤ 100000000
  | [], _, c, hc => by simp [of1] at hc
  | f :: r, h, c, hc => by
    simp only [of1, List.mem_append] at hc
    rcases hc with hc | hc
    · split at hc
      · simp at hc; subst hc; exact h f (by simp)
      · split at hc
        · simp at hc
        · simp at hc; subst hc; exact h f (by simp)
    · exact of1_short b r (fun x hx => h x (by simp [hx])) c hc

theorem of_loop3 (n1 n2 : Bool) (a b : List Inp) (L : List Chg) (h2 : b ≠ [] → n2 = false) (hl : a.length + b.length ≤ 1000000000) (hs2 : short b) (hA : ∀ p, Γ F.seicheref09_At [inps n1 a, .str p] = some (.int .i64 (at' a p), false))
    (hC : ∀ a b : Bytes, a.length ≤ 100000000 → b.length ≤ 100000000 → Γ F.seicheref06_Compare [.str a, .str b] = some (.int .i64 (pcmp a b), false)) {Q : Ex → St → Prop} (hex : ∀ s, s.tm 5 = chgs L.isEmpty L → Q (.exit 2) s) :
    ∀ (r : List Inp) (k : Nat) (out : List Chg) (s : St), b.drop k = r → k ≤ b.length → out.length ≤ a.length + k → (∀ c ∈ out, c.1.length ≤ 100000000) → s.tm 0 = inps n1 a → s.tm 5 = chgs out.isEmpty out → s.tm 45 = inps n2 b → s.tm 46 = .int .i64 b.length → s.tm 47 = .int .i64 k → L = of2 a r out → awp Γ gl (.loop c_seicheref09_Of_2) Q s := by
  intro r
  induction r with
  | nil =>
    intro k out s hr hk ho hso t0 t5 t45 t46 t47 hL
    obtain rfl := drop_nil hr hk
    refine awp_roundK fun K hK => ?_
    simp [c_seicheref09_Of_2, t46, t47]
    exact hex _ (by simp [t5, hL, of2])
  | cons g r ih =>
    intro k out s hr hk ho hso t0 t5 t45 t46 t47 hL
    obtain ⟨hlt, hxe, hx, hr', hne⟩ := drop_cons hr
    have hg : g.path.length ≤ 100000000 := hs2 g (List.mem_of_getElem? hx)
    have hAf := hA g.path
    simp only [inps] at hAf
    refine awp_roundK fun K hK => ?_
    simp [c_seicheref09_Of_2, t0, t45, t46, t47, inps, h2 hne, hlt, hxe, hAf]
    refine condA_dec (fun hge => ?_) (fun hlt0 => ?_)
    · simp [t47, w64 ((k : Int) + 1) (by omega)]
      refine hK _ ?_
      refine ih (k + 1) out _ hr' hlt (by omega) hso (by simp [t0, inps]) (by simp [t5]) (by simp [t45, inps, h2 hne]) (by simp [t46]) (by simp) ?_
      rw [hL, of2, if_neg (by omega)]
    · simp [t5, chgs]
      refine of_loop2 g.path (.str g.path :: encB g.id) s.nH rfl out (by omega) hg hso hC _ (fun s' q11 q5 qw q10 qH qt => ?_) (by simp [t5, chgs]) (by simp) (by simp) out.length _ (Nat.le_refl _) (by simp) rfl rfl rfl rfl rfl (fun _ _ => rfl)
      have hip := insPos_le g.path out out.length
      have hLim : out.length + 1 ≤ Lim := by unfold Lim; omega
      simp at q5 q10 qH
      have p0 := qt 0 (by omega)
      have p45 := qt 45 (by omega)
      have p46 := qt 46 (by omega)
      have p47 := qt 47 (by omega)
      simp [t0, t45, t46, t47] at p0 p45 p46 p47
      have hH : hCells s'.H s.nH = some (.str g.path :: encB g.id) := by rw [qH]; simp
      have hl1 : insPos g.path out out.length ≤ Lim := by omega
      have hl2 : insPos g.path out out.length + 1 ≤ Lim := by omega
      have hl3 : insPos g.path out out.length + 1 + (out.length - insPos g.path out out.length) ≤ Lim := by omega
      simp [q11, q5, q10, t5, chgs, hH, hip, setAt, hl1, hl2, hl3, p0, p45, p46, p47, w64 ((k : Int) + 1) (by omega), Nat.min_eq_left hip]
      refine hK _ ?_
      refine ih (k + 1) (ins g.path out) _ hr' hlt (by rw [ins_length]; omega) (ins_short hg hso) (by simp [p0]) ?_ (by simp [p45]) (by simp [p46]) (by simp) ?_
      · have : (ins g.path out).isEmpty = false := isEmpty_false (by intro h; have := ins_length g.path out; rw [h] at this; simp at this)
        simp [chgs, this, ins, chgV]
      · rw [hL, of2, if_pos (by omega)]
theorem of_awp (n1 n2 : Bool) (a b : List Inp) (h1 : a ≠ [] → n1 = false) (h2 : b ≠ [] → n2 = false) (hs1 : short a) (hs2 : short b) (hl : a.length + b.length ≤ 1000000000) (hA1 : ∀ p, Γ F.seicheref09_At [inps n1 a, .str p] = some (.int .i64 (at' a p), false)) (hA2 : ∀ p, Γ F.seicheref09_At [inps n2 b, .str p] = some (.int .i64 (at' b p), false))
    (hC : ∀ a b : Bytes, a.length ≤ 100000000 → b.length ≤ 100000000 → Γ F.seicheref06_Compare [.str a, .str b] = some (.int .i64 (pcmp a b), false)) :
    awp Γ gl c_seicheref09_Of (retQ [4] (chgs (ofC' a b).isEmpty (ofC' a b), false)) (St.init [inps n1 a, inps n2 b]) := by
  unfold c_seicheref09_Of
  simp [inps]
  refine of_loop1 n1 n2 a b h1 h2 hl hA2 (fun s t0 t1 t5 _ => ?_) a 0 [] _ rfl (Nat.zero_le _) (Nat.le_refl _) (by simp [inps]) (by simp [inps]) (by simp [chgs]) (fun h => absurd rfl h) (by simp [inps]) (by simp) (by simp) rfl
  simp [t0, t1, inps]
  refine of_loop3 n1 n2 a b (ofC' a b) h2 hl hs2 hA1 hC (fun s t5 => by simp [t5]) b 0 (of1 b a) _ rfl (Nat.zero_le _) (Nat.le_trans (of1_length b a) (Nat.le_add_right _ _)) (of1_short b a hs1) (by simp [t0, inps]) (by simp [t5]) (by simp [inps]) (by simp) (by simp) rfl
def K_of : Ctr := ⟨(Bool × List Inp) × (Bool × List Inp), fun a => [inps a.1.1 a.1.2, inps a.2.1 a.2.2], fun a => (chgs (ofC' a.1.2 a.2.2).isEmpty (ofC' a.1.2 a.2.2), false), fun a => (a.1.2 ≠ [] → a.1.1 = false) ∧ (a.2.2 ≠ [] → a.2.1 = false) ∧ short a.1.2 ∧ short a.2.2 ∧ a.1.2.length + a.2.2.length ≤ 1000000000, fun a b h => by
  simp only [List.cons.injEq, and_true] at h
  rw [(inps_inj h.1).2, (inps_inj h.2).2]⟩
theorem of_pc (w : World) : K_of.Holds (cxD w) F.seicheref09_Of :=
  holds_of w (cs := [(_, K_at), (_, K_pcmp)]) (by simpa using ⟨at_pc w, rCmp_pc w⟩) cf_seicheref09_Of (fun _ => Nat.le_of_ble_eq_true rfl) (fun a => by simp [K_of]) (fun a => chgs_clean _ _) fun a ha =>
    of_awp a.1.1 a.2.1 a.1.2 a.2.2 ha.1 ha.2.1 ha.2.2.1 ha.2.2.2.1 ha.2.2.2.2 (fun p => ofC_eq (c := K_at) rfl ((a.1.1, a.1.2), p) ⟨ha.1, Nat.le_trans (Nat.le_add_right _ _) ha.2.2.2.2⟩) (fun p => ofC_eq (c := K_at) rfl ((a.2.1, a.2.2), p) ⟨ha.2.1, Nat.le_trans (Nat.le_add_left _ _) ha.2.2.2.2⟩) fun p q hp hq => ofC_eq (c := K_pcmp) rfl (p, q) ⟨hp, hq⟩
end Go.Proofs.YtainplhaaklpeaaDoor
