/-
  Texts joined in one and taken apart: what the functions come to (plain Lean). Own work of this seat.
-/
import Derived.Test.YtainplhaaklpeaaDoorGenT
import Derived.Test.YtainplhaaklpeaaDoorPG
namespace Go.Proofs.YtainplhaaklpeaaDoor
open Go.Abs

/-! ## a number's eight bytes -/
def be8 (n : Nat) : Bytes := [UInt8.ofNat (n / 72057594037927936), UInt8.ofNat (n / 281474976710656), UInt8.ofNat (n / 1099511627776), UInt8.ofNat (n / 4294967296), UInt8.ofNat (n / 16777216), UInt8.ofNat (n / 65536), UInt8.ofNat (n / 256), UInt8.ofNat n]
@[simp] theorem be8_length (n : Nat) : (be8 n).length = 8 := rfl
theorem u8of_nat (n : Nat) : u8of (n : Int) = UInt8.ofNat n := by
  unfold u8of
  apply UInt8.toNat_inj.1
  have : ((n : Int) % 256).toNat = n % 256 := by omega
  rw [this]; simp
theorem wrap_u64 {n : Int} (h : 0 ≤ n ∧ n < 18446744073709551616) : IntKind.wrap .u64 n = n := Go.IntWalk.u64_in n (by omega)
theorem shr_nat (a s : Nat) (hs : s ≤ 64) : shrI .u64 (a : Int) (s : Int) = some (((a / 2 ^ s : Nat)) : Int) := by
  unfold shrI
  rw [if_neg (by omega)]
  have : min ((s : Int)).toNat IntKind.u64.bits = s := by simp [IntKind.bits]; omega
  rw [this, Int.fdiv_eq_ediv_of_nonneg _ (by exact Int.le_of_lt (Int.pow_pos (by decide)))]
  norm_cast
theorem num_step (n : Int) (k0 : Arr 8 → Option Bytes) (m : Nat) (x : Arr 8) (i a : Nat) (hi : i < 8) (ha : IntKind.wrap .u64 n = (a : Int)) :
    L.code_Num_l1 n k0 (m + 1) x i = L.code_Num_l1 n k0 m (Arr.set x i (UInt8.ofNat (a / 2 ^ (56 - 8 * i)))) ((i + 1 : Nat) : Int) := by
  rw [L.code_Num_l1, if_pos (by omega), ha]
  have e1 : wi (8 * (i : Int)) = ((8 * i : Nat) : Int) := by rw [wi_of (by omega) (by omega)]; omega
  have e2 : wi (56 - ((8 * i : Nat) : Int)) = ((56 - 8 * i : Nat) : Int) := by rw [wi_of (by omega) (by omega)]; omega
  rw [e1, e2, shr_nat _ _ (by omega), Option.bind_some]
  have e3 : inR 8 (i : Int) = some () := if_pos (by omega)
  rw [e3, Option.bind_some, u8of_nat, wi_succ (by omega)]
theorem p_num (n : Nat) (h : n < 18446744073709551616) : g.code_Num n = some (be8 n) := by
  have ha : IntKind.wrap .u64 (n : Int) = (n : Int) := wrap_u64 (by omega)
  unfold g.code_Num
  rw [show fuel = 999999999991 + 9 from rfl, show (0 : Int) = ((0 : Nat) : Int) from rfl,
    num_step _ _ _ _ 0 n (by decide) ha, num_step _ _ _ _ 1 n (by decide) ha, num_step _ _ _ _ 2 n (by decide) ha, num_step _ _ _ _ 3 n (by decide) ha,
    num_step _ _ _ _ 4 n (by decide) ha, num_step _ _ _ _ 5 n (by decide) ha, num_step _ _ _ _ 6 n (by decide) ha, num_step _ _ _ _ 7 n (by decide) ha, L.code_Num_l1, if_neg (by decide)]
  simp [Arr.set, Arr.zero, be8, List.replicate]
theorem rnum_step (k0 : Bytes → Option Bytes) (m a i : Nat) (s : Bytes) (hi : i < 8) (hs : s.length ≤ 8) (ha : a < 18446744073709551616) :
    L.seicheref01_Num_l1 k0 (m + 1) a s i = L.seicheref01_Num_l1 k0 m ((a / 256 : Nat) : Int) (UInt8.ofNat a :: s) ((i + 1 : Nat) : Int) := by
  rw [L.seicheref01_Num_l1, if_pos (by omega), cat_some (by simp; omega), Option.bind_some, wi_succ (by omega)]
  have e1 : Int.tmod (a : Int) 256 = ((a % 256 : Nat) : Int) := by rw [Int.tmod_eq_emod_of_nonneg (by omega)]; omega
  have e2 : Int.tdiv (a : Int) 256 = ((a / 256 : Nat) : Int) := by rw [Int.tdiv_eq_ediv_of_nonneg (by omega)]; omega
  rw [e1, e2, wrap_u64 (by omega), u8of_nat]
  have : UInt8.ofNat (a % 256) = UInt8.ofNat a := by apply UInt8.toNat_inj.1; simp
  rw [this]; rfl
theorem p_rnum (n : Nat) (h : n < 18446744073709551616) : g.seicheref01_Num n = some (be8 n) := by
  have ha : IntKind.wrap .u64 (n : Int) = (n : Int) := wrap_u64 (by omega)
  unfold g.seicheref01_Num
  rw [ha, show fuel = 999999999991 + 9 from rfl, show (0 : Int) = ((0 : Nat) : Int) from rfl,
    rnum_step _ _ _ 0 _ (by decide) (by simp) (by omega), rnum_step _ _ _ 1 _ (by decide) (by simp) (by omega), rnum_step _ _ _ 2 _ (by decide) (by simp) (by omega), rnum_step _ _ _ 3 _ (by decide) (by simp) (by omega),
    rnum_step _ _ _ 4 _ (by decide) (by simp) (by omega), rnum_step _ _ _ 5 _ (by decide) (by simp) (by omega), rnum_step _ _ _ 6 _ (by decide) (by simp) (by omega), rnum_step _ _ _ 7 _ (by decide) (by simp) (by omega), L.seicheref01_Num_l1, if_neg (by decide)]
  simp only [be8, Nat.div_div_eq_div_mul]

/-! ## parts in one -/
def joinT : List Bytes → Bytes
  | [] => []
  | p :: r => be8 p.length ++ p ++ joinT r
def joinS (l : List Bytes) : Bytes := be8 l.length ++ joinT l
def lenT (l : List Bytes) : Nat := (l.map fun p => 8 + p.length).sum
theorem joinT_length : ∀ l : List Bytes, (joinT l).length = lenT l
  | [] => rfl
  | p :: r => by simp [joinT, lenT, joinT_length r]; omega
theorem lenT_cons (p : Bytes) (r : List Bytes) : lenT (p :: r) = 8 + p.length + lenT r := by simp [lenT]
theorem lenT_len : ∀ l : List Bytes, l.length ≤ lenT l
  | [] => Nat.le_refl _
  | p :: r => by have := lenT_len r; rw [lenT_cons]; simp; omega
theorem p_join1 (k0 : Int → Option Bytes) : ∀ (l : List Bytes) (n : Nat), n + lenT l ≤ 1000000000 → L.code_Join_l1 k0 l n = k0 ((n + lenT l : Nat) : Int)
  | [], n, _ => by simp [L.code_Join_l1, lenT]
  | p :: r, n, h => by
    rw [lenT_cons] at h ⊢
    rw [L.code_Join_l1]
    have e1 : wi (8 + ((p.length : Nat) : Int)) = ((8 + p.length : Nat) : Int) := by rw [wi_of (by omega) (by omega)]; omega
    rw [e1, show wi ((n : Int) + ((8 + p.length : Nat) : Int)) = ((n + (8 + p.length) : Nat) : Int) by rw [wi_of (by omega) (by omega)]; omega, p_join1 k0 r _ (by omega)]
    congr 2; omega
theorem p_join2 (k0 : List UInt8 → Option Bytes) : ∀ (l : List Bytes) (acc : Bytes), acc.length + lenT l ≤ 1000000000 → L.code_Join_l2 k0 l acc = k0 (acc ++ joinT l)
  | [], acc, _ => by simp [L.code_Join_l2, joinT]
  | p :: r, acc, h => by
    rw [lenT_cons] at h
    rw [L.code_Join_l2, p_num _ (by omega), Option.bind_some, appL_some (by simp; unfold Lim; omega), Option.bind_some, appL_some (by simp; unfold Lim; omega), Option.bind_some, p_join2 k0 r _ (by simp; omega)]
    simp [joinT]
theorem p_join (l : List Bytes) (h : lenT l ≤ 100000000) : g.code_Join l = some (joinS l) := by
  have hl := lenT_len l
  unfold g.code_Join
  rw [if_pos (by unfold Lim; omega), show (8 : Int) = ((8 : Nat) : Int) from rfl, p_join1 _ l 8 (by omega)]
  have e : mkOk (((8 + lenT l : Nat)) : Int) = some () := if_pos (by unfold Lim; omega)
  rw [e, Option.bind_some, p_num _ (by omega), Option.bind_some, appL_some (by simp; unfold Lim; omega), Option.bind_some, if_pos (by unfold Lim; omega), p_join2 _ l _ (by simp; omega)]
  rfl
theorem p_rjoin_l (k0 : Bytes → Option Bytes) : ∀ (l : List Bytes) (acc : Bytes), acc.length + lenT l ≤ 1000000000 → L.seicheref01_Join_l1 k0 l acc = k0 (acc ++ joinT l)
  | [], acc, _ => by simp [L.seicheref01_Join_l1, joinT]
  | p :: r, acc, h => by
    rw [lenT_cons] at h
    rw [L.seicheref01_Join_l1, p_rnum _ (by omega), Option.bind_some, cat_some (by simp; omega), Option.bind_some, cat_some (by simp; omega), Option.bind_some, p_rjoin_l k0 r _ (by simp; omega)]
    simp [joinT]
theorem p_rjoin (l : List Bytes) (h : lenT l ≤ 100000000) : g.seicheref01_Join l = some (joinS l) := by
  have hl := lenT_len l
  unfold g.seicheref01_Join
  rw [p_rnum _ (by omega), Option.bind_some, if_pos (by unfold Lim; omega), p_rjoin_l _ l _ (by simp; omega)]; rfl

/-! ## a number read -/
def val (s : Bytes) : Nat := s.foldl (fun n b => 256 * n + b.toNat) 0
theorem val_snoc (s : Bytes) (b : UInt8) : val (s ++ [b]) = 256 * val s + b.toNat := by simp [val]
theorem val_lt : ∀ (n : Nat) (s : Bytes), s.length = n → val s < 256 ^ n
  | 0, s, h => by have := List.length_eq_zero_iff.1 h; subst this; simp [val]
  | n + 1, s, h => by
    have hne : s ≠ [] := by rintro rfl; simp at h
    rw [← List.dropLast_concat_getLast hne, val_snoc]
    have := val_lt n s.dropLast (by simp [h])
    have hb := (s.getLast hne).toNat_lt
    rw [Nat.pow_succ]; omega
theorem or_byte (n : Nat) (b : UInt8) (h : n < 72057594037927936) : orI .u64 ((256 * n : Nat) : Int) (b.toNat : Int) = ((256 * n + b.toNat : Nat) : Int) := by
  have hb := b.toNat_lt
  unfold orI
  have e1 : BitVec.ofInt IntKind.u64.bits ((256 * n : Nat) : Int) = BitVec.ofNat 64 (256 * n) := BitVec.ofInt_natCast _ _
  have e2 : BitVec.ofInt IntKind.u64.bits ((b.toNat : Nat) : Int) = BitVec.ofNat 64 b.toNat := BitVec.ofInt_natCast _ _
  rw [e1, e2]
  have e3 : (BitVec.ofNat 64 (256 * n) ||| BitVec.ofNat 64 b.toNat).toNat = 256 * n + b.toNat := by
    rw [BitVec.toNat_or, BitVec.toNat_ofNat, BitVec.toNat_ofNat, Nat.mod_eq_of_lt (by omega), Nat.mod_eq_of_lt (by omega)]
    have := Nat.two_pow_add_eq_or_of_lt (i := 8) (b := b.toNat) (by omega) n
    rw [show (256 : Nat) = 2 ^ 8 from rfl, this]
  have e4 : ((BitVec.ofNat 64 (256 * n) ||| BitVec.ofNat 64 b.toNat).toNat : Int) = ((256 * n + b.toNat : Nat) : Int) := by rw [e3]
  show IntKind.wrap .u64 ((BitVec.ofNat 64 (256 * n) ||| BitVec.ofNat 64 b.toNat).toNat : Int) = _
  rw [e4, wrap_u64 (by omega)]
theorem take_val (s : Bytes) (i : Nat) (h : i < s.length) : val (s.take (i + 1)) = 256 * val (s.take i) + s[i].toNat := by
  rw [List.take_add_one, List.getElem?_eq_getElem h, Option.toList_some, val_snoc]
theorem p_read_l (s : Bytes) (hs : 8 ≤ s.length) (k0 : Int → Option (Int × Bool)) : ∀ (m i : Nat), m + i = 9 → i ≤ 8 → L.code_ReadNum_l1 s k0 (999999999991 + m) (val (s.take i)) i = k0 (val (s.take 8))
  | 0, i, h, h8 => by omega
  | m + 1, i, h, h8 => by
    rw [show 999999999991 + (m + 1) = (999999999991 + m) + 1 from rfl, L.code_ReadNum_l1]
    by_cases hi : i < 8
    · have hv := val_lt i (s.take i) (by simp; omega)
      have hp : 256 ^ i ≤ 72057594037927936 := by
        have : i ≤ 7 := by omega
        calc 256 ^ i ≤ 256 ^ 7 := Nat.pow_le_pow_right (by decide) this
          _ = 72057594037927936 := by decide
      have e1 : shlI .u64 (val (s.take i) : Int) 8 = some (((256 * val (s.take i) : Nat)) : Int) := by
        unfold shlI
        rw [if_neg (by decide), show min (Int.toNat 8) IntKind.u64.bits = 8 from rfl]
        congr 1
        rw [show ((val (s.take i) : Nat) : Int) * 2 ^ 8 = ((256 * val (s.take i) : Nat) : Int) by omega]
        exact wrap_u64 (by omega)
      rw [if_pos (by omega), e1, Option.bind_some, at?_some (by omega), Option.bind_some, or_byte _ _ (by omega), ← take_val s i (by omega), wi_succ (by omega)]
      exact p_read_l s hs k0 m (i + 1) (by omega) (by omega)
    · have : i = 8 := by omega
      subst this
      rw [if_neg (by decide)]
/-- as a number with a sign -/
def sgn (n : Nat) : Int := if n < 9223372036854775808 then n else (n : Int) - 18446744073709551616
theorem wi_sgn {n : Nat} (h : n < 18446744073709551616) : wi n = sgn n := by
  unfold sgn
  split
  · exact wi_of (by omega) (by omega)
  · unfold wi; rw [IntKind.wrap_i64]; omega
theorem p_read (s : Bytes) : g.code_ReadNum s = some (if s.length < 8 then (0, false) else (sgn (val (s.take 8)), true)) := by
  unfold g.code_ReadNum
  by_cases h : s.length < 8
  · rw [if_pos (by omega), if_pos h]
  · rw [if_neg (by omega), if_neg h]
    have := p_read_l s (by omega) (fun t => some (wi t, true)) 9 0 rfl (by omega)
    rw [show fuel = 999999999991 + 9 from rfl]
    refine Eq.trans this ?_
    have hv := val_lt 8 (s.take 8) (by simp; omega)
    rw [wi_sgn (by omega)]
/-- the document's: no number above any length -/
theorem p_rread_l (s : Bytes) (hs : 8 ≤ s.length) (k0 : Int → Option (Int × Bool)) : ∀ (m i : Nat), m + i = 9 → i ≤ 8 → val (s.take i) ≤ 281474976710911 →
    L.seicheref01_number_l1 s k0 (999999999991 + m) (val (s.take i)) i = k0 (val (s.take 8)) ∨ (L.seicheref01_number_l1 s k0 (999999999991 + m) (val (s.take i)) i = some (0, false) ∧ 1099511627776 < val (s.take 8))
  | 0, i, h, h8, _ => by omega
  | m + 1, i, h, h8, hv => by
    rw [show 999999999991 + (m + 1) = (999999999991 + m) + 1 from rfl, L.seicheref01_number_l1]
    by_cases hi : i < 8
    · rw [if_pos (by omega)]
      by_cases hg : 1099511627776 < val (s.take i)
      · right
        rw [if_pos (by omega)]
        refine ⟨rfl, ?_⟩
        have mono : ∀ d, i + d ≤ 8 → val (s.take i) ≤ val (s.take (i + d)) := by
          intro d
          induction d with
          | zero => intro _; exact Nat.le_refl _
          | succ d ih =>
            intro hd
            have := take_val s (i + d) (by omega)
            have h2 := ih (by omega)
            rw [show i + (d + 1) = i + d + 1 from rfl, this]; omega
        have := mono (8 - i) (by omega)
        rw [show i + (8 - i) = 8 by omega] at this; omega
      · rw [if_neg (by omega), at?_some (by omega), Option.bind_some]
        have hb := (s[i]'(by omega)).toNat_lt
        have e1 : wi (256 * ((val (s.take i) : Nat) : Int)) = ((256 * val (s.take i) : Nat) : Int) := by rw [wi_of (by omega) (by omega)]; omega
        rw [e1, show wi (((256 * val (s.take i) : Nat) : Int) + ((s[i]'(by omega)).toNat : Int)) = ((256 * val (s.take i) + (s[i]'(by omega)).toNat : Nat) : Int) by rw [wi_of (by omega) (by omega)]; omega, ← take_val s i (by omega), wi_succ (by omega)]
        exact p_rread_l s hs k0 m (i + 1) (by omega) (by omega) (by rw [take_val s i (by omega)]; omega)
    · have : i = 8 := by omega
      subst this
      rw [if_neg (by decide)]; exact .inl rfl
theorem p_rread (s : Bytes) : ∃ z : Int, g.seicheref01_number s = some (if s.length < 8 ∨ 1099511627776 < val (s.take 8) then (z, false) else ((val (s.take 8) : Int), true)) := by
  unfold g.seicheref01_number
  by_cases h : s.length < 8
  · exact ⟨0, by rw [if_pos (by omega), if_pos (.inl h)]⟩
  · rw [if_neg (by omega)]
    have := p_rread_l s (by omega) (fun t => some (t, decide (t ≤ 1099511627776))) 9 0 rfl (by omega) (by simp [val])
    rw [show fuel = 999999999991 + 9 from rfl]
    rcases this with h1 | ⟨h1, h2⟩
    · refine ⟨val (s.take 8), Eq.trans h1 ?_⟩
      by_cases h3 : 1099511627776 < val (s.take 8)
      · rw [if_pos (.inr h3), decide_eq_false (by omega)]
      · rw [if_neg (by omega), decide_eq_true (by omega)]
    · exact ⟨0, Eq.trans h1 (by rw [if_pos (.inr h2)])⟩

/-! ## a text taken apart -/
/-- the parts; none: none are joined to it -/
def splitT : Nat → Bytes → Option (List Bytes)
  | 0, s => if s = [] then some [] else none
  | k + 1, s => if s.length < 8 ∨ s.length < 8 + val (s.take 8) then none else (splitT k (s.drop (8 + val (s.take 8)))).map (((s.drop 8).take (val (s.take 8))) :: ·)
def splitS (s : Bytes) : Option (List Bytes) := if s.length < 8 then none else splitT (val (s.take 8)) (s.drop 8)
theorem splitT_len : ∀ {k : Nat} {s : Bytes} {l : List Bytes}, splitT k s = some l → l.length = k ∧ lenT l = s.length
  | 0, s, l, h => by
    simp only [splitT] at h
    split at h
    · rename_i hs; cases h; subst hs; exact ⟨rfl, rfl⟩
    · cases h
  | k + 1, s, l, h => by
    simp only [splitT] at h
    split at h
    · cases h
    · rename_i hc
      simp only [Option.map_eq_some_iff] at h
      obtain ⟨r, hr, rfl⟩ := h
      obtain ⟨h1, h2⟩ := splitT_len hr
      refine ⟨by simp [h1], ?_⟩
      rw [lenT_cons, h2]; simp; omega
theorem splitT_short : ∀ {k : Nat} {s : Bytes}, s.length < 8 * k → splitT k s = none
  | 0, s, h => by omega
  | k + 1, s, h => by
    simp only [splitT]
    split
    · rfl
    · rename_i hc
      rw [splitT_short (by simp; omega)]; rfl
theorem cut8 {s : Bytes} {n : Nat} (h : 8 + n ≤ s.length) : cut s 8 ((8 + n : Nat) : Int) = some ((s.drop 8).take n) := by
  rw [show (8 : Int) = ((8 : Nat) : Int) from rfl, cut_nat (by omega) h]
  congr 1
  rw [List.drop_take, show 8 + n - 8 = n by omega]
theorem cutr {s : Bytes} {n : Nat} (h : n ≤ s.length) : cut s (n : Int) ((s.length : Nat) : Int) = some (s.drop n) := by
  rw [cut_nat h (Nat.le_refl _), List.take_length]
theorem p_split_l (K : Nat) (k0 : List Bytes → Bytes → Option (List Bytes × Int)) (hk : ∀ l s, k0 l s = if s = [] then some (l, 0) else some ([], 4)) :
    ∀ (k n j : Nat) (acc : List Bytes) (s : Bytes), k < n → j + k = K → K ≤ 1000000000 → acc.length ≤ j → s.length ≤ 1000000000 →
      L.code_Split_l1 K k0 n acc s j = some (match splitT k s with | some l => (acc ++ l, 0) | none => ([], 4))
  | 0, n + 1, j, acc, s, hn, hj, hK, ha, hs => by
    rw [L.code_Split_l1, if_neg (by omega), hk, splitT]
    split <;> simp
  | k + 1, n + 1, j, acc, s, hn, hj, hK, ha, hs => by
    rw [L.code_Split_l1, if_pos (by omega), p_read, Option.bind_some, splitT]
    by_cases h8 : s.length < 8
    · rw [if_pos h8, if_neg (by simp), if_pos (.inl h8)]
    · have hv := val_lt 8 (s.take 8) (by simp; omega)
      rw [if_neg h8, if_pos rfl]
      simp only
      have e1 : wi (((s.length : Nat) : Int) - 8) = ((s.length - 8 : Nat) : Int) := by rw [wi_of (by omega) (by omega)]; omega
      rw [e1]
      by_cases hneg : sgn (val (s.take 8)) < 0
      · have : s.length < 8 + val (s.take 8) := by unfold sgn at hneg; split at hneg <;> omega
        rw [if_pos hneg, if_pos (.inr this)]
      · have hsg : sgn (val (s.take 8)) = val (s.take 8) := by unfold sgn at hneg ⊢; split at hneg <;> simp_all; omega
        rw [if_neg hneg, hsg]
        by_cases hlt : s.length < 8 + val (s.take 8)
        · rw [if_pos (by omega), if_pos (.inr hlt)]
        · have e2 : wi (8 + ((val (s.take 8) : Nat) : Int)) = ((8 + val (s.take 8) : Nat) : Int) := by rw [wi_of (by omega) (by omega)]; omega
          rw [if_neg (by omega), if_neg (by omega), e2, cut8 (by omega), Option.bind_some, appL_some (by simp; unfold Lim; omega), Option.bind_some, cutr (by omega), Option.bind_some, wi_succ (by omega),
            p_split_l K k0 hk k n (j + 1) _ _ (by omega) (by omega) hK (by simp; omega) (by simp; omega)]
          cases splitT k (s.drop (8 + val (s.take 8))) <;> simp
  termination_by k => k
theorem p_split (s : Bytes) (hs : s.length ≤ 1048576) : g.code_Split s = some (match splitS s with | some l => (l, 0) | none => ([], 4)) := by
  unfold g.code_Split splitS
  rw [if_neg (by omega), p_read, Option.bind_some]
  by_cases h8 : s.length < 8
  · rw [if_pos h8, if_neg (by simp), if_pos h8]
  · have hv := val_lt 8 (s.take 8) (by simp; omega)
    rw [if_neg h8, if_neg h8, if_pos rfl]
    simp only
    have e1 : wi (Int.tdiv ((s.length : Nat) : Int) 8) = ((s.length / 8 : Nat) : Int) := by rw [Int.tdiv_eq_ediv_of_nonneg (by omega), wi_of (by omega) (by omega)]; omega
    rw [e1]
    by_cases hneg : sgn (val (s.take 8)) < 0
    · have : (s.drop 8).length < 8 * val (s.take 8) := by unfold sgn at hneg; simp; split at hneg <;> omega
      rw [if_pos hneg, splitT_short this]
    · have hsg : sgn (val (s.take 8)) = val (s.take 8) := by unfold sgn at hneg ⊢; split at hneg <;> simp_all; omega
      rw [if_neg hneg, hsg]
      by_cases hlt : s.length / 8 < val (s.take 8)
      · rw [if_pos (by omega), splitT_short (by simp; omega)]
      · have e2 : mkOk (imin ((val (s.take 8) : Nat) : Int) 4096) = some () := if_pos (by unfold imin Lim; split <;> omega)
        rw [if_neg (by omega), e2, Option.bind_some, show (8 : Int) = ((8 : Nat) : Int) from rfl, cutr (by omega), Option.bind_some, show (0 : Int) = ((0 : Nat) : Int) from rfl]
        refine Eq.trans (p_split_l (val (s.take 8)) _ (fun l s => rfl) (val (s.take 8)) fuel 0 [] (s.drop 8) (by unfold fuel; omega) (by omega) (by omega) (by simp) (by simp; omega)) ?_
        simp
theorem p_rsplit_l (k0 : Bytes → List Bytes → Option (List Bytes × Bool)) (hk : ∀ s l, k0 s l = some (l, decide (s = []))) :
    ∀ (m : Nat) (k n : Nat) (acc : List Bytes) (s : Bytes), s.length ≤ m → s.length + 1 < n → k ≤ 1099511627776 → acc.length + s.length ≤ 1000000000 →
      ∃ b, L.seicheref01_Split_l1 k0 n s k acc = some b ∧ (match splitT k s with | some l => b = (acc ++ l, true) | none => b.2 = false)
  | m, 0, n + 1, acc, s, hm, hn, hk', ha => by
    rw [L.seicheref01_Split_l1, if_neg (by omega), hk]
    refine ⟨_, rfl, ?_⟩
    rw [splitT]
    split <;> simp_all
  | m, k + 1, n + 1, acc, s, hm, hn, hk', ha => by
    rw [L.seicheref01_Split_l1, if_pos (by omega)]
    obtain ⟨z, hz⟩ := p_rread s
    rw [hz, Option.bind_some, splitT]
    generalize hb : (if s.length < 8 ∨ 1099511627776 < val (s.take 8) then (z, false) else ((val (s.take 8) : Int), true)) = q
    by_cases h8 : s.length < 8
    · rw [if_pos (.inl h8)] at hb; subst hb
      rw [if_neg (by simp), if_pos (.inl h8)]; exact ⟨_, rfl, rfl⟩
    · have e1 : wi (((s.length : Nat) : Int) - 8) = ((s.length - 8 : Nat) : Int) := by rw [wi_of (by omega) (by omega)]; omega
      by_cases hbig : 1099511627776 < val (s.take 8)
      · rw [if_pos (.inr hbig)] at hb; subst hb
        rw [if_neg (by simp), if_pos (.inr (by omega))]; exact ⟨_, rfl, rfl⟩
      · rw [if_neg (by omega)] at hb; subst hb
        rw [if_pos rfl]
        simp only [e1]
        by_cases hlt : s.length < 8 + val (s.take 8)
        · rw [if_pos (by omega), if_pos (.inr hlt)]; exact ⟨_, rfl, rfl⟩
        · have e2 : wi (8 + ((val (s.take 8) : Nat) : Int)) = ((8 + val (s.take 8) : Nat) : Int) := by rw [wi_of (by omega) (by omega)]; omega
          have e3 : wi (((k + 1 : Nat) : Int) - 1) = ((k : Nat) : Int) := by rw [wi_of (by omega) (by omega)]; omega
          rw [if_neg (by omega), if_neg (by omega), e2, cut8 (by omega), Option.bind_some, appL_some (by simp; unfold Lim; omega), Option.bind_some, cutr (by omega), Option.bind_some, e3]
          obtain ⟨b, h1, h2⟩ := p_rsplit_l k0 hk (m - 8) k n (acc ++ [(s.drop 8).take (val (s.take 8))]) (s.drop (8 + val (s.take 8))) (by simp; omega) (by simp; omega) (by omega) (by simp; omega)
          refine ⟨b, h1, ?_⟩
          revert h2
          cases splitT k (s.drop (8 + val (s.take 8))) <;> simp
  termination_by _ k => k
theorem p_rsplitS (s : Bytes) (hs : s.length ≤ 1048576) : ∃ b, g.seicheref01_Split s = some b ∧ (match splitS s with | some l => b = (l, true) | none => b.2 = false) := by
  unfold g.seicheref01_Split splitS
  obtain ⟨z, hz⟩ := p_rread s
  rw [hz, Option.bind_some]
  generalize hb : (if s.length < 8 ∨ 1099511627776 < val (s.take 8) then (z, false) else ((val (s.take 8) : Int), true)) = q
  by_cases h8 : s.length < 8
  · rw [if_pos (.inl h8)] at hb; subst hb
    rw [if_neg (by simp), if_pos h8]; exact ⟨_, rfl, rfl⟩
  · rw [if_neg h8]
    by_cases hbig : 1099511627776 < val (s.take 8)
    · rw [if_pos (.inr hbig)] at hb; subst hb
      rw [if_neg (by simp), splitT_short (by simp; omega)]; exact ⟨_, rfl, rfl⟩
    · rw [if_neg (by omega)] at hb; subst hb
      rw [if_pos rfl, show (8 : Int) = ((8 : Nat) : Int) from rfl, cutr (by omega), Option.bind_some]
      obtain ⟨b, h1, h2⟩ := p_rsplit_l (fun s l => some (l, decide (s = []))) (fun _ _ => rfl) (s.drop 8).length (val (s.take 8)) fuel [] (s.drop 8) (Nat.le_refl _) (by unfold fuel; simp; omega) (by omega) (by simp; omega)
      exact ⟨b, h1, by simpa using h2⟩
end Go.Proofs.YtainplhaaklpeaaDoor
