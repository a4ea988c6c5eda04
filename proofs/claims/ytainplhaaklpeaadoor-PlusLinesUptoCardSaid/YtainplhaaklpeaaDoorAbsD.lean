/-
  Abs, part D: each value operation of the model comes to what the plain one comes to. Own work of this seat.
-/
import Derived.Test.YtainplhaaklpeaaDoorAbsC
import Derived.Deep.AppendSrc
import Derived.Laws.Slices
import Derived.WalkKit
namespace Go.Abs
open Go.RowKit

theorem run_underlying {P : Program} {t : TypeId} {d : TypeDesc} {w : World} (h : P.underlying t = some d) : (underlying t).run P w = .ok d w := by
  simp [underlying, h]

variable {P : Program} {W : World} {G : Nat → Nat} {φ : Nat → Option Nat}

theorem d_pick {c a b v : V} {xc xa xb : Value} (hc : Rep W G φ c xc) (ha : Rep W G φ a xa) (hb : Rep W G φ b xb) (hv : vPick c a b = some v) :
    ∃ t, xc = .bool t ∧ Rep W G φ v (if t then xa else xb) := by
  cases hc <;> simp [vPick] at hv
  rename_i t
  subst hv
  exact ⟨t, rfl, by cases t <;> simpa⟩

theorem d_ext {t v : V} {i : Nat} {x : Value} (h : Rep W G φ t x) (hv : vExt t i = some v) :
    ∃ y, (Instr.extract x i).run P W = .ok y W ∧ Rep W G φ v y := by
  cases h <;> simp [vExt] at hv
  rename_i cs xs hl h
  have hi : i < xs.size := by rw [← hl]; exact (List.getElem?_eq_some_iff.1 hv).1
  refine ⟨xs[i], ?_, h i v _ hv (Array.getElem?_eq_getElem hi)⟩
  simp [Instr.extract, hi]

theorem d_un {op : UnOp} {v u : V} {x : Value} (h : Rep W G φ v x) (hv : aun op v = some u) :
    ∃ y, (Op.unary op x).run P W = .ok y W ∧ Rep W G φ u y := by
  cases op <;> cases h <;> simp only [aun, Option.some.injEq, reduceCtorEq] at hv <;> subst hv
  · exact ⟨_, rfl, .int _ _⟩
  · exact ⟨_, rfl, .bool _⟩

theorem toList_data (s : ByteArray) : s.toList = s.data.toList := by
  have key : ∀ (s : ByteArray) (i : Nat) (r : List UInt8), ByteArray.toList.loop s i r = r.reverse ++ s.data.toList.drop i := by
    intro s i
    generalize hn : s.size - i = n
    induction n generalizing i with
    | zero =>
      intro r
      unfold ByteArray.toList.loop
      have : ¬ i < s.size := by omega
      rw [if_neg this, List.drop_eq_nil_of_le (by simp; exact Nat.not_lt.1 this), List.append_nil]
    | succ n ih =>
      intro r
      unfold ByteArray.toList.loop
      have hlt : i < s.size := by omega
      rw [if_pos hlt, ih (i + 1) (by omega)]
      have hd : s.data.toList.drop i = s.get! i :: s.data.toList.drop (i + 1) := by
        have h' : i < s.data.toList.length := by simpa using hlt
        rw [List.drop_eq_getElem_cons h']
        congr 1
        have h2 : i < s.data.size := hlt
        show s.data[i] = s.data[i]!
        rw [getElem!_pos s.data i h2]
      rw [hd]; simp
  unfold ByteArray.toList
  rw [key]; simp

theorem d_bin_int {op : BinOp} {k k' : IntKind} {a b : Int} {v : V} {q : EqK} {t : TypeId} (hv : abin op q (.int k a) (.int k' b) = some v) :
    ∃ y, (binOp op t (.int k a) (.int k' b)).run P W = .ok y W ∧ Rep W G φ v y := by
  by_cases hshl : op = .shl
  · subst hshl
    simp only [abin] at hv
    split at hv
    · simp at hv
    · rename_i hb; simp at hv; subst hv
      exact ⟨_, by simp [binOp, Op.shift, hb], .int _ _⟩
  by_cases hshr : op = .shr
  · subst hshr
    simp only [abin] at hv
    split at hv
    · simp at hv
    · rename_i hb; simp at hv; subst hv
      exact ⟨_, by simp [binOp, Op.shift, hb], .int _ _⟩
  have hv' : (if k = k' then aint op k a b else none) = some v := by cases op <;> simp_all [abin]
  split at hv'
  · rename_i hk; subst hk
    cases op <;> simp only [aint, Option.some.injEq, reduceCtorEq] at hv'
    case quo => split at hv' <;> simp at hv'; rename_i hb; subst hv'; exact ⟨.int k (k.wrap (a.tdiv b)), by simp [binOp, Op.intDiv, hb], .int _ _⟩
    case rem => split at hv' <;> simp at hv'; rename_i hb; subst hv'; exact ⟨.int k (a.tmod b), by simp [binOp, Op.intDiv, hb], .int _ _⟩
    case add => subst hv'; exact ⟨.int k (k.wrap (a + b)), by simp [binOp, Op.intArith], .int _ _⟩
    case sub => subst hv'; exact ⟨.int k (k.wrap (a - b)), by simp [binOp, Op.intArith], .int _ _⟩
    case mul => subst hv'; exact ⟨.int k (k.wrap (a * b)), by simp [binOp, Op.intArith], .int _ _⟩
    case and => subst hv'; exact ⟨.int k (k.wrap (BitVec.ofInt k.bits a &&& BitVec.ofInt k.bits b).toNat), by simp [binOp, Op.intBits], .int _ _⟩
    case or => subst hv'; exact ⟨.int k (k.wrap (BitVec.ofInt k.bits a ||| BitVec.ofInt k.bits b).toNat), by simp [binOp, Op.intBits], .int _ _⟩
    case xor => subst hv'; exact ⟨.int k (k.wrap (BitVec.ofInt k.bits a ^^^ BitVec.ofInt k.bits b).toNat), by simp [binOp, Op.intBits], .int _ _⟩
    case andNot => subst hv'; exact ⟨.int k (k.wrap (BitVec.ofInt k.bits a &&& ~~~BitVec.ofInt k.bits b).toNat), by simp [binOp, Op.intBits], .int _ _⟩
    case eql => subst hv'; exact ⟨.bool (decide (a = b)), by simp [binOp, Op.intCmp]; rfl, .bool _⟩
    case neq => subst hv'; exact ⟨.bool (!decide (a = b)), by simp [binOp, Op.intCmp, bne]; rfl, .bool _⟩
    case lss => subst hv'; exact ⟨.bool (decide (a < b)), by simp [binOp, Op.intCmp], .bool _⟩
    case leq => subst hv'; exact ⟨.bool (decide (a ≤ b)), by simp [binOp, Op.intCmp], .bool _⟩
    case gtr => subst hv'; exact ⟨.bool (decide (b < a)), by simp [binOp, Op.intCmp], .bool _⟩
    case geq => subst hv'; exact ⟨.bool (decide (b ≤ a)), by simp [binOp, Op.intCmp], .bool _⟩
  · simp at hv'

theorem beq_list (a b : Bytes) : (a == b) = decide (a = b) := by
  by_cases h : a = b <;> simp [h]

theorem d_bin_str {op : BinOp} {a b : ByteArray} {v : V} {q : EqK} {t : TypeId} (hv : abin op q (.str a.data.toList) (.str b.data.toList) = some v) :
    ∃ y, (binOp op t (.string a) (.string b)).run P W = .ok y W ∧ Rep W G φ v y := by
  have hv' : astr op a.data.toList b.data.toList = some v := hv
  have hb : ∀ op, binOp op t (.string a) (.string b) = Op.stringOp op a b := by intro op; cases op <;> rfl
  rw [hb]
  cases op <;> simp only [astr, Option.some.injEq, reduceCtorEq] at hv'
  case add =>
    split at hv' <;> simp only [Option.some.injEq, reduceCtorEq] at hv'
    rename_i hlen
    subst hv'
    have hl : ¬ (((a.size + b.size : Nat) : Int) > IntKind.i64.max) := by
      have h1 : a.data.toList.length = a.size := by simp
      have h2 : b.data.toList.length = b.size := by simp
      have h3 : IntKind.i64.max = 9223372036854775807 := by decide
      rw [h3]; omega
    refine ⟨.string (a ++ b), ?_, .str _ _ (by simp)⟩
    simp only [Op.stringOp, hl, if_false]
    rfl
  case eql => subst hv'; exact ⟨.bool (decide (a.data.toList = b.data.toList)), by simp only [Op.stringOp, toList_data, beq_list]; rfl, .bool _⟩
  case neq => subst hv'; exact ⟨.bool (!decide (a.data.toList = b.data.toList)), by simp only [Op.stringOp, toList_data, beq_list]; rfl, .bool _⟩
  case lss => subst hv'; exact ⟨.bool (Op.bytesLess a.data.toList b.data.toList), by simp only [Op.stringOp, toList_data]; rfl, .bool _⟩
  case leq => subst hv'; exact ⟨.bool (Op.bytesLess a.data.toList b.data.toList || decide (a.data.toList = b.data.toList)), by simp only [Op.stringOp, toList_data, beq_list]; rfl, .bool _⟩
  case gtr => subst hv'; exact ⟨.bool (!(Op.bytesLess a.data.toList b.data.toList || decide (a.data.toList = b.data.toList))), by simp only [Op.stringOp, toList_data, beq_list]; rfl, .bool _⟩
  case geq => subst hv'; exact ⟨.bool (!Op.bytesLess a.data.toList b.data.toList), by simp only [Op.stringOp, toList_data]; rfl, .bool _⟩

/-! ## bounds -/
def RepO (W : World) (G : Nat → Nat) (φ : Nat → Option Nat) : Option V → Option Value → Prop
  | none, none => True
  | some v, some x => Rep W G φ v x
  | _, _ => False

theorem vOpt_int {v : Option V} {x : Option Value} {r : Option Int} (h : RepO W G φ v x) (hv : vOpt v = some r) :
    (r = none ∧ x = none) ∨ ∃ k n, r = some n ∧ x = some (.int k n) := by
  cases v with
  | none => cases x with
    | none => simp [vOpt] at hv; exact .inl ⟨hv.symm, rfl⟩
    | some x => exact h.elim
  | some v => cases x with
    | none => exact h.elim
    | some x =>
      have h' : Rep W G φ v x := h
      cases h' <;> simp [vOpt] at hv
      exact .inr ⟨_, _, hv.symm, rfl⟩

theorem run_sliceBound {k : IntKind} {n : Int} {y : Nat} {c : BoundsCode} (h0 : 0 ≤ n) (h1 : n ≤ y) :
    (Instr.sliceBound (.int k n) y c).run P W = .ok n.toNat W := by
  simp [Instr.sliceBound, asIntOf, h0, h1]

theorem run_sliceBounds {isS : Bool} {len cap : Nat} {l h m : Option Int} {xl xh xm : Option Value} {c : Nat × Nat × Nat} (hlen : len ≤ cap)
    (hl : (l = none ∧ xl = none) ∨ ∃ k n, l = some n ∧ xl = some (.int k n)) (hh : (h = none ∧ xh = none) ∨ ∃ k n, h = some n ∧ xh = some (.int k n))
    (hm : (m = none ∧ xm = none) ∨ ∃ k n, m = some n ∧ xm = some (.int k n)) (hc : cut3 len cap l h m = some c) :
    (Instr.sliceBounds isS len cap xl xh xm).run P W = .ok (c.1, c.2.1, c.2.2) W ∧ c.1 ≤ c.2.1 ∧ c.2.1 ≤ c.2.2 ∧ c.2.2 ≤ cap := by
  unfold cut3 at hc
  simp only [] at hc
  split at hc
  · rename_i hcond
    obtain ⟨c1, c2, c3, c4, c5, c6, c7⟩ := hcond
    simp only [Option.some.injEq] at hc
    subst hc
    rcases hm with ⟨rfl, rfl⟩ | ⟨km, nm, rfl, rfl⟩ <;> rcases hh with ⟨rfl, rfl⟩ | ⟨kh, nh, rfl, rfl⟩ <;> rcases hl with ⟨rfl, rfl⟩ | ⟨kl, nl, rfl, rfl⟩ <;>
      simp only [Option.getD_none, Option.getD_some, Option.isSome_some, Option.isSome_none, forall_const, Bool.false_eq_true, false_implies] at * <;>
      (try exact False.elim c7) <;>
      (refine ⟨?_, by omega, by omega, by omega⟩) <;>
      simp (disch := omega) [Instr.sliceBounds, run_sliceBound]
  · simp at hc

theorem addr_add (b off n : Nat) : (⟨b, off, none⟩ : Addr).add n = ⟨b, off + n, none⟩ := by unfold Addr.add; split <;> simp_all

theorem d_sls {u v : V} {x : Value} {lo hi : Option V} {xl xh : Option Value} {t : TypeId} (ht : P.underlying t = some .string) (h : Rep W G φ u x)
    (hl : RepO W G φ lo xl) (hh : RepO W G φ hi xh) (hv : vSls u lo hi = some v) :
    ∃ y, (Instr.sliceAt t x xl xh none).run P W = .ok y W ∧ Rep W G φ v y := by
  unfold vSls at hv
  split at hv
  · rename_i l r s el eh
    cases h
    rename_i b hb
    simp only [Option.map_eq_some_iff] at hv
    obtain ⟨c, hc, rfl⟩ := hv
    have hsz : s.length = b.size := by rw [← hb]; simp
    rw [hsz] at hc
    obtain ⟨hr, h1, h2, h3⟩ := run_sliceBounds (P := P) (W := W) (isS := false) (Nat.le_refl _) (vOpt_int hl el) (vOpt_int hh eh) (.inl ⟨rfl, rfl⟩) hc
    refine ⟨.string (b.extract c.1 c.2.1), ?_, .str _ _ ?_⟩
    · simp [Instr.sliceAt, Instr.slice, run_underlying ht, hr]
    · subst hb
      simp [ByteArray.data_extract, List.drop_take]
  · simp at hv

theorem fits_spec {sz : Nat} {xs : List V} (h : fits sz xs = true) : ∀ x ∈ xs, x.cells.length = sz ∧ ∀ c ∈ x.cells, c.sc = true := by
  intro x hx
  have := List.all_eq_true.1 h x hx
  simp only [Bool.and_eq_true, beq_iff_eq, List.all_eq_true] at this
  exact this

/-- a part of a slice -/
theorem rep_cut {nl : Bool} {sz : Nat} {xs : List V} {x : Value} (h : Rep W G φ (.sl nl sz xs) x) (l k : Nat) (h1 : l ≤ k) (h2 : k ≤ xs.length) (m : Nat → Nat)
    (hm : ∀ len cap, len ≤ cap → m cap = cap ∨ m cap = k) :
    ∃ a len cap, x = .slice a len cap ∧ len = xs.length ∧ len ≤ cap ∧
      Rep W G φ (.sl nl sz ((xs.take k).drop l)) (.slice (if m cap = l then a else a.map (·.add (l * sz))) (k - l) (m cap - l)) := by
  cases h with
  | slnil sz =>
    have hk : k = 0 := by simpa using h2
    have hl : l = 0 := by omega
    subst hk; subst hl
    refine ⟨none, 0, 0, rfl, rfl, Nat.le_refl _, ?_⟩
    have : m 0 = 0 := by rcases hm 0 0 (Nat.le_refl _) with h | h <;> exact h
    simp only [this, List.take_zero, List.drop_nil, if_true, Nat.sub_self]
    exact .slnil sz
  | sl0 sz a =>
    have hk : k = 0 := by simpa using h2
    have hl : l = 0 := by omega
    subst hk; subst hl
    refine ⟨some a, 0, 0, rfl, rfl, Nat.le_refl _, ?_⟩
    have : m 0 = 0 := by rcases hm 0 0 (Nat.le_refl _) with h | h <;> exact h
    simp only [this, List.take_zero, List.drop_nil, if_true, Nat.sub_self]
    exact .sl0 sz a
  | sl sz xs b off cap rd hcap hG hx hrd h =>
    refine ⟨some ⟨b, off, none⟩, xs.length, cap, rfl, rfl, hcap, ?_⟩
    have hmk : k ≤ m cap := by rcases hm xs.length cap hcap with h | h <;> omega
    have hlen : ((xs.take k).drop l).length = k - l := by simp; omega
    have hsub : ∀ i x, ((xs.take k).drop l)[i]? = some x → xs[l + i]? = some x ∧ l + i < k := by
      intro i x hi
      rw [List.getElem?_drop] at hi
      rw [List.getElem?_take] at hi
      split at hi
      · exact ⟨hi, by assumption⟩
      · simp at hi
    by_cases hml : m cap = l
    · rw [if_pos hml]
      have hkl : k = l := by omega
      subst hkl
      have he : (xs.take k).drop k = [] := by apply List.drop_eq_nil_of_le; simp; omega
      rw [he]
      have : (k - k) = ([] : List V).length := by simp
      rw [this, hml]
      refine .sl sz [] b off (k - k) rd (by simp) ?_ (by simp) (by simp) (by simp)
      simp; omega
    · rw [if_neg hml]
      simp only [Option.map_some, addr_add]
      rw [← hlen]
      refine .sl sz _ b (off + l * sz) _ (fun j => rd (l * sz + j)) (by rw [hlen]; omega) ?_ ?_ ?_ ?_
      · rw [hlen]
        have : l * sz + (k - l) * sz = k * sz := by rw [← Nat.add_mul]; congr 1; omega
        have h3 : k * sz ≤ xs.length * sz := Nat.mul_le_mul_right _ h2
        omega
      · intro y hy
        exact hx y (List.mem_of_mem_take (List.mem_of_mem_drop hy))
      · intro j hj
        rw [hlen] at hj
        have : l * sz + (k - l) * sz = k * sz := by rw [← Nat.add_mul]; congr 1; omega
        have h3 : k * sz ≤ xs.length * sz := Nat.mul_le_mul_right _ h2
        have := hrd (l * sz + j) (by omega)
        rwa [← Nat.add_assoc] at this
      · intro i y j c hi hj
        obtain ⟨e1, e2⟩ := hsub i y hi
        have := h (l + i) y j c e1 hj
        rwa [Nat.add_mul, Nat.add_assoc] at this

end Go.Abs
