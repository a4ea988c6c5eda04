/-
  Parts of the proof, one behind the other. Own work of this seat; some printed by its programs.
-/
import Derived.Test.YtpmgdngjbdkdfaaDoorM4
import Derived.Test.YtpmgdngjbdkdfaaDoorCards
import Derived.Test.YtpmgdngjbdkdfaaDoorTie
import Derived.ProofKit
import Derived.OpenShut
import Derived.Deep.DeepHandedRow
import Derived.Lib.LaidTab
namespace Go.Proofs.YtpmgdngjbdkdfaaDoor
open Go.Abs
set_option maxRecDepth 10000
variable {e : Ev}
def padN (k : Nat) : Nat := (119 - k % 64) % 64
def padB (n : Nat) (r : Bytes) : Bytes := r ++ (128 :: (List.replicate (padN r.length) 0 ++ lenB n))
def Zl0 (K : List W32) : Nat -> Bytes -> List W32 -> List W32
 | 0, _, st => st
 | m + 1, b, st => Zl0 K m (b.drop 64) (Zeg K st (b.take 64))
theorem Zwq (n : Nat) (r : Bytes) : (padB n r).length = r.length + 9 + padN r.length := by simp [padB, Zga]; omega
theorem Zjv (K st : List W32) (b : Bytes) : (Zeg K st b).length = st.length := by unfold Zeg; rw [Zk4]
def Zj5 (n : Nat) (r : Bytes) (st : List W32) : List W32 := Zl0 KT ((r.length + 9 + padN r.length) / 64) (padB n r) st
theorem Zsz {n : Nat} {r : Bytes} (h : 64 <= r.length) (st : List W32) : Zj5 n r st = Zj5 n (r.drop 64) (Zeg KT st (r.take 64)) := by
 have hp : padN (r.length - 64) = padN r.length := by unfold padN; omega
 have hm : (r.length + 9 + padN r.length) / 64 = (r.length - 64 + 9 + padN r.length) / 64 + 1 := by omega
 unfold Zj5
 rw [List.length_drop, hp, hm, Zl0]
 have h1 : (padB n r).take 64 = r.take 64 := by unfold padB; rw [List.take_append_of_le_length h]
 have h2 : (padB n r).drop 64 = padB n (r.drop 64) := by unfold padB; rw [List.drop_append_of_le_length h, List.length_drop, hp]
 rw [h1, h2]
theorem Zjw {n : Nat} {r : Bytes} (h : r.length < 56) (st : List W32) : Zj5 n r st = Zeg KT st ((r ++ (128 :: List.replicate (55 - r.length) 0)) ++ lenB n) := by
 have hp : padN r.length = 55 - r.length := by unfold padN; omega
 have hm : (r.length + 9 + padN r.length) / 64 = 1 := by omega
 have hl := Zwq n r
 unfold Zj5
 rw [hm, Zl0, Zl0, List.take_of_length_le (by omega)]
 unfold padB
 rw [hp]; simp
theorem Zua {n : Nat} {r : Bytes} (h : 56 <= r.length) (h2 : r.length < 64) (st : List W32) : Zj5 n r st = Zeg KT (Zeg KT st (r ++ (128 :: List.replicate (63 - r.length) 0))) (List.replicate 56 0 ++ lenB n) := by
 have hp : padN r.length = (63 - r.length) + 56 := by unfold padN; omega
 have hm : (r.length + 9 + padN r.length) / 64 = 2 := by omega
 have e1 : padB n r = (r ++ (128 :: List.replicate (63 - r.length) 0)) ++ (List.replicate 56 0 ++ lenB n) := by
  unfold padB
  rw [hp, <- List.replicate_append_replicate]; simp
 have l1 : (r ++ (128 :: List.replicate (63 - r.length) 0)).length = 64 := by simp; omega
 have l2 : (List.replicate 56 (0 : UInt8) ++ lenB n).length = 64 := by simp [Zga]
 unfold Zj5
 rw [hm, Zl0, Zl0, Zl0, e1, <- l1, List.take_left, List.drop_left, l1, List.take_of_length_le (by omega)]
theorem Zta {b : Bytes} (hb : b.length = 64) (r : Bytes) : evp (.cpya 0 64) [bl b, .str r] = some (bl (r.take 64 ++ b.drop (r.take 64).length)) := by
 refine (if_pos (show 0 + 64 <= (bl b).cells.length by show _ <= (b.map byteV).length; simp; omega)).trans ?_
 show some (V.agg (Zao (b.map byteV) 0 ((encB r).take 64))) = _
 unfold Zao
 rw [Zp0, List.take_zero, List.nil_append, Nat.zero_add, <- List.map_take, List.length_map, <- List.map_drop, <- List.map_append]
theorem Zxh {r : Bytes} : ∃ x, evp (.cpyn 64) [.str r] = some x := ⟨_, rfl⟩
theorem Zu8 {b : Bytes} (hb : b.length = 64) : evp (.clra (.int .u8 0) 0 64) [bl b] = some (bl (List.replicate 64 0)) := by
 refine (if_pos (show 0 + 64 <= (bl b).cells.length by show _ <= (b.map byteV).length; simp; omega)).trans ?_
 show some (V.agg (Zao (b.map byteV) 0 (List.replicate 64 (.int .u8 0)))) = _
 unfold Zao
 rw [List.take_zero, List.nil_append, List.drop_eq_nil_of_le (by simp; omega), List.append_nil]; rfl
theorem v.sha12 (s : Bytes) (hs : s.length <= 1000000000000) : ∀ (m : Nat) (r : Bytes) (st : List W32) (b : Bytes), r.length <= m -> st.length = 8 -> b.length = 64 ->
  vl e 60 12 [.str s, .str r, V.agg (repl 32 (.int .u8 0)), wl st, bl b] = some (bl (outB (Zj5 s.length r st))) := by
 intro m
 induction m with
 | zero =>
  intro r st b hr h8 hb
  obtain rfl : r = [] := List.eq_nil_of_length_eq_zero (by omega)
  obtain ⟨x, hx⟩ := Zxh (r := [])
  have hend := v.endOf (e := e) s hs (V.agg (repl 32 (.int .u8 0))) st h8 (128 :: List.replicate 55 0) (List.replicate 8 0) (by simp) (by simp)
  rw [Zjw (by decide)]
  have hst := Zmd (k := .i64) (l := List.replicate 64 0) (i := 0) (x := 128) (by simp)
  have hcp := Zta (b := List.replicate 64 0) (by simp) []
  rw [w.zq44_12]; unfold y.zq44_12
  have e128 : V.int .u8 128 = byteV 128 := rfl
  simp only [yy, List.length_nil, Int.natCast_zero, if_neg (show ¬((64 : Int) <= 0) by omega), Zu8 hb, hcp, hx, Zgi (m := 64) (k := .i64) (i := 0) (by omega) (by omega), e128]
  refine Zrs hst ?_
  rw [if_neg (show ¬((56 : Int) <= 0) by omega)]
  exact hend
 | succ m ih =>
  intro r st b hr h8 hb
  obtain ⟨x, hx⟩ := Zxh (r := r)
  by_cases h64 : 64 <= r.length
  ·have hl64 : (r.take 64).length = 64 := by simp; omega
   have hcp := Zta hb r
   rw [hl64, List.drop_eq_nil_of_le (by omega), List.append_nil] at hcp
   have hblk := v.block (e := e) st h8 (r.take 64) hl64
   have hsl : evp (.sls true false) [.str r, .int .i64 64] = some (.str (r.drop 64)) := Zsu (l := 64) (by omega)
   rw [Zsz h64]
   rw [w.zq44_12]; unfold y.zq44_12
   simp only [yy, if_pos (show (64 : Int) <= (r.length : Int) by omega), hcp, hx, hblk, hsl]
   exact ih (r.drop 64) _ _ (by simp; omega) (by rw [Zjv]; exact h8) hl64
  ·have htk : r.take 64 = r := List.take_of_length_le (by omega)
   have hcp := Zta (b := List.replicate 64 0) (by simp) r
   rw [htk, List.drop_replicate] at hcp
   have hst := Zmd (k := .i64) (l := r ++ List.replicate (64 - r.length) 0) (i := r.length) (x := 128) (by simp; omega)
   have hset : (r ++ List.replicate (64 - r.length) 0).set r.length 128 = r ++ (128 :: List.replicate (63 - r.length) 0) := by
    rw [List.set_append_right _ _ (Nat.le_refl _), Nat.sub_self, show 64 - r.length = (63 - r.length) + 1 by omega, List.replicate_succ, List.set_cons_zero]
   rw [hset] at hst
   have e128 : V.int .u8 128 = byteV 128 := rfl
   rw [w.zq44_12]; unfold y.zq44_12
   by_cases h56 : 56 <= r.length
   ·have l1 : (r ++ (128 :: List.replicate (63 - r.length) 0)).length = 64 := by simp; omega
    have hblk := v.block (e := e) st h8 (r ++ (128 :: List.replicate (63 - r.length) 0)) l1
    have hend := v.endOf (e := e) s hs (V.agg (repl 32 (.int .u8 0))) (Zeg KT st (r ++ (128 :: List.replicate (63 - r.length) 0))) (by rw [Zjv]; exact h8) (List.replicate 56 0) (List.replicate 8 0) (by simp) (by simp)
    rw [List.replicate_append_replicate] at hend
    rw [Zua h56 (by omega)]
    simp only [yy, if_neg (show ¬((64 : Int) <= (r.length : Int)) by omega), Zu8 hb, hcp, hx, Zgi (m := 64) (k := .i64) (i := (r.length : Int)) (by omega) (by omega), e128, hst, if_pos (show (56 : Int) <= (r.length : Int) by omega), hblk, Zu8 l1]
    exact hend
   ·have hend := v.endOf (e := e) s hs (V.agg (repl 32 (.int .u8 0))) st h8 (r ++ (128 :: List.replicate (55 - r.length) 0)) (List.replicate 8 0) (by simp; omega) (by simp)
    have e1 : (r ++ (128 :: List.replicate (55 - r.length) 0)) ++ List.replicate 8 0 = r ++ (128 :: List.replicate (63 - r.length) 0) := by
     rw [show 63 - r.length = (55 - r.length) + 8 by omega, <- List.replicate_append_replicate]; simp
    rw [e1] at hend
    rw [Zjw (by omega)]
    simp only [yy, if_neg (show ¬((64 : Int) <= (r.length : Int)) by omega), Zu8 hb, hcp, hx, Zgi (m := 64) (k := .i64) (i := (r.length : Int)) (by omega) (by omega), e128, hst, if_neg (show ¬((56 : Int) <= (r.length : Int)) by omega)]
    exact hend
def H0 : List W32 := [1779033703, 3144134277, 1013904242, 2773480762, 1359893119, 2600822924, 528734635, 1541459225]
def Zq5 (s : Bytes) : Bytes := outB (Zj5 s.length s H0)
theorem Zjr (s : Bytes) : (Zq5 s).length = 32 := Zj2 _
theorem v.shaOf (s : Bytes) (hs : s.length <= 1000000000000) : vl e 60 0 [.str s] = some (bl (Zq5 s)) := by
 rw [w.zq44]; unfold y.zq44
 exact v.sha12 s hs s.length s H0 (List.replicate 64 0) (Nat.le_refl _) rfl (by simp)
end Go.Proofs.YtpmgdngjbdkdfaaDoor
namespace Go.Proofs.YtpmgdngjbdkdfaaDoor
open Go.Abs
set_option maxRecDepth 10000
variable {e : Ev}
def numB (n : Nat) : Bytes := (List.range 8).map fun i => UInt8.ofNat (n / 2 ^ (56 - 8 * i))
theorem Ze3 (n : Nat) : (numB n).length = 8 := by simp [numB]
theorem Zwr (n : Nat) {i : Nat} (h : i < (numB n).length) : (numB n)[i] = UInt8.ofNat (n / 2 ^ (56 - 8 * i)) := by simp [numB]
theorem Z04 {l : Bytes} {k : Nat} (h : l.length = k) : evp (.b2so 0 k) [bl l] = some (.str l) := by
 show (if 0 + k <= (l.map byteV).length then (Zbm (((l.map byteV).drop 0).take k)).map V.str else none) = _
 rw [List.drop_zero, List.take_of_length_le (by simp; omega), Zed]
 exact if_pos (by simp; omega)
theorem v.num10 (n : Nat) (hn : n <= 1000000000000) : ∀ (m i : Nat), i + m = 8 -> vl e 59 10 [I n, I i, bl ((numB n).take i ++ (List.replicate 8 0).drop i)] = some (.str (numB n))
 | 0, i, hi => by
  have hl := Ze3 n
  rw [List.take_of_length_le (by omega), List.drop_eq_nil_of_le (by simp; omega), List.append_nil]
  have hb : evp (.b2so 0 8) [bl (numB n)] = some (.str (numB n)) := Z04 (by omega)
  rw [w.zq3_10]; unfold y.zq3_10
  simp only [yy, if_neg (show ¬((i : Int) < 8) by omega), hb]
 | m + 1, i, hi => by
  have hl := Ze3 n
  have e1 : IntKind.i64.wrap (8 * (i : Int)) = ((8 * i : Nat) : Int) := by rw [w64 _ (by omega)]; omega
  have e2 : IntKind.i64.wrap (56 - ((8 * i : Nat) : Int)) = ((56 - 8 * i : Nat) : Int) := by rw [w64 _ (by omega)]; omega
  have e3 : evp (.i2i .u64) [.int .i64 (n : Int)] = some (.int .u64 (n : Int)) := by
   show some (V.int .u64 (IntKind.u64.wrap (n : Int))) = _
   rw [Zj6, Int.emod_eq_of_lt (by omega) (by omega)]
  have e5 : evp (.bin .shr .no) [.int .u64 (n : Int), .int .i64 ((56 - 8 * i : Nat) : Int)] = some (.int .u64 ((n / 2 ^ (56 - 8 * i) : Nat) : Int)) := by
   show (if ((56 - 8 * i : Nat) : Int) < 0 then none else some (V.int .u64 ((n : Int).fdiv (2 ^ (min ((56 - 8 * i : Nat) : Int).toNat IntKind.u64.bits))))) = _
   have : min ((56 - 8 * i : Nat) : Int).toNat IntKind.u64.bits = 56 - 8 * i := by show min _ 64 = _; omega
   rw [if_neg (by omega), this, Int.fdiv_eq_ediv_of_nonneg _ (Int.le_of_lt (Int.pow_pos (by decide)))]
   simp
  have e6 : evp (.i2i .u8) [.int .u64 ((n / 2 ^ (56 - 8 * i) : Nat) : Int)] = some (byteV (UInt8.ofNat (n / 2 ^ (56 - 8 * i)))) := congrArg some (Zjs _)
  have hset : ((numB n).take i ++ (List.replicate 8 0).drop i).set i (UInt8.ofNat (n / 2 ^ (56 - 8 * i))) = (numB n).take (i + 1) ++ (List.replicate 8 0).drop (i + 1) := by
   rw [<- Zwr n (by omega)]; exact fill (by omega) (by simpa using hl)
  have hst := Zmd (k := .i64) (l := (numB n).take i ++ (List.replicate 8 0).drop i) (i := i) (x := UInt8.ofNat (n / 2 ^ (56 - 8 * i))) (by rw [Zkm (by omega) (by simpa using hl)]; omega)
  rw [hset] at hst
  rw [w.zq3_10]; unfold y.zq3_10
  simp only [yy, if_pos (show (i : Int) < 8 by omega), e3, Zog, e1, e2, e5, e6, Zgi (m := 8) (k := .i64) (i := (i : Int)) (by omega) (by omega), hst, Zau (show i < 64 by omega) (by decide)]
  exact v.num10 n hn m (i + 1) (by omega)
theorem v.codeNum (n : Nat) (hn : n <= 1000000000000) : vl e 59 0 [I n] = some (.str (numB n)) := by
 have h := v.num10 (e := e) n hn 8 0 (by omega)
 rw [List.take_zero, List.drop_zero, List.nil_append] at h
 rw [w.zq3]; exact h
def Zhv (l : List Bytes) : Bytes := (l.map fun p => numB p.length ++ p).flatten
def Zix (l : List Bytes) : Bytes := numB l.length ++ Zhv l
def sumL (l : List Bytes) : Nat := (l.map fun p => 8 + p.length).sum
theorem Zen (x : Bytes) (r : List Bytes) : sumL (x :: r) = 8 + x.length + sumL r := rfl
theorem Zn1 (x : Bytes) (r : List Bytes) : Zhv (x :: r) = numB x.length ++ x ++ Zhv r := rfl
theorem Zjj : ∀ l : List Bytes, (Zhv l).length = sumL l
 | [] => rfl
 | x :: r => by
  have := Zjj r
  simp only [Zhv, sumL, List.map_cons, List.flatten_cons, List.length_append, List.sum_cons, Ze3] at this ⊢; omega
theorem Zkr (m : List Bytes) : 8 * m.length <= sumL m := by
 induction m with
 | nil => simp [sumL]
 | cons x r ih => simp only [sumL, List.map_cons, List.sum_cons, List.length_cons] at ih ⊢; omega
theorem Zt9 {l : Bytes} {s : Bytes} (h : l.length + s.length <= Lim) : evp (.app 1) [bsl l, .str s] = some (bsl (l ++ s)) := by
 show Zu3 1 (bsl l) (.str s) = _
 show (if (l.map byteV).length + (encB s).length <= Lim /\ 1 = 1 then some (V.sl false 1 (l.map byteV ++ encB s)) else none) = _
 rw [if_pos ⟨by simpa [encB] using h, rfl⟩, Zp0, <- List.map_append]
theorem v.join31 (l : List Bytes) (hl : sumL l <= 1000000000) : ∀ (n i : Nat) (out : Bytes), i + n = l.length -> out.length + sumL (l.drop i) <= 2000000000 ->
  vl e 43 31 [bsl out, strs l, I l.length, I i] = some (.str (out ++ Zhv (l.drop i)))
 | 0, i, out, hi, ho => by
  rw [w.zq2_31, List.drop_eq_nil_of_le (by omega)]; unfold y.zq2_31
  simp only [yy, if_neg (show ¬((i : Int) < (l.length : Int)) by omega), Z6p]
  simp [Zhv]
 | n + 1, i, out, hi, ho => by
  have hLim : Lim = 4294967296 := rfl
  have hlt : i < l.length := by omega
  rw [List.drop_eq_getElem_cons hlt] at ho ⊢
  rw [Zen] at ho
  rw [Zn1]
  have hn := Ze3 l[i].length
  have hlen := Zkr l
  rw [w.zq2_31]; unfold y.zq2_31
  simp only [yy, if_pos (show (i : Int) < (l.length : Int) by omega), Zhk hlt, Zib, v.codeNum l[i].length (by omega), Zt9 (show out.length + (numB l[i].length).length <= Lim by omega), Zt9 (show (out ++ numB l[i].length).length + l[i].length <= Lim by simp; omega), Zau hlt (by omega)]
  refine (v.join31 l hl n (i + 1) _ (by omega) (by simp only [List.length_append]; omega)).trans ?_
  rw [List.append_assoc, List.append_assoc, List.append_assoc]
theorem v.join10 (l : List Bytes) (hl : sumL l <= 1000000000) : ∀ (n i m : Nat), i + n = l.length -> m + sumL (l.drop i) <= 2000000000 ->
  vl e 43 10 [strs l, I m, strs l, I l.length, I i] = some (.str (Zix l))
 | 0, i, m, hi, hm => by
  have hLim : Lim = 4294967296 := rfl
  have h8 := Zkr l
  have hn := Ze3 l.length
  have hk : evp (.mks 1) [.int .i64 0, .int .i64 (m : Int)] = some (bsl []) := by
   show (if (0 : Int) = 0 /\ 0 <= (m : Int) /\ (m : Int) <= Lim then some (⟨.sl false 1 [], true, none⟩ : Res) else none).map (·.v) = _
   rw [if_pos ⟨rfl, by omega, by omega⟩]; rfl
  rw [w.zq2_10]; unfold y.zq2_10
  simp only [yy, if_neg (show ¬((i : Int) < (l.length : Int)) by omega), hk, v.codeNum l.length (by omega), Zt9 (l := []) (s := numB l.length) (by simp; omega)]
  refine (v.join31 l hl l.length 0 _ (by omega) (by rw [List.drop_zero]; simp; omega)).trans ?_
  simp [Zix]
 | n + 1, i, m, hi, hm => by
  have hlt : i < l.length := by omega
  rw [List.drop_eq_getElem_cons hlt] at hm
  rw [Zen] at hm
  have h8 := Zkr l
  have e1 : IntKind.i64.wrap (8 + (l[i].length : Int)) = ((8 + l[i].length : Nat) : Int) := by rw [w64 _ (by omega)]; omega
  have e2 : IntKind.i64.wrap ((m : Int) + ((8 + l[i].length : Nat) : Int)) = ((m + (8 + l[i].length) : Nat) : Int) := by rw [w64 _ (by omega)]; omega
  rw [w.zq2_10]; unfold y.zq2_10
  simp only [yy, if_pos (show (i : Int) < (l.length : Int) by omega), Zhk hlt, Zib, e1, e2, Zau hlt (by omega)]
  exact v.join10 l hl n (i + 1) _ (by omega) (by omega)
theorem v.codeJoin (l : List Bytes) (hl : sumL l <= 1000000000) : vl e 43 0 [strs l] = some (.str (Zix l)) := by
 rw [w.zq2]; unfold y.zq2
 simp only [yy]
 exact v.join10 l hl l.length 0 8 (by omega) (by rw [List.drop_zero]; omega)
theorem Zlg (l : List Bytes) : (Zix l).length = 8 + sumL l := by simp [Zix, Ze3, Zjj]
def Zbp (p s : Bytes) : Bytes := Zq5 (Zix [p, s])
theorem Zaw (p s : Bytes) : (Zbp p s).length = 32 := Zjr _
theorem Z30 {x y : Bytes} : evp (.bsl 1) [.str x, .str y] = some (strs [x, y]) := rfl
theorem Zz0 {x y : Bytes} : evp (.app 1) [.sl false 1 [.str x], .sl false 1 [.str y]] = some (strs [x, y]) := by
 have := Zsk (l := [x]) (x := y) (show 1 + 1 <= Lim by decide)
 exact this
theorem v.shaSum (p s : Bytes) (hp : p.length <= 100) (hs : s.length <= 100000000) : vl e 44 0 [.str p, .sl false 1 [.str s]] = some (bl (Zbp p s)) := by
 have hl : sumL [p, s] = 16 + p.length + s.length := by simp [sumL]; omega
 have hj := Zlg [p, s]
 rw [w.zq45]; unfold y.zq45
 simp only [yy, Zll, Zz0, v.codeJoin [p, s] (by omega), v.shaOf (Zix [p, s]) (by omega), Zbz (Zjr (Zix [p, s]))]
 rfl
theorem Zj3 : ∀ {n : Nat} {x y : Bytes}, x.length = n -> y.length = n -> Zap (List.replicate n (some .u8, true)) (x.map byteV) (y.map byteV) = some (decide (x = y))
 | 0, [], [], _, _ => rfl
 | n + 1, a :: x, b :: y, hx, hy => by
  have ih := Zj3 (n := n) (x := x) (y := y) (by simpa using hx) (by simpa using hy)
  show (kdEq (some .u8, true) (byteV a) (byteV b)).bind (fun c => (Zap (List.replicate n (some .u8, true)) (x.map byteV) (y.map byteV)).map (c && ·)) = _
  rw [ih]
  show some (decide ((a.toNat : Int) = (b.toNat : Int)) && decide (x = y)) = _
  have : ((a.toNat : Int) = (b.toNat : Int)) <-> a = b := ⟨fun h => UInt8.toNat_inj.1 (by omega), fun h => by rw [h]⟩
  by_cases h1 : a = b
  ·subst h1; simp
  ·rw [decide_eq_false (fun h => h1 (this.1 h))]; simp [h1]
theorem Z1b {x y : Bytes} (hx : x.length = 32) (hy : y.length = 32) : evp (.bin .eql (.flat [(some .u8, true), (some .u8, true), (some .u8, true), (some .u8, true), (some .u8, true), (some .u8, true), (some .u8, true), (some .u8, true), (some .u8, true), (some .u8, true), (some .u8, true), (some .u8, true), (some .u8, true), (some .u8, true), (some .u8, true), (some .u8, true), (some .u8, true), (some .u8, true), (some .u8, true), (some .u8, true), (some .u8, true), (some .u8, true), (some .u8, true), (some .u8, true), (some .u8, true), (some .u8, true), (some .u8, true), (some .u8, true), (some .u8, true), (some .u8, true), (some .u8, true), (some .u8, true)])) [bl x, bl y] = some (.bool (decide (x = y))) := by
 show (Zap (List.replicate 32 (some .u8, true)) (x.map byteV) (y.map byteV)).map V.bool = _
 rw [Zj3 hx hy]; rfl
theorem Z68 {x y : Bytes} (hx : x.length = 32) (hy : y.length = 32) : evp (.bin .neq (.flat [(some .u8, true), (some .u8, true), (some .u8, true), (some .u8, true), (some .u8, true), (some .u8, true), (some .u8, true), (some .u8, true), (some .u8, true), (some .u8, true), (some .u8, true), (some .u8, true), (some .u8, true), (some .u8, true), (some .u8, true), (some .u8, true), (some .u8, true), (some .u8, true), (some .u8, true), (some .u8, true), (some .u8, true), (some .u8, true), (some .u8, true), (some .u8, true), (some .u8, true), (some .u8, true), (some .u8, true), (some .u8, true), (some .u8, true), (some .u8, true), (some .u8, true), (some .u8, true)])) [bl x, bl y] = some (.bool (!decide (x = y))) := by
 show (Zap (List.replicate 32 (some .u8, true)) (x.map byteV) (y.map byteV)).map (fun b => V.bool !b) = _
 rw [Zj3 hx hy]; rfl
end Go.Proofs.YtpmgdngjbdkdfaaDoor
namespace Go.Proofs.YtpmgdngjbdkdfaaDoor
open Go.Abs
set_option maxRecDepth 10000
variable {e : Ev}
abbrev MB := List (Bytes × Bytes)
def mkP (p : Bytes × Bytes) : V × V := (bl p.1, .str p.2)
abbrev mv (M : MB) : V := mpV (M.map mkP)
abbrev qK : KK := (true, repl 32 (some .u8, true))
def putM : MB -> Bytes -> Bytes -> MB
 | [], k, x => [(k, x)]
 | p :: r, k, x => if k = p.1 then (k, x) :: r else p :: putM r k x
def getM : MB -> Bytes -> Option Bytes
 | [], _ => none
 | p :: r, k => if k = p.1 then some p.2 else getM r k
def keyL (M : MB) : Prop := ∀ p ∈ M, p.1.length = 32
theorem Zn6 (l : List (V × V)) : unMp (mpV l) = some l := by
 show unM (l.map fun p => .tup [p.1, p.2]) = some l
 induction l with
 | nil => rfl
 | cons p r ih => simp only [List.map_cons, unM, ih]; rfl
theorem Zg1 {x z : Bytes} (hx : x.length = 32) (hz : z.length = 32) : Zdi qK (bl x) (bl z) = some (decide (x = z)) := Zj3 (n := 32) hx hz
theorem Zrf {k x : Bytes} (hk : k.length = 32) : ∀ {M : MB}, keyL M -> mPut qK (bl k) (.str x) (M.map mkP) = some ((putM M k x).map mkP)
 | [], _ => rfl
 | p :: r, h => by
  have ih := Zrf (x := x) hk (M := r) fun q hq => h q (by simp [hq])
  simp only [List.map_cons, mPut, putM, mkP] at ih ⊢
  rw [Zg1 hk (h p (by simp)), Option.bind_some]
  by_cases he : k = p.1
  ·rw [if_pos (decide_eq_true he), if_pos he]; rfl
  ·rw [if_neg (by simpa using he), if_neg he, ih]; rfl
theorem Zok {k : Bytes} (hk : k.length = 32) : ∀ {M : MB}, keyL M -> Zex qK (bl k) (M.map mkP) = some ((getM M k).map V.str)
 | [], _ => rfl
 | p :: r, h => by
  have ih := Zok hk (M := r) fun q hq => h q (by simp [hq])
  simp only [List.map_cons, Zex, getM, mkP] at ih ⊢
  rw [Zg1 hk (h p (by simp)), Option.bind_some]
  by_cases he : k = p.1
  ·rw [if_pos (decide_eq_true he), if_pos he]; rfl
  ·rw [if_neg (by simpa using he), if_neg he, ih]
theorem Z1c {M : MB} {k x : Bytes} (hM : keyL M) (hk : k.length = 32) : evp (.mup qK) [mv M, bl k, .str x] = some (mv (putM M k x)) := by
 show Zuy qK (mv M) (bl k) (.str x) = _
 simp only [Zuy, Zn6, Option.bind_some]
 rw [Zg1 hk hk, if_pos (by simp), Zrf hk hM]; rfl
theorem Z57 {M : MB} {k : Bytes} (hM : keyL M) (hk : k.length = 32) : evp (.mlk qK (.str []) true) [mv M, bl k] = some (.tup [.str ((getM M k).getD []), .bool (getM M k).isSome]) := by
 show Zwn qK (.str []) true (mv M) (bl k) = _
 simp only [Zwn, Zn6, Option.bind_some]
 rw [Zg1 hk hk, if_pos (by simp), Zok hk hM]
 cases getM M k <;> rfl
theorem Z6n {M : MB} : evp .mln [mv M] = some (I M.length) := by
 show Zvi (mv M) = _
 simp only [Zvi, Zn6, Option.map_some, List.length_map]
def Zcy (M : MB) : List Bytes := M.map (·.1)
theorem Zd2 (p : Bytes × Bytes) (r : MB) : Zcy (p :: r) = p.1 :: Zcy r := rfl
theorem Zdv (k x : Bytes) : ∀ M : MB, Zcy (putM M k x) = if k ∈ Zcy M then Zcy M else Zcy M ++ [k]
 | [] => rfl
 | p :: r => by
  have ih := Zdv k x r
  by_cases h : k = p.1
  ·rw [putM, if_pos h, if_pos (by rw [Zd2, h]; exact List.mem_cons_self), Zd2, Zd2, h]
  ·rw [putM, if_neg h, Zd2, ih, Zd2]
   by_cases h2 : k ∈ Zcy r
   ·rw [if_pos h2, if_pos (List.mem_cons_of_mem _ h2)]
   ·rw [if_neg h2, if_neg (fun hc => (List.mem_cons.1 hc).elim h h2)]; rfl
def Zbq (ps : MB) (M : MB) : MB := ps.foldl (fun M p => putM M p.1 p.2) M
theorem Zl1 {M : MB} {k x : Bytes} (hM : keyL M) (hk : k.length = 32) : keyL (putM M k x) := by
 intro p hp
 have : p.1 ∈ Zcy (putM M k x) := List.mem_map_of_mem hp
 rw [Zdv] at this
 split at this
 ·obtain ⟨q, hq, he⟩ := List.mem_map.1 this
  rw [<- he]; exact hM q hq
 ·rcases List.mem_append.1 this with h | h
  ·obtain ⟨q, hq, he⟩ := List.mem_map.1 h
   rw [<- he]; exact hM q hq
  ·rw [List.mem_singleton.1 h]; exact hk
theorem Zcn : ∀ {ps M : MB}, keyL ps -> keyL M -> keyL (Zbq ps M)
 | [], _, _, h => h
 | p :: r, _, hp, h => Zcn (ps := r) (fun q hq => hp q (by simp [hq])) (Zl1 h (hp p (by simp)))
theorem Zme (a b M : MB) : Zbq (a ++ b) M = Zbq b (Zbq a M) := by simp [Zbq, List.foldl_append]
theorem Zvu {k x : Bytes} {M : MB} {c : Bytes} (h : c ∈ Zcy M) : c ∈ Zcy (putM M k x) := by
 rw [Zdv]; split
 ·exact h
 ·exact List.mem_append_left _ h
theorem Zh3 : ∀ {ps M : MB} {c : Bytes}, (c ∈ Zcy M \/ c ∈ Zcy ps) -> c ∈ Zcy (Zbq ps M)
 | [], _, _, h => h.elim id (fun h => by simp [Zcy] at h)
 | p :: r, M, c, h => by
  refine Zh3 (ps := r) (M := putM M p.1 p.2) ?_
  rcases h with h | h
  ·exact .inl (Zvu h)
  ·simp only [Zcy, List.map_cons, List.mem_cons] at h
   rcases h with rfl | h
   ·left
    rw [Zdv]; split
    ·assumption
    ·simp
   ·exact .inr h
theorem Zgf : ∀ {ps M : MB}, (∀ c ∈ Zcy ps, c ∈ Zcy M) -> Zcy (Zbq ps M) = Zcy M
 | [], _, _ => rfl
 | p :: r, M, h => by
  have h1 : Zcy (putM M p.1 p.2) = Zcy M := by rw [Zdv, if_pos (h p.1 (by simp [Zcy]))]
  show Zcy (Zbq r (putM M p.1 p.2)) = _
  rw [Zgf (ps := r) (fun c hc => by rw [h1]; exact h c (by simp only [Zcy, List.map_cons, List.mem_cons]; exact .inr hc)), h1]
theorem Ze8 (M : MB) : M.length = (Zcy M).length := by simp [Zcy]
abbrev z32 : V := .agg (repl 32 (.int .u8 0))
def Zil : Bytes := [98, 108, 111, 98]
def Zb4 : Bytes := [116, 114, 101, 101]
theorem v.PutBlob (d : Bytes) (hd : d.length <= 32768) (M1 : MB) (hM : keyL M1) (m2 m3 : V) : vl e 10576 1 [.str d, mv M1, m2, m3] = some (.tup [bl (Zbp Zil d), I 0, mv (putM M1 (Zbp Zil d) d), m2, m3]) := by
 have h1 : vl e 52 0 [.str d] = some (bl (Zbp Zil d)) := by
  rw [w.zq10]; unfold y.zq10
  have := v.shaSum (e := e) Zil d (by decide) (by omega)
  simp only [yy, Zll]
  rw [show V.str [98, 108, 111, 98] = .str Zil from rfl, this]
  simp only [Option.bind_some, Zbz (Zaw _ _)]
 rw [w.zq29_h0]; unfold y.zq29_h0
 simp only [yy, if_neg (show ¬(32768 : Int) < (d.length : Int) by omega), h1, Zbz (Zaw _ _), Z1c hM (Zaw _ _)]
structure En where
 nm : Bytes
 tr : Bool
 id : Bytes
def ev (x : En) : V := .agg (.str x.nm :: .bool x.tr :: x.id.map byteV)
abbrev entV (l : List En) : V := .sl false 34 (l.map ev)
theorem Zlx {l : List En} {i : Nat} (h : i < l.length) : evp (.elem 34) [entV l, I i] = some (ev l[i]) := Zla (by simp [h])
theorem Zp4 {l : List En} : evp (.len false) [entV l] = some (I l.length) := by rw [entV, Zu1, List.length_map]
theorem Zj0 (x : En) : (ev x).cells = .str x.nm :: .bool x.tr :: x.id.map byteV := rfl
theorem Zmk {x : En} (h : x.id.length = 32) : (ev x).cells.length = 34 := by rw [Zj0]; simp [h]
theorem Z2s (x : En) : (ev x).cells.all V.sc = true := by
 rw [Zj0, List.all_cons, List.all_cons, List.all_eq_true.2]
 ·rfl
 ·intro c hc; obtain ⟨b, _, rfl⟩ := List.mem_map.1 hc; rfl
theorem Zvy {x : En} (h : x.id.length = 32) : evp (.ld (some 34) 0) [ev x] = some (ev x) := by
 show Zaj (some 34) (ev x).cells 0 = _
 simp only [Zaj]
 rw [if_pos (by rw [Zmk h]; omega), List.drop_zero, List.take_of_length_le (by rw [Zmk h]; omega)]; rfl
theorem Zpi {x : En} (h : x.id.length = 32) : evp (.cat [some 34]) [ev x] = some (ev x) := by
 show (catV [some 34] [ev x]).map V.agg = _
 simp only [catV]
 rw [if_pos ⟨Zmk h, Z2s x⟩]
 simp only [Option.map_some, List.append_nil]; rfl
theorem Zvl {x : En} : evp (.ld none 0) [ev x] = some (.str x.nm) := rfl
theorem Z12 {x : En} : evp (.ld none 1) [ev x] = some (.bool x.tr) := rfl
theorem Z01 {x : En} (h : x.id.length = 32) : evp (.b2so 2 32) [ev x] = some (.str x.id) := by
 show Zvc 2 32 (ev x) = _
 unfold Zvc
 rw [if_pos (by rw [Zmk h]; omega), Zj0]
 show (Zbm ((x.id.map byteV).take 32)).map V.str = _
 rw [List.take_of_length_le (by simp [h]), Zed]; rfl
structure EnOK (l : List En) : Prop where
 nm : ∀ x ∈ l, Zbx x.nm = true /\ x.nm.length <= 128
 id : ∀ x ∈ l, x.id.length = 32
 up : l.Pairwise fun a b => Op.bytesLess a.nm b.nm = true
 len : l.length <= 512
theorem Zr5 {s : Bytes} (h : Zbx s = true) (hl : s.length <= 128) : Zc2 s = true := by
 unfold Zc2
 rw [Zdp (Zhg h)]
 simp [hl, h]
theorem v.last (s : Bytes) (c : UInt8) (hs : s.length <= 1000000000) (hc : c ∉ s) : vl e 70 0 [.str s, byteV c] = some (I (-1)) := by
 have key : ∀ (n : Nat), n <= s.length -> vl e 79 8 [.str s, byteV c, I ((n : Int) - 1)] = some (I (-1)) := by
  intro n
  induction n with
  | zero =>
   intro _
   rw [w.zq6_8]; unfold y.zq6_8
   simp only [yy, if_neg (show ¬((0 : Int) <= ((0 : Nat) : Int) - 1) by omega)]
  | succ n ih =>
   intro hn
   have hlt : n < s.length := by omega
   have hne : ¬((s[n].toNat : Int) = (c.toNat : Int)) := fun h => hc (by rw [<- Zku.1 h]; exact List.getElem_mem hlt)
   have e0 : ((n + 1 : Nat) : Int) - 1 = (n : Int) := by omega
   have := ih (by omega)
   rw [w.zq6_8]; unfold y.zq6_8
   rw [e0]
   have e1 : IntKind.i64.wrap ((n : Int) - 1) = (n : Int) - 1 := w64 _ (by omega)
   simp only [yy, if_pos (show (0 : Int) <= (n : Int) by omega), Zkz (List.getElem?_eq_getElem hlt), byteV, if_neg hne, e1]
   exact this
 rw [w.zq62]; unfold y.zq62
 have h1 : vl e 79 0 [.str s, byteV c] = some (I (-1)) := by
  rw [w.zq6]; unfold y.zq6
  have e1 : IntKind.i64.wrap ((s.length : Int) - 1) = (s.length : Int) - 1 := w64 _ (by omega)
  simp only [yy, e1]
  exact key s.length (Nat.le_refl _)
 simp only [yy, h1]
theorem v.Dir1 (s : Bytes) (hs : s.length <= 1000000000) (hc : (47 : UInt8) ∉ s) : vl e 58 0 [.str s] = some (.str []) := by
 rw [w.zq17]; unfold y.zq17
 have h1 := v.last (e := e) s 47 hs hc
 have h2 : evp (.mnx true) [.int .i64 (-1), .int .i64 0] = some (.int .i64 0) := rfl
 have h3 : evp (.sls false true) [.str s, .int .i64 0] = some (.str []) := Zlq (h := 0) (Nat.zero_le _)
 rw [show V.int .u8 47 = byteV 47 from rfl]
 simp only [yy, h1, h2, h3]
theorem v.GoodTree8 (he : EnvT e) (l : List En) (h : EnOK l) : ∀ (n i : Nat), i + n = l.length -> vl e 42 8 [entV l, entV l, I l.length, I i] = some (.bool true) := by
 intro n
 induction n with
 | zero =>
  intro i hi
  have hlen := h.len
  rw [w.zq12_8]; unfold y.zq12_8
  simp only [yy, if_neg (show ¬((i : Int) < (l.length : Int)) by omega), Zp4]
  rw [decide_eq_true (show (l.length : Int) <= 512 by omega)]
 | succ n ih =>
  intro i hi
  have hlen := h.len
  have hlt : i < l.length := by omega
  have hid := h.id _ (List.getElem_mem hlt)
  obtain ⟨hp, hpl⟩ := h.nm _ (List.getElem_mem hlt)
  have hg := v.Good he l[i].nm (by omega)
  rw [Zr5 hp hpl] at hg
  have hd := v.Dir1 (e := e) l[i].nm (by omega) (Zhg hp)
  have hn : (!decide (([] : Bytes) = [])) = false := rfl
  have := ih (i + 1) (by omega)
  rw [w.zq12_8]; unfold y.zq12_8
  by_cases h0 : 0 < i
  ·have hlt' : i - 1 < l.length := by omega
   have hup : Op.bytesLess l[i - 1].nm l[i].nm = true := List.pairwise_iff_getElem.1 h.up (i - 1) i hlt' hlt (by omega)
   have hge : evp (.bin .geq .no) [.str l[i - 1].nm, .str l[i].nm] = some (.bool false) := by
    show some (V.bool (!Op.bytesLess l[i - 1].nm l[i].nm)) = _
    rw [hup]; rfl
   simp only [yy, if_pos (show (i : Int) < (l.length : Int) by omega), Zlx hlt, Zvy hid, Zpi hid, Zvl, hg, hd, if_pos (show (0 : Int) < (i : Int) by omega), Zny (show 1 <= i by omega) (by omega), Zlx hlt', hge, Zau hlt (by omega)]
   simpa using this
  ·simp only [yy, if_pos (show (i : Int) < (l.length : Int) by omega), Zlx hlt, Zvy hid, Zpi hid, Zvl, hg, hd, if_neg (show ¬(0 : Int) < (i : Int) by omega), Zau hlt (by omega)]
   simpa using this
theorem v.GoodTree (he : EnvT e) (l : List En) (h : EnOK l) : vl e 42 0 [entV l] = some (.bool true) := by
 rw [w.zq12]; unfold y.zq12
 simp only [yy, Zp4]
 exact v.GoodTree8 he l h l.length 0 (Nat.zero_add _)
def enP (x : En) : List Bytes := [if x.tr then Zb4 else Zil, x.nm, x.id]
def Zgk (l : List En) : List Bytes := l.flatMap enP
theorem Zsh (l : List En) : (Zgk l).length = 3 * l.length := by
 unfold Zgk
 induction l with
 | nil => rfl
 | cons x r ih => rw [List.flatMap_cons, List.length_append, ih]; simp only [enP, List.length_cons, List.length_nil]; omega
theorem Zt1 (a b : List Bytes) : sumL (a ++ b) = sumL a + sumL b := by simp [sumL]
theorem Zmc {l : List En} (h1 : ∀ x ∈ l, x.nm.length <= 128) (h2 : ∀ x ∈ l, x.id.length = 32) : sumL (Zgk l) <= 188 * l.length := by
 unfold Zgk
 induction l with
 | nil => exact Nat.zero_le _
 | cons x r ih =>
  have := ih (fun a ha => h1 a (by simp [ha])) (fun a ha => h2 a (by simp [ha]))
  have a1 := h1 x (by simp)
  have a2 := h2 x (by simp)
  rw [List.flatMap_cons, Zt1, enP, Zen, Zen, Zen, a2]
  have : (if x.tr = true then Zb4 else Zil).length = 4 := by cases x.tr <;> rfl
  rw [this]
  simp only [List.length_cons, show sumL [] = 0 from rfl]
  omega
theorem Zts {a : List Bytes} {x u t : Bytes} (h : a.length + 3 <= Lim) : evp (.app 1) [strs a, .sl false 1 [.str x, .str u, .str t]] = some (strs (a ++ [x, u, t])) := by
 rw [strs, Zzn (by simpa using h)]; simp
theorem v.PutTree18 (l : List En) (h : EnOK l) : ∀ (n i : Nat) , i + n = l.length -> vl e 26 18 [strs (Zgk (l.take i)), entV l, I l.length, I i] = some (.tup [.str (Zix (Zgk l)), I 0]) := by
 intro n
 induction n with
 | zero =>
  intro i hi
  have hlen := h.len
  have hs := Zmc (fun x hx => (h.nm x hx).2) h.id
  have hj := v.codeJoin (e := e) (Zgk l) (by omega)
  rw [w.zq13_18]; unfold y.zq13_18
  rw [List.take_of_length_le (show l.length <= i by omega)]
  simp only [yy, if_neg (show ¬((i : Int) < (l.length : Int)) by omega), hj]
 | succ n ih =>
  intro i hi
  have hlen := h.len
  have hlt : i < l.length := by omega
  have hid := h.id _ (List.getElem_mem hlt)
  have hal : (Zgk (l.take i)).length + 3 <= Lim := by rw [Zsh, List.length_take]; unfold Lim; omega
  have hto : Zgk (l.take (i + 1)) = Zgk (l.take i) ++ enP l[i] := by
   rw [List.take_succ_eq_append_getElem hlt, Zgk, List.flatMap_append]; simp [Zgk]
  have := ih (i + 1) (by omega)
  rw [hto] at this
  have hb3 : ∀ a b c : Bytes, evp (.bsl 1) [.str a, .str b, .str c] = some (.sl false 1 [.str a, .str b, .str c]) := fun _ _ _ => rfl
  rw [w.zq13_18]; unfold y.zq13_18
  cases ht : l[i].tr with
  | false =>
   rw [enP, ht] at this
   simp only [yy, if_pos (show (i : Int) < (l.length : Int) by omega), Zlx hlt, Zvy hid, Zpi hid, Z12, ht, Zvl, Z01 hid, hb3, Zts hal, Zau hlt (by omega)]
   exact this
  | true =>
   rw [enP, ht] at this
   simp only [yy, if_pos (show (i : Int) < (l.length : Int) by omega), Zlx hlt, Zvy hid, Zpi hid, Z12, ht, Zvl, Z01 hid, hb3, Zts hal, Zau hlt (by omega)]
   exact this
def Za8 (l : List En) : Bytes := Zix (Zgk l)
theorem v.PutTree (he : EnvT e) (l : List En) (h : EnOK l) (m1 m3 : V) (M2 : MB) (hM : keyL M2) : vl e 10224 1 [entV l, m1, mv M2, m3] = some (.tup [bl (Zbp Zb4 (Za8 l)), I 0, m1, mv (putM M2 (Zbp Zb4 (Za8 l)) (Za8 l)), m3]) := by
 have hlen := h.len
 have hs := Zmc (fun x hx => (h.nm x hx).2) h.id
 have h1 : vl e 26 0 [entV l] = some (.tup [.str (Za8 l), I 0]) := by
  rw [w.zq13]; unfold y.zq13
  have := v.PutTree18 (e := e) l h l.length 0 (Nat.zero_add _)
  simp only [yy, v.GoodTree he l h, Zp4]
  exact this
 have h2 : vl e 27 0 [.str (Za8 l)] = some (bl (Zbp Zb4 (Za8 l))) := by
  rw [w.zq14]; unfold y.zq14
  have := v.shaSum (e := e) Zb4 (Za8 l) (by decide) (by unfold Za8; rw [Zlg]; omega)
  simp only [yy, Zll]
  rw [show V.str [116, 114, 101, 101] = .str Zb4 from rfl, this]
  simp only [Option.bind_some, Zbz (Zaw _ _)]
 rw [w.zq30_h0]; unfold y.zq30_h0
 simp only [yy, h1, h2, Zbz (Zaw _ _), Z1c hM (Zaw _ _)]
 simp
end Go.Proofs.YtpmgdngjbdkdfaaDoor
namespace Go.Proofs.YtpmgdngjbdkdfaaDoor
open Go.Abs
set_option maxRecDepth 10000
variable {e : Ev}
abbrev aggS (l : List Bytes) : V := .agg (l.map .str)
theorem Zw5 {l : List Bytes} {i : Nat} (h : i < l.length) : evp (.ldd none 0 1) [aggS l, I i] = some (.str l[i]) := by
 show (l.map V.str)[0 + (i : Int).toNat * 1]? = _
 simp [h]
theorem Z11 {l : List Bytes} {i : Nat} {x : Bytes} (h : i < l.length) : evp (.std 1 0 1) [aggS l, I i, .str x] = some (aggS (l.set i x)) := by
 show vSet 1 (0 + (i : Int).toNat * 1) (aggS l) (.str x) = _
 unfold vSet
 rw [if_pos (by simp [V.cells, V.sc]; omega)]
 simp only [V.cells, Nat.zero_add, Int.toNat_natCast, Nat.mul_one, Zao, List.length_singleton]
 rw [List.set_eq_take_append_cons_drop, if_pos h]
 simp
theorem Zza {l : List Bytes} {i : Nat} (h : i < l.length) : evp (.clrx (.str [])) [aggS l, I l.length, I i] = some (aggS (l.take i ++ List.replicate (l.length - i) [])) := by
 show (if 0 <= (i : Int) /\ (i : Int) < (l.length : Int) /\ (l.length : Int).toNat <= (aggS l).cells.length then some (V.agg (Zao (aggS l).cells (i : Int).toNat (List.replicate ((l.length : Int).toNat - (i : Int).toNat) (V.str [])))) else none) = _
 rw [if_pos ⟨by omega, by omega, by simp [V.cells]⟩]
 simp only [V.cells, Int.toNat_natCast, Zao, List.length_replicate]
 rw [List.drop_eq_nil_of_le (by simp; omega)]
 simp
theorem Zo7 {l : List Bytes} {i : Nat} (h : i <= l.length) : evp .snapx [aggS l, I i] = some (strs (l.take i)) := by
 show (if 0 <= (i : Int) /\ (i : Int).toNat <= (aggS l).cells.length then some (V.sl false 1 ((aggS l).cells.take (i : Int).toNat)) else none) = _
 rw [if_pos ⟨by omega, by simp [V.cells]; omega⟩]
 simp [V.cells]
theorem v.CloneS (l : List Bytes) (hl : l.length <= 1000000) : vl e 10880 1 [strs l] = some (.tup [I l.length, aggS l]) := by
 rw [w.zq48_h0]; unfold y.zq48_h0
 have h1 : evp (.rapp 1) [.agg [], I (0 : Nat), strs l] = some (aggS l) := by
  show Zqd 1 (.agg []) (I (0 : Nat)) (strs l) = _
  have hf : fits 1 (l.map V.str) = true := by simp [fits, V.cells, V.sc]
  simp only [Zqd, Zbo, Option.bind_some, Ziy, hf, if_true, true_or]
  rw [if_pos ⟨by omega, by omega, by simp, by simp [Lim]; omega⟩]
  have hfl : ∀ l : List Bytes, (l.map V.str).flatMap V.cells = l.map V.str := fun l => by
   induction l with
   | nil => rfl
   | cons x r ih => simp only [List.map_cons, List.flatMap_cons, ih]; rfl
  simp only [V.cells, Int.toNat_natCast, Nat.zero_mul, List.take_zero, List.nil_append, hfl]
 have h2 : evp (.rlen 1) [I (0 : Nat), strs l] = some (I l.length) := by
  show Znq 1 (I (0 : Nat)) (strs l) = _
  simp [Znq, Zbo]
 have h1' : evp (.rapp 1) [.agg [], .int .i64 0, strs l] = some (aggS l) := h1
 have h2' : evp (.rlen 1) [.int .i64 0, strs l] = some (I l.length) := h2
 simp only [yy, h1', h2']
 cases l with
 | nil =>
  have : vamb (V.sl false 1 []) (some (V.tup [.int .i64 0, .agg []])) (some (V.tup [.int .i64 0, .agg []])) = some (V.tup [.int .i64 0, .agg []]) := by
   unfold vamb
   exact if_pos rfl
  exact this
 | cons x r => rfl
end Go.Proofs.YtpmgdngjbdkdfaaDoor
namespace Go.Proofs.YtpmgdngjbdkdfaaDoor
open Go.Abs
set_option maxRecDepth 10000
variable {e : Ev}
theorem v.isE (x : Bytes) : Zeh (vl e) (.fn 56 []) [.str x] = some (.bool (decide (x = []))) := by
 show vl e 56 0 ([.str x] ++ []) = _
 rw [List.append_nil, w.zq21]; unfold y.zq21
 simp only [yy, ]
theorem v.Join2 (he : EnvT e) (d n : Bytes) (hn : n ≠ []) (hd : d.length <= 1000000) (hn2 : n.length <= 1000000) : vl e 37 0 [strs [d, n]] = some (.str (if d = [] then n else d ++ 47 :: n)) := by
 have hcl := v.CloneS (e := e) [d, n] (by simp)
 simp only [List.length_cons, List.length_nil, Nat.zero_add] at hcl
 have c0 : evp .chkd [I (2 : Nat), I (0 : Nat)] = some (I (0 : Nat)) := Za7 (by omega)
 have c1 : evp .chkd [I (2 : Nat), I (1 : Nat)] = some (I (1 : Nat)) := Za7 (by omega)
 have l0 : evp (.ldd none 0 1) [aggS [d, n], I (0 : Nat)] = some (.str d) := Zw5 (l := [d, n]) (i := 0) (by simp)
 have l1 : evp (.ldd none 0 1) [aggS [d, n], I (1 : Nat)] = some (.str n) := Zw5 (l := [d, n]) (i := 1) (by simp)
 rw [w.zq20]; unfold y.zq20
 by_cases h : d = []
 ·subst h
  rw [if_pos rfl]
  -- the first is found
  have hi : vl e 10784 1 [I (2 : Nat), .fn 56 [], aggS [[], n]] = some (.tup [I (0 : Nat), aggS [[], n]]) := by
   rw [w.zq52_h0]; unfold y.zq52_h0
   rw [w.zq52_h0_8]; unfold y.zq52_h0_8
   have hp := v.isE (e := e) []
   simp only [yy, if_pos (show (0 : Int) < ((2 : Nat) : Int) by omega)]
   rw [show (V.int .i64 0) = I (0 : Nat) from rfl, c0, Option.bind_some, l0, Option.bind_some, cv, hp]
   rfl
  have hdel : vl e 10864 1 [I (2 : Nat), .fn 56 [], aggS [[], n]] = some (.tup [I (1 : Nat), aggS [n, []]]) := by
   rw [w.zq51_h0]; unfold y.zq51_h0
   simp only [yy, hi, if_neg (show ¬((0 : Nat) : Int) = -1 by omega), Zau (show 0 < 1 by omega) (by omega)]
   have hp := v.isE (e := e) n
   rw [decide_eq_false hn] at hp
   have hst : evp (.std 1 0 1) [aggS [[], n], I (0 : Nat), .str n] = some (aggS [n, n]) := Z11 (l := [[], n]) (i := 0) (by simp)
   have hcx : evp (.clrx (.str [])) [aggS [n, n], I (2 : Nat), I (1 : Nat)] = some (aggS [n, []]) := Zza (l := [n, n]) (i := 1) (by simp)
   have hck : evp .chkl [I (2 : Nat), I (1 : Nat)] = some (I (1 : Nat)) := Zy7 (by omega)
   rw [w.zq51_h0_18]; unfold y.zq51_h0_18
   simp only [yy, if_pos (show ((1 : Nat) : Int) < ((2 : Nat) : Int) by omega), c1, l1, cv, hp, c0, hst, Zau (show 0 < 1 by omega) (by omega), Zau (show 1 < 2 by omega) (by omega)]
   rw [w.zq51_h0_18]; unfold y.zq51_h0_18
   simp only [yy, if_neg (show ¬((2 : Nat) : Int) < ((2 : Nat) : Int) by omega), c1, hcx, hck]
  have hsn : evp .snapx [aggS [n, []], I (1 : Nat)] = some (strs [n]) := Zo7 (l := [n, []]) (i := 1) (by simp)
  have hj := v.join he [n] [47] (by simp) (by simp [Zgd]; omega)
  have hfl : evp .flr [.str n] = some (.str n) := rfl
  simp only [yy, hcl, hdel, hsn, hj]
  simp only [Zgd, hfl, Option.bind_some]
 ·rw [if_neg h]
  have hi : vl e 10784 1 [I (2 : Nat), .fn 56 [], aggS [d, n]] = some (.tup [I (-1), aggS [d, n]]) := by
   have hp := v.isE (e := e) d
   have hq := v.isE (e := e) n
   rw [decide_eq_false h] at hp
   rw [decide_eq_false hn] at hq
   rw [w.zq52_h0]; unfold y.zq52_h0
   rw [w.zq52_h0_8]; unfold y.zq52_h0_8
   rw [show (V.int .i64 0) = I (0 : Nat) from rfl]
   simp only [yy, if_pos (show ((0 : Nat) : Int) < ((2 : Nat) : Int) by omega), c0, l0, cv, hp, Zau (show 0 < 1 by omega) (by omega)]
   rw [w.zq52_h0_8]; unfold y.zq52_h0_8
   simp only [yy, if_pos (show ((0 + 1 : Nat) : Int) < ((2 : Nat) : Int) by omega), c1, l1, cv, hq, Zau (show 1 < 2 by omega) (by omega)]
   rw [w.zq52_h0_8]; unfold y.zq52_h0_8
   simp only [yy, if_neg (show ¬((0 + 1 + 1 : Nat) : Int) < ((2 : Nat) : Int) by omega)]
  have hdel : vl e 10864 1 [I (2 : Nat), .fn 56 [], aggS [d, n]] = some (.tup [I (2 : Nat), aggS [d, n]]) := by
   rw [w.zq51_h0]; unfold y.zq51_h0
   simp only [yy, hi]
   simp
  have hsn : evp .snapx [aggS [d, n], I (2 : Nat)] = some (strs [d, n]) := Zo7 (l := [d, n]) (i := 2) (by simp)
  have hj := v.join he [d, n] [47] (by simp) (by simp [Zgd]; omega)
  have hfl : ∀ x : Bytes, evp .flr [.str x] = some (.str x) := fun _ => rfl
  simp only [yy, hcl, hdel, hsn, hj]
  simp only [hfl, Option.bind_some]
  simp [Zgd]
end Go.Proofs.YtpmgdngjbdkdfaaDoor
namespace Go.Proofs.YtpmgdngjbdkdfaaDoor
open Go.Abs
set_option maxRecDepth 10000
variable {e : Ev}
def pS (S : List Fi) (i : Nat) : List Bytes := Zad 47 (S.getD i ([], [])).1
structure SoOK (S : List Fi) : Prop where
 good : ∀ f ∈ S, Zc2 f.1 = true
 data : ∀ f ∈ S, f.2.length <= 32768
 len : S.length <= 512
 up : ∀ i j, i < j -> j < S.length -> cmpL (pS S i) (pS S j) < 0
 free : ∀ i j, i < S.length -> j < S.length -> i ≠ j -> ∀ R, pS S i ≠ pS S j ++ R
theorem Zg7 (A B : List Bytes) : ∀ D : List Bytes, cmpL (D ++ A) (D ++ B) = cmpL A B
 | [] => rfl
 | x :: D => by rw [List.cons_append, List.cons_append, cmpL, if_pos (Zcv.2 rfl), Zg7 A B D]
theorem Ziq {x z : Bytes} {A B : List Bytes} (h : cmpL (x :: A) (z :: B) < 0) : x = z \/ Op.bytesLess x z = true := by
 rw [cmpL] at h
 by_cases h0 : cmpB x z = 0
 ·exact .inl (Zcv.1 h0)
 ·rw [if_neg h0] at h; exact .inr (Zg5.1 h)
theorem Zxl (p : Nat -> Prop) : ∀ n : Nat, ∃ k, k <= n /\ (∀ i, i < k -> p i) /\ (k < n -> ¬ p k)
 | 0 => ⟨0, Nat.le_refl _, fun i h => by omega, fun h => by omega⟩
 | n + 1 => by
  obtain ⟨k, h1, h2, h3⟩ := Zxl p n
  by_cases hk : k < n
  ·exact ⟨k, by omega, h2, fun _ => h3 hk⟩
  ·by_cases hp : p k
   ·refine ⟨k + 1, by omega, fun i hi => ?_, fun h => by omega⟩
    rcases Nat.lt_or_eq_of_le (Nat.le_of_lt_succ hi) with h | rfl
    ·exact h2 i h
    ·exact hp
   ·exact ⟨k, by omega, h2, fun _ => hp⟩
inductive Tr (S : List Fi) : List Bytes -> Nat -> Nat -> List En -> Bytes -> MB -> MB -> Prop
 | done {D : List Bytes} {a : Nat} {ls : List En} (hok : EnOK ls) : Tr S D a a ls (Zbp Zb4 (Za8 ls)) [] [(Zbp Zb4 (Za8 ls), Za8 ls)]
 | blob {D : List Bytes} {a b : Nat} {ls : List En} {x id : Bytes} {p1 p2 : MB} (hab : a < b) (hx : pS S a = D ++ [x]) (h : Tr S D (a + 1) b (ls ++ [⟨x, false, Zbp Zil (S.getD a ([], [])).2⟩]) id p1 p2) :
   Tr S D a b ls id ((Zbp Zil (S.getD a ([], [])).2, (S.getD a ([], [])).2) :: p1) p2
 | dir {D : List Bytes} {a b k : Nat} {ls : List En} {x id id1 : Bytes} {p1 p2 q1 q2 : MB} (hk : 0 < k) (hkb : a + k <= b) (hrun : ∀ i, a <= i -> i < a + k -> ∃ R, R ≠ [] /\ pS S i = D ++ x :: R) (hstop : a + k < b -> ¬ ∃ R, R ≠ [] /\ pS S (a + k) = D ++ x :: R)
   (h1 : Tr S (D ++ [x]) a (a + k) [] id1 p1 p2) (h2 : Tr S D (a + k) b (ls ++ [⟨x, true, id1⟩]) id q1 q2) : Tr S D a b ls id (p1 ++ q1) (p2 ++ q2)
theorem Zfn {a b : Nat} (h : a <= b) : evp .vlen [I a, I b] = some (I (b - a : Nat)) := by
 show (if 0 <= (a : Int) /\ (a : Int) <= (b : Int) then some (V.int .i64 ((b : Int) - (a : Int))) else none) = _
 rw [if_pos (by omega), <- Int.ofNat_sub h]
theorem Znk {a b l : Nat} (h : a + l <= b) : evp .vadd [I a, I b, I l] = some (I (a + l : Nat)) := by
 show (if 0 <= (a : Int) /\ 0 <= (l : Int) /\ (a : Int) + (l : Int) <= (b : Int) then some (V.int .i64 ((a : Int) + (l : Int))) else none) = _
 rw [if_pos (by omega), Int.natCast_add]
theorem Zk1 {a b l : Nat} (h : a + l < b) : evp .vidx [I a, I b, I l] = some (I (a + l : Nat)) := by
 show (if 0 <= (a : Int) /\ 0 <= (l : Int) /\ (a : Int) + (l : Int) < (b : Int) then some (V.int .i64 ((a : Int) + (l : Int))) else none) = _
 rw [if_pos (by omega), Int.natCast_add]
theorem Zxw (id : Bytes) : (id.map byteV).all V.sc = true := by
 rw [List.all_eq_true]; intro c hc; obtain ⟨b, _, rfl⟩ := List.mem_map.1 hc; rfl
theorem Z2w {id : Bytes} (h : id.length = 32) : (bl id).cells.length = 32 /\ (bl id).cells.all V.sc = true := ⟨by simp [V.cells, h], Zxw id⟩
theorem Ztn {nm id : Bytes} {t : Bool} (h : id.length = 32) : evp (.cat [none, none, some 32]) [.str nm, .bool t, bl id] = some (ev ⟨nm, t, id⟩) := by
 show (catV [none, none, some 32] [.str nm, .bool t, bl id]).map V.agg = _
 simp only [catV]
 rw [if_pos (show (V.str nm).sc = true from rfl), if_pos (show (V.bool t).sc = true from rfl), if_pos (Z2w h)]
 simp only [Option.map_some, List.append_nil]; rfl
theorem Z3r {nm id : Bytes} (h : id.length = 32) : evp (.cat [none, some 32]) [.str nm, bl id] = some (.agg (.str nm :: id.map byteV)) := by
 show (catV [none, some 32] [.str nm, bl id]).map V.agg = _
 simp only [catV]
 rw [if_pos (show (V.str nm).sc = true from rfl), if_pos (Z2w h)]
 simp only [Option.map_some, List.append_nil]; rfl
theorem Zul {x : En} (h : x.id.length = 32) : evp (.bsl 34) [ev x] = some (.sl false 34 [ev x]) := by
 have : fits 34 [ev x] = true := by simp [fits, Zmk h]; exact List.all_eq_true.1 (Z2s x)
 show (if fits 34 [ev x] then some (V.sl false 34 [ev x]) else none) = _
 rw [this]; rfl
theorem Zr9 {l : List En} {x : En} (h : l.length + 1 <= Lim) : evp (.app 34) [entV l, .sl false 34 [ev x]] = some (entV (l ++ [x])) := by
 rw [entV, Zzn (by simpa using h)]; simp
theorem Zub {D : List Bytes} {x : Bytes} (hD : ∀ u ∈ D, Zbx u = true) : (if Zaq 47 D = [] then x else Zaq 47 D ++ 47 :: x) = Zaq 47 (D ++ [x]) := by
 by_cases h : D = []
 ·subst h; rfl
 ·rw [if_neg (Zeq h hD), Zfa 47 D [x] h (by simp)]; rfl
section
variable (he : EnvT e) (S : List Fi) (hS : SoOK S)
include he hS
omit he in
theorem Zph {i : Nat} (h : i < S.length) : ∀ x ∈ pS S i, Zbx x = true := by
 unfold pS; rw [Zay h]; exact Ze1 (hS.good _ (List.getElem_mem h))
omit he hS in
theorem Zkv {i : Nat} (h : i < S.length) : evp (.ldd none 0 2) [aggF S, I i] = some (.str (S.getD i ([], [])).1) := by rw [Zw0 h, Zay h]
omit he in
theorem Zh4 {i : Nat} (h : i < S.length) : (S.getD i ([], [])).1.length <= 128 := by rw [Zay h]; exact Zwo (hS.good _ (List.getElem_mem h))
omit he in
theorem v.below44 (D : List Bytes) (hD : ∀ u ∈ D, Zbx u = true) (x : Bytes) (hx : Zbx x = true) (hxl : x.length <= 128) (hjl : (Zaq 47 (D ++ [x])).length <= 1000) (a b k : Nat) (hab : a + k <= b) (hb : b <= S.length) (hrun : ∀ i, a <= i -> i < a + k -> ∃ R, R ≠ [] /\ pS S i = D ++ x :: R) (hstop : a + k < b -> ¬ ∃ R, R ≠ [] /\ pS S (a + k) = D ++ x :: R)
  (ls : List En) (hls : ls.length <= 512) (id1 : Bytes) (hid : id1.length = 32) (m1 m2 m3 n1 n2 n3 z : V)
  (hrec : vl e 10336 1 [.str (Zaq 47 (D ++ [x])), I a, I (a + k : Nat), aggF S, m1, m2, m3] = some (.tup [bl id1, I 0, aggF S, n1, n2, n3])) : ∀ (n j : Nat), j + n = k ->
  vl e 10336 44 [.str (Zaq 47 D), I a, I b, entV ls, .str x, .str (Zaq 47 (D ++ [x])), I j, aggF S, m1, m2, m3, z] = vl e 10336 8 [.str (Zaq 47 D), I (a + k : Nat), I b, entV (ls ++ [⟨x, true, id1⟩]), aggF S, n1, n2, n3, z] := by
 have hlen := hS.len
 have hD' : ∀ u ∈ D ++ [x], Zbx u = true := fun u hu => (List.mem_append.1 hu).elim (hD u) (fun h => by rw [List.mem_singleton.1 h]; exact hx)
 have hLim : ls.length + 1 <= Lim := by unfold Lim; omega
 intro n
 induction n with
 | zero =>
  intro j hj
  have hjk : j = k := by omega
  subst hjk
  rw [w.zq33_h0_44]; unfold y.zq33_h0_44
  by_cases hc : a + j < b
  ·have hi : a + j < S.length := by omega
   obtain ⟨u, hu, _⟩ := v.Under (e := e) (Zaq 47 (D ++ [x])) (S.getD (a + j) ([], [])).1 (by omega) (by have := Zh4 S hS hi; omega)
   have hno : (Zcw (Zaq 47 (D ++ [x])) (S.getD (a + j) ([], [])).1).isSome = false := by
    cases h : Zcw (Zaq 47 (D ++ [x])) (S.getD (a + j) ([], [])).1 with
    | none => rfl
    | some r =>
     obtain ⟨R, hR, hs⟩ := Zjl hD' h
     exact absurd ⟨R, hR, by rw [pS, hs]; simp⟩ (hstop hc)
   rw [hno] at hu
   simp only [yy, Zfn (show a <= b by omega), if_pos (show (j : Int) < ((b - a : Nat) : Int) by omega), Zk1 hc, Zkv S hi, hu, Znk (show a + j <= b by omega), hrec, Zbz hid, Ztn hid, Zul (x := ⟨x, true, id1⟩) hid, Zr9 hLim]
   simp
  ·simp only [yy, Zfn (show a <= b by omega), if_neg (show ¬(j : Int) < ((b - a : Nat) : Int) by omega), Znk (show a + j <= b by omega), hrec, Zbz hid, Ztn hid, Zul (x := ⟨x, true, id1⟩) hid, Zr9 hLim]
   simp
 | succ n ih =>
  intro j hj
  have hi : a + j < S.length := by omega
  obtain ⟨R, hR, hs⟩ := hrun (a + j) (by omega) (by omega)
  obtain ⟨u, hu, _⟩ := v.Under (e := e) (Zaq 47 (D ++ [x])) (S.getD (a + j) ([], [])).1 (by omega) (by have := Zh4 S hS hi; omega)
  have hpp := Zph S hS hi
  rw [hs] at hpp
  have hyes := Znz (p := (S.getD (a + j) ([], [])).1) hD' (R := R) (fun c hc => hpp c (by simp [hc])) hR (by rw [<- pS, hs]; simp)
  rw [hyes] at hu
  have := ih (j + 1) (by omega)
  rw [w.zq33_h0_44]; unfold y.zq33_h0_44
  simp only [yy, Zfn (show a <= b by omega), if_pos (show (j : Int) < ((b - a : Nat) : Int) by omega), Zk1 (show a + j < b by omega), Zkv S hi, hu, Option.isSome_some, Zau (show j < j + 1 by omega) (by omega)]
  exact this
theorem v.below8 : ∀ (q : Nat) (D : List Bytes) (a b : Nat) (ls : List En), (16 - D.length) * 513 + (b - a) <= q -> a <= b -> b <= S.length -> (∀ u ∈ D, Zbx u = true) -> (Zaq 47 D).length <= 128 -> (∀ i, a <= i -> i < b -> ∃ R, R ≠ [] /\ pS S i = D ++ R) -> EnOK ls -> ls.length + (b - a) <= 512 -> (∀ en ∈ ls, ∀ i, a <= i -> i < b -> ∀ x R, pS S i = D ++ x :: R -> Op.bytesLess en.nm x = true) ->
  ∃ (id : Bytes) (p1 p2 : MB), Tr S D a b ls id p1 p2 /\ id.length = 32 /\ keyL p1 /\ keyL p2 /\ ∀ (M1 M2 : MB) (m3 z : V), keyL M1 -> keyL M2 ->
   vl e 10336 8 [.str (Zaq 47 D), I a, I b, entV ls, aggF S, mv M1, mv M2, m3, z] = some (.tup [bl id, I 0, aggF S, mv (Zbq p1 M1), mv (Zbq p2 M2), m3]) := by
 have hlen := hS.len
 intro q
 induction q with
 | zero =>
  intro D a b ls hq hab hb hD hjl hin hls hll hlt
  have hab' : a = b := by omega
  subst hab'
  refine ⟨_, _, _, .done hls, Zaw _ _, (fun p hp => by cases hp), (fun p hp => by rw [List.mem_singleton.1 hp]; exact Zaw _ _), fun M1 M2 m3 z h1 h2 => ?_⟩
  rw [w.zq33_h0_8]; unfold y.zq33_h0_8
  simp only [yy, Zfn (Nat.le_refl a), if_neg (show ¬(0 : Int) < ((a - a : Nat) : Int) by omega), v.PutTree he ls hls (mv M1) m3 M2 h2, Zbz (Zaw _ _)]
  rfl
 | succ q ih =>
  intro D a b ls hq hab hb hD hjl hin hls hll hlt
  rcases Nat.lt_or_eq_of_le hab with hlt' | rfl
  rotate_left
  ·refine ⟨_, _, _, .done hls, Zaw _ _, (fun p hp => by cases hp), (fun p hp => by rw [List.mem_singleton.1 hp]; exact Zaw _ _), fun M1 M2 m3 z h1 h2 => ?_⟩
   rw [w.zq33_h0_8]; unfold y.zq33_h0_8
   simp only [yy, Zfn (Nat.le_refl a), if_neg (show ¬(0 : Int) < ((a - a : Nat) : Int) by omega), v.PutTree he ls hls (mv M1) m3 M2 h2, Zbz (Zaw _ _)]
   rfl
  have ha : a < S.length := by omega
  obtain ⟨R0, hR0, hs0⟩ := hin a (Nat.le_refl _) hlt'
  obtain ⟨x, R, rfl⟩ : ∃ x R, R0 = x :: R := by cases R0 with
   | nil => exact absurd rfl hR0
   | cons x R => exact ⟨x, R, rfl⟩
  have hpa := Zph S hS ha
  rw [hs0] at hpa
  have hx : Zbx x = true := hpa x (by simp)
  have hR : ∀ u ∈ R, Zbx u = true := fun u hu => hpa u (by simp [hu])
  have hxR : ∀ u ∈ x :: R, Zbx u = true := fun u hu => hpa u (by simp only [List.mem_append]; exact .inr hu)
  have hpl := Zh4 S hS ha
  have hgood : Zc2 (S.getD a ([], [])).1 = true := by rw [Zay ha]; exact hS.good _ (List.getElem_mem ha)
  have h16 : (pS S a).length <= 16 := by
   have := hgood
   simp only [Zc2, Bool.and_eq_true, decide_eq_true_eq] at this
   exact this.1.2
  have hD16 : D.length < 16 := by rw [hs0] at h16; simp at h16; omega
  have hxl : x.length <= 128 := by
   have := Zcb 47 (show x ∈ Zad 47 (S.getD a ([], [])).1 by rw [<- pS, hs0]; simp)
   omega
  -- what stands behind the directory
  have hund := Znz (p := (S.getD a ([], [])).1) hD hxR (by simp) (by rw [<- pS]; exact hs0)
  obtain ⟨r, hr, hr2⟩ := v.Under (e := e) (Zaq 47 D) (S.getD a ([], [])).1 (by omega) (by omega)
  have hr3 := hr2 _ hund
  subst hr3
  rw [hund, Option.isSome_some] at hr
  have hrl := Zth hund
  have hsp := v.pSplit he (Zaq 47 (x :: R)) (by omega)
  have hps : Zcx (Zaq 47 (x :: R)) = x :: R := by
   unfold Zcx
   rw [if_neg (Zeq (by simp) hxR), Zjo (by simp) hxR]
  rw [hps] at hsp
  have hnew : ∀ (t : Bool) (id : Bytes), id.length = 32 -> EnOK (ls ++ [⟨x, t, id⟩]) := fun t id hid => {
   nm := fun en hen => (List.mem_append.1 hen).elim (hls.nm en) (fun h => by rw [List.mem_singleton.1 h]; exact ⟨hx, hxl⟩)
   id := fun en hen => (List.mem_append.1 hen).elim (hls.id en) (fun h => by rw [List.mem_singleton.1 h]; exact hid)
   up := List.pairwise_append.2 ⟨hls.up, List.pairwise_singleton _ _, fun u hu t ht => by rw [List.mem_singleton.1 ht]; exact hlt u hu a (Nat.le_refl _) hlt' x R hs0⟩
   len := by simp; omega }
  by_cases hRn : R = []
  ·-- a file
   subst hRn
   have hd : (S.getD a ([], [])).2.length <= 32768 := by rw [Zay ha]; exact hS.data _ (List.getElem_mem ha)
   obtain ⟨id, p1, p2, t1, t2, t3, t4, t5⟩ := ih D (a + 1) b (ls ++ [⟨x, false, Zbp Zil (S.getD a ([], [])).2⟩]) (by omega) (by omega) hb hD hjl (fun i h1 h2 => hin i (by omega) h2) (hnew _ _ (Zaw _ _)) (by simp; omega) (fun en hen i h1 h2 x' R' hs' => by
    have hup := hS.up a i (by omega) (by omega)
    rw [hs0, hs', Zg7] at hup
    have hxx : Op.bytesLess x x' = true := by
     rcases Ziq hup with rfl | h
     ·exact absurd (by rw [hs', hs0]; simp) (hS.free i a (by omega) ha (by omega) R')
     ·exact h
    rcases List.mem_append.1 hen with h | h
    ·exact hlt en h i (by omega) h2 x' R' hs'
    ·rw [List.mem_singleton.1 h]; exact hxx)
   refine ⟨id, _, _, .blob hlt' hs0 t1, t2, fun p hp => (List.mem_cons.1 hp).elim (fun h => by rw [h]; exact Zaw _ _) (t3 p), t4, fun M1 M2 m3 z h1 h2 => ?_⟩
   have hpb := v.PutBlob (e := e) (S.getD a ([], [])).2 hd M1 h1 (mv M2) m3
   have hdd : evp (.ldd none 1 2) [aggF S, I a] = some (.str (S.getD a ([], [])).2) := by rw [Z2t ha, Zay ha]
   have hi0 : evp .vidx [I a, I b, .int .i64 0] = some (I a) := Zk1 (l := 0) (by omega)
   have ha1 : evp .vadd [I a, I b, .int .i64 1] = some (I (a + 1 : Nat)) := Znk (l := 1) (by omega)
   rw [w.zq33_h0_8]; unfold y.zq33_h0_8
   have hjx : Zaq 47 [x] = x := rfl
   rw [hjx] at hr hsp
   simp only [yy, Zfn hab, if_pos (show (0 : Int) < ((b - a : Nat) : Int) by omega), hi0, Zkv S ha, hr, hsp, Zxo, Zib, hdd, hpb, Zbz (Zaw _ _), Z3r (Zaw _ _), Ztn (Zaw _ _), Zul (x := ⟨x, false, Zbp Zil (S.getD a ([], [])).2⟩) (Zaw _ _), Zr9 (show ls.length + 1 <= Lim by unfold Lim; omega), ha1]
   simp only [if_true]
   exact t5 (putM M1 _ _) M2 m3 z (Zl1 h1 (Zaw _ _)) h2
  ·-- a directory
   obtain ⟨k, hk1, hk2, hk3⟩ := Zxl (fun t => ∃ R, R ≠ [] /\ pS S (a + t) = D ++ x :: R) (b - a)
   have hk0 : 0 < k := by
    refine Nat.pos_of_ne_zero fun h => ?_
    subst h
    exact hk3 (by omega) ⟨R, hRn, hs0⟩
   have hrun : ∀ i, a <= i -> i < a + k -> ∃ R, R ≠ [] /\ pS S i = D ++ x :: R := fun i h1 h2 => by
    have := hk2 (i - a) (by omega)
    rwa [show a + (i - a) = i by omega] at this
   have hstop : a + k < b -> ¬ ∃ R, R ≠ [] /\ pS S (a + k) = D ++ x :: R := fun h => hk3 (by omega)
   have hD' : ∀ u ∈ D ++ [x], Zbx u = true := fun u hu => (List.mem_append.1 hu).elim (hD u) (fun h => by rw [List.mem_singleton.1 h]; exact hx)
   have hjl' : (Zaq 47 (D ++ [x])).length <= 128 := by
    have hj := Zbr 47 (S.getD a ([], [])).1
    rw [<- pS, hs0, show D ++ x :: R = (D ++ [x]) ++ R by simp, Zfa 47 (D ++ [x]) R (by simp) hRn] at hj
    have := congrArg List.length hj
    simp only [List.length_append, List.length_cons] at this
    omega
   obtain ⟨id1, p1, p2, s1, s2, s3, s4, s5⟩ := ih (D ++ [x]) a (a + k) [] (by simp only [List.length_append, List.length_cons, List.length_nil]; omega) (by omega) (by omega) hD' hjl' (fun i h1 h2 => by
    obtain ⟨R', hR', hs'⟩ := hrun i h1 h2
    exact ⟨R', hR', by rw [hs']; simp⟩) { nm := (fun _ h => by cases h), id := (fun _ h => by cases h), up := .nil, len := by simp } (by simp; omega) (fun en hen => by cases hen)
   obtain ⟨id, q1, q2, t1, t2, t3, t4, t5⟩ := ih D (a + k) b (ls ++ [⟨x, true, id1⟩]) (by omega) (by omega) hb hD hjl (fun i h1 h2 => hin i (by omega) h2) (hnew _ _ s2) (by simp; omega) (fun en hen i h1 h2 x' R' hs' => by
    -- the first behind the directory
    obtain ⟨R2, hR2, hs2⟩ := hin (a + k) (by omega) (by omega)
    obtain ⟨x2, R3, rfl⟩ : ∃ x2 R3, R2 = x2 :: R3 := by cases R2 with
     | nil => exact absurd rfl hR2
     | cons x R => exact ⟨x, R, rfl⟩
    have hup := hS.up a (a + k) (by omega) (by omega)
    rw [hs0, hs2, Zg7] at hup
    have hxx2 : Op.bytesLess x x2 = true := by
     rcases Ziq hup with rfl | h
     ·by_cases hR3 : R3 = []
      ·subst hR3
       exact absurd (show pS S a = pS S (a + k) ++ R by rw [hs0, hs2]; simp) (hS.free a (a + k) ha (by omega) (by omega) R)
      ·exact absurd ⟨R3, hR3, hs2⟩ (hstop (by omega))
     ·exact h
    have hxx : Op.bytesLess x x' = true := by
     rcases Nat.lt_or_eq_of_le h1 with h | rfl
     ·have hup2 := hS.up (a + k) i h (by omega)
      rw [hs2, hs', Zg7] at hup2
      rcases Ziq hup2 with rfl | h
      ·exact hxx2
      ·exact Zfc hxx2 h
     ·rw [hs2] at hs'
      have := List.append_cancel_left hs'
      simp only [List.cons.injEq] at this
      rw [<- this.1]; exact hxx2
    rcases List.mem_append.1 hen with h | h
    ·exact hlt en h i (by omega) h2 x' R' hs'
    ·rw [List.mem_singleton.1 h]; exact hxx)
   refine ⟨id, _, _, .dir hk0 (by omega) hrun hstop s1 t1, t2, fun p hp => (List.mem_append.1 hp).elim (s3 p) (t3 p), fun p hp => (List.mem_append.1 hp).elim (s4 p) (t4 p), fun M1 M2 m3 z h1 h2 => ?_⟩
   have hr8 := s5 M1 M2 m3 z32 h1 h2
   have hrec : vl e 10336 1 [.str (Zaq 47 (D ++ [x])), I a, I (a + k : Nat), aggF S, mv M1, mv M2, m3] = some (.tup [bl id1, I 0, aggF S, mv (Zbq p1 M1), mv (Zbq p2 M2), m3]) := by
    rw [w.zq33_h0]; unfold y.zq33_h0
    exact hr8
   have h44 := v.below44 S hS D hD x hx hxl (by omega) a b k (by omega) hb hrun hstop ls (by omega) id1 s2 (mv M1) (mv M2) m3 (mv (Zbq p1 M1)) (mv (Zbq p2 M2)) m3 z hrec k 0 (Nat.zero_add _)
   have hi0 : evp .vidx [I a, I b, .int .i64 0] = some (I a) := Zk1 (l := 0) (by omega)
   have hne : ¬ x = Zaq 47 (x :: R) := fun h => by
    have := Zhg hx
    rw [h, Zd7 _ _ _ hRn] at this
    exact this (by simp)
   have hjn := v.Join2 he (Zaq 47 D) x (Zq9 hx) (by omega) (by omega)
   rw [Zub hD] at hjn
   rw [w.zq33_h0_8]; unfold y.zq33_h0_8
   simp only [yy, Zfn hab, if_pos (show (0 : Int) < ((b - a : Nat) : Int) by omega), hi0, Zkv S ha, hr, hsp, Zxo, Zib, if_neg hne, Z30, hjn]
   refine h44.trans ?_
   rw [t5 _ _ m3 z (Zcn s3 h1) (Zcn s4 h2), Zme, Zme]
end
end Go.Proofs.YtpmgdngjbdkdfaaDoor
namespace Go.Proofs.YtpmgdngjbdkdfaaDoor
open Go.Abs
set_option maxRecDepth 10000
variable {e : Ev}
theorem Zdl {p : Bytes} (h : Zc2 p = true) : Zcx p = Zad 47 p := if_neg (Zyt h)
theorem Ze0 {a b : Bytes} (ha : Zc2 a = true) (hb : Zc2 b = true) : Zcm a b = true <-> ∃ R, Zad 47 b = Zad 47 a ++ R := by
 have ja := Zbr 47 a
 constructor
 ·intro h
  unfold Zcm at h
  simp only [Bool.or_eq_true, decide_eq_true_eq] at h
  rcases h with h | h
  ·obtain ⟨r, hr⟩ := Option.isSome_iff_exists.1 h
   rw [<- ja] at hr
   obtain ⟨R, _, hs⟩ := Zjl (Ze1 ha) hr
   exact ⟨R, hs⟩
  ·exact ⟨[], by rw [h]; simp⟩
 ·rintro ⟨R, hR⟩
  unfold Zcm
  simp only [Bool.or_eq_true, decide_eq_true_eq]
  by_cases h0 : R = []
  ·right
   subst h0
   rw [List.append_nil] at hR
   rw [<- ja, <- hR, Zbr]
  ·left
   have hp := Ze1 hb
   rw [hR] at hp
   have := Znz (Ze1 ha) (fun x hx => hp x (by simp [hx])) h0 hR
   rw [ja] at this
   rw [this]; rfl
theorem Zte : ∀ {A B R : List Bytes}, ¬ cmpL B A < 0 -> ¬ cmpL (A ++ R) B < 0 -> ∃ R', B = A ++ R'
 | [], B, _, _, _ => ⟨B, rfl⟩
 | x :: A, [], _, h, _ => absurd (show cmpL [] (x :: A) < 0 by simp [cmpL]) h
 | x :: A, z :: B, R, h1, h2 => by
  rw [cmpL] at h1
  rw [List.cons_append, cmpL] at h2
  have hs := Zm5 x z
  by_cases h0 : cmpB x z = 0
  ·have hz : cmpB z x = 0 := by omega
   rw [if_pos hz] at h1
   rw [if_pos h0] at h2
   obtain ⟨R', hR'⟩ := Zte h1 h2
   exact ⟨R', by rw [hR', Zcv.1 h0]; rfl⟩
  ·rw [if_neg (by omega)] at h1
   rw [if_neg h0] at h2
   omega
theorem Zp3 : ∀ (A R : List Bytes), R ≠ [] -> cmpL A (A ++ R) < 0
 | [], R, h => by cases R with
  | nil => exact absurd rfl h
  | cons x r => simp [cmpL]
 | x :: A, R, h => by rw [List.cons_append, cmpL, if_pos (Zcv.2 rfl)]; exact Zp3 A R h
def Zn9 (l : List Fi) : Prop := (∀ f ∈ l, Zc2 f.1 = true) /\ l.Pairwise fun a b => Zcm a.1 b.1 = false /\ Zcm b.1 a.1 = false
theorem Z1v (l : List Fi) : (∀ i, i < l.length -> okI l i) <-> Zn9 l := by
 constructor
 ·intro h
  refine ⟨fun f hf => ?_, List.pairwise_iff_getElem.2 fun i j hi hj hij => ?_⟩
  ·obtain ⟨i, hi, rfl⟩ := List.mem_iff_getElem.1 hf
   have := (h i hi).1
   rwa [Zay hi] at this
  ·have h1 := (h j hj).2 i hi (by omega)
   have h2 := (h i hi).2 j hj (by omega)
   rw [Zay hi, Zay hj] at h1 h2
   exact ⟨h1, h2⟩
 ·rintro ⟨h1, h2⟩ i hi
  have h2 := List.pairwise_iff_getElem.1 h2
  refine ⟨by rw [Zay hi]; exact h1 _ (List.getElem_mem hi), fun k hk hki => ?_⟩
  rw [Zay hi, Zay hk]
  rcases Nat.lt_or_gt_of_ne hki with h | h
  ·exact (h2 k i hk hi h).1
  ·exact (h2 i k hi hk h).2
theorem Zut {l m : List Fi} (h : l.Perm m) : Zn9 l <-> Zn9 m := by
 have hp : ∀ {l m : List Fi}, l.Perm m -> Zn9 l -> Zn9 m := fun h hl =>
  ⟨fun f hf => hl.1 f (h.mem_iff.2 hf), h.pairwise hl.2 (fun hab => ⟨hab.2, hab.1⟩)⟩
 exact ⟨hp h, hp h.symm⟩
def Zhi (S : List Fi) (j : Nat) : Prop := Zc2 (S.getD j ([], [])).1 = true /\ (0 < j -> Zcm (S.getD (j - 1) ([], [])).1 (S.getD j ([], [])).1 = false)
abbrev pc (a b : Fi) : Int := pcmp a.1 b.1
theorem Zrk {S : List Fi} (hs : So pc S) : (∀ j, j < S.length -> Zhi S j) <-> Zn9 S := by
 constructor
 ·intro h
  have hg : ∀ f ∈ S, Zc2 f.1 = true := fun f hf => by
   obtain ⟨i, hi, rfl⟩ := List.mem_iff_getElem.1 hf
   have := (h i hi).1
   rwa [Zay hi] at this
  refine ⟨hg, List.pairwise_iff_getElem.2 fun i j hi hj hij => ?_⟩
  have gi := hg _ (List.getElem_mem hi)
  have gj := hg _ (List.getElem_mem hj)
  have hle : ¬ cmpL (Zad 47 S[j].1) (Zad 47 S[i].1) < 0 := by
   have := List.pairwise_iff_getElem.1 hs i j hi hj hij
   unfold Le pc pcmp at this
   rwa [Zdl gi, Zdl gj] at this
  have first : Zcm S[i].1 S[j].1 = false := by
   cases hc : Zcm S[i].1 S[j].1 with
   | false => rfl
   | true =>
    obtain ⟨R, hR⟩ := (Ze0 gi gj).1 hc
    have hk : i + 1 < S.length := by omega
    have gk := hg _ (List.getElem_mem hk)
    have h1 : ¬ cmpL (Zad 47 S[i + 1].1) (Zad 47 S[i].1) < 0 := by
     have := List.pairwise_iff_getElem.1 hs i (i + 1) hi hk (by omega)
     unfold Le pc pcmp at this
     rwa [Zdl gi, Zdl gk] at this
    have h2 : ¬ cmpL (Zad 47 S[i].1 ++ R) (Zad 47 S[i + 1].1) < 0 := by
     rw [<- hR]
     rcases Nat.lt_or_eq_of_le (show i + 1 <= j by omega) with h' | h'
     ·have := List.pairwise_iff_getElem.1 hs (i + 1) j hk hj h'
      unfold Le pc pcmp at this
      rwa [Zdl gj, Zdl gk] at this
     ·have : S[i + 1] = S[j] := by congr 1
      rw [this]
      intro hx
      have := cmpL_zero.2 (rfl : Zad 47 S[j].1 = Zad 47 S[j].1)
      omega
    obtain ⟨R', hR'⟩ := Zte h1 h2
    have := (h (i + 1) hk).2 (by omega)
    rw [Zay hk, Nat.add_sub_cancel, Zay hi, (Ze0 gi gk).2 ⟨R', hR'⟩] at this
    cases this
  refine ⟨first, ?_⟩
  cases hc : Zcm S[j].1 S[i].1 with
  | false => rfl
  | true =>
   obtain ⟨R, hR⟩ := (Ze0 gj gi).1 hc
   by_cases h0 : R = []
   ·rw [h0, List.append_nil] at hR
    rw [(Ze0 gi gj).2 ⟨[], by rw [hR]; simp⟩] at first
    cases first
   ·rw [hR] at hle
    exact absurd (Zp3 _ R h0) hle
 ·rintro ⟨h1, h2⟩ j hj
  refine ⟨by rw [Zay hj]; exact h1 _ (List.getElem_mem hj), fun h0 => ?_⟩
  rw [Zay hj, Zay (show j - 1 < S.length by omega)]
  exact (List.pairwise_iff_getElem.1 h2 (j - 1) j (by omega) hj (by omega)).1
theorem Z5x {S : List Fi} (hs : So pc S) (ha : Zn9 S) (hd : ∀ f ∈ S, f.2.length <= 32768) (hl : S.length <= 512) : SoOK S := by
 have free : ∀ i j, i < S.length -> j < S.length -> i ≠ j -> ∀ R, pS S i ≠ pS S j ++ R := by
  intro i j hi hj hij R h
  unfold pS at h
  rw [Zay hi, Zay hj] at h
  have gi := ha.1 _ (List.getElem_mem hi)
  have gj := ha.1 _ (List.getElem_mem hj)
  have hc := (Ze0 gj gi).2 ⟨R, h⟩
  rcases Nat.lt_or_gt_of_ne hij with h' | h'
  ·rw [(List.pairwise_iff_getElem.1 ha.2 i j hi hj h').2] at hc; cases hc
  ·rw [(List.pairwise_iff_getElem.1 ha.2 j i hj hi h').1] at hc; cases hc
 refine ⟨ha.1, hd, hl, fun i j hij hj => ?_, free⟩
 have hi : i < S.length := by omega
 have gi := ha.1 _ (List.getElem_mem hi)
 have gj := ha.1 _ (List.getElem_mem hj)
 have hle := List.pairwise_iff_getElem.1 hs i j hi hj hij
 unfold Le pc pcmp at hle
 rw [Zdl gi, Zdl gj] at hle
 have hne : cmpL (pS S i) (pS S j) ≠ 0 := fun h => free i j hi hj (by omega) [] (by rw [List.append_nil]; exact cmpL_zero.1 h)
 have hsw := Zir (pS S i) (pS S j)
 have e1 : pS S i = Zad 47 S[i].1 := by unfold pS; rw [Zay hi]
 have e2 : pS S j = Zad 47 S[j].1 := by unfold pS; rw [Zay hj]
 rw [<- e1, <- e2] at hle
 omega
abbrev zid : Bytes := List.replicate 32 0
theorem Zld : evp (.cat []) [] = some (.agg []) := rfl
theorem Zmj : evp (.cat [some 32]) [.agg (repl 32 (.int .u8 0))] = some (bl zid) := by rw [Z1f]; exact Zbz (by simp)
section
variable (he : EnvT e) (S : List Fi) (hl : S.length <= 1000000) (hb : ∀ f ∈ S, f.1.length <= 1000000 /\ f.2.length <= 1000000000) (m1 m2 m3 z : V)
include hl
theorem v.build65 : ∀ (n i : Nat), i + n = S.length -> (vl e 10144 65 [I S.length, I S.length, I S.length, I i, m1, m2, m3, z, aggF S] =
  if ∀ f ∈ S.drop i, f.2.length <= 32768 then (vl e 10144 65 [I S.length, I S.length, I S.length, I S.length, m1, m2, m3, z, aggF S]) else some (.tup [bl zid, I 3, m1, m2, m3])) := by
 intro n
 induction n with
 | zero =>
  intro i hi
  rw [if_pos (by rw [List.drop_eq_nil_of_le (by omega)]; simp), show i = S.length by omega]
 | succ n ih =>
  intro i hi
  have hlt : i < S.length := by omega
  have hd := List.drop_eq_getElem_cons hlt
  rw [w.zq26_h0_65]; unfold y.zq26_h0_65
  by_cases hc : 32768 < S[i].2.length
  ·simp only [yy, if_pos (show (i : Int) < (S.length : Int) by omega), Za7 hlt, Zdk hlt, Zcr, Zqv, if_pos (show (32768 : Int) < (S[i].2.length : Int) by omega), Zld, Zmj]
   rw [if_neg (fun h => by have := h S[i] (by rw [hd]; exact List.mem_cons_self); omega)]
  ·simp only [yy, if_pos (show (i : Int) < (S.length : Int) by omega), Za7 hlt, Zdk hlt, Zcr, Zqv, if_neg (show ¬(32768 : Int) < (S[i].2.length : Int) by omega), Zau hlt (by omega)]
   rw [ih (i + 1) (by omega)]
   have : (∀ f ∈ S.drop (i + 1), f.2.length <= 32768) <-> ∀ f ∈ S.drop i, f.2.length <= 32768 := by
    rw [hd]
    exact ⟨fun h f hf => (List.mem_cons.1 hf).elim (fun h => by rw [h]; omega) (h f), fun h f hf => h f (List.mem_cons_of_mem _ hf)⟩
   by_cases hp : ∀ f ∈ S.drop (i + 1), f.2.length <= 32768
   ·rw [if_pos hp, if_pos (this.1 hp)]
   ·rw [if_neg hp, if_neg (fun h => hp (this.2 h))]
include he hb
open Classical in
theorem v.build28 : ∀ (n i : Nat), i + n = S.length -> (vl e 10144 28 [I S.length, I S.length, I S.length, I i, m1, m2, m3, z, aggF S] =
  if ∀ j, j < S.length -> i <= j -> Zhi S j then (vl e 10144 65 [I S.length, I S.length, I S.length, I (0 : Nat), m1, m2, m3, z, aggF S]) else some (.tup [bl zid, I 1, m1, m2, m3])) := by
 intro n
 induction n with
 | zero =>
  intro i hi
  rw [if_pos (fun j h1 h2 => by omega), w.zq26_h0_28]; unfold y.zq26_h0_28
  simp only [yy, if_neg (show ¬(i : Int) < (S.length : Int) by omega)]
  rfl
 | succ n ih =>
  intro i hi
  have hlt : i < S.length := by omega
  have hg := v.Good he S[i].1 (hb _ (List.getElem_mem hlt)).1
  have hih := ih (i + 1) (by omega)
  have cong : Zhi S i -> ((if ∀ j, j < S.length -> i + 1 <= j -> Zhi S j then (vl e 10144 65 [I S.length, I S.length, I S.length, I (0 : Nat), m1, m2, m3, z, aggF S]) else some (.tup [bl zid, I 1, m1, m2, m3])) =
    if ∀ j, j < S.length -> i <= j -> Zhi S j then (vl e 10144 65 [I S.length, I S.length, I S.length, I (0 : Nat), m1, m2, m3, z, aggF S]) else some (.tup [bl zid, I 1, m1, m2, m3])) := by
   intro h0
   have : (∀ j, j < S.length -> i + 1 <= j -> Zhi S j) <-> ∀ j, j < S.length -> i <= j -> Zhi S j := by
    refine ⟨fun h j h1 h2 => ?_, fun h j h1 h2 => h j h1 (by omega)⟩
    rcases Nat.lt_or_eq_of_le h2 with h' | rfl
    ·exact h j h1 h'
    ·exact h0
   by_cases hp : ∀ j, j < S.length -> i + 1 <= j -> Zhi S j
   ·rw [if_pos hp, if_pos (this.1 hp)]
   ·rw [if_neg hp, if_neg (fun h => hp (this.2 h))]
  have bad : ¬ Zhi S i -> some (V.tup [bl zid, I 1, m1, m2, m3]) = if ∀ j, j < S.length -> i <= j -> Zhi S j then (vl e 10144 65 [I S.length, I S.length, I S.length, I (0 : Nat), m1, m2, m3, z, aggF S]) else some (.tup [bl zid, I 1, m1, m2, m3]) := by
   intro h0
   rw [if_neg (fun h => h0 (h i hlt (Nat.le_refl _)))]
  rw [w.zq26_h0_28]; unfold y.zq26_h0_28
  cases hgd : Zc2 S[i].1 with
  | false =>
   rw [hgd] at hg
   rw [<- bad (fun h => by have := h.1; rw [Zay hlt, hgd] at this; cases this)]
   simp only [yy, if_pos (show (i : Int) < (S.length : Int) by omega), Za7 hlt, Zdk hlt, Zcr, Zgq, hg, Zld, Zmj]
  | true =>
   rw [hgd] at hg
   by_cases h0 : 0 < i
   ·have hlt' : i - 1 < S.length := by omega
    obtain ⟨x, hx, _⟩ := v.Under (e := e) S[i - 1].1 S[i].1 (hb _ (List.getElem_mem hlt')).1 (hb _ (List.getElem_mem hlt)).1
    have hl1 : evp (.ldd none 0 2) [aggF S, I (i - 1 : Nat)] = some (.str S[i - 1].1) := Zw0 hlt'
    have p1 := Zny (show 1 <= i by omega) (show i <= 1152921504606846976 by omega)
    cases hu : (Zcw S[i - 1].1 S[i].1).isSome with
    | true =>
     rw [hu] at hx
     rw [<- bad (fun h => by have := h.2 h0; rw [Zay hlt, Zay hlt', Zcm, hu] at this; cases this)]
     simp only [yy, if_pos (show (i : Int) < (S.length : Int) by omega), Za7 hlt, Zdk hlt, Zcr, Zgq, hg, if_pos (show (0 : Int) < (i : Int) by omega), p1, Za7 hlt', hl1, hx, Zld, Zmj]
    | false =>
     rw [hu] at hx
     by_cases heq : S[i - 1].1 = S[i].1
     ·rw [<- bad (fun h => by have := h.2 h0; rw [Zay hlt, Zay hlt', Zcm, decide_eq_true heq, Bool.or_true] at this; cases this)]
      simp only [yy, if_pos (show (i : Int) < (S.length : Int) by omega), Za7 hlt, Zdk hlt, Zcr, Zgq, hg, if_pos (show (0 : Int) < (i : Int) by omega), p1, Za7 hlt', hl1, hx, if_pos heq, Zld, Zmj]
     ·rw [<- cong ⟨by rw [Zay hlt]; exact hgd, fun _ => by rw [Zay hlt, Zay hlt', Zcm, hu, decide_eq_false heq]; rfl⟩, <- hih]
      simp only [yy, if_pos (show (i : Int) < (S.length : Int) by omega), Za7 hlt, Zdk hlt, Zcr, Zgq, hg, if_pos (show (0 : Int) < (i : Int) by omega), p1, Za7 hlt', hl1, hx, if_neg heq, Zau hlt (by omega)]
   ·rw [<- cong ⟨by rw [Zay hlt]; exact hgd, fun h => absurd h h0⟩, <- hih]
    simp only [yy, if_pos (show (i : Int) < (S.length : Int) by omega), Za7 hlt, Zdk hlt, Zcr, Zgq, hg, if_neg (show ¬(0 : Int) < (i : Int) by omega), Zau hlt (by omega)]
end
theorem v.Build (he : EnvT e) (l : List Fi) (hl : l.length <= 1000000) (hb : ∀ f ∈ l, f.1.length <= 1000000 /\ f.2.length <= 1000000000) :
  ∃ (id : Bytes) (p1 p2 : MB), id.length = 32 /\ keyL p1 /\ keyL p2 /\ (whyB l ≠ 0 -> p1 = [] /\ p2 = []) /\ (whyB l = 0 -> ∃ S, S.Perm l /\ SoOK S /\ Tr S [] 0 S.length [] id p1 p2) /\
   ∀ (M1 M2 : MB) (m3 : V), keyL M1 -> keyL M2 -> vl e 10144 1 [Zax l, mv M1, mv M2, m3] = some (.tup [bl id, I (whyB l), mv (Zbq p1 M1), mv (Zbq p2 M2), m3]) := by
 obtain ⟨S, hperm, hso, hsort⟩ := v.sort (v.ord he) l (fun f hf => (hb f hf).1) (by omega)
 have hSl : S.length = l.length := hperm.length_eq
 have hbS : ∀ f ∈ S, f.1.length <= 1000000 /\ f.2.length <= 1000000000 := fun f hf => hb f (hperm.mem_iff.1 hf)
 have start : ∀ (M1 M2 m3 : V), ¬ 512 < l.length -> vl e 10144 1 [Zax l, M1, M2, m3] = vl e 10144 28 [I S.length, I S.length, I S.length, I (0 : Nat), M1, M2, m3, z32, aggF S] := by
  intro M1 M2 m3 hn
  rw [w.zq26_h0]; unfold y.zq26_h0
  simp only [yy, Zgw, if_neg (show ¬(512 : Int) < (l.length : Int) by omega), v.CloneF l hl, hsort]
  rw [hSl]; rfl
 have hall := (Zrk hso).trans ((Zut hperm).trans (Z1v l).symm)
 unfold whyB
 by_cases h512 : 512 < l.length
 ·rw [if_pos h512]
  refine ⟨zid, [], [], by simp, (fun _ h => by cases h), (fun _ h => by cases h), fun _ => ⟨rfl, rfl⟩, fun h => absurd h (by decide), fun M1 M2 m3 _ _ => ?_⟩
  rw [w.zq26_h0]; unfold y.zq26_h0
  simp only [yy, Zgw, if_pos (show (512 : Int) < (l.length : Int) by omega), Zld, Zmj]
  rfl
 rw [if_neg h512]
 have h28 := fun (m1 m2 m3 : V) => v.build28 he S (by omega) hbS m1 m2 m3 z32 S.length 0 (Nat.zero_add _)
 by_cases hok : ∀ i, i < l.length -> okI l i
 rotate_left
 ·rw [if_neg hok]
  refine ⟨zid, [], [], by simp, (fun _ h => by cases h), (fun _ h => by cases h), fun _ => ⟨rfl, rfl⟩, fun h => absurd h (by decide), fun M1 M2 m3 _ _ => ?_⟩
  rw [start _ _ _ h512, h28, if_neg (fun h => hok (hall.1 fun j hj => h j hj (Nat.zero_le _)))]
  rfl
 rw [if_pos hok]
 have hadj : ∀ j, j < S.length -> 0 <= j -> Zhi S j := fun j hj _ => hall.2 hok j hj
 have h65 := fun (m1 m2 m3 : V) => v.build65 (e := e) S (by omega) m1 m2 m3 z32 S.length 0 (Nat.zero_add _)
 by_cases hd : ∀ f ∈ l, f.2.length <= 32768
 rotate_left
 ·rw [if_neg hd]
  refine ⟨zid, [], [], by simp, (fun _ h => by cases h), (fun _ h => by cases h), fun _ => ⟨rfl, rfl⟩, fun h => absurd h (by decide), fun M1 M2 m3 _ _ => ?_⟩
  rw [start _ _ _ h512, h28, if_pos hadj, h65, if_neg (fun h => hd fun f hf => h f (by rw [List.drop_zero]; exact hperm.mem_iff.2 hf))]
  rfl
 rw [if_pos hd]
 have hS : SoOK S := Z5x hso ((Zrk hso).1 fun j hj => hadj j hj (Nat.zero_le _)) (fun f hf => hd f (hperm.mem_iff.1 hf)) (by omega)
 obtain ⟨id, p1, p2, t1, t2, t3, t4, t5⟩ := v.below8 he S hS _ [] 0 S.length [] (Nat.le_refl _) (Nat.zero_le _) (Nat.le_refl _) (fun u hu => by cases hu) (by simp [Zaq]) (fun i _ hi => ⟨pS S i, Zba _ _, rfl⟩) { nm := (fun _ h => by cases h), id := (fun _ h => by cases h), up := .nil, len := by simp } (by simp; omega) (fun en hen => by cases hen)
 refine ⟨id, p1, p2, t2, t3, t4, fun h => absurd rfl h, fun _ => ⟨S, hperm, hS, t1⟩, fun M1 M2 m3 k1 k2 => ?_⟩
 rw [start _ _ _ h512, h28, if_pos hadj, h65, if_pos (fun f hf => hd f (hperm.mem_iff.1 (by rw [List.drop_zero] at hf; exact hf)))]
 have hb8 := t5 M1 M2 m3 z32 k1 k2
 have hrec : vl e 10336 1 [.str [], I (0 : Nat), I S.length, aggF S, mv M1, mv M2, m3] = some (.tup [bl id, I 0, aggF S, mv (Zbq p1 M1), mv (Zbq p2 M2), m3]) := by
  rw [w.zq33_h0]; unfold y.zq33_h0
  exact hb8
 rw [w.zq26_h0_65]; unfold y.zq26_h0_65
 simp only [yy, if_neg (show ¬(S.length : Int) < (S.length : Int) by omega)]
 rw [show V.int .i64 0 = I (0 : Nat) from rfl, hrec]
 simp only [yy, Zbz t2]
end Go.Proofs.YtpmgdngjbdkdfaaDoor
namespace Go.Proofs.YtpmgdngjbdkdfaaDoor
open Go.Abs
set_option maxRecDepth 10000
variable {e : Ev}
theorem v.New : vl e 10128 1 [] = some (.tup [mv [], mv [], mv []]) := by
 rw [w.zq64_h0]; rfl
theorem v.Size (M1 M2 M3 : MB) (h : M1.length + M2.length + M3.length <= 1000000000) : vl e 10176 1 [mv M1, mv M2, mv M3] = some (.tup [I (M1.length + M2.length + M3.length : Nat), mv M1, mv M2, mv M3]) := by
 rw [w.zq31_h0]; unfold y.zq31_h0
 simp only [yy, Z6n, Zdr (show M1.length + M2.length <= _ by omega), Zdr (show M1.length + M2.length + M3.length <= _ by omega)]
theorem Zra (x : Bytes) : evp .scs [bl x] = some (bl x) := if_pos (Zxw x)
theorem Zzp {x : Bytes} (h : x.length = 32) : evp (.ld (some 32) 0) [bl x] = some (bl x) := by
 show Zaj (some 32) (bl x).cells 0 = _
 have : (bl x).cells.length = 32 := by simp [V.cells, h]
 simp only [Zaj]
 rw [if_pos (by omega), List.drop_zero, List.take_of_length_le (by omega)]; rfl
theorem Z54 : Za8 [] = [0, 0, 0, 0, 0, 0, 0, 0] := by decide
theorem v.Read0 : ∀ (n i : Nat), i + n = 8 -> vl e 57 18 [.str [0, 0, 0, 0, 0, 0, 0, 0], .int .u64 0, I i] = some (.tup [I 0, .bool true]) := by
 intro n
 induction n with
 | zero =>
  intro i hi
  rw [w.zq4_18]; unfold y.zq4_18
  simp only [yy, if_neg (show ¬((i : Int) < 8) by omega)]
  rfl
 | succ n ih =>
  intro i hi
  have hx : ([0, 0, 0, 0, 0, 0, 0, 0] : Bytes)[i]? = some 0 := by
   have : i = 0 \/ i = 1 \/ i = 2 \/ i = 3 \/ i = 4 \/ i = 5 \/ i = 6 \/ i = 7 := by omega
   rcases this with rfl | rfl | rfl | rfl | rfl | rfl | rfl | rfl <;> rfl
  have h1 : evp (.bin .shl .no) [.int .u64 0, .int .u64 8] = some (.int .u64 0) := rfl
  have h2 : evp (.i2i .u64) [byteV 0] = some (.int .u64 0) := rfl
  have h3 : evp (.bin .or .no) [.int .u64 0, .int .u64 0] = some (.int .u64 0) := rfl
  rw [w.zq4_18]; unfold y.zq4_18
  simp only [yy, if_pos (show (i : Int) < 8 by omega), h1, Zkz hx, h2, h3, Zau (show i < 8 by omega) (by omega)]
  exact ih (i + 1) (by omega)
theorem v.Get0 (he : EnvT e) : vl e 25 0 [.str (Za8 [])] = some (.tup [entV [], I 0]) := by
 rw [Z54]
 have hr : vl e 57 0 [.str [0, 0, 0, 0, 0, 0, 0, 0]] = some (.tup [I 0, .bool true]) := by
  rw [w.zq4]; unfold y.zq4
  simp only [yy, List.length_cons, List.length_nil]
  exact v.Read0 8 0 rfl
 have hs : vl e 40 0 [.str [0, 0, 0, 0, 0, 0, 0, 0]] = some (.tup [strs [], I 0]) := by
  rw [w.zq5]; unfold y.zq5
  have q0 : evp (.len true) [.str [0, 0, 0, 0, 0, 0, 0, 0]] = some (.int .i64 8) := rfl
  have q1 : evp (.bin .quo .no) [.int .i64 8, .int .i64 8] = some (.int .i64 1) := rfl
  have q3 : evp (.mnx false) [I 0, .int .i64 4096] = some (I 0) := rfl
  have q4 : evp (.mks 1) [.int .i64 0, I 0] = some (strs []) := rfl
  have q5 : evp (.sls true false) [.str [0, 0, 0, 0, 0, 0, 0, 0], .int .i64 8] = some (.str []) := rfl
  have h17 : vl e 40 17 [.str [0, 0, 0, 0, 0, 0, 0, 0], I 0, .bool false] = some (.tup [strs [], I 0]) := by
   rw [w.zq5_17]; unfold y.zq5_17
   simp only [vif, pr, q3, q4, q5, Option.bind_some]
   rw [w.zq5_30]; rfl
  simp only [pr, ca, q0, q1, hr, Option.bind_some]
  exact h17
 have h9 : vl e 25 9 [strs [], .bool false] = some (.tup [entV [], I 0]) := by
  rw [w.zq11_9]
  show vl e 25 18 [strs [], entV []] = _
  have h42 := v.GoodTree he [] { nm := (fun _ h => by cases h), id := (fun _ h => by cases h), up := .nil, len := by simp }
  rw [w.zq11_18]; unfold y.zq11_18
  simp only [yy, Zor, List.length_nil, h42]
  rfl
 rw [w.zq11]; unfold y.zq11
 simp only [pr, ca, hs, Option.bind_some]
 exact h9
theorem why0 : whyB [] = 0 := by
 unfold whyB
 rw [if_neg (by simp), if_pos (fun i hi => by simp at hi), if_pos (by simp)]
theorem v.alive08 (he : EnvT e) : vl e 6 0 [] = some (.bool true) := by
 obtain ⟨id, p1, p2, t1, t2, t3, t4, t5, t6⟩ := v.Build he [] (by simp) (by simp)
 rw [why0] at t6
 obtain ⟨S, s1, s2, s3⟩ := t5 why0
 have hS : S = [] := List.perm_nil.1 s1
 subst hS
 obtain ⟨hid, hp1, hp2⟩ : id = Zbp Zb4 (Za8 []) /\ p1 = [] /\ p2 = [(Zbp Zb4 (Za8 []), Za8 [])] := by
  simp only [List.length_nil] at s3
  cases s3 with
  | done => exact ⟨rfl, rfl, rfl⟩
  | blob hab _ _ => omega
  | dir hk hkb _ _ _ _ => omega
 subst hid hp1 hp2
 have k0 : keyL [] := fun _ h => by cases h
 have x1 := t6 [] [] (mv []) k0 k0
 have e1 : Zbq [] [] = [] := rfl
 have e2 : Zbq [(Zbp Zb4 (Za8 []), Za8 [])] [] = [(Zbp Zb4 (Za8 []), Za8 [])] := rfl
 rw [e1, e2] at x1
 have x2 := v.PutTree he [] { nm := (fun _ h => by cases h), id := (fun _ h => by cases h), up := .nil, len := by simp } (mv []) (mv []) [(Zbp Zb4 (Za8 []), Za8 [])] t3
 have e3 : putM [(Zbp Zb4 (Za8 []), Za8 [])] (Zbp Zb4 (Za8 [])) (Za8 []) = [(Zbp Zb4 (Za8 []), Za8 [])] := by simp [putM]
 rw [e3] at x2
 have hg := Z57 (M := [(Zbp Zb4 (Za8 []), Za8 [])]) (k := Zbp Zb4 (Za8 [])) t3 t1
 have e4 : getM [(Zbp Zb4 (Za8 []), Za8 [])] (Zbp Zb4 (Za8 [])) = some (Za8 []) := by simp [getM]
 rw [e4] at hg
 simp only [Option.getD_some, Option.isSome_some] at hg
 have ht : vl e 10208 1 [bl (Zbp Zb4 (Za8 [])), mv [], mv [(Zbp Zb4 (Za8 []), Za8 [])], mv []] = some (.tup [entV [], I 0, mv [], mv [(Zbp Zb4 (Za8 []), Za8 [])], mv []]) := by
  rw [w.zq32_h0]; unfold y.zq32_h0
  simp only [yy, Zra, Zzp t1, hg, v.Get0 he]
 have hd : vl e 10384 1 [.str [], bl (Zbp Zb4 (Za8 [])), I 1, .sl false 33 [], I 4096, mv [], mv [(Zbp Zb4 (Za8 []), Za8 [])], mv []] = some (.tup [I 0, .sl false 33 [], I 4096, mv [], mv [(Zbp Zb4 (Za8 []), Za8 [])], mv []]) := by
  rw [w.zq34_h0]; unfold y.zq34_h0
  simp only [yy, Zra, Zzp t1, if_neg (show ¬(16 : Int) < 1 by omega), ht, Zp4]
  rw [w.zq34_h0_26]; unfold y.zq34_h0_26
  simp only [yy, List.length_nil]
  rfl
 have hf : vl e 10192 1 [bl (Zbp Zb4 (Za8 [])), mv [], mv [(Zbp Zb4 (Za8 []), Za8 [])], mv []] = some (.tup [.sl false 33 [], I 0, mv [], mv [(Zbp Zb4 (Za8 []), Za8 [])], mv []]) := by
  rw [w.zq28_h0]; unfold y.zq28_h0
  simp only [yy, Zra, Zzp t1, hd]
  rfl
 have hz := v.Size (e := e) [] [(Zbp Zb4 (Za8 []), Za8 [])] [] (by simp)
 have n0 : V.sl false 2 [] = Zax [] := rfl
 have n1 : V.sl false 34 [] = entV [] := rfl
 rw [w.zq37]; unfold y.zq37
 rw [n0, n1]
 simp only [yy, v.New, x1, Zbz t1, x2, hf, Z1b t1 t1]
 simp only [if_true, List.length_nil, Int.natCast_zero, Int.cast_ofNat_Int]
 rw [hz]
 rfl
theorem Z25 {l : List Fi} {n : Nat} (h : l.length <= n) (hn : n <= 1000) (h2 : ∀ f ∈ l, f.1.length + f.2.length <= 4096) : l.length <= 1000000 /\ ∀ f ∈ l, f.1.length <= 1000000 /\ f.2.length <= 1000000000 :=
 ⟨by omega, fun f hf => by have := h2 f hf; omega⟩
end Go.Proofs.YtpmgdngjbdkdfaaDoor
namespace Go.Proofs.YtpmgdngjbdkdfaaDoor
open Go.Abs
set_option maxRecDepth 10000
variable {e : Ev}
theorem Zkw : ∀ (ps M : MB), (Zbq ps M).length <= ps.length + M.length
 | [], M => by show M.length <= _; omega
 | p :: r, M => by
  have := Zkw r (putM M p.1 p.2)
  have h1 : (putM M p.1 p.2).length <= M.length + 1 := by
   rw [Ze8, Ze8 M, Zdv]; split <;> simp
  show (Zbq r (putM M p.1 p.2)).length <= _
  simp only [List.length_cons]; omega
theorem Z14 {S : List Fi} {D : List Bytes} {a b : Nat} {ls : List En} {id : Bytes} {p1 p2 : MB} (h : Tr S D a b ls id p1 p2) : a <= b /\ p1.length <= b - a := by
 induction h with
 | done => simp
 | blob hab hx h ih => simp only [List.length_cons]; omega
 | dir hk hkb hrun hstop h1 h2 ih1 ih2 => simp only [List.length_append]; omega
theorem Zy0 {S : List Fi} (h16 : ∀ i, i < S.length -> (pS S i).length <= 16) {D : List Bytes} {a b : Nat} {ls : List En} {id : Bytes} {p1 p2 : MB} (h : Tr S D a b ls id p1 p2) : b <= S.length -> (∀ i, a <= i -> i < b -> D.length < (pS S i).length) -> p2.length <= 1 + (b - a) * (16 - D.length) := by
 induction h with
 | done => intro _ _; simp
 | @blob D a b ls x id p1 p2 hab hx h ih =>
  intro hb hi
  have := ih hb fun i h1 h2 => hi i (by omega) h2
  have h3 : b - a = (b - (a + 1)) + 1 := by omega
  rw [h3, Nat.add_mul]; omega
 | @dir D a b k ls x id id1 p1 p2 q1 q2 hk hkb hrun hstop h1 h2 ih1 ih2 =>
  intro hb hi
  have r1 := ih1 (by omega) fun i k1 k2 => by
   obtain ⟨R, hR, hs⟩ := hrun i k1 k2
   have := List.length_pos_iff.2 hR
   rw [hs]; simp; omega
  have r2 := ih2 hb fun i k1 k2 => hi i (by omega) k2
  have ha := hi a (Nat.le_refl _) (by omega)
  have ha2 := h16 a (by omega)
  simp only [List.length_append, List.length_cons, List.length_nil] at r1 ⊢
  have e1 : a + k - a = k := by omega
  have e2 : b - a = k + (b - (a + k)) := by omega
  have e3 : 16 - D.length = (16 - (D.length + (0 + 1))) + 1 := by omega
  rw [e1] at r1
  rw [e2, Nat.add_mul]
  have e4 : k * (16 - D.length) = k * (16 - (D.length + (0 + 1))) + k := by rw [e3, Nat.mul_succ]
  omega
theorem v.Build0 (he : EnvT e) (l : List Fi) (hl : l.length <= 1000000) (hb : ∀ f ∈ l, f.1.length <= 1000000 /\ f.2.length <= 1000000000) (h0 : whyB l = 0) :
  ∃ (id : Bytes) (p1 p2 : MB), id.length = 32 /\ keyL p1 /\ keyL p2 /\ p1.length <= 512 /\ p2.length <= 10000 /\
   ∀ (M1 M2 : MB) (m3 : V), keyL M1 -> keyL M2 -> vl e 10144 1 [Zax l, mv M1, mv M2, m3] = some (.tup [bl id, I 0, mv (Zbq p1 M1), mv (Zbq p2 M2), m3]) := by
 obtain ⟨id, p1, p2, t1, t2, t3, t4, t5, t6⟩ := v.Build he l hl hb
 obtain ⟨S, s1, s2, s3⟩ := t5 h0
 have hlen := s2.len
 have k1 := (Z14 s3).2
 have k2 := Zy0 (fun i hi => by
  have := s2.good _ (List.getElem_mem hi)
  simp only [Zc2, Bool.and_eq_true, decide_eq_true_eq] at this
  unfold pS; rw [Zay hi]; exact this.1.2) s3 (Nat.le_refl _) (fun i _ hi => by
   have := List.length_pos_iff.2 (Zba 47 (S.getD i ([], [])).1)
   simpa [pS] using this)
 rw [h0] at t6
 refine ⟨id, p1, p2, t1, t2, t3, by omega, ?_, t6⟩
 simp only [List.length_nil] at k2
 omega
theorem q.treeShares (he : EnvT e) (a b : List Fi) (ha : a.length <= 1000000000 /\ ∀ f ∈ a, f.1.length <= 1000000000 /\ f.2.length <= 1000000000) (hb : b.length <= 1000000000 /\ ∀ f ∈ b, f.1.length <= 1000000000 /\ f.2.length <= 1000000000) :
  vl e 4 0 [Zax a, Zax b] = some (.bool true) := by
 have t15 : vl e 4 15 [Zax a, Zax b, .bool true] = some (.bool true) := by
  rw [w.zq36_15]; rfl
 obtain ⟨g1, hg1, hs1⟩ := v.great (e := e) a ha.1 ha.2 40 4096 (by omega)
 obtain ⟨g2, hg2, hs2⟩ := v.great (e := e) b hb.1 hb.2 40 4096 (by omega)
 rw [w.zq36]; unfold y.zq36
 cases g1 with
 | true => simp only [yy, v.alive08 he]; simp only [show V.int .i64 40 = I (40 : Nat) from rfl, show V.int .i64 4096 = I (4096 : Nat) from rfl, hg1, yy]; exact t15
 | false =>
 cases g2 with
 | true => simp only [yy, v.alive08 he]; simp only [show V.int .i64 40 = I (40 : Nat) from rfl, show V.int .i64 4096 = I (4096 : Nat) from rfl, hg1, hg2, yy]; exact t15
 | false =>
 obtain ⟨la, ba⟩ := Z25 (hs1 rfl).1 (by omega) (hs1 rfl).2
 obtain ⟨lb, bb⟩ := Z25 (hs2 rfl).1 (by omega) (hs2 rfl).2
 have wa := v.why (e := e) a la ba
 have wb := v.why (e := e) b lb bb
 simp only [yy, v.alive08 he]
 simp only [show V.int .i64 40 = I (40 : Nat) from rfl, show V.int .i64 4096 = I (4096 : Nat) from rfl, hg1, hg2, wa, wb, yy]
 by_cases h1 : whyB a = 0
 rotate_left
 ·rw [if_neg h1]; exact t15
 rw [if_pos h1]
 by_cases h2 : whyB b = 0
 rotate_left
 ·simp only [decide_eq_false h2, yy]; exact t15
 simp only [decide_eq_true h2, yy]
 obtain ⟨id, p1, p2, a1, a2, a3, a4, a5, a6⟩ := v.Build0 he a la ba h1
 obtain ⟨id', q1, q2, b1, b2, b3, b4, b5, b6⟩ := v.Build0 he b lb bb h2
 have k0 : keyL [] := fun _ h => by cases h
 have u1 := Zcn a2 k0
 have u2 := Zcn a3 k0
 have w1 := Zcn b2 k0
 have w2 := Zcn b3 k0
 have x1 := a6 [] [] (mv []) k0 k0
 have x2 := a6 _ _ (mv []) u1 u2
 have x3 := b6 [] [] (mv []) k0 k0
 have x4 := a6 _ _ (mv []) w1 w2
 have n1 := Zkw p1 []
 have n2 := Zkw p2 []
 have n3 : (Zbq p1 (Zbq p1 [])).length = (Zbq p1 []).length := by
  rw [Ze8, Zgf (fun c hc => Zh3 (.inr hc)), <- Ze8]
 have n4 : (Zbq p2 (Zbq p2 [])).length = (Zbq p2 []).length := by
  rw [Ze8, Zgf (fun c hc => Zh3 (.inr hc)), <- Ze8]
 simp only [List.length_nil, Nat.add_zero] at n1 n2
 have z1 := v.Size (e := e) (Zbq p1 []) (Zbq p2 []) [] (by simp only [List.length_nil]; omega)
 have z2 := v.Size (e := e) (Zbq p1 (Zbq p1 [])) (Zbq p2 (Zbq p2 [])) [] (by rw [n3, n4]; simp only [List.length_nil]; omega)
 rw [n3, n4] at z2
 have t31 : vl e 4 31 [Zax a, Zax b, .bool false, bl id, mv [], mv [], mv []] = some (.bool true) := by
  rw [w.zq36_31]; unfold y.zq36_31
  simp only [yy, x3, x4, Zbz a1, Z1b a1 a1]
  simp
 rw [w.zq36_15]; unfold y.zq36_15
 simp only [yy, v.New, x1, z1, x2, Zbz a1, Z68 a1 a1, z2]
 simp only [decide_true, Bool.not_true, yy]
 exact t31
end Go.Proofs.YtpmgdngjbdkdfaaDoor
namespace Go.Proofs.YtpmgdngjbdkdfaaDoor
open Go.Abs
structure T.File where
 Path : Bytes
 Data : Bytes
 deriving DecidableEq
def C.File (x : T.File) : List V := [(V.str x.Path)] ++ [(V.str x.Data)]
def E.File (x : T.File) : V := .agg (C.File x)
theorem E.File_clean (x : T.File) : (E.File x).clean = true := (Za9 (Zez rfl rfl) (Zez rfl rfl))
def E.LFile (l : (List T.File)) : V := .sl false 2 (l.map E.File)
end Go.Proofs.YtpmgdngjbdkdfaaDoor
namespace Go.Proofs.YtpmgdngjbdkdfaaDoor
open Go.ChangeShapes Go.WideShapes Go.RowKit Go.Abs
theorem ownK : ownKnob Tryd.prog.godebug = none := by kernel_rfl
theorem kids : Kids Tryd.prog (· < Tryd.prog.types.size) := kids_rows (by kernel_rfl) (by kernel_rfl)
theorem full : ∀ t e, t < Tryd.prog.types.size -> Tryd.prog.underlying t = some (.slice e) -> 0 < Tryd.prog.cellsOf e := slices_full_of Tryd.prog (by kernel_rfl)
section
variable {P : Program} {m : Nat} {t e : TypeId} {vs : List V}
theorem Z2q (hu : P.underlying t = some .string) (h : HasT P (m + 1) t vs) : ∃ x : Bytes, nfL vs = [V.str x] := by
 simp only [HasT, hu] at h
 obtain ⟨b, rfl⟩ := h; exact ⟨b, rfl⟩
theorem Z6d {α : Type} {E : α -> V} {c : Nat} (hu : P.underlying t = some (.slice e)) (hc : P.cellsOf e = c) (he : ∀ ws, HasT P m e ws -> ∃ x, (elV P e ws).nf = E x) (h : HasT P (m + 1) t vs) : ∃ l : List α, nfL vs = [V.sl false c (l.map E)] := by
 simp only [HasT, hu, hc] at h
 rcases h with rfl | ⟨xs, rfl, hx⟩
 ·exact ⟨[], rfl⟩
 ·have : ∃ l : List α, nfL xs = l.map E := by
   clear hc
   induction xs with
   | nil => exact ⟨[], rfl⟩
   | cons x r ih =>
    obtain ⟨l, hl⟩ := ih fun y hy => hx y (by simp [hy])
    obtain ⟨ws, hw, rfl⟩ := hx x (by simp)
    obtain ⟨a, ha⟩ := he ws hw
    exact ⟨a :: l, by rw [nfL, ha, hl]; rfl⟩
  obtain ⟨l, hl⟩ := this
  exact ⟨l, by show [V.sl false c (nfL xs)] = _; rw [hl]⟩
theorem Z19 (ha : Zdu P t = true) {l : List V} (h : nfL vs = l) : (elV P t vs).nf = .agg l := by
 unfold elV; rw [if_pos ha]; show V.agg (nfL vs) = _; rw [h]
theorem Zw8 (ha : Zdu P t = false) {v : V} (h : nfL vs = [v]) : (elV P t vs).nf = v := by
 unfold elV; rw [if_neg (by simp [ha])]
 cases vs with
 | nil => cases h
 | cons x r => rw [nfL] at h; exact (List.cons.inj h).1
theorem nfL_flat : ∀ {wss : List (List V)}, nfL wss.flatten = (wss.map nfL).flatten
 | [] => rfl
 | w :: r => by rw [List.flatten_cons, Zbk, nfL_flat]; rfl
end
mutual
theorem Z3s : ∀ v : V, v.nf.wt <= v.wt
 | .agg cs => by simp only [V.nf, V.wt]; have := Zsr cs; omega
 | .sl true sz [] => by simp [V.nf, V.wt]
 | .sl true _ (x :: xs) => by simp [V.nf, V.wt]
 | .sl false sz xs => by simp only [V.nf, V.wt]; have := Zsr xs; omega
 | .el cs off => by simp [V.nf, V.wt]
 | .tup cs => by simp [V.nf, V.wt]
 | .fn f cs => by simp [V.nf, V.wt]
 | .mfn f cs => by simp [V.nf, V.wt]
 | .iface t v => by simp [V.nf, V.wt]
 | .bool b => Nat.le_refl _
 | .int k n => Nat.le_refl _
 | .str s => Nat.le_refl _
 | .osl a b c d e => Nat.le_refl _
 | .gp g o => Nat.le_refl _
 | .ptr i o => Nat.le_refl _
 | .nilptr => Nat.le_refl _
 | .map i => Nat.le_refl _
 | .nilmap => Nat.le_refl _
 | .nilfn => Nat.le_refl _
 | .nilif => Nat.le_refl _
theorem Zsr : ∀ l : List V, wtL (nfL l) <= wtL l
 | [] => Nat.le_refl _
 | v :: r => by simp only [nfL, wtL]; have := Z3s v; have := Zsr r; omega
end
theorem Z20 {v w : V} {n : Nat} (h : v.nf = w) (hn : v.wt <= n) : w.wt <= n := by rw [<- h]; exact Nat.le_trans (Z3s v) hn
theorem Z6z {α : Type} {E : α -> V} {c : Nat} {l : List α} {n : Nat} (h : (V.sl false c (l.map E)).wt <= n) : l.length <= n /\ ∀ a ∈ l, (E a).wt <= n := by
 simp only [V.wt] at h
 refine ⟨by have := Zqu (l.map E); simp at this; omega, fun a ha => ?_⟩
 have := Zug (List.mem_map_of_mem (f := E) ha)
 omega
theorem Zwx {s : Bytes} {n : Nat} (h : (V.str s).wt <= n) : s.length <= n := by simp only [V.wt] at h; omega
theorem Zwu {cs : List V} {v : V} {n : Nat} (h : (V.agg cs).wt <= n) (hv : v ∈ cs) : v.wt <= n := by
 simp only [V.wt] at h
 have := Zug hv; omega
end Go.Proofs.YtpmgdngjbdkdfaaDoor
namespace Go.Proofs.YtpmgdngjbdkdfaaDoor
open Go.Abs
variable {e : Ev}
def fiOf (x : T.File) : Fi := (x.Path, x.Data)
theorem Zpq (l : List T.File) : E.LFile l = Zax (l.map fiOf) := by
 unfold E.LFile Zax
 rw [List.map_map]; rfl
theorem Zo0 {l : List T.File} (h : (E.LFile l).wt <= 1048576) : (l.map fiOf).length <= 1000000000 /\ ∀ f ∈ l.map fiOf, f.1.length <= 1000000000 /\ f.2.length <= 1000000000 := by
 obtain ⟨h1, h2⟩ := Z6z (E := E.File) h
 refine ⟨by rw [List.length_map]; omega, fun f hf => ?_⟩
 obtain ⟨x, hx, rfl⟩ := List.mem_map.1 hf
 have h3 := h2 x hx
 have a1 := Zwx (Zwu h3 (v := .str x.Path) (by simp [C.File]))
 have a2 := Zwx (Zwu h3 (v := .str x.Data) (by simp [C.File]))
 exact ⟨by show x.Path.length <= _; omega, by show x.Data.length <= _; omega⟩
theorem Zk8 (he : EnvT e) (a b : List T.File) (ha : (E.LFile a).wt <= 1048576) (hb : (E.LFile b).wt <= 1048576) : vl e 4 0 [E.LFile a, E.LFile b] = some (.bool true) := by
 rw [Zpq, Zpq]
 exact q.treeShares he _ _ (Zo0 ha) (Zo0 hb)
end Go.Proofs.YtpmgdngjbdkdfaaDoor
namespace Go.Proofs.YtpmgdngjbdkdfaaDoor
open Go.Abs Go.RowKit
def exts : List FC := [K.strings_Split, K.strings_Contains, K.strings_Join]
theorem Zyo (w : World) (hw : EnvOK w) : ∀ c ∈ exts, c.Holds (cxD w) := by
 intro c hc
 simp only [exts, List.mem_cons, List.not_mem_nil, or_false] at hc
 rcases hc with rfl | rfl | rfl
 ·exact H.strings_Split w hw
 ·exact H.strings_Contains w hw
 ·exact H.strings_Join w hw
theorem Zwl : ∀ c ∈ exts, cfg.ow c.f = true -> c.own = true := by
 intro c hc h
 simp only [exts, List.mem_cons, List.not_mem_nil, or_false] at hc
 rcases hc with rfl | rfl | rfl
 ·rfl
 ·exact absurd h (by rw [show cfg.ow K.strings_Contains.f = false by kernel_rfl]; decide)
 ·exact absurd h (by rw [show cfg.ow K.strings_Join.f = false by kernel_rfl]; decide)
theorem envX : EnvT (Zqs exts) where
 split s c hs := Zki (cs := exts) (c := K.strings_Split) rfl ⟨(s, [c]), Zad c s, rfl, by simp [g.strings_Split, hs], rfl⟩
 contains s c hs := Zki (cs := exts) (c := K.strings_Contains) rfl ⟨(s, [c]), decide (c ∈ s), rfl, by simp [g.strings_Contains, hs], rfl⟩
 join l s hl hj := Zki (cs := exts) (c := K.strings_Join) rfl ⟨(l, s), Zgd s l, rfl, by simp only [g.strings_Join, Zk9]; rw [if_pos ⟨hl, hj⟩], rfl⟩
end Go.Proofs.YtpmgdngjbdkdfaaDoor
namespace Go.Proofs.YtpmgdngjbdkdfaaDoor
open Go.Abs Go.RowKit Go.ChangeShapes Go.WideShapes
section
variable {P : Program} {w : World}
theorem Zpd {n : String} {d : DataW Unit} : ∀ {l : List (String × DataW Unit)} {ps : List MemPlace}, DataW.LaidVars P w l ps -> (n, d) ∈ l ->
  ∃ g t cs fuel p, P.globalNamed n = some g /\ (P.globals[g]?).map (·.type) = some t /\ w.var? P n = some cs /\ DataW.trod (fun _ => ()) P w 0 (fun _ => true) false fuel t cs.toList = some (d, p)
 | [], _, _, h => by cases h
 | (m, c) :: r, ps, hl, h => by
  obtain ⟨g, t, cs, fuel, p, q, h1, h2, h3, h4, h5, _⟩ := hl
  rcases List.mem_cons.1 h with e | h
  ·cases e; exact ⟨g, t, cs, fuel, p, h1, h2, h3, h4⟩
  ·exact Zpd h5 h
theorem Zq6 {n : String} {g : Nat} {cs : Array Value} (hg : P.globalNamed n = some g) (h : w.var? P n = some cs) : ∃ t x, w.heap[g]? = some (.cells cs t x) := by
 unfold World.var? at h
 rw [hg, Option.bind_some] at h
 split at h
 ·rename_i c t x hx; cases h; exact ⟨t, x, hx⟩
 ·cases h
theorem trod_int {enc : TypeId × Value -> Unit} {held : Bool} {fuel : Nat} {e : TypeId} {k k' : IntKind} {cs : List Value} {n : Int} {p : List MemPlace} (he : P.underlying e = some (.int k)) (h : DataW.trod enc P w 0 (fun _ => true) held fuel e cs = some (.lit (.int k' n), p)) : cs = [.int k n] /\ k' = k := by
 cases fuel with
 | zero => simp [DataW.trod] at h
 | succ m =>
  unfold DataW.trod at h
  rw [he] at h
  split at h <;> simp_all
theorem Zzw {laid : List (String × DataW Unit)} {n : String} {d : DataW Unit} {g : Nat} {t e : TypeId} {k : IntKind} {m : Nat} (ns : List Int) (h : laidMet P laid w) (hm : (n, d) ∈ laid) (hg : P.globalNamed n = some g) (ht : (P.globals[g]?).map (·.type) = some t)
  (hu : P.underlying t = some (.array m e)) (he : P.underlying e = some (.int k)) (hc : P.cellsOf e = 1) (hct : P.cellsOf t = ns.length) (hd : d = .agg (ns.map fun i => .lit (.int k i))) : Row w (G0 w) (fun _ => none) (ns.map (V.int k)) g 0 /\ (ns.map (V.int k)).length <= G0 w g := by
 obtain ⟨ps, hl, _, _⟩ := h
 obtain ⟨g', t', cs, fuel, p, h1, h2, h3, h4⟩ := Zpd hl hm
 rw [hg] at h1; cases h1
 rw [ht] at h2; cases h2
 obtain ⟨t1, x1, hh⟩ := Zq6 hg h3
 obtain ⟨xs, fu, _, hx, hlen, hxl, hel⟩ := DataW.trod_array hu h4
 have hxs : xs.map (·.1) = ns.map fun i => (DataW.lit (.int k i) : DataW Unit) := by
  have := (Prod.mk.inj hx).1
  rw [hd] at this
  exact (DataW.agg.inj this).symm
 have hnl : xs.length = ns.length := by have := congrArg List.length hxs; simpa using this
 have hsz : cs.size = ns.length := by rw [<- hct, <- hlen]; simp
 have hcell : ∀ i, (hi : i < ns.length) -> cs[i]? = some (.int k ns[i]) := by
  intro i hi
  have h5 := hel i (by omega)
  rw [hc, Nat.mul_one, List.getElem?_eq_getElem (by omega)] at h5
  have h6 : xs[i].1 = DataW.lit (.int k ns[i]) := by
   have h7 : (xs.map (·.1))[i]? = (ns.map fun i => (DataW.lit (.int k i) : DataW Unit))[i]? := by rw [hxs]
   rw [List.getElem?_map, List.getElem?_map, List.getElem?_eq_getElem (by omega), List.getElem?_eq_getElem hi] at h7
   simpa using h7
  obtain ⟨h8, _⟩ := trod_int (n := ns[i]) (p := xs[i].2) (k' := k) he (by rw [h5]; exact congrArg some (Prod.ext h6 rfl))
  have hi' : i < cs.toList.length := by simp; omega
  rw [List.drop_eq_getElem_cons hi', List.take_succ_cons, List.take_zero] at h8
  have h9 := (List.cons.inj h8).1
  rw [Array.getElem?_eq_getElem (by omega)]
  simpa using h9
 refine ⟨⟨fun c hc => ?_, fun i c hc => ?_⟩, ?_⟩
 ·obtain ⟨j, _, rfl⟩ := List.mem_map.1 hc; rfl
 ·rw [List.getElem?_map] at hc
  obtain ⟨j, hj, rfl⟩ := Option.map_eq_some_iff.1 hc
  obtain ⟨hi, hj⟩ := List.getElem?_eq_some_iff.1 hj
  refine ⟨.int k j, ?_, .int k j⟩
  rw [Nat.zero_add]
  simp only [World.cell?, hh]
  rw [<- hj]; exact hcell i hi
 ·simp only [List.length_map, G0, hh]; omega
end
noncomputable def cxG (gls : Nat -> Option (List V)) (w : World) : Cx := ⟨Tryd.prog, w, gls⟩
theorem Z3t {gls : Nat -> Option (List V)} {w W : World} {G : Nat -> Nat} (h : OKW (cxG gls w) W G) : OKW (cxD w) W G := ⟨h.below, h.Glo, h.Gz⟩
theorem Z5c {gls : Nat -> Option (List V)} {w : World} {f : FuncId} {args : List V} {r : V × Bool} (h : PC (cxD w) f args r) : PC (cxG gls w) f args r := ⟨h.1, fun W G φ xs ho hr => h.2 W G φ xs (Z3t ho) hr⟩
theorem Zyc {gls : Nat -> Option (List V)} {w : World} {c : FC} (h : c.Holds (cxD w)) : c.Holds (cxG gls w) := fun args y hr => by
 obtain ⟨v, o, h1, h2⟩ := h args y hr
 exact ⟨v, o, Z5c h1, h2⟩
theorem Z2h {laid : List (String × DataW Unit)} {w : World} (h : laidMetH Tryd.prog laid w) (hn : (laid.filter fun x => x.2.handleName?.isSome) = []) : laidMet Tryd.prog laid w := by
 unfold laidMetH at h
 rw [hn] at h; exact h
end Go.Proofs.YtpmgdngjbdkdfaaDoor
