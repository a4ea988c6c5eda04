/-
  Parts of the proof, one behind the other. Own work of this seat; some printed by its programs.
-/
import Derived.Test.YtpmgdngjbdkdfaaDoorM4
import Derived.Test.YtpmgdngjbdkdfaaDoorM3
import Derived.Test.YtpmgdngjbdkdfaaDoorCards
import Derived.Test.YtpmgdngjbdkdfaaDoorTie
import Derived.ProofKit
import Derived.OpenShut
import Derived.Deep.DeepHandedRow
import Derived.Lib.LaidTab
namespace Go.Proofs.YtpmgdngjbdkdfaaDoor
open Go.Abs
set_option maxRecDepth 10000
variable {e : Ev}
def padN (k : Nat) : Nat := (119 - k % 64) % 64
def padB (n : Nat) (r : Bytes) : Bytes := r ++ (128 :: (List.replicate (padN r.length) 0 ++ lenB n))
def Zla (K : List W32) : Nat -> Bytes -> List W32 -> List W32
 | 0, _, st => st
 | m + 1, b, st => Zla K m (b.drop 64) (Zef K st (b.take 64))
theorem Zwg (n : Nat) (r : Bytes) : (padB n r).length = r.length + 9 + padN r.length := by simp [padB, Zf6]; omega
theorem Zjj (K st : List W32) (b : Bytes) : (Zef K st b).length = st.length := by unfold Zef; rw [Zkc]
def Zky (n : Nat) (r : Bytes) (st : List W32) : List W32 := Zla KT ((r.length + 9 + padN r.length) / 64) (padB n r) st
theorem Zsu {n : Nat} {r : Bytes} (h : 64 <= r.length) (st : List W32) : Zky n r st = Zky n (r.drop 64) (Zef KT st (r.take 64)) := by
 have hp : padN (r.length - 64) = padN r.length := by unfold padN; omega
 have hm : (r.length + 9 + padN r.length) / 64 = (r.length - 64 + 9 + padN r.length) / 64 + 1 := by omega
 unfold Zky
 rw [Xcj, hp, hm, Zla]
 have h1 : (padB n r).take 64 = r.take 64 := by unfold padB; rw [Xck h]
 have h2 : (padB n r).drop 64 = padB n (r.drop 64) := by unfold padB; rw [Xb5 h, Xcj, hp]
 rw [h1, h2]
theorem Zjz {n : Nat} {r : Bytes} (h : r.length < 56) (st : List W32) : Zky n r st = Zef KT st ((r ++ (128 :: List.replicate (55 - r.length) 0)) ++ lenB n) := by
 have hp : padN r.length = 55 - r.length := by unfold padN; omega
 have hm : (r.length + 9 + padN r.length) / 64 = 1 := by omega
 have hl := Zwg n r
 unfold Zky
 rw [hm, Zla, Zla, Xa0 (by omega)]
 unfold padB
 rw [hp]; simp
theorem Ztg {n : Nat} {r : Bytes} (h : 56 <= r.length) (h2 : r.length < 64) (st : List W32) : Zky n r st = Zef KT (Zef KT st (r ++ (128 :: List.replicate (63 - r.length) 0))) (List.replicate 56 0 ++ lenB n) := by
 have hp : padN r.length = (63 - r.length) + 56 := by unfold padN; omega
 have hm : (r.length + 9 + padN r.length) / 64 = 2 := by omega
 have e1 : padB n r = (r ++ (128 :: List.replicate (63 - r.length) 0)) ++ (List.replicate 56 0 ++ lenB n) := by
  unfold padB
  rw [hp, <- Xdb]; simp
 have l1 : (r ++ (128 :: List.replicate (63 - r.length) 0)).length = 64 := by simp; omega
 have l2 : (List.replicate 56 (0 : UInt8) ++ lenB n).length = 64 := by simp [Zf6]
 unfold Zky
 rw [hm, Zla, Zla, Zla, e1, <- l1, List.take_left, Xd7, l1, Xa0 (by omega)]
theorem Zr9 {b : Bytes} (hb : b.length = 64) (r : Bytes) : evp (.cpya 0 64) [bl b, .str r] = some (bl (r.take 64 ++ b.drop (r.take 64).length)) := by
 refine (if_pos (show 0 + 64 <= (bl b).cells.length by show _ <= (b.map byteV).length; simp; omega)).trans ?_
 show some (V.agg (Zao (b.map byteV) 0 ((encB r).take 64))) = _
 unfold Zao
 rw [Zp5, Xcd, Xbg, Xan, <- Xdy, Xcp, <- Xfd, <- Xda]
theorem Zxu {r : Bytes} : ∃ x, evp (.cpyn 64) [.str r] = some x := ⟨_, rfl⟩
theorem Zvf {b : Bytes} (hb : b.length = 64) : evp (.clra (.int .u8 0) 0 64) [bl b] = some (bl (List.replicate 64 0)) := by
 refine (if_pos (show 0 + 64 <= (bl b).cells.length by show _ <= (b.map byteV).length; simp; omega)).trans ?_
 show some (V.agg (Zao (b.map byteV) 0 (List.replicate 64 (.int .u8 0)))) = _
 unfold Zao
 rw [Xcd, Xbg, Xat (by simp; omega), Xaw]; rfl
theorem v.sha12 (s : Bytes) (hs : s.length <= 1000000000000) : ∀ (m : Nat) (r : Bytes) (st : List W32) (b : Bytes), r.length <= m -> st.length = 8 -> b.length = 64 ->
  vl e 60 12 [.str s, .str r, V.agg (repl 32 (.int .u8 0)), wl st, bl b] = some (bl (outB (Zky s.length r st))) := by
 intro m
 induction m with
 | zero =>
  intro r st b hr h8 hb
  obtain rfl : r = [] := Xa7 (by omega)
  obtain ⟨x, hx⟩ := Zxu (r := [])
  have hend := v.endOf (e := e) s hs (V.agg (repl 32 (.int .u8 0))) st h8 (128 :: List.replicate 55 0) (List.replicate 8 0) (by simp) (by simp)
  rw [Zjz (by decide)]
  have hst := Zlw (k := .i64) (l := List.replicate 64 0) (i := 0) (x := 128) (by simp)
  have hcp := Zr9 (b := List.replicate 64 0) (by simp) []
  rw [w.zq42_12]; unfold y.zq42_12
  have e128 : V.int .u8 128 = byteV 128 := rfl
  simp only [yy, Xa5, Int.natCast_zero, if_neg (show ¬((64 : Int) <= 0) by omega), Zvf hb, hcp, hx, Zgn (m := 64) (k := .i64) (i := 0) (by omega) (by omega), e128]
  refine Zt8 hst ?_
  rw [if_neg (show ¬((56 : Int) <= 0) by omega)]
  exact hend
 | succ m ih =>
  intro r st b hr h8 hb
  obtain ⟨x, hx⟩ := Zxu (r := r)
  by_cases h64 : 64 <= r.length
  ·have hl64 : (r.take 64).length = 64 := by simp; omega
   have hcp := Zr9 hb r
   rw [hl64, Xat (by omega), Xaw] at hcp
   have hblk := v.block (e := e) st h8 (r.take 64) hl64
   have hsl : evp (.sls true false) [.str r, .int .i64 64] = some (.str (r.drop 64)) := Zrs (l := 64) (by omega)
   rw [Zsu h64]
   rw [w.zq42_12]; unfold y.zq42_12
   simp only [yy, if_pos (show (64 : Int) <= (r.length : Int) by omega), hcp, hx, hblk, hsl]
   exact ih (r.drop 64) _ _ (by simp; omega) (by rw [Zjj]; exact h8) hl64
  ·have htk : r.take 64 = r := Xa0 (by omega)
   have hcp := Zr9 (b := List.replicate 64 0) (by simp) r
   rw [htk, List.drop_replicate] at hcp
   have hst := Zlw (k := .i64) (l := r ++ List.replicate (64 - r.length) 0) (i := r.length) (x := 128) (by simp; omega)
   have hset : (r ++ List.replicate (64 - r.length) 0).set r.length 128 = r ++ (128 :: List.replicate (63 - r.length) 0) := by
    rw [Xcb _ _ (Xag _), Xe4, show 64 - r.length = (63 - r.length) + 1 by omega, Xdd, List.set_cons_zero]
   rw [hset] at hst
   have e128 : V.int .u8 128 = byteV 128 := rfl
   rw [w.zq42_12]; unfold y.zq42_12
   by_cases h56 : 56 <= r.length
   ·have l1 : (r ++ (128 :: List.replicate (63 - r.length) 0)).length = 64 := by simp; omega
    have hblk := v.block (e := e) st h8 (r ++ (128 :: List.replicate (63 - r.length) 0)) l1
    have hend := v.endOf (e := e) s hs (V.agg (repl 32 (.int .u8 0))) (Zef KT st (r ++ (128 :: List.replicate (63 - r.length) 0))) (by rw [Zjj]; exact h8) (List.replicate 56 0) (List.replicate 8 0) (by simp) (by simp)
    rw [Xdb] at hend
    rw [Ztg h56 (by omega)]
    simp only [yy, if_neg (show ¬((64 : Int) <= (r.length : Int)) by omega), Zvf hb, hcp, hx, Zgn (m := 64) (k := .i64) (i := (r.length : Int)) (by omega) (by omega), e128, hst, if_pos (show (56 : Int) <= (r.length : Int) by omega), hblk, Zvf l1]
    exact hend
   ·have hend := v.endOf (e := e) s hs (V.agg (repl 32 (.int .u8 0))) st h8 (r ++ (128 :: List.replicate (55 - r.length) 0)) (List.replicate 8 0) (by simp; omega) (by simp)
    have e1 : (r ++ (128 :: List.replicate (55 - r.length) 0)) ++ List.replicate 8 0 = r ++ (128 :: List.replicate (63 - r.length) 0) := by
     rw [show 63 - r.length = (55 - r.length) + 8 by omega, <- Xdb]; simp
    rw [e1] at hend
    rw [Zjz (by omega)]
    simp only [yy, if_neg (show ¬((64 : Int) <= (r.length : Int)) by omega), Zvf hb, hcp, hx, Zgn (m := 64) (k := .i64) (i := (r.length : Int)) (by omega) (by omega), e128, hst, if_neg (show ¬((56 : Int) <= (r.length : Int)) by omega)]
    exact hend
def H0 : List W32 := [1779033703, 3144134277, 1013904242, 2773480762, 1359893119, 2600822924, 528734635, 1541459225]
def Zt9 (s : Bytes) : Bytes := outB (Zky s.length s H0)
theorem Zjh (s : Bytes) : (Zt9 s).length = 32 := Zkg _
theorem v.shaOf (s : Bytes) (hs : s.length <= 1000000000000) : vl e 60 0 [.str s] = some (bl (Zt9 s)) := by
 rw [w.zq42]; unfold y.zq42
 exact v.sha12 s hs s.length s H0 (List.replicate 64 0) (Xag _) rfl (by simp)
end Go.Proofs.YtpmgdngjbdkdfaaDoor
namespace Go.Proofs.YtpmgdngjbdkdfaaDoor
open Go.Abs
set_option maxRecDepth 10000
variable {e : Ev}
def numB (n : Nat) : Bytes := (List.range 8).map fun i => UInt8.ofNat (n / 2 ^ (56 - 8 * i))
theorem Ze6 (n : Nat) : (numB n).length = 8 := by simp [numB]
theorem Zve (n : Nat) {i : Nat} (h : i < (numB n).length) : (numB n)[i] = UInt8.ofNat (n / 2 ^ (56 - 8 * i)) := by simp [numB]
theorem Z26 {l : Bytes} {k : Nat} (h : l.length = k) : evp (.b2so 0 k) [bl l] = some (.str l) := by
 show (if 0 + k <= (l.map byteV).length then (Zbq (((l.map byteV).drop 0).take k)).map V.str else none) = _
 rw [Xbc, Xa0 (by simp; omega), Zed]
 exact if_pos (by simp; omega)
theorem v.num10 (n : Nat) (hn : n <= 1000000000000) : ∀ (m i : Nat), i + m = 8 -> vl e 59 10 [I n, I i, bl ((numB n).take i ++ (List.replicate 8 0).drop i)] = some (.str (numB n))
 | 0, i, hi => by
  have hl := Ze6 n
  rw [Xa0 (by omega), Xat (by simp; omega), Xaw]
  have hb : evp (.b2so 0 8) [bl (numB n)] = some (.str (numB n)) := Z26 (by omega)
  rw [w.zq3_10]; unfold y.zq3_10
  simp only [yy, if_neg (show ¬((i : Int) < 8) by omega), hb]
 | m + 1, i, hi => by
  have hl := Ze6 n
  have e1 : IntKind.i64.wrap (8 * (i : Int)) = ((8 * i : Nat) : Int) := by rw [w64 _ (by omega)]; omega
  have e2 : IntKind.i64.wrap (56 - ((8 * i : Nat) : Int)) = ((56 - 8 * i : Nat) : Int) := by rw [w64 _ (by omega)]; omega
  have e3 : evp (.i2i .u64) [.int .i64 (n : Int)] = some (.int .u64 (n : Int)) := by
   show some (V.int .u64 (IntKind.u64.wrap (n : Int))) = _
   rw [Zko, Xez (by omega) (by omega)]
  have e5 : evp (.bin .shr .no) [.int .u64 (n : Int), .int .i64 ((56 - 8 * i : Nat) : Int)] = some (.int .u64 ((n / 2 ^ (56 - 8 * i) : Nat) : Int)) := by
   show (if ((56 - 8 * i : Nat) : Int) < 0 then none else some (V.int .u64 ((n : Int).fdiv (2 ^ (min ((56 - 8 * i : Nat) : Int).toNat IntKind.u64.bits))))) = _
   have : min ((56 - 8 * i : Nat) : Int).toNat IntKind.u64.bits = 56 - 8 * i := by show min _ 64 = _; omega
   rw [if_neg (by omega), this, Xc1 _ (Int.le_of_lt (Int.pow_pos (by decide)))]
   simp
  have e6 : evp (.i2i .u8) [.int .u64 ((n / 2 ^ (56 - 8 * i) : Nat) : Int)] = some (byteV (UInt8.ofNat (n / 2 ^ (56 - 8 * i)))) := congrArg some (Zjw _)
  have hset : ((numB n).take i ++ (List.replicate 8 0).drop i).set i (UInt8.ofNat (n / 2 ^ (56 - 8 * i))) = (numB n).take (i + 1) ++ (List.replicate 8 0).drop (i + 1) := by
   rw [<- Zve n (by omega)]; exact fill (by omega) (by simpa using hl)
  have hst := Zlw (k := .i64) (l := (numB n).take i ++ (List.replicate 8 0).drop i) (i := i) (x := UInt8.ofNat (n / 2 ^ (56 - 8 * i))) (by rw [Zj7 (by omega) (by simpa using hl)]; omega)
  rw [hset] at hst
  rw [w.zq3_10]; unfold y.zq3_10
  simp only [yy, if_pos (show (i : Int) < 8 by omega), e3, Zof, e1, e2, e5, e6, Zgn (m := 8) (k := .i64) (i := (i : Int)) (by omega) (by omega), hst, Zay (show i < 64 by omega) (by decide)]
  exact v.num10 n hn m (i + 1) (by omega)
theorem v.codeNum (n : Nat) (hn : n <= 1000000000000) : vl e 59 0 [I n] = some (.str (numB n)) := by
 have h := v.num10 (e := e) n hn 8 0 (by omega)
 rw [Xcd, Xbc, Xbg] at h
 rw [w.zq3]; exact h
def Zhw (l : List Bytes) : Bytes := (l.map fun p => numB p.length ++ p).flatten
def Zi4 (l : List Bytes) : Bytes := numB l.length ++ Zhw l
def sumL (l : List Bytes) : Nat := (l.map fun p => 8 + p.length).sum
theorem Zek (x : Bytes) (r : List Bytes) : sumL (x :: r) = 8 + x.length + sumL r := rfl
theorem Znq (x : Bytes) (r : List Bytes) : Zhw (x :: r) = numB x.length ++ x ++ Zhw r := rfl
theorem Zjk : ∀ l : List Bytes, (Zhw l).length = sumL l
 | [] => rfl
 | x :: r => by
  have := Zjk r
  simp only [Zhw, sumL, Xal, Xce, Xai, Xfc, Ze6] at this ⊢; omega
theorem Zk0 (m : List Bytes) : 8 * m.length <= sumL m := by
 induction m with
 | nil => simp [sumL]
 | cons x r ih => simp only [sumL, Xal, Xfc, Xau] at ih ⊢; omega
theorem Zrp {l : Bytes} {s : Bytes} (h : l.length + s.length <= Lim) : evp (.app 1) [bsl l, .str s] = some (bsl (l ++ s)) := by
 show Zw1 1 (bsl l) (.str s) = _
 show (if (l.map byteV).length + (encB s).length <= Lim /\ 1 = 1 then some (V.sl false 1 (l.map byteV ++ encB s)) else none) = _
 rw [if_pos ⟨by simpa [encB] using h, rfl⟩, Zp5, <- Xda]
theorem v.join31 (l : List Bytes) (hl : sumL l <= 1000000000) : ∀ (n i : Nat) (out : Bytes), i + n = l.length -> out.length + sumL (l.drop i) <= 2000000000 ->
  vl e 43 31 [bsl out, strs l, I l.length, I i] = some (.str (out ++ Zhw (l.drop i)))
 | 0, i, out, hi, ho => by
  rw [w.zq2_31, Xat (by omega)]; unfold y.zq2_31
  simp only [yy, if_neg (show ¬((i : Int) < (l.length : Int)) by omega), Z2n]
  simp [Zhw]
 | n + 1, i, out, hi, ho => by
  have hLim : Lim = 4294967296 := rfl
  have hlt : i < l.length := by omega
  rw [Xao hlt] at ho ⊢
  rw [Zek] at ho
  rw [Znq]
  have hn := Ze6 l[i].length
  have hlen := Zk0 l
  rw [w.zq2_31]; unfold y.zq2_31
  simp only [yy, if_pos (show (i : Int) < (l.length : Int) by omega), Zh6 hlt, Zis, v.codeNum l[i].length (by omega), Zrp (show out.length + (numB l[i].length).length <= Lim by omega), Zrp (show (out ++ numB l[i].length).length + l[i].length <= Lim by simp; omega), Zay hlt (by omega)]
  refine (v.join31 l hl n (i + 1) _ (by omega) (by simp only [Xai]; omega)).trans ?_
  rw [Xap, Xap, Xap]
theorem v.join10 (l : List Bytes) (hl : sumL l <= 1000000000) : ∀ (n i m : Nat), i + n = l.length -> m + sumL (l.drop i) <= 2000000000 ->
  vl e 43 10 [strs l, I m, strs l, I l.length, I i] = some (.str (Zi4 l))
 | 0, i, m, hi, hm => by
  have hLim : Lim = 4294967296 := rfl
  have h8 := Zk0 l
  have hn := Ze6 l.length
  have hk : evp (.mks 1) [.int .i64 0, .int .i64 (m : Int)] = some (bsl []) := by
   show (if (0 : Int) = 0 /\ 0 <= (m : Int) /\ (m : Int) <= Lim then some (⟨.sl false 1 [], true, none⟩ : Res) else none).map (·.v) = _
   rw [if_pos ⟨rfl, by omega, by omega⟩]; rfl
  rw [w.zq2_10]; unfold y.zq2_10
  simp only [yy, if_neg (show ¬((i : Int) < (l.length : Int)) by omega), hk, v.codeNum l.length (by omega), Zrp (l := []) (s := numB l.length) (by simp; omega)]
  refine (v.join31 l hl l.length 0 _ (by omega) (by rw [Xbc]; simp; omega)).trans ?_
  simp [Zi4]
 | n + 1, i, m, hi, hm => by
  have hlt : i < l.length := by omega
  rw [Xao hlt] at hm
  rw [Zek] at hm
  have h8 := Zk0 l
  have e1 : IntKind.i64.wrap (8 + (l[i].length : Int)) = ((8 + l[i].length : Nat) : Int) := by rw [w64 _ (by omega)]; omega
  have e2 : IntKind.i64.wrap ((m : Int) + ((8 + l[i].length : Nat) : Int)) = ((m + (8 + l[i].length) : Nat) : Int) := by rw [w64 _ (by omega)]; omega
  rw [w.zq2_10]; unfold y.zq2_10
  simp only [yy, if_pos (show (i : Int) < (l.length : Int) by omega), Zh6 hlt, Zis, e1, e2, Zay hlt (by omega)]
  exact v.join10 l hl n (i + 1) _ (by omega) (by omega)
theorem v.codeJoin (l : List Bytes) (hl : sumL l <= 1000000000) : vl e 43 0 [strs l] = some (.str (Zi4 l)) := by
 rw [w.zq2]; unfold y.zq2
 simp only [yy]
 exact v.join10 l hl l.length 0 8 (by omega) (by rw [Xbc]; omega)
theorem Zlc (l : List Bytes) : (Zi4 l).length = 8 + sumL l := by simp [Zi4, Ze6, Zjk]
def Zbe (p s : Bytes) : Bytes := Zt9 (Zi4 [p, s])
theorem Zax (p s : Bytes) : (Zbe p s).length = 32 := Zjh _
theorem Z2f {x y : Bytes} : evp (.bsl 1) [.str x, .str y] = some (strs [x, y]) := rfl
theorem Zzr {x y : Bytes} : evp (.app 1) [.sl false 1 [.str x], .sl false 1 [.str y]] = some (strs [x, y]) := by
 have := Zui (l := [x]) (x := y) (show 1 + 1 <= Lim by decide)
 exact this
theorem v.shaSum (p s : Bytes) (hp : p.length <= 100) (hs : s.length <= 100000000) : vl e 44 0 [.str p, .sl false 1 [.str s]] = some (bl (Zbe p s)) := by
 have hl : sumL [p, s] = 16 + p.length + s.length := by simp [sumL]; omega
 have hj := Zlc [p, s]
 rw [w.zq43]; unfold y.zq43
 simp only [yy, Zl9, Zzr, v.codeJoin [p, s] (by omega), v.shaOf (Zi4 [p, s]) (by omega), Zbm (Zjh (Zi4 [p, s]))]
 rfl
theorem Zn7 : ∀ {n : Nat} {x y : Bytes}, x.length = n -> y.length = n -> Zar (List.replicate n (some .u8, true)) (x.map byteV) (y.map byteV) = some (decide (x = y))
 | 0, [], [], _, _ => rfl
 | n + 1, a :: x, b :: y, hx, hy => by
  have ih := Zn7 (n := n) (x := x) (y := y) (by simpa using hx) (by simpa using hy)
  show (kdEq (some .u8, true) (byteV a) (byteV b)).bind (fun c => (Zar (List.replicate n (some .u8, true)) (x.map byteV) (y.map byteV)).map (c && ·)) = _
  rw [ih]
  show some (decide ((a.toNat : Int) = (b.toNat : Int)) && decide (x = y)) = _
  have : ((a.toNat : Int) = (b.toNat : Int)) <-> a = b := ⟨fun h => Xe8.1 (by omega), fun h => by rw [h]⟩
  by_cases h1 : a = b
  ·subst h1; simp
  ·rw [decide_eq_false (fun h => h1 (this.1 h))]; simp [h1]
theorem Z6i {x y : Bytes} (hx : x.length = 32) (hy : y.length = 32) : evp (.bin .eql (.flat [(some .u8, true), (some .u8, true), (some .u8, true), (some .u8, true), (some .u8, true), (some .u8, true), (some .u8, true), (some .u8, true), (some .u8, true), (some .u8, true), (some .u8, true), (some .u8, true), (some .u8, true), (some .u8, true), (some .u8, true), (some .u8, true), (some .u8, true), (some .u8, true), (some .u8, true), (some .u8, true), (some .u8, true), (some .u8, true), (some .u8, true), (some .u8, true), (some .u8, true), (some .u8, true), (some .u8, true), (some .u8, true), (some .u8, true), (some .u8, true), (some .u8, true), (some .u8, true)])) [bl x, bl y] = some (.bool (decide (x = y))) := by
 show (Zar (List.replicate 32 (some .u8, true)) (x.map byteV) (y.map byteV)).map V.bool = _
 rw [Zn7 hx hy]; rfl
end Go.Proofs.YtpmgdngjbdkdfaaDoor
namespace Go.Proofs.YtpmgdngjbdkdfaaDoor
open Go.Abs
set_option maxRecDepth 10000
variable {e : Ev}
abbrev MB := List (Bytes × Bytes)
def mkP (p : Bytes × Bytes) : V × V := (bl p.1, .str p.2)
abbrev mv (M : MB) : V := mpV (M.map mkP)
abbrev qK : KK := (true, repl 32 (some .u8, true))
def putM : MB -> Bytes -> Bytes -> MB
 | [], k, x => [(k, x)]
 | p :: r, k, x => if k = p.1 then (k, x) :: r else p :: putM r k x
def getM : MB -> Bytes -> Option Bytes
 | [], _ => none
 | p :: r, k => if k = p.1 then some p.2 else getM r k
def keyL (M : MB) : Prop := ∀ p ∈ M, p.1.length = 32
theorem Znz (l : List (V × V)) : unMp (mpV l) = some l := by
 show unM (l.map fun p => .tup [p.1, p.2]) = some l
 induction l with
 | nil => rfl
 | cons p r ih => simp only [Xal, unM, ih]; rfl
theorem Zg8 {x z : Bytes} (hx : x.length = 32) (hz : z.length = 32) : Zdi qK (bl x) (bl z) = some (decide (x = z)) := Zn7 (n := 32) hx hz
theorem Zre {k x : Bytes} (hk : k.length = 32) : ∀ {M : MB}, keyL M -> mPut qK (bl k) (.str x) (M.map mkP) = some ((putM M k x).map mkP)
 | [], _ => rfl
 | p :: r, h => by
  have ih := Zre (x := x) hk (M := r) fun q hq => h q (by simp [hq])
  simp only [Xal, mPut, putM, mkP] at ih ⊢
  rw [Zg8 hk (h p (by simp)), Xaj]
  by_cases he : k = p.1
  ·rw [if_pos (decide_eq_true he), if_pos he]; rfl
  ·rw [if_neg (by simpa using he), if_neg he, ih]; rfl
theorem Zoy {k : Bytes} (hk : k.length = 32) : ∀ {M : MB}, keyL M -> Zex qK (bl k) (M.map mkP) = some ((getM M k).map V.str)
 | [], _ => rfl
 | p :: r, h => by
  have ih := Zoy hk (M := r) fun q hq => h q (by simp [hq])
  simp only [Xal, Zex, getM, mkP] at ih ⊢
  rw [Zg8 hk (h p (by simp)), Xaj]
  by_cases he : k = p.1
  ·rw [if_pos (decide_eq_true he), if_pos he]; rfl
  ·rw [if_neg (by simpa using he), if_neg he, ih]
theorem Z1f {M : MB} {k x : Bytes} (hM : keyL M) (hk : k.length = 32) : evp (.mup qK) [mv M, bl k, .str x] = some (mv (putM M k x)) := by
 show Zwm qK (mv M) (bl k) (.str x) = _
 simp only [Zwm, Znz, Xaj]
 rw [Zg8 hk hk, if_pos (by simp), Zre hk hM]; rfl
theorem Z5i {M : MB} {k : Bytes} (hM : keyL M) (hk : k.length = 32) : evp (.mlk qK (.str []) true) [mv M, bl k] = some (.tup [.str ((getM M k).getD []), .bool (getM M k).isSome]) := by
 show Zvz qK (.str []) true (mv M) (bl k) = _
 simp only [Zvz, Znz, Xaj]
 rw [Zg8 hk hk, if_pos (by simp), Zoy hk hM]
 cases getM M k <;> rfl
theorem Z5z {M : MB} : evp .mln [mv M] = some (I M.length) := by
 show Zw0 (mv M) = _
 simp only [Zw0, Znz, Xas, Xcp]
def Zma (M : MB) : List Bytes := M.map (·.1)
theorem Zdt (p : Bytes × Bytes) (r : MB) : Zma (p :: r) = p.1 :: Zma r := rfl
theorem Zlm (k x : Bytes) : ∀ M : MB, Zma (putM M k x) = if k ∈ Zma M then Zma M else Zma M ++ [k]
 | [] => rfl
 | p :: r => by
  have ih := Zlm k x r
  by_cases h : k = p.1
  ·rw [putM, if_pos h, if_pos (by rw [Zdt, h]; exact Xdk), Zdt, Zdt, h]
  ·rw [putM, if_neg h, Zdt, ih, Zdt]
   by_cases h2 : k ∈ Zma r
   ·rw [if_pos h2, if_pos (Xbn _ h2)]
   ·rw [if_neg h2, if_neg (fun hc => (Xay.1 hc).elim h h2)]; rfl
def Zft (ps : MB) (M : MB) : MB := ps.foldl (fun M p => putM M p.1 p.2) M
theorem Zlq {M : MB} {k x : Bytes} (hM : keyL M) (hk : k.length = 32) : keyL (putM M k x) := by
 intro p hp
 have : p.1 ∈ Zma (putM M k x) := Xcz hp
 rw [Zlm] at this
 split at this
 ·obtain ⟨q, hq, he⟩ := Xbb.1 this
  rw [<- he]; exact hM q hq
 ·rcases Xa3.1 this with h | h
  ·obtain ⟨q, hq, he⟩ := Xbb.1 h
   rw [<- he]; exact hM q hq
  ·rw [Xa9.1 h]; exact hk
theorem Zgi : ∀ {ps M : MB}, keyL ps -> keyL M -> keyL (Zft ps M)
 | [], _, _, h => h
 | p :: r, _, hp, h => Zgi (ps := r) (fun q hq => hp q (by simp [hq])) (Zlq h (hp p (by simp)))
theorem Zmp (a b M : MB) : Zft (a ++ b) M = Zft b (Zft a M) := by simp [Zft, List.foldl_append]
abbrev z32 : V := .agg (repl 32 (.int .u8 0))
def Zhn : Bytes := [98, 108, 111, 98]
def Zbk : Bytes := [116, 114, 101, 101]
theorem v.PutBlob (d : Bytes) (hd : d.length <= 32768) (M1 : MB) (hM : keyL M1) (m2 m3 : V) : vl e 10576 1 [.str d, mv M1, m2, m3] = some (.tup [bl (Zbe Zhn d), I 0, mv (putM M1 (Zbe Zhn d) d), m2, m3]) := by
 have h1 : vl e 52 0 [.str d] = some (bl (Zbe Zhn d)) := by
  rw [w.zq10]; unfold y.zq10
  have := v.shaSum (e := e) Zhn d (by decide) (by omega)
  simp only [yy, Zl9]
  rw [show V.str [98, 108, 111, 98] = .str Zhn from rfl, this]
  simp only [Xaj, Zbm (Zax _ _)]
 rw [w.zq29_h0]; unfold y.zq29_h0
 simp only [yy, if_neg (show ¬(32768 : Int) < (d.length : Int) by omega), h1, Zbm (Zax _ _), Z1f hM (Zax _ _)]
structure En where
 nm : Bytes
 tr : Bool
 id : Bytes
def ev (x : En) : V := .agg (.str x.nm :: .bool x.tr :: x.id.map byteV)
abbrev entV (l : List En) : V := .sl false 34 (l.map ev)
theorem Zmg {l : List En} {i : Nat} (h : i < l.length) : evp (.elem 34) [entV l, I i] = some (ev l[i]) := Zmq (by simp [h])
theorem Zot {l : List En} : evp (.len false) [entV l] = some (I l.length) := by rw [entV, Zu4, Xcp]
theorem Zkb (x : En) : (ev x).cells = .str x.nm :: .bool x.tr :: x.id.map byteV := rfl
theorem Zle {x : En} (h : x.id.length = 32) : (ev x).cells.length = 34 := by rw [Zkb]; simp [h]
theorem Z32 (x : En) : (ev x).cells.all V.sc = true := by
 rw [Zkb, Xcu, Xcu, Xam.2]
 ·rfl
 ·intro c hc; obtain ⟨b, _, rfl⟩ := Xbb.1 hc; rfl
theorem Zvq {x : En} (h : x.id.length = 32) : evp (.ld (some 34) 0) [ev x] = some (ev x) := by
 show Zak (some 34) (ev x).cells 0 = _
 simp only [Zak]
 rw [if_pos (by rw [Zle h]; omega), Xbc, Xa0 (by rw [Zle h]; omega)]; rfl
theorem Zpo {x : En} (h : x.id.length = 32) : evp (.cat [some 34]) [ev x] = some (ev x) := by
 show (catV [some 34] [ev x]).map V.agg = _
 simp only [catV]
 rw [if_pos ⟨Zle h, Z32 x⟩]
 simp only [Xas, Xaw]; rfl
theorem Zu3 {x : En} : evp (.ld none 0) [ev x] = some (.str x.nm) := rfl
theorem Z1n {x : En} : evp (.ld none 1) [ev x] = some (.bool x.tr) := rfl
theorem Z2m {x : En} (h : x.id.length = 32) : evp (.b2so 2 32) [ev x] = some (.str x.id) := by
 show Zv6 2 32 (ev x) = _
 unfold Zv6
 rw [if_pos (by rw [Zle h]; omega), Zkb]
 show (Zbq ((x.id.map byteV).take 32)).map V.str = _
 rw [Xa0 (by simp [h]), Zed]; rfl
structure EnOK (l : List En) : Prop where
 nm : ∀ x ∈ l, Zb0 x.nm = true /\ x.nm.length <= 128
 id : ∀ x ∈ l, x.id.length = 32
 up : l.Pairwise fun a b => Op.bytesLess a.nm b.nm = true
 len : l.length <= 512
theorem Zti {s : Bytes} (h : Zb0 s = true) (hl : s.length <= 128) : Zc3 s = true := by
 unfold Zc3
 rw [Zdm (Zhr h)]
 simp [hl, h]
theorem v.last (s : Bytes) (c : UInt8) (hs : s.length <= 1000000000) (hc : c ∉ s) : vl e 70 0 [.str s, byteV c] = some (I (-1)) := by
 have key : ∀ (n : Nat), n <= s.length -> vl e 79 8 [.str s, byteV c, I ((n : Int) - 1)] = some (I (-1)) := by
  intro n
  induction n with
  | zero =>
   intro _
   rw [w.zq6_8]; unfold y.zq6_8
   simp only [yy, if_neg (show ¬((0 : Int) <= ((0 : Nat) : Int) - 1) by omega)]
  | succ n ih =>
   intro hn
   have hlt : n < s.length := by omega
   have hne : ¬((s[n].toNat : Int) = (c.toNat : Int)) := fun h => hc (by rw [<- Zkq.1 h]; exact Xav hlt)
   have e0 : ((n + 1 : Nat) : Int) - 1 = (n : Int) := by omega
   have := ih (by omega)
   rw [w.zq6_8]; unfold y.zq6_8
   rw [e0]
   have e1 : IntKind.i64.wrap ((n : Int) - 1) = (n : Int) - 1 := w64 _ (by omega)
   simp only [yy, if_pos (show (0 : Int) <= (n : Int) by omega), Zk1 (Xad hlt), byteV, if_neg hne, e1]
   exact this
 rw [w.zq60]; unfold y.zq60
 have h1 : vl e 79 0 [.str s, byteV c] = some (I (-1)) := by
  rw [w.zq6]; unfold y.zq6
  have e1 : IntKind.i64.wrap ((s.length : Int) - 1) = (s.length : Int) - 1 := w64 _ (by omega)
  simp only [yy, e1]
  exact key s.length (Xag _)
 simp only [yy, h1]
theorem v.Dir1 (s : Bytes) (hs : s.length <= 1000000000) (hc : (47 : UInt8) ∉ s) : vl e 58 0 [.str s] = some (.str []) := by
 rw [w.zq17]; unfold y.zq17
 have h1 := v.last (e := e) s 47 hs hc
 have h2 : evp (.mnx true) [.int .i64 (-1), .int .i64 0] = some (.int .i64 0) := rfl
 have h3 : evp (.sls false true) [.str s, .int .i64 0] = some (.str []) := Zmi (h := 0) (Xb2 _)
 rw [show V.int .u8 47 = byteV 47 from rfl]
 simp only [yy, h1, h2, h3]
theorem v.GoodTree8 (he : EnvT e) (l : List En) (h : EnOK l) : ∀ (n i : Nat), i + n = l.length -> vl e 42 8 [entV l, entV l, I l.length, I i] = some (.bool true) := by
 intro n
 induction n with
 | zero =>
  intro i hi
  have hlen := h.len
  rw [w.zq12_8]; unfold y.zq12_8
  simp only [yy, if_neg (show ¬((i : Int) < (l.length : Int)) by omega), Zot]
  rw [decide_eq_true (show (l.length : Int) <= 512 by omega)]
 | succ n ih =>
  intro i hi
  have hlen := h.len
  have hlt : i < l.length := by omega
  have hid := h.id _ (Xav hlt)
  obtain ⟨hp, hpl⟩ := h.nm _ (Xav hlt)
  have hg := v.Good he l[i].nm (by omega)
  rw [Zti hp hpl] at hg
  have hd := v.Dir1 (e := e) l[i].nm (by omega) (Zhr hp)
  have hn : (!decide (([] : Bytes) = [])) = false := rfl
  have := ih (i + 1) (by omega)
  rw [w.zq12_8]; unfold y.zq12_8
  by_cases h0 : 0 < i
  ·have hlt' : i - 1 < l.length := by omega
   have hup : Op.bytesLess l[i - 1].nm l[i].nm = true := Xbd.1 h.up (i - 1) i hlt' hlt (by omega)
   have hge : evp (.bin .geq .no) [.str l[i - 1].nm, .str l[i].nm] = some (.bool false) := by
    show some (V.bool (!Op.bytesLess l[i - 1].nm l[i].nm)) = _
    rw [hup]; rfl
   simp only [yy, if_pos (show (i : Int) < (l.length : Int) by omega), Zmg hlt, Zvq hid, Zpo hid, Zu3, hg, hd, if_pos (show (0 : Int) < (i : Int) by omega), Zm5 (show 1 <= i by omega) (by omega), Zmg hlt', hge, Zay hlt (by omega)]
   simpa using this
  ·simp only [yy, if_pos (show (i : Int) < (l.length : Int) by omega), Zmg hlt, Zvq hid, Zpo hid, Zu3, hg, hd, if_neg (show ¬(0 : Int) < (i : Int) by omega), Zay hlt (by omega)]
   simpa using this
theorem v.GoodTree (he : EnvT e) (l : List En) (h : EnOK l) : vl e 42 0 [entV l] = some (.bool true) := by
 rw [w.zq12]; unfold y.zq12
 simp only [yy, Zot]
 exact v.GoodTree8 he l h l.length 0 (Xan _)
def enP (x : En) : List Bytes := [if x.tr then Zbk else Zhn, x.nm, x.id]
def Zgl (l : List En) : List Bytes := l.flatMap enP
theorem Zug (l : List En) : (Zgl l).length = 3 * l.length := by
 unfold Zgl
 induction l with
 | nil => rfl
 | cons x r ih => rw [Xbj, Xai, ih]; simp only [enP, Xau, Xa5]; omega
theorem Zup (a b : List Bytes) : sumL (a ++ b) = sumL a + sumL b := by simp [sumL]
theorem Znb {l : List En} (h1 : ∀ x ∈ l, x.nm.length <= 128) (h2 : ∀ x ∈ l, x.id.length = 32) : sumL (Zgl l) <= 188 * l.length := by
 unfold Zgl
 induction l with
 | nil => exact Xb2 _
 | cons x r ih =>
  have := ih (fun a ha => h1 a (by simp [ha])) (fun a ha => h2 a (by simp [ha]))
  have a1 := h1 x (by simp)
  have a2 := h2 x (by simp)
  rw [Xbj, Zup, enP, Zek, Zek, Zek, a2]
  have : (if x.tr = true then Zbk else Zhn).length = 4 := by cases x.tr <;> rfl
  rw [this]
  simp only [Xau, show sumL [] = 0 from rfl]
  omega
theorem Ztx {a : List Bytes} {x u t : Bytes} (h : a.length + 3 <= Lim) : evp (.app 1) [strs a, .sl false 1 [.str x, .str u, .str t]] = some (strs (a ++ [x, u, t])) := by
 rw [strs, Zwf (by simpa using h)]; simp
theorem v.PutTree18 (l : List En) (h : EnOK l) : ∀ (n i : Nat) , i + n = l.length -> vl e 26 18 [strs (Zgl (l.take i)), entV l, I l.length, I i] = some (.tup [.str (Zi4 (Zgl l)), I 0]) := by
 intro n
 induction n with
 | zero =>
  intro i hi
  have hlen := h.len
  have hs := Znb (fun x hx => (h.nm x hx).2) h.id
  have hj := v.codeJoin (e := e) (Zgl l) (by omega)
  rw [w.zq13_18]; unfold y.zq13_18
  rw [Xa0 (show l.length <= i by omega)]
  simp only [yy, if_neg (show ¬((i : Int) < (l.length : Int)) by omega), hj]
 | succ n ih =>
  intro i hi
  have hlen := h.len
  have hlt : i < l.length := by omega
  have hid := h.id _ (Xav hlt)
  have hal : (Zgl (l.take i)).length + 3 <= Lim := by rw [Zug, Xbt]; unfold Lim; omega
  have hto : Zgl (l.take (i + 1)) = Zgl (l.take i) ++ enP l[i] := by
   rw [Xd2 hlt, Zgl, List.flatMap_append]; simp [Zgl]
  have := ih (i + 1) (by omega)
  rw [hto] at this
  have hb3 : ∀ a b c : Bytes, evp (.bsl 1) [.str a, .str b, .str c] = some (.sl false 1 [.str a, .str b, .str c]) := fun _ _ _ => rfl
  rw [w.zq13_18]; unfold y.zq13_18
  cases ht : l[i].tr with
  | false =>
   rw [enP, ht] at this
   simp only [yy, if_pos (show (i : Int) < (l.length : Int) by omega), Zmg hlt, Zvq hid, Zpo hid, Z1n, ht, Zu3, Z2m hid, hb3, Ztx hal, Zay hlt (by omega)]
   exact this
  | true =>
   rw [enP, ht] at this
   simp only [yy, if_pos (show (i : Int) < (l.length : Int) by omega), Zmg hlt, Zvq hid, Zpo hid, Z1n, ht, Zu3, Z2m hid, hb3, Ztx hal, Zay hlt (by omega)]
   exact this
def Zaz (l : List En) : Bytes := Zi4 (Zgl l)
theorem v.PutTree (he : EnvT e) (l : List En) (h : EnOK l) (m1 m3 : V) (M2 : MB) (hM : keyL M2) : vl e 10224 1 [entV l, m1, mv M2, m3] = some (.tup [bl (Zbe Zbk (Zaz l)), I 0, m1, mv (putM M2 (Zbe Zbk (Zaz l)) (Zaz l)), m3]) := by
 have hlen := h.len
 have hs := Znb (fun x hx => (h.nm x hx).2) h.id
 have h1 : vl e 26 0 [entV l] = some (.tup [.str (Zaz l), I 0]) := by
  rw [w.zq13]; unfold y.zq13
  have := v.PutTree18 (e := e) l h l.length 0 (Xan _)
  simp only [yy, v.GoodTree he l h, Zot]
  exact this
 have h2 : vl e 27 0 [.str (Zaz l)] = some (bl (Zbe Zbk (Zaz l))) := by
  rw [w.zq14]; unfold y.zq14
  have := v.shaSum (e := e) Zbk (Zaz l) (by decide) (by unfold Zaz; rw [Zlc]; omega)
  simp only [yy, Zl9]
  rw [show V.str [116, 114, 101, 101] = .str Zbk from rfl, this]
  simp only [Xaj, Zbm (Zax _ _)]
 rw [w.zq30_h0]; unfold y.zq30_h0
 simp only [yy, h1, h2, Zbm (Zax _ _), Z1f hM (Zax _ _)]
 simp
end Go.Proofs.YtpmgdngjbdkdfaaDoor
namespace Go.Proofs.YtpmgdngjbdkdfaaDoor
open Go.Abs
set_option maxRecDepth 10000
variable {e : Ev}
abbrev aggS (l : List Bytes) : V := .agg (l.map .str)
theorem Zw3 {l : List Bytes} {i : Nat} (h : i < l.length) : evp (.ldd none 0 1) [aggS l, I i] = some (.str l[i]) := by
 show (l.map V.str)[0 + (i : Int).toNat * 1]? = _
 simp [h]
theorem Z2x {l : List Bytes} {i : Nat} {x : Bytes} (h : i < l.length) : evp (.std 1 0 1) [aggS l, I i, .str x] = some (aggS (l.set i x)) := by
 show vSet 1 (0 + (i : Int).toNat * 1) (aggS l) (.str x) = _
 unfold vSet
 rw [if_pos (by simp [V.cells, V.sc]; omega)]
 simp only [V.cells, Xan, Xbe, Xcl, Zao, List.length_singleton]
 rw [Xb8, if_pos h]
 simp
theorem Zzg {l : List Bytes} {i : Nat} (h : i < l.length) : evp (.clrx (.str [])) [aggS l, I l.length, I i] = some (aggS (l.take i ++ List.replicate (l.length - i) [])) := by
 show (if 0 <= (i : Int) /\ (i : Int) < (l.length : Int) /\ (l.length : Int).toNat <= (aggS l).cells.length then some (V.agg (Zao (aggS l).cells (i : Int).toNat (List.replicate ((l.length : Int).toNat - (i : Int).toNat) (V.str [])))) else none) = _
 rw [if_pos ⟨by omega, by omega, by simp [V.cells]⟩]
 simp only [V.cells, Xbe, Zao, Xc5]
 rw [Xat (by simp; omega)]
 simp
theorem Zp6 {l : List Bytes} {i : Nat} (h : i <= l.length) : evp .snapx [aggS l, I i] = some (strs (l.take i)) := by
 show (if 0 <= (i : Int) /\ (i : Int).toNat <= (aggS l).cells.length then some (V.sl false 1 ((aggS l).cells.take (i : Int).toNat)) else none) = _
 rw [if_pos ⟨by omega, by simp [V.cells]; omega⟩]
 simp [V.cells]
theorem v.CloneS (l : List Bytes) (hl : l.length <= 1000000) : vl e 10880 1 [strs l] = some (.tup [I l.length, aggS l]) := by
 rw [w.zq46_h0]; unfold y.zq46_h0
 have h1 : evp (.rapp 1) [.agg [], I (0 : Nat), strs l] = some (aggS l) := by
  show Zms 1 (.agg []) (I (0 : Nat)) (strs l) = _
  have hf : fits 1 (l.map V.str) = true := by simp [fits, V.cells, V.sc]
  simp only [Zms, Zbn, Xaj, Zh4, hf, if_true, true_or]
  rw [if_pos ⟨by omega, by omega, by simp, by simp [Lim]; omega⟩]
  have hfl : ∀ l : List Bytes, (l.map V.str).flatMap V.cells = l.map V.str := fun l => by
   induction l with
   | nil => rfl
   | cons x r ih => simp only [Xal, Xbj, ih]; rfl
  simp only [V.cells, Xbe, Xeq, Xcd, Xbg, hfl]
 have h2 : evp (.rlen 1) [I (0 : Nat), strs l] = some (I l.length) := by
  show Zkf 1 (I (0 : Nat)) (strs l) = _
  simp [Zkf, Zbn]
 have h1' : evp (.rapp 1) [.agg [], .int .i64 0, strs l] = some (aggS l) := h1
 have h2' : evp (.rlen 1) [.int .i64 0, strs l] = some (I l.length) := h2
 simp only [yy, h1', h2']
 cases l with
 | nil =>
  have : vamb (V.sl false 1 []) (some (V.tup [.int .i64 0, .agg []])) (some (V.tup [.int .i64 0, .agg []])) = some (V.tup [.int .i64 0, .agg []]) := by
   unfold vamb
   exact if_pos rfl
  exact this
 | cons x r => rfl
end Go.Proofs.YtpmgdngjbdkdfaaDoor
namespace Go.Proofs.YtpmgdngjbdkdfaaDoor
open Go.Abs
set_option maxRecDepth 10000
variable {e : Ev}
theorem v.isE (x : Bytes) : Zeg (vl e) (.fn 56 []) [.str x] = some (.bool (decide (x = []))) := by
 show vl e 56 0 ([.str x] ++ []) = _
 rw [Xaw, w.zq21]; unfold y.zq21
 simp only [yy, ]
theorem v.Join2 (he : EnvT e) (d n : Bytes) (hn : n ≠ []) (hd : d.length <= 1000000) (hn2 : n.length <= 1000000) : vl e 37 0 [strs [d, n]] = some (.str (if d = [] then n else d ++ 47 :: n)) := by
 have hcl := v.CloneS (e := e) [d, n] (by simp)
 simp only [Xau, Xa5, Xan] at hcl
 have c0 : evp .chkd [I (2 : Nat), I (0 : Nat)] = some (I (0 : Nat)) := Zaq (by omega)
 have c1 : evp .chkd [I (2 : Nat), I (1 : Nat)] = some (I (1 : Nat)) := Zaq (by omega)
 have l0 : evp (.ldd none 0 1) [aggS [d, n], I (0 : Nat)] = some (.str d) := Zw3 (l := [d, n]) (i := 0) (by simp)
 have l1 : evp (.ldd none 0 1) [aggS [d, n], I (1 : Nat)] = some (.str n) := Zw3 (l := [d, n]) (i := 1) (by simp)
 rw [w.zq20]; unfold y.zq20
 by_cases h : d = []
 ·subst h
  rw [if_pos rfl]
  -- the first is found
  have hi : vl e 10784 1 [I (2 : Nat), .fn 56 [], aggS [[], n]] = some (.tup [I (0 : Nat), aggS [[], n]]) := by
   rw [w.zq50_h0]; unfold y.zq50_h0
   rw [w.zq50_h0_8]; unfold y.zq50_h0_8
   have hp := v.isE (e := e) []
   simp only [yy, if_pos (show (0 : Int) < ((2 : Nat) : Int) by omega)]
   rw [show (V.int .i64 0) = I (0 : Nat) from rfl, c0, Xaj, l0, Xaj, cv, hp]
   rfl
  have hdel : vl e 10864 1 [I (2 : Nat), .fn 56 [], aggS [[], n]] = some (.tup [I (1 : Nat), aggS [n, []]]) := by
   rw [w.zq49_h0]; unfold y.zq49_h0
   simp only [yy, hi, if_neg (show ¬((0 : Nat) : Int) = -1 by omega), Zay (show 0 < 1 by omega) (by omega)]
   have hp := v.isE (e := e) n
   rw [decide_eq_false hn] at hp
   have hst : evp (.std 1 0 1) [aggS [[], n], I (0 : Nat), .str n] = some (aggS [n, n]) := Z2x (l := [[], n]) (i := 0) (by simp)
   have hcx : evp (.clrx (.str [])) [aggS [n, n], I (2 : Nat), I (1 : Nat)] = some (aggS [n, []]) := Zzg (l := [n, n]) (i := 1) (by simp)
   have hck : evp .chkl [I (2 : Nat), I (1 : Nat)] = some (I (1 : Nat)) := Zz3 (by omega)
   rw [w.zq49_h0_18]; unfold y.zq49_h0_18
   simp only [yy, if_pos (show ((1 : Nat) : Int) < ((2 : Nat) : Int) by omega), c1, l1, cv, hp, c0, hst, Zay (show 0 < 1 by omega) (by omega), Zay (show 1 < 2 by omega) (by omega)]
   rw [w.zq49_h0_18]; unfold y.zq49_h0_18
   simp only [yy, if_neg (show ¬((2 : Nat) : Int) < ((2 : Nat) : Int) by omega), c1, hcx, hck]
  have hsn : evp .snapx [aggS [n, []], I (1 : Nat)] = some (strs [n]) := Zp6 (l := [n, []]) (i := 1) (by simp)
  have hj := v.join he [n] [47] (by simp) (by simp [Zgg]; omega)
  have hfl : evp .flr [.str n] = some (.str n) := rfl
  simp only [yy, hcl, hdel, hsn, hj]
  simp only [Zgg, hfl, Xaj]
 ·rw [if_neg h]
  have hi : vl e 10784 1 [I (2 : Nat), .fn 56 [], aggS [d, n]] = some (.tup [I (-1), aggS [d, n]]) := by
   have hp := v.isE (e := e) d
   have hq := v.isE (e := e) n
   rw [decide_eq_false h] at hp
   rw [decide_eq_false hn] at hq
   rw [w.zq50_h0]; unfold y.zq50_h0
   rw [w.zq50_h0_8]; unfold y.zq50_h0_8
   rw [show (V.int .i64 0) = I (0 : Nat) from rfl]
   simp only [yy, if_pos (show ((0 : Nat) : Int) < ((2 : Nat) : Int) by omega), c0, l0, cv, hp, Zay (show 0 < 1 by omega) (by omega)]
   rw [w.zq50_h0_8]; unfold y.zq50_h0_8
   simp only [yy, if_pos (show ((0 + 1 : Nat) : Int) < ((2 : Nat) : Int) by omega), c1, l1, cv, hq, Zay (show 1 < 2 by omega) (by omega)]
   rw [w.zq50_h0_8]; unfold y.zq50_h0_8
   simp only [yy, if_neg (show ¬((0 + 1 + 1 : Nat) : Int) < ((2 : Nat) : Int) by omega)]
  have hdel : vl e 10864 1 [I (2 : Nat), .fn 56 [], aggS [d, n]] = some (.tup [I (2 : Nat), aggS [d, n]]) := by
   rw [w.zq49_h0]; unfold y.zq49_h0
   simp only [yy, hi]
   simp
  have hsn : evp .snapx [aggS [d, n], I (2 : Nat)] = some (strs [d, n]) := Zp6 (l := [d, n]) (i := 2) (by simp)
  have hj := v.join he [d, n] [47] (by simp) (by simp [Zgg]; omega)
  have hfl : ∀ x : Bytes, evp .flr [.str x] = some (.str x) := fun _ => rfl
  simp only [yy, hcl, hdel, hsn, hj]
  simp only [hfl, Xaj]
  simp [Zgg]
end Go.Proofs.YtpmgdngjbdkdfaaDoor
namespace Go.Proofs.YtpmgdngjbdkdfaaDoor
open Go.Abs
set_option maxRecDepth 10000
variable {e : Ev}
def pS (S : List Fi) (i : Nat) : List Bytes := Zae 47 (S.getD i ([], [])).1
structure SoOK (S : List Fi) : Prop where
 good : ∀ f ∈ S, Zc3 f.1 = true
 data : ∀ f ∈ S, f.2.length <= 32768
 len : S.length <= 512
 up : ∀ i j, i < j -> j < S.length -> cmpL (pS S i) (pS S j) < 0
 free : ∀ i j, i < S.length -> j < S.length -> i ≠ j -> ∀ R, pS S i ≠ pS S j ++ R
theorem Zha (A B : List Bytes) : ∀ D : List Bytes, cmpL (D ++ A) (D ++ B) = cmpL A B
 | [] => rfl
 | x :: D => by rw [Xbf, Xbf, cmpL, if_pos (Zcu.2 rfl), Zha A B D]
theorem Zhq {x z : Bytes} {A B : List Bytes} (h : cmpL (x :: A) (z :: B) < 0) : x = z \/ Op.bytesLess x z = true := by
 rw [cmpL] at h
 by_cases h0 : cmpB x z = 0
 ·exact .inl (Zcu.1 h0)
 ·rw [if_neg h0] at h; exact .inr (Zhf.1 h)
theorem Zxl (p : Nat -> Prop) : ∀ n : Nat, ∃ k, k <= n /\ (∀ i, i < k -> p i) /\ (k < n -> ¬ p k)
 | 0 => ⟨0, Xag _, fun i h => by omega, fun h => by omega⟩
 | n + 1 => by
  obtain ⟨k, h1, h2, h3⟩ := Zxl p n
  by_cases hk : k < n
  ·exact ⟨k, by omega, h2, fun _ => h3 hk⟩
  ·by_cases hp : p k
   ·refine ⟨k + 1, by omega, fun i hi => ?_, fun h => by omega⟩
    rcases Xbu (Nat.le_of_lt_succ hi) with h | rfl
    ·exact h2 i h
    ·exact hp
   ·exact ⟨k, by omega, h2, fun _ => hp⟩
inductive Tr (S : List Fi) : List Bytes -> Nat -> Nat -> List En -> Bytes -> MB -> MB -> Prop
 | done {D : List Bytes} {a : Nat} {ls : List En} (hok : EnOK ls) : Tr S D a a ls (Zbe Zbk (Zaz ls)) [] [(Zbe Zbk (Zaz ls), Zaz ls)]
 | blob {D : List Bytes} {a b : Nat} {ls : List En} {x id : Bytes} {p1 p2 : MB} (hab : a < b) (hx : pS S a = D ++ [x]) (h : Tr S D (a + 1) b (ls ++ [⟨x, false, Zbe Zhn (S.getD a ([], [])).2⟩]) id p1 p2) :
   Tr S D a b ls id ((Zbe Zhn (S.getD a ([], [])).2, (S.getD a ([], [])).2) :: p1) p2
 | dir {D : List Bytes} {a b k : Nat} {ls : List En} {x id id1 : Bytes} {p1 p2 q1 q2 : MB} (hk : 0 < k) (hkb : a + k <= b) (hrun : ∀ i, a <= i -> i < a + k -> ∃ R, R ≠ [] /\ pS S i = D ++ x :: R) (hstop : a + k < b -> ¬ ∃ R, R ≠ [] /\ pS S (a + k) = D ++ x :: R)
   (h1 : Tr S (D ++ [x]) a (a + k) [] id1 p1 p2) (h2 : Tr S D (a + k) b (ls ++ [⟨x, true, id1⟩]) id q1 q2) : Tr S D a b ls id (p1 ++ q1) (p2 ++ q2)
theorem Zfp {a b : Nat} (h : a <= b) : evp .vlen [I a, I b] = some (I (b - a : Nat)) := by
 show (if 0 <= (a : Int) /\ (a : Int) <= (b : Int) then some (V.int .i64 ((b : Int) - (a : Int))) else none) = _
 rw [if_pos (by omega), <- Int.ofNat_sub h]
theorem Znp {a b l : Nat} (h : a + l <= b) : evp .vadd [I a, I b, I l] = some (I (a + l : Nat)) := by
 show (if 0 <= (a : Int) /\ 0 <= (l : Int) /\ (a : Int) + (l : Int) <= (b : Int) then some (V.int .i64 ((a : Int) + (l : Int))) else none) = _
 rw [if_pos (by omega), Xe7]
theorem Zkz {a b l : Nat} (h : a + l < b) : evp .vidx [I a, I b, I l] = some (I (a + l : Nat)) := by
 show (if 0 <= (a : Int) /\ 0 <= (l : Int) /\ (a : Int) + (l : Int) < (b : Int) then some (V.int .i64 ((a : Int) + (l : Int))) else none) = _
 rw [if_pos (by omega), Xe7]
theorem Zw4 (id : Bytes) : (id.map byteV).all V.sc = true := by
 rw [Xam]; intro c hc; obtain ⟨b, _, rfl⟩ := Xbb.1 hc; rfl
theorem Z03 {id : Bytes} (h : id.length = 32) : (bl id).cells.length = 32 /\ (bl id).cells.all V.sc = true := ⟨by simp [V.cells, h], Zw4 id⟩
theorem Ztc {nm id : Bytes} {t : Bool} (h : id.length = 32) : evp (.cat [none, none, some 32]) [.str nm, .bool t, bl id] = some (ev ⟨nm, t, id⟩) := by
 show (catV [none, none, some 32] [.str nm, .bool t, bl id]).map V.agg = _
 simp only [catV]
 rw [if_pos (show (V.str nm).sc = true from rfl), if_pos (show (V.bool t).sc = true from rfl), if_pos (Z03 h)]
 simp only [Xas, Xaw]; rfl
theorem Z2k {nm id : Bytes} (h : id.length = 32) : evp (.cat [none, some 32]) [.str nm, bl id] = some (.agg (.str nm :: id.map byteV)) := by
 show (catV [none, some 32] [.str nm, bl id]).map V.agg = _
 simp only [catV]
 rw [if_pos (show (V.str nm).sc = true from rfl), if_pos (Z03 h)]
 simp only [Xas, Xaw]; rfl
theorem Zty {x : En} (h : x.id.length = 32) : evp (.bsl 34) [ev x] = some (.sl false 34 [ev x]) := by
 have : fits 34 [ev x] = true := by simp [fits, Zle h]; exact Xam.1 (Z32 x)
 show (if fits 34 [ev x] then some (V.sl false 34 [ev x]) else none) = _
 rw [this]; rfl
theorem Zrg {l : List En} {x : En} (h : l.length + 1 <= Lim) : evp (.app 34) [entV l, .sl false 34 [ev x]] = some (entV (l ++ [x])) := by
 rw [entV, Zwf (by simpa using h)]; simp
theorem Zsj {D : List Bytes} {x : Bytes} (hD : ∀ u ∈ D, Zb0 u = true) : (if Zap 47 D = [] then x else Zap 47 D ++ 47 :: x) = Zap 47 (D ++ [x]) := by
 by_cases h : D = []
 ·subst h; rfl
 ·rw [if_neg (Zey h hD), Ze7 47 D [x] h (by simp)]; rfl
section
variable (he : EnvT e) (S : List Fi) (hS : SoOK S)
include he hS
omit he in
theorem Zo0 {i : Nat} (h : i < S.length) : ∀ x ∈ pS S i, Zb0 x = true := by
 unfold pS; rw [Zaw h]; exact Ze3 (hS.good _ (Xav h))
omit he hS in
theorem Zkr {i : Nat} (h : i < S.length) : evp (.ldd none 0 2) [aggF S, I i] = some (.str (S.getD i ([], [])).1) := by rw [Zr8 h, Zaw h]
omit he in
theorem Ziy {i : Nat} (h : i < S.length) : (S.getD i ([], [])).1.length <= 128 := by rw [Zaw h]; exact Zv5 (hS.good _ (Xav h))
omit he in
theorem v.below44 (D : List Bytes) (hD : ∀ u ∈ D, Zb0 u = true) (x : Bytes) (hx : Zb0 x = true) (hxl : x.length <= 128) (hjl : (Zap 47 (D ++ [x])).length <= 1000) (a b k : Nat) (hab : a + k <= b) (hb : b <= S.length) (hrun : ∀ i, a <= i -> i < a + k -> ∃ R, R ≠ [] /\ pS S i = D ++ x :: R) (hstop : a + k < b -> ¬ ∃ R, R ≠ [] /\ pS S (a + k) = D ++ x :: R)
  (ls : List En) (hls : ls.length <= 512) (id1 : Bytes) (hid : id1.length = 32) (m1 m2 m3 n1 n2 n3 z : V)
  (hrec : vl e 10336 1 [.str (Zap 47 (D ++ [x])), I a, I (a + k : Nat), aggF S, m1, m2, m3] = some (.tup [bl id1, I 0, aggF S, n1, n2, n3])) : ∀ (n j : Nat), j + n = k ->
  vl e 10336 44 [.str (Zap 47 D), I a, I b, entV ls, .str x, .str (Zap 47 (D ++ [x])), I j, aggF S, m1, m2, m3, z] = vl e 10336 8 [.str (Zap 47 D), I (a + k : Nat), I b, entV (ls ++ [⟨x, true, id1⟩]), aggF S, n1, n2, n3, z] := by
 have hlen := hS.len
 have hD' : ∀ u ∈ D ++ [x], Zb0 u = true := fun u hu => (Xa3.1 hu).elim (hD u) (fun h => by rw [Xa9.1 h]; exact hx)
 have hLim : ls.length + 1 <= Lim := by unfold Lim; omega
 intro n
 induction n with
 | zero =>
  intro j hj
  have hjk : j = k := by omega
  subst hjk
  rw [w.zq33_h0_44]; unfold y.zq33_h0_44
  by_cases hc : a + j < b
  ·have hi : a + j < S.length := by omega
   obtain ⟨u, hu, _⟩ := v.Under (e := e) (Zap 47 (D ++ [x])) (S.getD (a + j) ([], [])).1 (by omega) (by have := Ziy S hS hi; omega)
   have hno : (Zcj (Zap 47 (D ++ [x])) (S.getD (a + j) ([], [])).1).isSome = false := by
    cases h : Zcj (Zap 47 (D ++ [x])) (S.getD (a + j) ([], [])).1 with
    | none => rfl
    | some r =>
     obtain ⟨R, hR, hs⟩ := Zjn hD' h
     exact absurd ⟨R, hR, by rw [pS, hs]; simp⟩ (hstop hc)
   rw [hno] at hu
   simp only [yy, Zfp (show a <= b by omega), if_pos (show (j : Int) < ((b - a : Nat) : Int) by omega), Zkz hc, Zkr S hi, hu, Znp (show a + j <= b by omega), hrec, Zbm hid, Ztc hid, Zty (x := ⟨x, true, id1⟩) hid, Zrg hLim]
   simp
  ·simp only [yy, Zfp (show a <= b by omega), if_neg (show ¬(j : Int) < ((b - a : Nat) : Int) by omega), Znp (show a + j <= b by omega), hrec, Zbm hid, Ztc hid, Zty (x := ⟨x, true, id1⟩) hid, Zrg hLim]
   simp
 | succ n ih =>
  intro j hj
  have hi : a + j < S.length := by omega
  obtain ⟨R, hR, hs⟩ := hrun (a + j) (by omega) (by omega)
  obtain ⟨u, hu, _⟩ := v.Under (e := e) (Zap 47 (D ++ [x])) (S.getD (a + j) ([], [])).1 (by omega) (by have := Ziy S hS hi; omega)
  have hpp := Zo0 S hS hi
  rw [hs] at hpp
  have hyes := Zn8 (p := (S.getD (a + j) ([], [])).1) hD' (R := R) (fun c hc => hpp c (by simp [hc])) hR (by rw [<- pS, hs]; simp)
  rw [hyes] at hu
  have := ih (j + 1) (by omega)
  rw [w.zq33_h0_44]; unfold y.zq33_h0_44
  simp only [yy, Zfp (show a <= b by omega), if_pos (show (j : Int) < ((b - a : Nat) : Int) by omega), Zkz (show a + j < b by omega), Zkr S hi, hu, Xdj, Zay (show j < j + 1 by omega) (by omega)]
  exact this
theorem v.below8 : ∀ (q : Nat) (D : List Bytes) (a b : Nat) (ls : List En), (16 - D.length) * 513 + (b - a) <= q -> a <= b -> b <= S.length -> (∀ u ∈ D, Zb0 u = true) -> (Zap 47 D).length <= 128 -> (∀ i, a <= i -> i < b -> ∃ R, R ≠ [] /\ pS S i = D ++ R) -> EnOK ls -> ls.length + (b - a) <= 512 -> (∀ en ∈ ls, ∀ i, a <= i -> i < b -> ∀ x R, pS S i = D ++ x :: R -> Op.bytesLess en.nm x = true) ->
  ∃ (id : Bytes) (p1 p2 : MB), Tr S D a b ls id p1 p2 /\ id.length = 32 /\ keyL p1 /\ keyL p2 /\ ∀ (M1 M2 : MB) (m3 z : V), keyL M1 -> keyL M2 ->
   vl e 10336 8 [.str (Zap 47 D), I a, I b, entV ls, aggF S, mv M1, mv M2, m3, z] = some (.tup [bl id, I 0, aggF S, mv (Zft p1 M1), mv (Zft p2 M2), m3]) := by
 have hlen := hS.len
 intro q
 induction q with
 | zero =>
  intro D a b ls hq hab hb hD hjl hin hls hll hlt
  have hab' : a = b := by omega
  subst hab'
  refine ⟨_, _, _, .done hls, Zax _ _, (fun p hp => by cases hp), (fun p hp => by rw [Xa9.1 hp]; exact Zax _ _), fun M1 M2 m3 z h1 h2 => ?_⟩
  rw [w.zq33_h0_8]; unfold y.zq33_h0_8
  simp only [yy, Zfp (Xag a), if_neg (show ¬(0 : Int) < ((a - a : Nat) : Int) by omega), v.PutTree he ls hls (mv M1) m3 M2 h2, Zbm (Zax _ _)]
  rfl
 | succ q ih =>
  intro D a b ls hq hab hb hD hjl hin hls hll hlt
  rcases Xbu hab with hlt' | rfl
  rotate_left
  ·refine ⟨_, _, _, .done hls, Zax _ _, (fun p hp => by cases hp), (fun p hp => by rw [Xa9.1 hp]; exact Zax _ _), fun M1 M2 m3 z h1 h2 => ?_⟩
   rw [w.zq33_h0_8]; unfold y.zq33_h0_8
   simp only [yy, Zfp (Xag a), if_neg (show ¬(0 : Int) < ((a - a : Nat) : Int) by omega), v.PutTree he ls hls (mv M1) m3 M2 h2, Zbm (Zax _ _)]
   rfl
  have ha : a < S.length := by omega
  obtain ⟨R0, hR0, hs0⟩ := hin a (Xag _) hlt'
  obtain ⟨x, R, rfl⟩ : ∃ x R, R0 = x :: R := by cases R0 with
   | nil => exact absurd rfl hR0
   | cons x R => exact ⟨x, R, rfl⟩
  have hpa := Zo0 S hS ha
  rw [hs0] at hpa
  have hx : Zb0 x = true := hpa x (by simp)
  have hR : ∀ u ∈ R, Zb0 u = true := fun u hu => hpa u (by simp [hu])
  have hxR : ∀ u ∈ x :: R, Zb0 u = true := fun u hu => hpa u (by simp only [Xa3]; exact .inr hu)
  have hpl := Ziy S hS ha
  have hgood : Zc3 (S.getD a ([], [])).1 = true := by rw [Zaw ha]; exact hS.good _ (Xav ha)
  have h16 : (pS S a).length <= 16 := by
   have := hgood
   simp only [Zc3, Xah, decide_eq_true_eq] at this
   exact this.1.2
  have hD16 : D.length < 16 := by rw [hs0] at h16; simp at h16; omega
  have hxl : x.length <= 128 := by
   have := Zch 47 (show x ∈ Zae 47 (S.getD a ([], [])).1 by rw [<- pS, hs0]; simp)
   omega
  -- what stands behind the directory
  have hund := Zn8 (p := (S.getD a ([], [])).1) hD hxR (by simp) (by rw [<- pS]; exact hs0)
  obtain ⟨r, hr, hr2⟩ := v.Under (e := e) (Zap 47 D) (S.getD a ([], [])).1 (by omega) (by omega)
  have hr3 := hr2 _ hund
  subst hr3
  rw [hund, Xdj] at hr
  have hrl := Zsg hund
  have hsp := v.pSplit he (Zap 47 (x :: R)) (by omega)
  have hps : Zct (Zap 47 (x :: R)) = x :: R := by
   unfold Zct
   rw [if_neg (Zey (by simp) hxR), Zjf (by simp) hxR]
  rw [hps] at hsp
  have hnew : ∀ (t : Bool) (id : Bytes), id.length = 32 -> EnOK (ls ++ [⟨x, t, id⟩]) := fun t id hid => {
   nm := fun en hen => (Xa3.1 hen).elim (hls.nm en) (fun h => by rw [Xa9.1 h]; exact ⟨hx, hxl⟩)
   id := fun en hen => (Xa3.1 hen).elim (hls.id en) (fun h => by rw [Xa9.1 h]; exact hid)
   up := Xch.2 ⟨hls.up, List.pairwise_singleton _ _, fun u hu t ht => by rw [Xa9.1 ht]; exact hlt u hu a (Xag _) hlt' x R hs0⟩
   len := by simp; omega }
  by_cases hRn : R = []
  ·-- a file
   subst hRn
   have hd : (S.getD a ([], [])).2.length <= 32768 := by rw [Zaw ha]; exact hS.data _ (Xav ha)
   obtain ⟨id, p1, p2, t1, t2, t3, t4, t5⟩ := ih D (a + 1) b (ls ++ [⟨x, false, Zbe Zhn (S.getD a ([], [])).2⟩]) (by omega) (by omega) hb hD hjl (fun i h1 h2 => hin i (by omega) h2) (hnew _ _ (Zax _ _)) (by simp; omega) (fun en hen i h1 h2 x' R' hs' => by
    have hup := hS.up a i (by omega) (by omega)
    rw [hs0, hs', Zha] at hup
    have hxx : Op.bytesLess x x' = true := by
     rcases Zhq hup with rfl | h
     ·exact absurd (by rw [hs', hs0]; simp) (hS.free i a (by omega) ha (by omega) R')
     ·exact h
    rcases Xa3.1 hen with h | h
    ·exact hlt en h i (by omega) h2 x' R' hs'
    ·rw [Xa9.1 h]; exact hxx)
   refine ⟨id, _, _, .blob hlt' hs0 t1, t2, fun p hp => (Xay.1 hp).elim (fun h => by rw [h]; exact Zax _ _) (t3 p), t4, fun M1 M2 m3 z h1 h2 => ?_⟩
   have hpb := v.PutBlob (e := e) (S.getD a ([], [])).2 hd M1 h1 (mv M2) m3
   have hdd : evp (.ldd none 1 2) [aggF S, I a] = some (.str (S.getD a ([], [])).2) := by rw [Z1m ha, Zaw ha]
   have hi0 : evp .vidx [I a, I b, .int .i64 0] = some (I a) := Zkz (l := 0) (by omega)
   have ha1 : evp .vadd [I a, I b, .int .i64 1] = some (I (a + 1 : Nat)) := Znp (l := 1) (by omega)
   rw [w.zq33_h0_8]; unfold y.zq33_h0_8
   have hjx : Zap 47 [x] = x := rfl
   rw [hjx] at hr hsp
   simp only [yy, Zfp hab, if_pos (show (0 : Int) < ((b - a : Nat) : Int) by omega), hi0, Zkr S ha, hr, hsp, Zxi, Zis, hdd, hpb, Zbm (Zax _ _), Z2k (Zax _ _), Ztc (Zax _ _), Zty (x := ⟨x, false, Zbe Zhn (S.getD a ([], [])).2⟩) (Zax _ _), Zrg (show ls.length + 1 <= Lim by unfold Lim; omega), ha1]
   simp only [if_true]
   exact t5 (putM M1 _ _) M2 m3 z (Zlq h1 (Zax _ _)) h2
  ·-- a directory
   obtain ⟨k, hk1, hk2, hk3⟩ := Zxl (fun t => ∃ R, R ≠ [] /\ pS S (a + t) = D ++ x :: R) (b - a)
   have hk0 : 0 < k := by
    refine Nat.pos_of_ne_zero fun h => ?_
    subst h
    exact hk3 (by omega) ⟨R, hRn, hs0⟩
   have hrun : ∀ i, a <= i -> i < a + k -> ∃ R, R ≠ [] /\ pS S i = D ++ x :: R := fun i h1 h2 => by
    have := hk2 (i - a) (by omega)
    rwa [show a + (i - a) = i by omega] at this
   have hstop : a + k < b -> ¬ ∃ R, R ≠ [] /\ pS S (a + k) = D ++ x :: R := fun h => hk3 (by omega)
   have hD' : ∀ u ∈ D ++ [x], Zb0 u = true := fun u hu => (Xa3.1 hu).elim (hD u) (fun h => by rw [Xa9.1 h]; exact hx)
   have hjl' : (Zap 47 (D ++ [x])).length <= 128 := by
    have hj := Zby 47 (S.getD a ([], [])).1
    rw [<- pS, hs0, show D ++ x :: R = (D ++ [x]) ++ R by simp, Ze7 47 (D ++ [x]) R (by simp) hRn] at hj
    have := congrArg List.length hj
    simp only [Xai, Xau] at this
    omega
   obtain ⟨id1, p1, p2, s1, s2, s3, s4, s5⟩ := ih (D ++ [x]) a (a + k) [] (by simp only [Xai, Xau, Xa5]; omega) (by omega) (by omega) hD' hjl' (fun i h1 h2 => by
    obtain ⟨R', hR', hs'⟩ := hrun i h1 h2
    exact ⟨R', hR', by rw [hs']; simp⟩) { nm := (fun _ h => by cases h), id := (fun _ h => by cases h), up := .nil, len := by simp } (by simp; omega) (fun en hen => by cases hen)
   obtain ⟨id, q1, q2, t1, t2, t3, t4, t5⟩ := ih D (a + k) b (ls ++ [⟨x, true, id1⟩]) (by omega) (by omega) hb hD hjl (fun i h1 h2 => hin i (by omega) h2) (hnew _ _ s2) (by simp; omega) (fun en hen i h1 h2 x' R' hs' => by
    -- the first behind the directory
    obtain ⟨R2, hR2, hs2⟩ := hin (a + k) (by omega) (by omega)
    obtain ⟨x2, R3, rfl⟩ : ∃ x2 R3, R2 = x2 :: R3 := by cases R2 with
     | nil => exact absurd rfl hR2
     | cons x R => exact ⟨x, R, rfl⟩
    have hup := hS.up a (a + k) (by omega) (by omega)
    rw [hs0, hs2, Zha] at hup
    have hxx2 : Op.bytesLess x x2 = true := by
     rcases Zhq hup with rfl | h
     ·by_cases hR3 : R3 = []
      ·subst hR3
       exact absurd (show pS S a = pS S (a + k) ++ R by rw [hs0, hs2]; simp) (hS.free a (a + k) ha (by omega) (by omega) R)
      ·exact absurd ⟨R3, hR3, hs2⟩ (hstop (by omega))
     ·exact h
    have hxx : Op.bytesLess x x' = true := by
     rcases Xbu h1 with h | rfl
     ·have hup2 := hS.up (a + k) i h (by omega)
      rw [hs2, hs', Zha] at hup2
      rcases Zhq hup2 with rfl | h
      ·exact hxx2
      ·exact Ze4 hxx2 h
     ·rw [hs2] at hs'
      have := List.append_cancel_left hs'
      simp only [Xek] at this
      rw [<- this.1]; exact hxx2
    rcases Xa3.1 hen with h | h
    ·exact hlt en h i (by omega) h2 x' R' hs'
    ·rw [Xa9.1 h]; exact hxx)
   refine ⟨id, _, _, .dir hk0 (by omega) hrun hstop s1 t1, t2, fun p hp => (Xa3.1 hp).elim (s3 p) (t3 p), fun p hp => (Xa3.1 hp).elim (s4 p) (t4 p), fun M1 M2 m3 z h1 h2 => ?_⟩
   have hr8 := s5 M1 M2 m3 z32 h1 h2
   have hrec : vl e 10336 1 [.str (Zap 47 (D ++ [x])), I a, I (a + k : Nat), aggF S, mv M1, mv M2, m3] = some (.tup [bl id1, I 0, aggF S, mv (Zft p1 M1), mv (Zft p2 M2), m3]) := by
    rw [w.zq33_h0]; unfold y.zq33_h0
    exact hr8
   have h44 := v.below44 S hS D hD x hx hxl (by omega) a b k (by omega) hb hrun hstop ls (by omega) id1 s2 (mv M1) (mv M2) m3 (mv (Zft p1 M1)) (mv (Zft p2 M2)) m3 z hrec k 0 (Xan _)
   have hi0 : evp .vidx [I a, I b, .int .i64 0] = some (I a) := Zkz (l := 0) (by omega)
   have hne : ¬ x = Zap 47 (x :: R) := fun h => by
    have := Zhr hx
    rw [h, Zee _ _ _ hRn] at this
    exact this (by simp)
   have hjn := v.Join2 he (Zap 47 D) x (Zrm hx) (by omega) (by omega)
   rw [Zsj hD] at hjn
   rw [w.zq33_h0_8]; unfold y.zq33_h0_8
   simp only [yy, Zfp hab, if_pos (show (0 : Int) < ((b - a : Nat) : Int) by omega), hi0, Zkr S ha, hr, hsp, Zxi, Zis, if_neg hne, Z2f, hjn]
   refine h44.trans ?_
   rw [t5 _ _ m3 z (Zgi s3 h1) (Zgi s4 h2), Zmp, Zmp]
end
end Go.Proofs.YtpmgdngjbdkdfaaDoor
namespace Go.Proofs.YtpmgdngjbdkdfaaDoor
open Go.Abs
set_option maxRecDepth 10000
variable {e : Ev}
theorem Zdn {p : Bytes} (h : Zc3 p = true) : Zct p = Zae 47 p := if_neg (Zy4 h)
theorem Zeo {a b : Bytes} (ha : Zc3 a = true) (hb : Zc3 b = true) : Zcc a b = true <-> ∃ R, Zae 47 b = Zae 47 a ++ R := by
 have ja := Zby 47 a
 constructor
 ·intro h
  unfold Zcc at h
  simp only [Xa6, decide_eq_true_eq] at h
  rcases h with h | h
  ·obtain ⟨r, hr⟩ := Xcn.1 h
   rw [<- ja] at hr
   obtain ⟨R, _, hs⟩ := Zjn (Ze3 ha) hr
   exact ⟨R, hs⟩
  ·exact ⟨[], by rw [h]; simp⟩
 ·rintro ⟨R, hR⟩
  unfold Zcc
  simp only [Xa6, decide_eq_true_eq]
  by_cases h0 : R = []
  ·right
   subst h0
   rw [Xaw] at hR
   rw [<- ja, <- hR, Zby]
  ·left
   have hp := Ze3 hb
   rw [hR] at hp
   have := Zn8 (Ze3 ha) (fun x hx => hp x (by simp [hx])) h0 hR
   rw [ja] at this
   rw [this]; rfl
theorem Zur : ∀ {A B R : List Bytes}, ¬ cmpL B A < 0 -> ¬ cmpL (A ++ R) B < 0 -> ∃ R', B = A ++ R'
 | [], B, _, _, _ => ⟨B, rfl⟩
 | x :: A, [], _, h, _ => absurd (show cmpL [] (x :: A) < 0 by simp [cmpL]) h
 | x :: A, z :: B, R, h1, h2 => by
  rw [cmpL] at h1
  rw [Xbf, cmpL] at h2
  have hs := Zmn x z
  by_cases h0 : cmpB x z = 0
  ·have hz : cmpB z x = 0 := by omega
   rw [if_pos hz] at h1
   rw [if_pos h0] at h2
   obtain ⟨R', hR'⟩ := Zur h1 h2
   exact ⟨R', by rw [hR', Zcu.1 h0]; rfl⟩
  ·rw [if_neg (by omega)] at h1
   rw [if_neg h0] at h2
   omega
theorem Zo2 : ∀ (A R : List Bytes), R ≠ [] -> cmpL A (A ++ R) < 0
 | [], R, h => by cases R with
  | nil => exact absurd rfl h
  | cons x r => simp [cmpL]
 | x :: A, R, h => by rw [Xbf, cmpL, if_pos (Zcu.2 rfl)]; exact Zo2 A R h
def Zng (l : List Fi) : Prop := (∀ f ∈ l, Zc3 f.1 = true) /\ l.Pairwise fun a b => Zcc a.1 b.1 = false /\ Zcc b.1 a.1 = false
theorem Zxd (l : List Fi) : (∀ i, i < l.length -> okI l i) <-> Zng l := by
 constructor
 ·intro h
  refine ⟨fun f hf => ?_, Xbd.2 fun i j hi hj hij => ?_⟩
  ·obtain ⟨i, hi, rfl⟩ := Xb6.1 hf
   have := (h i hi).1
   rwa [Zaw hi] at this
  ·have h1 := (h j hj).2 i hi (by omega)
   have h2 := (h i hi).2 j hj (by omega)
   rw [Zaw hi, Zaw hj] at h1 h2
   exact ⟨h1, h2⟩
 ·rintro ⟨h1, h2⟩ i hi
  have h2 := Xbd.1 h2
  refine ⟨by rw [Zaw hi]; exact h1 _ (Xav hi), fun k hk hki => ?_⟩
  rw [Zaw hi, Zaw hk]
  rcases Xes hki with h | h
  ·exact (h2 k i hk hi h).1
  ·exact (h2 i k hi hk h).2
theorem Zo7 {l m : List Fi} (h : l.Perm m) : Zng l <-> Zng m := by
 have hp : ∀ {l m : List Fi}, l.Perm m -> Zng l -> Zng m := fun h hl =>
  ⟨fun f hf => hl.1 f (h.mem_iff.2 hf), h.pairwise hl.2 (fun hab => ⟨hab.2, hab.1⟩)⟩
 exact ⟨hp h, hp h.symm⟩
def Zd0 (S : List Fi) (j : Nat) : Prop := Zc3 (S.getD j ([], [])).1 = true /\ (0 < j -> Zcc (S.getD (j - 1) ([], [])).1 (S.getD j ([], [])).1 = false)
abbrev pc (a b : Fi) : Int := pcmp a.1 b.1
theorem Znr {S : List Fi} (hs : So pc S) : (∀ j, j < S.length -> Zd0 S j) <-> Zng S := by
 constructor
 ·intro h
  have hg : ∀ f ∈ S, Zc3 f.1 = true := fun f hf => by
   obtain ⟨i, hi, rfl⟩ := Xb6.1 hf
   have := (h i hi).1
   rwa [Zaw hi] at this
  refine ⟨hg, Xbd.2 fun i j hi hj hij => ?_⟩
  have gi := hg _ (Xav hi)
  have gj := hg _ (Xav hj)
  have hle : ¬ cmpL (Zae 47 S[j].1) (Zae 47 S[i].1) < 0 := by
   have := Xbd.1 hs i j hi hj hij
   unfold Le pc pcmp at this
   rwa [Zdn gi, Zdn gj] at this
  have first : Zcc S[i].1 S[j].1 = false := by
   cases hc : Zcc S[i].1 S[j].1 with
   | false => rfl
   | true =>
    obtain ⟨R, hR⟩ := (Zeo gi gj).1 hc
    have hk : i + 1 < S.length := by omega
    have gk := hg _ (Xav hk)
    have h1 : ¬ cmpL (Zae 47 S[i + 1].1) (Zae 47 S[i].1) < 0 := by
     have := Xbd.1 hs i (i + 1) hi hk (by omega)
     unfold Le pc pcmp at this
     rwa [Zdn gi, Zdn gk] at this
    have h2 : ¬ cmpL (Zae 47 S[i].1 ++ R) (Zae 47 S[i + 1].1) < 0 := by
     rw [<- hR]
     rcases Xbu (show i + 1 <= j by omega) with h' | h'
     ·have := Xbd.1 hs (i + 1) j hk hj h'
      unfold Le pc pcmp at this
      rwa [Zdn gj, Zdn gk] at this
     ·have : S[i + 1] = S[j] := by congr 1
      rw [this]
      intro hx
      have := cmpL_zero.2 (rfl : Zae 47 S[j].1 = Zae 47 S[j].1)
      omega
    obtain ⟨R', hR'⟩ := Zur h1 h2
    have := (h (i + 1) hk).2 (by omega)
    rw [Zaw hk, Nat.add_sub_cancel, Zaw hi, (Zeo gi gk).2 ⟨R', hR'⟩] at this
    cases this
  refine ⟨first, ?_⟩
  cases hc : Zcc S[j].1 S[i].1 with
  | false => rfl
  | true =>
   obtain ⟨R, hR⟩ := (Zeo gj gi).1 hc
   by_cases h0 : R = []
   ·rw [h0, Xaw] at hR
    rw [(Zeo gi gj).2 ⟨[], by rw [hR]; simp⟩] at first
    cases first
   ·rw [hR] at hle
    exact absurd (Zo2 _ R h0) hle
 ·rintro ⟨h1, h2⟩ j hj
  refine ⟨by rw [Zaw hj]; exact h1 _ (Xav hj), fun h0 => ?_⟩
  rw [Zaw hj, Zaw (show j - 1 < S.length by omega)]
  exact (Xbd.1 h2 (j - 1) j (by omega) hj (by omega)).1
theorem Z7f {S : List Fi} (hs : So pc S) (ha : Zng S) (hd : ∀ f ∈ S, f.2.length <= 32768) (hl : S.length <= 512) : SoOK S := by
 have free : ∀ i j, i < S.length -> j < S.length -> i ≠ j -> ∀ R, pS S i ≠ pS S j ++ R := by
  intro i j hi hj hij R h
  unfold pS at h
  rw [Zaw hi, Zaw hj] at h
  have gi := ha.1 _ (Xav hi)
  have gj := ha.1 _ (Xav hj)
  have hc := (Zeo gj gi).2 ⟨R, h⟩
  rcases Xes hij with h' | h'
  ·rw [(Xbd.1 ha.2 i j hi hj h').2] at hc; cases hc
  ·rw [(Xbd.1 ha.2 j i hj hi h').1] at hc; cases hc
 refine ⟨ha.1, hd, hl, fun i j hij hj => ?_, free⟩
 have hi : i < S.length := by omega
 have gi := ha.1 _ (Xav hi)
 have gj := ha.1 _ (Xav hj)
 have hle := Xbd.1 hs i j hi hj hij
 unfold Le pc pcmp at hle
 rw [Zdn gi, Zdn gj] at hle
 have hne : cmpL (pS S i) (pS S j) ≠ 0 := fun h => free i j hi hj (by omega) [] (by rw [Xaw]; exact cmpL_zero.1 h)
 have hsw := Zhx (pS S i) (pS S j)
 have e1 : pS S i = Zae 47 S[i].1 := by unfold pS; rw [Zaw hi]
 have e2 : pS S j = Zae 47 S[j].1 := by unfold pS; rw [Zaw hj]
 rw [<- e1, <- e2] at hle
 omega
abbrev zid : Bytes := List.replicate 32 0
theorem Zfg : evp (.cat []) [] = some (.agg []) := rfl
theorem Zfi : evp (.cat [some 32]) [.agg (repl 32 (.int .u8 0))] = some (bl zid) := by rw [Z2w]; exact Zbm (by simp)
section
variable (he : EnvT e) (S : List Fi) (hl : S.length <= 1000000) (hb : ∀ f ∈ S, f.1.length <= 1000000 /\ f.2.length <= 1000000000) (m1 m2 m3 z : V)
include hl
theorem v.build65 : ∀ (n i : Nat), i + n = S.length -> (vl e 10144 65 [I S.length, I S.length, I S.length, I i, m1, m2, m3, z, aggF S] =
  if ∀ f ∈ S.drop i, f.2.length <= 32768 then (vl e 10144 65 [I S.length, I S.length, I S.length, I S.length, m1, m2, m3, z, aggF S]) else some (.tup [bl zid, I 3, m1, m2, m3])) := by
 intro n
 induction n with
 | zero =>
  intro i hi
  rw [if_pos (by rw [Xat (by omega)]; simp), show i = S.length by omega]
 | succ n ih =>
  intro i hi
  have hlt : i < S.length := by omega
  have hd := Xao hlt
  rw [w.zq26_h0_65]; unfold y.zq26_h0_65
  by_cases hc : 32768 < S[i].2.length
  ·simp only [yy, if_pos (show (i : Int) < (S.length : Int) by omega), Zaq hlt, Zb3 hlt, Zbs, Zm8, if_pos (show (32768 : Int) < (S[i].2.length : Int) by omega), Zfg, Zfi]
   rw [if_neg (fun h => by have := h S[i] (by rw [hd]; exact Xdk); omega)]
  ·simp only [yy, if_pos (show (i : Int) < (S.length : Int) by omega), Zaq hlt, Zb3 hlt, Zbs, Zm8, if_neg (show ¬(32768 : Int) < (S[i].2.length : Int) by omega), Zay hlt (by omega)]
   rw [ih (i + 1) (by omega)]
   have : (∀ f ∈ S.drop (i + 1), f.2.length <= 32768) <-> ∀ f ∈ S.drop i, f.2.length <= 32768 := by
    rw [hd]
    exact ⟨fun h f hf => (Xay.1 hf).elim (fun h => by rw [h]; omega) (h f), fun h f hf => h f (Xbn _ hf)⟩
   by_cases hp : ∀ f ∈ S.drop (i + 1), f.2.length <= 32768
   ·rw [if_pos hp, if_pos (this.1 hp)]
   ·rw [if_neg hp, if_neg (fun h => hp (this.2 h))]
include he hb
open Classical in
theorem v.build28 : ∀ (n i : Nat), i + n = S.length -> (vl e 10144 28 [I S.length, I S.length, I S.length, I i, m1, m2, m3, z, aggF S] =
  if ∀ j, j < S.length -> i <= j -> Zd0 S j then (vl e 10144 65 [I S.length, I S.length, I S.length, I (0 : Nat), m1, m2, m3, z, aggF S]) else some (.tup [bl zid, I 1, m1, m2, m3])) := by
 intro n
 induction n with
 | zero =>
  intro i hi
  rw [if_pos (fun j h1 h2 => by omega), w.zq26_h0_28]; unfold y.zq26_h0_28
  simp only [yy, if_neg (show ¬(i : Int) < (S.length : Int) by omega)]
  rfl
 | succ n ih =>
  intro i hi
  have hlt : i < S.length := by omega
  have hg := v.Good he S[i].1 (hb _ (Xav hlt)).1
  have hih := ih (i + 1) (by omega)
  have cong : Zd0 S i -> ((if ∀ j, j < S.length -> i + 1 <= j -> Zd0 S j then (vl e 10144 65 [I S.length, I S.length, I S.length, I (0 : Nat), m1, m2, m3, z, aggF S]) else some (.tup [bl zid, I 1, m1, m2, m3])) =
    if ∀ j, j < S.length -> i <= j -> Zd0 S j then (vl e 10144 65 [I S.length, I S.length, I S.length, I (0 : Nat), m1, m2, m3, z, aggF S]) else some (.tup [bl zid, I 1, m1, m2, m3])) := by
   intro h0
   have : (∀ j, j < S.length -> i + 1 <= j -> Zd0 S j) <-> ∀ j, j < S.length -> i <= j -> Zd0 S j := by
    refine ⟨fun h j h1 h2 => ?_, fun h j h1 h2 => h j h1 (by omega)⟩
    rcases Xbu h2 with h' | rfl
    ·exact h j h1 h'
    ·exact h0
   by_cases hp : ∀ j, j < S.length -> i + 1 <= j -> Zd0 S j
   ·rw [if_pos hp, if_pos (this.1 hp)]
   ·rw [if_neg hp, if_neg (fun h => hp (this.2 h))]
  have bad : ¬ Zd0 S i -> some (V.tup [bl zid, I 1, m1, m2, m3]) = if ∀ j, j < S.length -> i <= j -> Zd0 S j then (vl e 10144 65 [I S.length, I S.length, I S.length, I (0 : Nat), m1, m2, m3, z, aggF S]) else some (.tup [bl zid, I 1, m1, m2, m3]) := by
   intro h0
   rw [if_neg (fun h => h0 (h i hlt (Xag _)))]
  rw [w.zq26_h0_28]; unfold y.zq26_h0_28
  cases hgd : Zc3 S[i].1 with
  | false =>
   rw [hgd] at hg
   rw [<- bad (fun h => by have := h.1; rw [Zaw hlt, hgd] at this; cases this)]
   simp only [yy, if_pos (show (i : Int) < (S.length : Int) by omega), Zaq hlt, Zb3 hlt, Zbs, Zeh, hg, Zfg, Zfi]
  | true =>
   rw [hgd] at hg
   by_cases h0 : 0 < i
   ·have hlt' : i - 1 < S.length := by omega
    obtain ⟨x, hx, _⟩ := v.Under (e := e) S[i - 1].1 S[i].1 (hb _ (Xav hlt')).1 (hb _ (Xav hlt)).1
    have hl1 : evp (.ldd none 0 2) [aggF S, I (i - 1 : Nat)] = some (.str S[i - 1].1) := Zr8 hlt'
    have p1 := Zm5 (show 1 <= i by omega) (show i <= 1152921504606846976 by omega)
    cases hu : (Zcj S[i - 1].1 S[i].1).isSome with
    | true =>
     rw [hu] at hx
     rw [<- bad (fun h => by have := h.2 h0; rw [Zaw hlt, Zaw hlt', Zcc, hu] at this; cases this)]
     simp only [yy, if_pos (show (i : Int) < (S.length : Int) by omega), Zaq hlt, Zb3 hlt, Zbs, Zeh, hg, if_pos (show (0 : Int) < (i : Int) by omega), p1, Zaq hlt', hl1, hx, Zfg, Zfi]
    | false =>
     rw [hu] at hx
     by_cases heq : S[i - 1].1 = S[i].1
     ·rw [<- bad (fun h => by have := h.2 h0; rw [Zaw hlt, Zaw hlt', Zcc, decide_eq_true heq, Xer] at this; cases this)]
      simp only [yy, if_pos (show (i : Int) < (S.length : Int) by omega), Zaq hlt, Zb3 hlt, Zbs, Zeh, hg, if_pos (show (0 : Int) < (i : Int) by omega), p1, Zaq hlt', hl1, hx, if_pos heq, Zfg, Zfi]
     ·rw [<- cong ⟨by rw [Zaw hlt]; exact hgd, fun _ => by rw [Zaw hlt, Zaw hlt', Zcc, hu, decide_eq_false heq]; rfl⟩, <- hih]
      simp only [yy, if_pos (show (i : Int) < (S.length : Int) by omega), Zaq hlt, Zb3 hlt, Zbs, Zeh, hg, if_pos (show (0 : Int) < (i : Int) by omega), p1, Zaq hlt', hl1, hx, if_neg heq, Zay hlt (by omega)]
   ·rw [<- cong ⟨by rw [Zaw hlt]; exact hgd, fun h => absurd h h0⟩, <- hih]
    simp only [yy, if_pos (show (i : Int) < (S.length : Int) by omega), Zaq hlt, Zb3 hlt, Zbs, Zeh, hg, if_neg (show ¬(0 : Int) < (i : Int) by omega), Zay hlt (by omega)]
end
theorem v.Build (he : EnvT e) (l : List Fi) (hl : l.length <= 1000000) (hb : ∀ f ∈ l, f.1.length <= 1000000 /\ f.2.length <= 1000000000) :
  ∃ (id : Bytes) (p1 p2 : MB), id.length = 32 /\ keyL p1 /\ keyL p2 /\ (whyB l ≠ 0 -> p1 = [] /\ p2 = []) /\ (whyB l = 0 -> ∃ S, S.Perm l /\ SoOK S /\ Tr S [] 0 S.length [] id p1 p2) /\
   ∀ (M1 M2 : MB) (m3 : V), keyL M1 -> keyL M2 -> vl e 10144 1 [Zat l, mv M1, mv M2, m3] = some (.tup [bl id, I (whyB l), mv (Zft p1 M1), mv (Zft p2 M2), m3]) := by
 obtain ⟨S, hperm, hso, hsort⟩ := v.sort (v.ord he) l (fun f hf => (hb f hf).1) (by omega)
 have hSl : S.length = l.length := hperm.length_eq
 have hbS : ∀ f ∈ S, f.1.length <= 1000000 /\ f.2.length <= 1000000000 := fun f hf => hb f (hperm.mem_iff.1 hf)
 have start : ∀ (M1 M2 m3 : V), ¬ 512 < l.length -> vl e 10144 1 [Zat l, M1, M2, m3] = vl e 10144 28 [I S.length, I S.length, I S.length, I (0 : Nat), M1, M2, m3, z32, aggF S] := by
  intro M1 M2 m3 hn
  rw [w.zq26_h0]; unfold y.zq26_h0
  simp only [yy, Zfh, if_neg (show ¬(512 : Int) < (l.length : Int) by omega), v.CloneF l hl, hsort]
  rw [hSl]; rfl
 have hall := (Znr hso).trans ((Zo7 hperm).trans (Zxd l).symm)
 unfold whyB
 by_cases h512 : 512 < l.length
 ·rw [if_pos h512]
  refine ⟨zid, [], [], by simp, (fun _ h => by cases h), (fun _ h => by cases h), fun _ => ⟨rfl, rfl⟩, fun h => absurd h (by decide), fun M1 M2 m3 _ _ => ?_⟩
  rw [w.zq26_h0]; unfold y.zq26_h0
  simp only [yy, Zfh, if_pos (show (512 : Int) < (l.length : Int) by omega), Zfg, Zfi]
  rfl
 rw [if_neg h512]
 have h28 := fun (m1 m2 m3 : V) => v.build28 he S (by omega) hbS m1 m2 m3 z32 S.length 0 (Xan _)
 by_cases hok : ∀ i, i < l.length -> okI l i
 rotate_left
 ·rw [if_neg hok]
  refine ⟨zid, [], [], by simp, (fun _ h => by cases h), (fun _ h => by cases h), fun _ => ⟨rfl, rfl⟩, fun h => absurd h (by decide), fun M1 M2 m3 _ _ => ?_⟩
  rw [start _ _ _ h512, h28, if_neg (fun h => hok (hall.1 fun j hj => h j hj (Xb2 _)))]
  rfl
 rw [if_pos hok]
 have hadj : ∀ j, j < S.length -> 0 <= j -> Zd0 S j := fun j hj _ => hall.2 hok j hj
 have h65 := fun (m1 m2 m3 : V) => v.build65 (e := e) S (by omega) m1 m2 m3 z32 S.length 0 (Xan _)
 by_cases hd : ∀ f ∈ l, f.2.length <= 32768
 rotate_left
 ·rw [if_neg hd]
  refine ⟨zid, [], [], by simp, (fun _ h => by cases h), (fun _ h => by cases h), fun _ => ⟨rfl, rfl⟩, fun h => absurd h (by decide), fun M1 M2 m3 _ _ => ?_⟩
  rw [start _ _ _ h512, h28, if_pos hadj, h65, if_neg (fun h => hd fun f hf => h f (by rw [Xbc]; exact hperm.mem_iff.2 hf))]
  rfl
 rw [if_pos hd]
 have hS : SoOK S := Z7f hso ((Znr hso).1 fun j hj => hadj j hj (Xb2 _)) (fun f hf => hd f (hperm.mem_iff.1 hf)) (by omega)
 obtain ⟨id, p1, p2, t1, t2, t3, t4, t5⟩ := v.below8 he S hS _ [] 0 S.length [] (Xag _) (Xb2 _) (Xag _) (fun u hu => by cases hu) (by simp [Zap]) (fun i _ hi => ⟨pS S i, Zbc _ _, rfl⟩) { nm := (fun _ h => by cases h), id := (fun _ h => by cases h), up := .nil, len := by simp } (by simp; omega) (fun en hen => by cases hen)
 refine ⟨id, p1, p2, t2, t3, t4, fun h => absurd rfl h, fun _ => ⟨S, hperm, hS, t1⟩, fun M1 M2 m3 k1 k2 => ?_⟩
 rw [start _ _ _ h512, h28, if_pos hadj, h65, if_pos (fun f hf => hd f (hperm.mem_iff.1 (by rw [Xbc] at hf; exact hf)))]
 have hb8 := t5 M1 M2 m3 z32 k1 k2
 have hrec : vl e 10336 1 [.str [], I (0 : Nat), I S.length, aggF S, mv M1, mv M2, m3] = some (.tup [bl id, I 0, aggF S, mv (Zft p1 M1), mv (Zft p2 M2), m3]) := by
  rw [w.zq33_h0]; unfold y.zq33_h0
  exact hb8
 rw [w.zq26_h0_65]; unfold y.zq26_h0_65
 simp only [yy, if_neg (show ¬(S.length : Int) < (S.length : Int) by omega)]
 rw [show V.int .i64 0 = I (0 : Nat) from rfl, hrec]
 simp only [yy, Zbm t2]
end Go.Proofs.YtpmgdngjbdkdfaaDoor
namespace Go.Proofs.YtpmgdngjbdkdfaaDoor
open Go.Abs
set_option maxRecDepth 10000
variable {e : Ev}
theorem v.New : vl e 10128 1 [] = some (.tup [mv [], mv [], mv []]) := by
 rw [w.zq62_h0]; rfl
theorem v.Size (M1 M2 M3 : MB) (h : M1.length + M2.length + M3.length <= 1000000000) : vl e 10176 1 [mv M1, mv M2, mv M3] = some (.tup [I (M1.length + M2.length + M3.length : Nat), mv M1, mv M2, mv M3]) := by
 rw [w.zq31_h0]; unfold y.zq31_h0
 simp only [yy, Z5z, Zdq (show M1.length + M2.length <= _ by omega), Zdq (show M1.length + M2.length + M3.length <= _ by omega)]
theorem Zs5 (x : Bytes) : evp .scs [bl x] = some (bl x) := if_pos (Zw4 x)
theorem Zy5 {x : Bytes} (h : x.length = 32) : evp (.ld (some 32) 0) [bl x] = some (bl x) := by
 show Zak (some 32) (bl x).cells 0 = _
 have : (bl x).cells.length = 32 := by simp [V.cells, h]
 simp only [Zak]
 rw [if_pos (by omega), Xbc, Xa0 (by omega)]; rfl
theorem Z7m : Zaz [] = [0, 0, 0, 0, 0, 0, 0, 0] := by decide
theorem v.Read0 : ∀ (n i : Nat), i + n = 8 -> vl e 57 18 [.str [0, 0, 0, 0, 0, 0, 0, 0], .int .u64 0, I i] = some (.tup [I 0, .bool true]) := by
 intro n
 induction n with
 | zero =>
  intro i hi
  rw [w.zq4_18]; unfold y.zq4_18
  simp only [yy, if_neg (show ¬((i : Int) < 8) by omega)]
  rfl
 | succ n ih =>
  intro i hi
  have hx : ([0, 0, 0, 0, 0, 0, 0, 0] : Bytes)[i]? = some 0 := by
   have : i = 0 \/ i = 1 \/ i = 2 \/ i = 3 \/ i = 4 \/ i = 5 \/ i = 6 \/ i = 7 := by omega
   rcases this with rfl | rfl | rfl | rfl | rfl | rfl | rfl | rfl <;> rfl
  have h1 : evp (.bin .shl .no) [.int .u64 0, .int .u64 8] = some (.int .u64 0) := rfl
  have h2 : evp (.i2i .u64) [byteV 0] = some (.int .u64 0) := rfl
  have h3 : evp (.bin .or .no) [.int .u64 0, .int .u64 0] = some (.int .u64 0) := rfl
  rw [w.zq4_18]; unfold y.zq4_18
  simp only [yy, if_pos (show (i : Int) < 8 by omega), h1, Zk1 hx, h2, h3, Zay (show i < 8 by omega) (by omega)]
  exact ih (i + 1) (by omega)
theorem v.Get0 (he : EnvT e) : vl e 25 0 [.str (Zaz [])] = some (.tup [entV [], I 0]) := by
 rw [Z7m]
 have hr : vl e 57 0 [.str [0, 0, 0, 0, 0, 0, 0, 0]] = some (.tup [I 0, .bool true]) := by
  rw [w.zq4]; unfold y.zq4
  simp only [yy, Xau, Xa5]
  exact v.Read0 8 0 rfl
 have hs : vl e 40 0 [.str [0, 0, 0, 0, 0, 0, 0, 0]] = some (.tup [strs [], I 0]) := by
  rw [w.zq5]; unfold y.zq5
  have q0 : evp (.len true) [.str [0, 0, 0, 0, 0, 0, 0, 0]] = some (.int .i64 8) := rfl
  have q1 : evp (.bin .quo .no) [.int .i64 8, .int .i64 8] = some (.int .i64 1) := rfl
  have q3 : evp (.mnx false) [I 0, .int .i64 4096] = some (I 0) := rfl
  have q4 : evp (.mks 1) [.int .i64 0, I 0] = some (strs []) := rfl
  have q5 : evp (.sls true false) [.str [0, 0, 0, 0, 0, 0, 0, 0], .int .i64 8] = some (.str []) := rfl
  have h17 : vl e 40 17 [.str [0, 0, 0, 0, 0, 0, 0, 0], I 0, .bool false] = some (.tup [strs [], I 0]) := by
   rw [w.zq5_17]; unfold y.zq5_17
   simp only [vif, pr, q3, q4, q5, Xaj]
   rw [w.zq5_30]; rfl
  simp only [pr, ca, q0, q1, hr, Xaj]
  exact h17
 have h9 : vl e 25 9 [strs [], .bool false] = some (.tup [entV [], I 0]) := by
  rw [w.zq11_9]
  show vl e 25 18 [strs [], entV []] = _
  have h42 := v.GoodTree he [] { nm := (fun _ h => by cases h), id := (fun _ h => by cases h), up := .nil, len := by simp }
  rw [w.zq11_18]; unfold y.zq11_18
  simp only [yy, Zqa, Xa5, h42]
  rfl
 rw [w.zq11]; unfold y.zq11
 simp only [pr, ca, hs, Xaj]
 exact h9
theorem v.sortE (c : V) : vl e 10256 1 [I 0, c, .agg []] = some (.agg []) := by
 have ins : ∀ x : V, vl e 10721 1 [I 0, .int .i64 0, I 0, c, x] = some x := fun x => by
  rw [w.zq52_h1]
  show vl e 10721 5 [I 0, .int .i64 0, I 0, c, .int .i64 1, x] = _
  rw [w.zq52_h1_5]; rfl
 have s24 : vl e 10449 24 [I 0, I 0, c, .int .i64 20, .agg []] = some (.agg []) := by
  rw [w.zq54_h1_24]; rfl
 have s8 : vl e 10449 8 [I 0, I 0, c, .int .i64 20, .int .i64 0, .int .i64 20, .agg []] = some (.agg []) := by
  rw [w.zq54_h1_8]; unfold y.zq54_h1_8
  have l1 : evp (.bin .leq .no) [.int .i64 20, I 0] = some (.bool false) := rfl
  simp only [pr, ch, l1, ins, Xaj]
  exact s24
 have s1 : vl e 10449 1 [I 0, I 0, c, .agg []] = some (.agg []) := by
  rw [w.zq54_h1]; exact s8
 rw [w.zq51_h0]; unfold y.zq51_h0
 simp only [ch, s1, Xaj]
theorem v.BuildE (he : EnvT e) : vl e 10144 1 [Zat [], mv [], mv [], mv []] = some (.tup [bl (Zbe Zbk (Zaz [])), I 0, mv [], mv [(Zbe Zbk (Zaz []), Zaz [])], mv []]) := by
 have hok : EnOK [] := { nm := (fun _ h => by cases h), id := (fun _ h => by cases h), up := .nil, len := by simp }
 have hpt := v.PutTree he [] hok (mv []) (mv []) [] (fun _ h => by cases h)
 have b8 : ∀ z : V, vl e 10336 8 [.str [], .int .i64 0, I 0, entV [], .agg [], mv [], mv [], mv [], z] = some (.tup [bl (Zbe Zbk (Zaz [])), I 0, .agg [], mv [], mv [(Zbe Zbk (Zaz []), Zaz [])], mv []]) := fun z => by
  have l1 : evp .vlen [.int .i64 0, I 0] = some (I 0) := rfl
  have l2 : evp (.bin .gtr .no) [I 0, .int .i64 0] = some (.bool false) := rfl
  rw [w.zq33_h0_8]; unfold y.zq33_h0_8
  simp only [pr, ch, l1, l2, Xaj]
  simp only [yy, hpt, Zbm (Zax _ _)]
  rfl
 have b1 : vl e 10336 1 [.str [], .int .i64 0, I 0, .agg [], mv [], mv [], mv []] = some (.tup [bl (Zbe Zbk (Zaz [])), I 0, .agg [], mv [], mv [(Zbe Zbk (Zaz []), Zaz [])], mv []]) := by
  rw [w.zq33_h0]; exact b8 _
 have h65 : ∀ z : V, vl e 10144 65 [I 0, I 0, I 0, .int .i64 0, mv [], mv [], mv [], z, .agg []] = some (.tup [bl (Zbe Zbk (Zaz [])), I 0, mv [], mv [(Zbe Zbk (Zaz []), Zaz [])], mv []]) := fun z => by
  have l2 : evp (.bin .lss .no) [.int .i64 0, I 0] = some (.bool false) := rfl
  rw [w.zq26_h0_65]; unfold y.zq26_h0_65
  simp only [pr, ch, l2, b1, Xaj]
  simp only [yy, Zbm (Zax _ _)]
 have h28 : ∀ z : V, vl e 10144 28 [I 0, I 0, I 0, .int .i64 0, mv [], mv [], mv [], z, .agg []] = some (.tup [bl (Zbe Zbk (Zaz [])), I 0, mv [], mv [(Zbe Zbk (Zaz []), Zaz [])], mv []]) := fun z => by
  have l2 : evp (.bin .lss .no) [.int .i64 0, I 0] = some (.bool false) := rfl
  rw [w.zq26_h0_28]; unfold y.zq26_h0_28
  simp only [pr, l2, Xaj]
  exact h65 z
 have hcl : vl e 10240 1 [Zat []] = some (.tup [I 0, .agg []]) := v.CloneF [] (by simp)
 rw [w.zq26_h0]; unfold y.zq26_h0
 simp only [yy, Zfh, hcl, v.sortE]
 exact h28 _
theorem v.alive08 (he : EnvT e) : vl e 6 0 [] = some (.bool true) := by
 have t1 : (Zbe Zbk (Zaz [])).length = 32 := Zax _ _
 have t3 : keyL [(Zbe Zbk (Zaz []), Zaz [])] := fun p hp => by rw [Xa9.1 hp]; exact t1
 have x1 := v.BuildE he
 have x2 := v.PutTree he [] { nm := (fun _ h => by cases h), id := (fun _ h => by cases h), up := .nil, len := by simp } (mv []) (mv []) [(Zbe Zbk (Zaz []), Zaz [])] t3
 have e3 : putM [(Zbe Zbk (Zaz []), Zaz [])] (Zbe Zbk (Zaz [])) (Zaz []) = [(Zbe Zbk (Zaz []), Zaz [])] := by simp [putM]
 rw [e3] at x2
 have hg := Z5i (M := [(Zbe Zbk (Zaz []), Zaz [])]) (k := Zbe Zbk (Zaz [])) t3 t1
 have e4 : getM [(Zbe Zbk (Zaz []), Zaz [])] (Zbe Zbk (Zaz [])) = some (Zaz []) := by simp [getM]
 rw [e4] at hg
 simp only [Xbz, Xdj] at hg
 have ht : vl e 10208 1 [bl (Zbe Zbk (Zaz [])), mv [], mv [(Zbe Zbk (Zaz []), Zaz [])], mv []] = some (.tup [entV [], I 0, mv [], mv [(Zbe Zbk (Zaz []), Zaz [])], mv []]) := by
  rw [w.zq32_h0]; unfold y.zq32_h0
  simp only [yy, Zs5, Zy5 t1, hg, v.Get0 he]
 have hd : vl e 10384 1 [.str [], bl (Zbe Zbk (Zaz [])), I 1, .sl false 33 [], I 4096, mv [], mv [(Zbe Zbk (Zaz []), Zaz [])], mv []] = some (.tup [I 0, .sl false 33 [], I 4096, mv [], mv [(Zbe Zbk (Zaz []), Zaz [])], mv []]) := by
  rw [w.zq34_h0]; unfold y.zq34_h0
  simp only [yy, Zs5, Zy5 t1, if_neg (show ¬(16 : Int) < 1 by omega), ht, Zot]
  rw [w.zq34_h0_26]; unfold y.zq34_h0_26
  simp only [yy, Xa5]
  rfl
 have hf : vl e 10192 1 [bl (Zbe Zbk (Zaz [])), mv [], mv [(Zbe Zbk (Zaz []), Zaz [])], mv []] = some (.tup [.sl false 33 [], I 0, mv [], mv [(Zbe Zbk (Zaz []), Zaz [])], mv []]) := by
  rw [w.zq28_h0]; unfold y.zq28_h0
  simp only [yy, Zs5, Zy5 t1, hd]
  rfl
 have hz := v.Size (e := e) [] [(Zbe Zbk (Zaz []), Zaz [])] [] (by simp)
 have n0 : V.sl false 2 [] = Zat [] := rfl
 have n1 : V.sl false 34 [] = entV [] := rfl
 rw [w.zq35]; unfold y.zq35
 rw [n0, n1]
 simp only [yy, v.New, x1, Zbm t1, x2, hf, Z6i t1 t1]
 simp only [if_true, Xa5, Int.natCast_zero, Int.cast_ofNat_Int]
 rw [hz]
 rfl
theorem Z7b {l : List Fi} {n : Nat} (h : l.length <= n) (hn : n <= 1000) (h2 : ∀ f ∈ l, f.1.length + f.2.length <= 4096) : l.length <= 1000000 /\ ∀ f ∈ l, f.1.length <= 1000000 /\ f.2.length <= 1000000000 :=
 ⟨by omega, fun f hf => by have := h2 f hf; omega⟩
end Go.Proofs.YtpmgdngjbdkdfaaDoor
namespace Go.Proofs.YtpmgdngjbdkdfaaDoor
open Go.Abs
set_option maxRecDepth 10000
variable {e : Ev}
theorem Zo6 {l : List Fi} : evp (.snapv 2) [aggF l, .int .i64 0, I l.length] = some (Zat l) := by
 have hc : ∀ l : List Fi, Zd6 2 l.length (fl l) = l.map fv := fun l => by
  induction l with
  | nil => rfl
  | cons f r ih => simp only [Xau, Zd6, fl, Xct, Xcd, Xdw, Xbc, ih, Xal]
 have h2 : Zou 2 (aggF l) (.int .i64 0) (I l.length) = some (Zat l) := by
  show (if (0 : Int) <= 0 /\ (0 : Int) <= (l.length : Int) /\ (l.length : Int).toNat * 2 <= (aggF l).cells.length then some (V.sl false 2 (vRow 2 ((l.length : Int).toNat - (0 : Int).toNat) ((aggF l).cells.drop ((0 : Int).toNat * 2)))) else none) = _
  rw [if_pos ⟨Xfb _, by omega, by simp [V.cells, Zmj]; omega⟩]
  simp only [vRow, V.cells, Xbe, Int.toNat_zero, Nat.sub_zero, Xeq, Xbc]
  rw [if_neg (by decide), hc]
 exact h2
theorem Zrn {l : List Fi} (hl : l.length <= 1000000) : evp (.rapp 2) [.agg [], .int .i64 0, Zat l] = some (aggF l) := by
 show Zms 2 (.agg []) (I 0) (Zat l) = _
 have hf : fits 2 (l.map fv) = true := by simp [fits, fv, V.cells, V.sc]
 simp only [Zms, Zbn, Xaj, Zh4, hf, if_true, true_or]
 rw [if_pos ⟨by omega, by omega, by simp, by simp [Lim]; omega⟩, Zny]
 simp [V.cells]
theorem Zs7 {l : List Fi} : evp (.rlen 2) [.int .i64 0, Zat l] = some (I l.length) := by
 show Zkf 2 (I 0) (Zat l) = _
 simp [Zkf, Zbn]
theorem v.CloneR (l : List Fi) (hl : l.length <= 1000000) (h0 : 0 < l.length) : vl e 10241 1 [I l.length, aggF l] = some (.tup [I l.length, aggF l, aggF l]) := by
 rw [w.zq45_h1]; unfold y.zq45_h1
 have h1 : evp .chkd [I l.length, .int .i64 0] = some (.int .i64 0) := Zaq (i := 0) h0
 simp only [yy, h1, Zo6, Zrn hl, Zs7]
section
variable (he : EnvT e) (S : List Fi) (hl : S.length <= 1000000) (hb : ∀ f ∈ S, f.1.length <= 1000000 /\ f.2.length <= 1000000000) (r m1 m2 m3 z : V)
include hl
theorem v.buildh65 : ∀ (n i : Nat), i + n = S.length -> (∃ f ∈ S.drop i, 32768 < f.2.length) -> vl e 10145 65 [I S.length, I S.length, I S.length, I i, r, m1, m2, m3, z, aggF S] = some (.tup [bl zid, I 3, r, m1, m2, m3]) := by
 intro n
 induction n with
 | zero =>
  intro i hi hx
  rw [Xat (by omega)] at hx
  obtain ⟨f, hf, _⟩ := hx; cases hf
 | succ n ih =>
  intro i hi hx
  have hlt : i < S.length := by omega
  rw [w.zq26_h1_65]; unfold y.zq26_h1_65
  by_cases hc : 32768 < S[i].2.length
  ·simp only [yy, if_pos (show (i : Int) < (S.length : Int) by omega), Zaq hlt, Zb3 hlt, Zbs, Zm8, if_pos (show (32768 : Int) < (S[i].2.length : Int) by omega), Zfg, Zfi]
  ·rw [Xao hlt] at hx
   obtain ⟨f, hf, hfl⟩ := hx
   have hf : f ∈ S.drop (i + 1) := (Xay.1 hf).elim (fun h => by rw [h] at hfl; exact absurd hfl hc) id
   simp only [yy, if_pos (show (i : Int) < (S.length : Int) by omega), Zaq hlt, Zb3 hlt, Zbs, Zm8, if_neg (show ¬(32768 : Int) < (S[i].2.length : Int) by omega), Zay hlt (by omega)]
   exact ih (i + 1) (by omega) ⟨f, hf, hfl⟩
include he hb
open Classical in
theorem v.buildh28 : ∀ (n i : Nat), i + n = S.length -> (vl e 10145 28 [I S.length, I S.length, I S.length, I i, r, m1, m2, m3, z, aggF S] =
  if ∀ j, j < S.length -> i <= j -> Zd0 S j then (vl e 10145 65 [I S.length, I S.length, I S.length, I (0 : Nat), r, m1, m2, m3, z, aggF S]) else some (.tup [bl zid, I 1, r, m1, m2, m3])) := by
 intro n
 induction n with
 | zero =>
  intro i hi
  rw [if_pos (fun j h1 h2 => by omega), w.zq26_h1_28]; unfold y.zq26_h1_28
  simp only [yy, if_neg (show ¬(i : Int) < (S.length : Int) by omega)]
  rfl
 | succ n ih =>
  intro i hi
  have hlt : i < S.length := by omega
  have hg := v.Good he S[i].1 (hb _ (Xav hlt)).1
  have hih := ih (i + 1) (by omega)
  have cong : Zd0 S i -> ((if ∀ j, j < S.length -> i + 1 <= j -> Zd0 S j then (vl e 10145 65 [I S.length, I S.length, I S.length, I (0 : Nat), r, m1, m2, m3, z, aggF S]) else some (.tup [bl zid, I 1, r, m1, m2, m3])) =
    if ∀ j, j < S.length -> i <= j -> Zd0 S j then (vl e 10145 65 [I S.length, I S.length, I S.length, I (0 : Nat), r, m1, m2, m3, z, aggF S]) else some (.tup [bl zid, I 1, r, m1, m2, m3])) := by
   intro h0
   have : (∀ j, j < S.length -> i + 1 <= j -> Zd0 S j) <-> ∀ j, j < S.length -> i <= j -> Zd0 S j := by
    refine ⟨fun h j h1 h2 => ?_, fun h j h1 h2 => h j h1 (by omega)⟩
    rcases Xbu h2 with h' | rfl
    ·exact h j h1 h'
    ·exact h0
   by_cases hp : ∀ j, j < S.length -> i + 1 <= j -> Zd0 S j
   ·rw [if_pos hp, if_pos (this.1 hp)]
   ·rw [if_neg hp, if_neg (fun h => hp (this.2 h))]
  have bad : ¬ Zd0 S i -> some (V.tup [bl zid, I 1, r, m1, m2, m3]) = if ∀ j, j < S.length -> i <= j -> Zd0 S j then (vl e 10145 65 [I S.length, I S.length, I S.length, I (0 : Nat), r, m1, m2, m3, z, aggF S]) else some (.tup [bl zid, I 1, r, m1, m2, m3]) := by
   intro h0
   rw [if_neg (fun h => h0 (h i hlt (Xag _)))]
  rw [w.zq26_h1_28]; unfold y.zq26_h1_28
  cases hgd : Zc3 S[i].1 with
  | false =>
   rw [hgd] at hg
   rw [<- bad (fun h => by have := h.1; rw [Zaw hlt, hgd] at this; cases this)]
   simp only [yy, if_pos (show (i : Int) < (S.length : Int) by omega), Zaq hlt, Zb3 hlt, Zbs, Zeh, hg, Zfg, Zfi]
  | true =>
   rw [hgd] at hg
   by_cases h0 : 0 < i
   ·have hlt' : i - 1 < S.length := by omega
    obtain ⟨x, hx, _⟩ := v.Under (e := e) S[i - 1].1 S[i].1 (hb _ (Xav hlt')).1 (hb _ (Xav hlt)).1
    have hl1 : evp (.ldd none 0 2) [aggF S, I (i - 1 : Nat)] = some (.str S[i - 1].1) := Zr8 hlt'
    have p1 := Zm5 (show 1 <= i by omega) (show i <= 1152921504606846976 by omega)
    cases hu : (Zcj S[i - 1].1 S[i].1).isSome with
    | true =>
     rw [hu] at hx
     rw [<- bad (fun h => by have := h.2 h0; rw [Zaw hlt, Zaw hlt', Zcc, hu] at this; cases this)]
     simp only [yy, if_pos (show (i : Int) < (S.length : Int) by omega), Zaq hlt, Zb3 hlt, Zbs, Zeh, hg, if_pos (show (0 : Int) < (i : Int) by omega), p1, Zaq hlt', hl1, hx, Zfg, Zfi]
    | false =>
     rw [hu] at hx
     by_cases heq : S[i - 1].1 = S[i].1
     ·rw [<- bad (fun h => by have := h.2 h0; rw [Zaw hlt, Zaw hlt', Zcc, decide_eq_true heq, Xer] at this; cases this)]
      simp only [yy, if_pos (show (i : Int) < (S.length : Int) by omega), Zaq hlt, Zb3 hlt, Zbs, Zeh, hg, if_pos (show (0 : Int) < (i : Int) by omega), p1, Zaq hlt', hl1, hx, if_pos heq, Zfg, Zfi]
     ·rw [<- cong ⟨by rw [Zaw hlt]; exact hgd, fun _ => by rw [Zaw hlt, Zaw hlt', Zcc, hu, decide_eq_false heq]; rfl⟩, <- hih]
      simp only [yy, if_pos (show (i : Int) < (S.length : Int) by omega), Zaq hlt, Zb3 hlt, Zbs, Zeh, hg, if_pos (show (0 : Int) < (i : Int) by omega), p1, Zaq hlt', hl1, hx, if_neg heq, Zay hlt (by omega)]
   ·rw [<- cong ⟨by rw [Zaw hlt]; exact hgd, fun h => absurd h h0⟩, <- hih]
    simp only [yy, if_pos (show (i : Int) < (S.length : Int) by omega), Zaq hlt, Zb3 hlt, Zbs, Zeh, hg, if_neg (show ¬(0 : Int) < (i : Int) by omega), Zay hlt (by omega)]
end
theorem v.BuildX (he : EnvT e) (l : List Fi) (hl : l.length <= 1000000) (hb : ∀ f ∈ l, f.1.length <= 1000000 /\ f.2.length <= 1000000000) (hx : ∃ f ∈ l, 32768 < f.2.length) :
  whyB l ≠ 0 /\ ∀ (M1 M2 m3 : V), vl e 10145 1 [I l.length, aggF l, M1, M2, m3] = some (.tup [bl zid, I (whyB l), aggF l, M1, M2, m3]) := by
 obtain ⟨S, hperm, hso, hsort⟩ := v.sort (v.ord he) l (fun f hf => (hb f hf).1) (by omega)
 have hSl : S.length = l.length := hperm.length_eq
 have hbS : ∀ f ∈ S, f.1.length <= 1000000 /\ f.2.length <= 1000000000 := fun f hf => hb f (hperm.mem_iff.1 hf)
 obtain ⟨f, hf, hfl⟩ := hx
 have hpos : 0 < l.length := List.length_pos_of_mem hf
 have hnd : ¬ ∀ f ∈ l, f.2.length <= 32768 := fun h => by have := h f hf; omega
 have hall := (Znr hso).trans ((Zo7 hperm).trans (Zxd l).symm)
 unfold whyB
 rw [if_neg hnd]
 refine ⟨by repeat' first | decide | split, fun M1 M2 m3 => ?_⟩
 by_cases h512 : 512 < l.length
 ·rw [if_pos h512, w.zq26_h1]; unfold y.zq26_h1
  simp only [yy, if_pos (show (512 : Int) < (l.length : Int) by omega), Zfg, Zfi]
 have h28 := v.buildh28 he S (by omega) hbS (aggF l) M1 M2 m3 z32 S.length 0 (Xan _)
 have h65 := v.buildh65 (e := e) S (by omega) (aggF l) M1 M2 m3 z32 S.length 0 (Xan _) ⟨f, by rw [Xbc]; exact hperm.mem_iff.2 hf, hfl⟩
 rw [if_neg h512]
 have start : vl e 10145 1 [I l.length, aggF l, M1, M2, m3] = vl e 10145 28 [I S.length, I S.length, I S.length, I (0 : Nat), aggF l, M1, M2, m3, z32, aggF S] := by
  rw [w.zq26_h1]; unfold y.zq26_h1
  simp only [yy, if_neg (show ¬(512 : Int) < (l.length : Int) by omega), v.CloneR l hl hpos, hsort]
  rw [hSl]; rfl
 rw [start, h28]
 by_cases hok : ∀ i, i < l.length -> okI l i
 ·rw [if_pos hok, if_pos (fun j hj _ => hall.2 hok j hj), h65]
 ·rw [if_neg hok, if_neg (fun h => hok (hall.1 fun j hj => h j hj (Xb2 _)))]
end Go.Proofs.YtpmgdngjbdkdfaaDoor
namespace Go.Abs
open Go.RowKit
section
variable {P : Program} {tabs : List FE} {ext : Nat -> List V -> Option V} {ow : Cfg} {E : FE}
theorem Zst {Γ Γ' : Gam} (h : Le Γ Γ') (hk : tabs.find? (fun A => Nat.beq A.k E.k) = none) (he : ∀ xs, ext E.k xs = none) : Le (step P tabs ext ow Γ) (step P (E :: tabs) ext ow Γ') := fun f l xs r hr => by
 unfold step at hr ⊢
 rw [Xeo]
 cases hb : Nat.beq E.k f with
 | true =>
  have := Xaf hb
  subst this
  rw [hk] at hr
  split at hr
  ·rename_i h0; cases h0
  ·split at hr
   ·rw [he] at hr; cases hr
   ·cases hr
 | false =>
  simp only
  split at hr
  ·split at hr
   ·rename_i F hF
    exact (Zov h f).peF r hr
   ·cases hr
  ·rename_i hA
   exact hr
theorem Zhu (hk : tabs.find? (fun A => Nat.beq A.k E.k) = none) (he : ∀ xs, ext E.k xs = none) : ∀ n, Le (rounds P tabs ext ow n) (rounds P (E :: tabs) ext ow n)
 | 0 => fun _ _ _ _ h => by cases h
 | n + 1 => Zst (Zhu hk he n) hk he
theorem Zpv (hk : tabs.find? (fun A => Nat.beq A.k E.k) = none) (he : ∀ xs, ext E.k xs = none) {f l : Nat} {xs : List V} {r : V} (h : val P tabs ext ow f l xs = some r) : val P (E :: tabs) ext ow f l xs = some r := by
 obtain ⟨n, hn⟩ := Zc0.1 h
 exact Zc0.2 ⟨n, Zhu hk he n _ _ _ _ hn⟩
end
variable {cx : Cx} {tabs : List FE} {ext : Nat -> List V -> Option V} {A B : FE}
theorem Zr2 {eo : Nat -> Bool} {gl : Nat -> Option (List V)} (hk : Zgx (A :: tabs) = true) (h1 : B.k = A.k) (h2 : B.own = A.own) (h3 : A.ret = none) (hg : ∀ g cs, gl g = some cs -> cx.gl g = some cs /\ nfL cs = cs /\ Zab cs = true) : TabOK cx (B :: tabs) (Zqm (A :: tabs) eo gl) where
 own E hE hr := by
  show (match (A :: tabs).find? _ with | some E => E.own | none => eo _) = _
  rcases Xay.1 hE with rfl | hE
  ·rw [Xeo, h1, Xdp]; exact h2.symm
  ·rw [Zf1 hk E (Xbn _ hE)]
 he f E hE := by
  obtain ⟨q1, q2⟩ := Xdo.1 hE
  simp only [Xah] at q2
  have hf := Zf1 hk E q1
  rcases Xay.1 q1 with rfl | q1
  ·rw [h3] at q2; cases q2.2
  refine ⟨?_, Xaf q2.1⟩
  rw [Xeo] at hf ⊢
  rw [h1]
  simp only [Zgx, Xah, Xbk] at hk
  cases hb : Nat.beq A.k E.k with
  | true =>
   have := Xcs.1 hk.1 E q1
   rw [Xaf hb, Xdp] at this
   exact absurd rfl this
  | false => rw [hb] at hf; exact hf
 gl := hg
theorem Zts {eo : Nat -> Bool} {gl : Nat -> Option (List V)} (hk : Zgx (A :: tabs) = true) (h1 : B.k = A.k) (h2 : B.own = A.own) (h3 : A.ret = none) (hgl : GlOK cx) (hm : cx.P.follows .mixedOrders = true) (hext : Zue cx ext (Zqm (A :: tabs) eo gl)) (hg : ∀ g cs, gl g = some cs -> cx.gl g = some cs /\ nfL cs = cs /\ Zab cs = true) {f : Nat} {args : List V} {ys : List V} {xs : Array Value} (ha : nfL args = ys) (hc : Zab ys = true)
  (h : val cx.P (A :: tabs) ext (Zqm (A :: tabs) eo gl) f 0 ys = some (.bool true) \/ val cx.P (B :: tabs) ext (Zqm (A :: tabs) eo gl) f 0 ys = some (.bool true)) (hx : RepL cx.w0 (G0 cx.w0) (fun _ => none) args xs) : Calls cx.P f xs cx.w0 fun e W' => e = .returned (.bool true) /\ Below cx.w0.heap.size cx.w0 W' := by
 rcases h with h | h
 ·exact Zqe hgl hm hext (Zvc hk hg) ha hc h hx
 ·exact Zqe hgl hm hext (Zr2 hk h1 h2 h3 hg) ha hc h hx
end Go.Abs
namespace Go.Proofs.YtpmgdngjbdkdfaaDoor
open Go.Abs
set_option maxRecDepth 10000
variable {e : Ev}
theorem Zgv (h3 : ∀ xs, e 3 xs = none) {f l : Nat} {xs : List V} {r : V} (h : vl e f l xs = some r) : vlA e f l xs = some r := Zpv (by kernel_rfl) h3 h
theorem Zer (h3 : ∀ xs, e 3 xs = none) {f l : Nat} {xs : List V} {r : V} (h : vl e f l xs = some r) : vlB e f l xs = some r := Zpv (by kernel_rfl) h3 h
theorem Zz8 (n : Nat) (h : n <= 1000000) : evp (.mkz (.int .u8 0)) [.int .i64 n, .int .i64 n] = some (bsl (List.replicate n 0)) := by
 show (if (0 : Int) <= (n : Int) /\ (n : Int) <= (n : Int) /\ (n : Int) <= Lim /\ 1 = 1 /\ (V.int .u8 0).sc = true then some (⟨.sl false 1 (List.replicate (n : Int).toNat (.int .u8 0)), false, none⟩ : Res) else none).map (·.v) = _
 rw [if_pos ⟨by omega, Xfb _, by simp [Lim]; omega, rfl, rfl⟩]
 simp only [Xas, Xbe]
 rw [show bsl (List.replicate n 0) = V.sl false 1 ((List.replicate n (0 : UInt8)).map byteV) from rfl, Xet]; rfl
theorem Z1w {l : List Fi} {i : Nat} {x : Bytes} (h : i < l.length) : evp (.std 1 1 2) [aggF l, I i, .str x] = some (aggF (l.set i (l[i].1, x))) := by
 show vSet 1 (1 + (i : Int).toNat * 2) (aggF l) (.str x) = _
 unfold vSet
 rw [if_pos ⟨rfl, rfl, by simp [V.cells, Zmj]; omega⟩]
 have hd : (fl l).drop (i * 2) = .str l[i].1 :: .str l[i].2 :: fl (l.drop (i + 1)) := by rw [Zfl, Xao h]; rfl
 have ht : (fl l).take (i * 2 + 1) = fl (l.take i) ++ [.str l[i].1] := by
  rw [List.take_add, Zol, hd]; rfl
 have hr : (fl l).drop (i * 2 + 1 + 1) = fl (l.drop (i + 1)) := by
  rw [show i * 2 + 1 + 1 = (i + 1) * 2 by omega, Zfl]
 simp only [V.cells, Xbe, Zao, Xau, Xa5]
 rw [Xd8 1 (i * 2), ht, hr, Xb8, if_pos h, aggF, Zuh]
 simp only [fl, Xap, Xbf, Xbg]
theorem q.treeRefuses (he : EnvT e) (h3 : ∀ xs, e 3 xs = none) (a : List Fi) (ha : a.length <= 1000000000 /\ ∀ f ∈ a, f.1.length <= 1000000000 /\ f.2.length <= 1000000000) (k : Int) :
  vlA e 3 0 [Zat a, .int .i64 k] = some (.bool true) \/ vlB e 3 0 [Zat a, .int .i64 k] = some (.bool true) := by
 have al := v.alive08 he
 obtain ⟨g1, hg1, hs1⟩ := v.great (e := e) a ha.1 ha.2 60 4096 (by omega)
 have hg1 : vl e 7 0 [Zat a, .int .i64 60, .int .i64 4096] = some (.bool g1) := hg1
 cases g1 with
 | true =>
  left
  rw [w.seichelaw08_TreeRefuses]; unfold y.seichelaw08_TreeRefuses
  simp only [yy, Zgv h3 al, Zgv h3 hg1]
 | false =>
 obtain ⟨la, ba⟩ := Z7b (hs1 rfl).1 (by omega) (hs1 rfl).2
 have k0 : keyL [] := fun _ h => by cases h
 have z0 := v.Size (e := e) [] [] [] (by simp)
 have z0 : vl e 10176 1 [mv [], mv [], mv []] = some (.tup [I 0, mv [], mv [], mv []]) := z0
 by_cases hk : 0 <= k /\ k < (a.length : Int)
 ·left
  obtain ⟨i, rfl⟩ := Int.eq_ofNat_of_zero_le hk.1
  have hi : i < a.length := by omega
  have hx : ∃ f ∈ a.set i (a[i].1, List.replicate 32769 0), 32768 < f.2.length :=
   ⟨_, List.mem_set hi _, by show 32768 < (List.replicate 32769 0).length; rw [Xc5]; omega⟩
  have hlen : (a.set i (a[i].1, List.replicate 32769 0)).length = a.length := List.length_set
  have hb : ∀ f ∈ a.set i (a[i].1, List.replicate 32769 0), f.1.length <= 1000000 /\ f.2.length <= 1000000000 := fun f hf => by
   rcases List.mem_or_eq_of_mem_set hf with h | rfl
   ·exact ba f h
   ·exact ⟨(ba _ (Xav hi)).1, by show (List.replicate 32769 0).length <= _; rw [Xc5]; omega⟩
  have hw := v.why (e := e) (a.set i (a[i].1, List.replicate 32769 0)) (by omega) hb
  obtain ⟨b1, b2⟩ := v.BuildX he (a.set i (a[i].1, List.replicate 32769 0)) (by omega) hb hx
  have hs := Z1w (x := List.replicate 32769 0) hi
  have hsn := Zo6 (l := a.set i (a[i].1, List.replicate 32769 0))
  generalize a.set i (a[i].1, List.replicate 32769 0) = l at *
  have b2 := b2 (mv []) (mv []) (mv [])
  rw [hlen] at b2 hsn
  have h28 : vlA e 3 28 [I a.length, aggF l] = some (.bool true) := by
   rw [w.seichelaw08_TreeRefuses_28]; unfold y.seichelaw08_TreeRefuses_28
   have hfl : evp .flr [I (whyB l)] = some (I (whyB l)) := rfl
   simp only [yy, Zgv h3 v.New, Zgv h3 b2, Zbm (show zid.length = 32 by simp), hsn, Zgv h3 hw, hfl, if_neg b1, Zgv h3 z0]
   rfl
  rw [w.seichelaw08_TreeRefuses]; unfold y.seichelaw08_TreeRefuses
  have hz : evp (.mkz (.int .u8 0)) [.int .i64 32769, .int .i64 32769] = some (bsl (List.replicate 32769 0)) := Zz8 32769 (by omega)
  simp only [yy, Zgv h3 al, Zgv h3 hg1, Zrn la, Zs7, if_pos hk.1, if_pos hk.2, hz, Z2n, Zaq hi, hs]
  exact h28
 ·right
  obtain ⟨id, p1, p2, t1, t2, t3, t4, t5, t6⟩ := v.Build he a la ba
  have t6 := t6 [] [] (mv []) k0 k0
  have hw := v.why (e := e) a la ba
  have h28 : vlB e 3 28 [Zat a] = some (.bool true) := by
   rw [w.seichelaw08_TreeRefuses_p_28]; unfold y.seichelaw08_TreeRefuses_p_28
   by_cases h0 : whyB a = 0
   ·simp only [yy, Zer h3 v.New, Zer h3 t6, Zbm t1, Zer h3 hw, if_pos h0]
    rfl
   ·obtain ⟨rfl, rfl⟩ := t4 h0
    have t7 : vl e 10144 1 [Zat a, mv [], mv [], mv []] = some (.tup [bl id, I (whyB a), mv [], mv [], mv []]) := t6
    simp only [yy, Zer h3 v.New, Zer h3 t7, Zbm t1, Zer h3 hw, if_neg h0, Zer h3 z0]
    rfl
  rw [w.seichelaw08_TreeRefuses_p]; unfold y.seichelaw08_TreeRefuses_p
  have q1 : evp (.bsl 2) [] = some (Zat []) := rfl
  have q2 : evp (.app 2) [Zat [], Zat a] = some (Zat a) := Zwf (xs := []) (by simp [Lim]; omega)
  by_cases hk0 : 0 <= k
  ·have hk1 : ¬ k < (a.length : Int) := fun h => hk ⟨hk0, h⟩
   simp only [yy, Zer h3 al, Zer h3 hg1, q1, q2, if_pos hk0, Zfh, if_neg hk1]
   exact h28
  ·simp only [yy, Zer h3 al, Zer h3 hg1, q1, q2, if_neg hk0]
   exact h28
end Go.Proofs.YtpmgdngjbdkdfaaDoor
namespace Go.Proofs.YtpmgdngjbdkdfaaDoor
open Go.Abs Go.RowKit
def exts : List FC := [K.strings_Split, K.strings_Contains, K.strings_Join]
theorem Zzb (w : World) (hw : EnvOK w) : ∀ c ∈ exts, c.Holds (cxD w) := by
 intro c hc
 simp only [exts, Xay, Xc2, or_false] at hc
 rcases hc with rfl | rfl | rfl
 ·exact H.strings_Split w hw
 ·exact H.strings_Contains w hw
 ·exact H.strings_Join w hw
theorem Zu6 : ∀ c ∈ exts, cfg.ow c.f = true -> c.own = true := by
 intro c hc h
 simp only [exts, Xay, Xc2, or_false] at hc
 rcases hc with rfl | rfl | rfl
 ·rfl
 ·exact absurd h (by rw [show cfg.ow K.strings_Contains.f = false by kernel_rfl]; decide)
 ·exact absurd h (by rw [show cfg.ow K.strings_Join.f = false by kernel_rfl]; decide)
theorem envX : EnvT (Zmk exts) where
 split s c hs := Zkw (cs := exts) (c := K.strings_Split) rfl ⟨(s, [c]), Zae c s, rfl, by simp [g.strings_Split, hs], rfl⟩
 contains s c hs := Zkw (cs := exts) (c := K.strings_Contains) rfl ⟨(s, [c]), decide (c ∈ s), rfl, by simp [g.strings_Contains, hs], rfl⟩
 join l s hl hj := Zkw (cs := exts) (c := K.strings_Join) rfl ⟨(l, s), Zgg s l, rfl, by simp only [g.strings_Join, Zlr]; rw [if_pos ⟨hl, hj⟩], rfl⟩
end Go.Proofs.YtpmgdngjbdkdfaaDoor
namespace Go.Proofs.YtpmgdngjbdkdfaaDoor
open Go.Abs
structure T.File where
 Path : Bytes
 Data : Bytes
 deriving DecidableEq
def C.File (x : T.File) : List V := [(V.str x.Path)] ++ [(V.str x.Data)]
def E.File (x : T.File) : V := .agg (C.File x)
theorem E.File_clean (x : T.File) : (E.File x).clean = true := (Za9 (Zet rfl rfl) (Zet rfl rfl))
def E.LFile (l : (List T.File)) : V := .sl false 2 (l.map E.File)
end Go.Proofs.YtpmgdngjbdkdfaaDoor
namespace Go.Proofs.YtpmgdngjbdkdfaaDoor
open Go.ChangeShapes Go.WideShapes Go.RowKit Go.Abs
theorem ownK : ownKnob Tryd.prog.godebug = none := by kernel_rfl
theorem kids : Kids Tryd.prog (· < Tryd.prog.types.size) := kids_rows (by kernel_rfl) (by kernel_rfl)
theorem full : ∀ t e, t < Tryd.prog.types.size -> Tryd.prog.underlying t = some (.slice e) -> 0 < Tryd.prog.cellsOf e := slices_full_of Tryd.prog (by kernel_rfl)
section
variable {P : Program} {m : Nat} {t e : TypeId} {vs : List V}
theorem Z1v {k : IntKind} (hu : P.underlying t = some (.int k)) (h : HasT P (m + 1) t vs) : ∃ x : Int, nfL vs = [V.int k x] := by
 simp only [HasT, hu] at h
 obtain ⟨n, rfl, _⟩ := h; exact ⟨n, rfl⟩
theorem Z1y (hu : P.underlying t = some (.int .i64)) (h : HasT P (m + 1) t vs) : ∃ x : Int, nfL vs = [V.int .i64 x] /\ -9223372036854775808 <= x /\ x <= 9223372036854775807 := by
 simp only [HasT, hu] at h
 obtain ⟨n, rfl, h1, h2⟩ := h; exact ⟨n, rfl, h1, h2⟩
theorem Z09 (hu : P.underlying t = some .string) (h : HasT P (m + 1) t vs) : ∃ x : Bytes, nfL vs = [V.str x] := by
 simp only [HasT, hu] at h
 obtain ⟨b, rfl⟩ := h; exact ⟨b, rfl⟩
theorem Z5d {α : Type} {E : α -> V} {c : Nat} (hu : P.underlying t = some (.slice e)) (hc : P.cellsOf e = c) (he : ∀ ws, HasT P m e ws -> ∃ x, (elV P e ws).nf = E x) (h : HasT P (m + 1) t vs) : ∃ l : List α, nfL vs = [V.sl false c (l.map E)] := by
 simp only [HasT, hu, hc] at h
 rcases h with rfl | ⟨xs, rfl, hx⟩
 ·exact ⟨[], rfl⟩
 ·have : ∃ l : List α, nfL xs = l.map E := by
   clear hc
   induction xs with
   | nil => exact ⟨[], rfl⟩
   | cons x r ih =>
    obtain ⟨l, hl⟩ := ih fun y hy => hx y (by simp [hy])
    obtain ⟨ws, hw, rfl⟩ := hx x (by simp)
    obtain ⟨a, ha⟩ := he ws hw
    exact ⟨a :: l, by rw [nfL, ha, hl]; rfl⟩
  obtain ⟨l, hl⟩ := this
  exact ⟨l, by show [V.sl false c (nfL xs)] = _; rw [hl]⟩
theorem Z3k (ha : Zdr P t = true) {l : List V} (h : nfL vs = l) : (elV P t vs).nf = .agg l := by
 unfold elV; rw [if_pos ha]; show V.agg (nfL vs) = _; rw [h]
theorem Zx2 (ha : Zdr P t = false) {v : V} (h : nfL vs = [v]) : (elV P t vs).nf = v := by
 unfold elV; rw [if_neg (by simp [ha])]
 cases vs with
 | nil => cases h
 | cons x r => rw [nfL] at h; exact (List.cons.inj h).1
theorem nfL_flat : ∀ {wss : List (List V)}, nfL wss.flatten = (wss.map nfL).flatten
 | [] => rfl
 | w :: r => by rw [Xce, Zbo, nfL_flat]; rfl
end
mutual
theorem Z36 : ∀ v : V, v.nf.wt <= v.wt
 | .agg cs => by simp only [V.nf, V.wt]; have := Zuo cs; omega
 | .sl true sz [] => by simp [V.nf, V.wt]
 | .sl true _ (x :: xs) => by simp [V.nf, V.wt]
 | .sl false sz xs => by simp only [V.nf, V.wt]; have := Zuo xs; omega
 | .el cs off => by simp [V.nf, V.wt]
 | .tup cs => by simp [V.nf, V.wt]
 | .fn f cs => by simp [V.nf, V.wt]
 | .mfn f cs => by simp [V.nf, V.wt]
 | .iface t v => by simp [V.nf, V.wt]
 | .bool b => Xag _
 | .int k n => Xag _
 | .str s => Xag _
 | .osl a b c d e => Xag _
 | .gp g o => Xag _
 | .ptr i o => Xag _
 | .nilptr => Xag _
 | .map i => Xag _
 | .nilmap => Xag _
 | .nilfn => Xag _
 | .nilif => Xag _
theorem Zuo : ∀ l : List V, wtL (nfL l) <= wtL l
 | [] => Xag _
 | v :: r => by simp only [nfL, wtL]; have := Z36 v; have := Zuo r; omega
end
theorem Z5y {v w : V} {n : Nat} (h : v.nf = w) (hn : v.wt <= n) : w.wt <= n := by rw [<- h]; exact Xbp (Z36 v) hn
theorem Z5x {α : Type} {E : α -> V} {c : Nat} {l : List α} {n : Nat} (h : (V.sl false c (l.map E)).wt <= n) : l.length <= n /\ ∀ a ∈ l, (E a).wt <= n := by
 simp only [V.wt] at h
 refine ⟨by have := Zq7 (l.map E); simp at this; omega, fun a ha => ?_⟩
 have := Zul (Xcz (f := E) ha)
 omega
theorem Zx3 {s : Bytes} {n : Nat} (h : (V.str s).wt <= n) : s.length <= n := by simp only [V.wt] at h; omega
theorem Zxy {cs : List V} {v : V} {n : Nat} (h : (V.agg cs).wt <= n) (hv : v ∈ cs) : v.wt <= n := by
 simp only [V.wt] at h
 have := Zul hv; omega
end Go.Proofs.YtpmgdngjbdkdfaaDoor
namespace Go.Proofs.YtpmgdngjbdkdfaaDoor
open Go.Abs
variable {e : Ev}
def fiOf (x : T.File) : Fi := (x.Path, x.Data)
theorem Zvs (l : List T.File) : E.LFile l = Zat (l.map fiOf) := by
 unfold E.LFile Zat
 rw [Xdc]; rfl
theorem Zv1 {l : List T.File} (h : (E.LFile l).wt <= 1048576) : (l.map fiOf).length <= 1000000000 /\ ∀ f ∈ l.map fiOf, f.1.length <= 1000000000 /\ f.2.length <= 1000000000 := by
 obtain ⟨h1, h2⟩ := Z5x (E := E.File) h
 refine ⟨by rw [Xcp]; omega, fun f hf => ?_⟩
 obtain ⟨x, hx, rfl⟩ := Xbb.1 hf
 have h3 := h2 x hx
 have a1 := Zx3 (Zxy h3 (v := .str x.Path) (by simp [C.File]))
 have a2 := Zx3 (Zxy h3 (v := .str x.Data) (by simp [C.File]))
 exact ⟨by show x.Path.length <= _; omega, by show x.Data.length <= _; omega⟩
theorem ext3 : ∀ xs, Zmk exts 3 xs = none := fun xs => by
 have h : exts.find? (fun c => c.f == 3 && c.mt xs) = none := rfl
 unfold Zmk
 rw [h]
theorem Zk5 (he : EnvT e) (h3 : ∀ xs, e 3 xs = none) (a : List T.File) (k : Int) (ha : (E.LFile a).wt <= 1048576) (_ : -9223372036854775808 <= k) (_ : k <= 9223372036854775807) : vlA e 3 0 [E.LFile a, .int .i64 k] = some (.bool true) \/ vlB e 3 0 [E.LFile a, .int .i64 k] = some (.bool true) := by
 rw [Zvs]
 exact q.treeRefuses he h3 _ (Zv1 ha) k
end Go.Proofs.YtpmgdngjbdkdfaaDoor
namespace Go.Proofs.YtpmgdngjbdkdfaaDoor
open Go.Abs Go.RowKit Go.ChangeShapes Go.WideShapes
section
variable {P : Program} {w : World}
theorem Zo4 {n : String} {d : DataW Unit} : ∀ {l : List (String × DataW Unit)} {ps : List MemPlace}, DataW.LaidVars P w l ps -> (n, d) ∈ l ->
  ∃ g t cs fuel p, P.globalNamed n = some g /\ (P.globals[g]?).map (·.type) = some t /\ w.var? P n = some cs /\ DataW.trod (fun _ => ()) P w 0 (fun _ => true) false fuel t cs.toList = some (d, p)
 | [], _, _, h => by cases h
 | (m, c) :: r, ps, hl, h => by
  obtain ⟨g, t, cs, fuel, p, q, h1, h2, h3, h4, h5, _⟩ := hl
  rcases Xay.1 h with e | h
  ·cases e; exact ⟨g, t, cs, fuel, p, h1, h2, h3, h4⟩
  ·exact Zo4 h5 h
theorem Zuc {n : String} {g : Nat} {cs : Array Value} (hg : P.globalNamed n = some g) (h : w.var? P n = some cs) : ∃ t x, w.heap[g]? = some (.cells cs t x) := by
 unfold World.var? at h
 rw [hg, Xaj] at h
 split at h
 ·rename_i c t x hx; cases h; exact ⟨t, x, hx⟩
 ·cases h
theorem trod_int {enc : TypeId × Value -> Unit} {held : Bool} {fuel : Nat} {e : TypeId} {k k' : IntKind} {cs : List Value} {n : Int} {p : List MemPlace} (he : P.underlying e = some (.int k)) (h : DataW.trod enc P w 0 (fun _ => true) held fuel e cs = some (.lit (.int k' n), p)) : cs = [.int k n] /\ k' = k := by
 cases fuel with
 | zero => simp [DataW.trod] at h
 | succ m =>
  unfold DataW.trod at h
  rw [he] at h
  split at h <;> simp_all
theorem Zyo {laid : List (String × DataW Unit)} {n : String} {d : DataW Unit} {g : Nat} {t e : TypeId} {k : IntKind} {m : Nat} (ns : List Int) (h : laidMet P laid w) (hm : (n, d) ∈ laid) (hg : P.globalNamed n = some g) (ht : (P.globals[g]?).map (·.type) = some t)
  (hu : P.underlying t = some (.array m e)) (he : P.underlying e = some (.int k)) (hc : P.cellsOf e = 1) (hct : P.cellsOf t = ns.length) (hd : d = .agg (ns.map fun i => .lit (.int k i))) : Row w (G0 w) (fun _ => none) (ns.map (V.int k)) g 0 /\ (ns.map (V.int k)).length <= G0 w g := by
 obtain ⟨ps, hl, _, _⟩ := h
 obtain ⟨g', t', cs, fuel, p, h1, h2, h3, h4⟩ := Zo4 hl hm
 rw [hg] at h1; cases h1
 rw [ht] at h2; cases h2
 obtain ⟨t1, x1, hh⟩ := Zuc hg h3
 obtain ⟨xs, fu, _, hx, hlen, hxl, hel⟩ := DataW.trod_array hu h4
 have hxs : xs.map (·.1) = ns.map fun i => (DataW.lit (.int k i) : DataW Unit) := by
  have := (Prod.mk.inj hx).1
  rw [hd] at this
  exact (DataW.agg.inj this).symm
 have hnl : xs.length = ns.length := by have := congrArg List.length hxs; simpa using this
 have hsz : cs.size = ns.length := by rw [<- hct, <- hlen]; simp
 have hcell : ∀ i, (hi : i < ns.length) -> cs[i]? = some (.int k ns[i]) := by
  intro i hi
  have h5 := hel i (by omega)
  rw [hc, Xcl, Xad (by omega)] at h5
  have h6 : xs[i].1 = DataW.lit (.int k ns[i]) := by
   have h7 : (xs.map (·.1))[i]? = (ns.map fun i => (DataW.lit (.int k i) : DataW Unit))[i]? := by rw [hxs]
   rw [Xbr, Xbr, Xad (by omega), Xad hi] at h7
   simpa using h7
  obtain ⟨h8, _⟩ := trod_int (n := ns[i]) (p := xs[i].2) (k' := k) he (by rw [h5]; exact congrArg some (Prod.ext h6 rfl))
  have hi' : i < cs.toList.length := by simp; omega
  rw [Xao hi', Xct, Xcd] at h8
  have h9 := (List.cons.inj h8).1
  rw [Xar (by omega)]
  simpa using h9
 refine ⟨⟨fun c hc => ?_, fun i c hc => ?_⟩, ?_⟩
 ·obtain ⟨j, _, rfl⟩ := Xbb.1 hc; rfl
 ·rw [Xbr] at hc
  obtain ⟨j, hj, rfl⟩ := Xaa.1 hc
  obtain ⟨hi, hj⟩ := Xae.1 hj
  refine ⟨.int k j, ?_, .int k j⟩
  rw [Xan]
  simp only [World.cell?, hh]
  rw [<- hj]; exact hcell i hi
 ·simp only [Xcp, G0, hh]; omega
end
noncomputable def cxG (gls : Nat -> Option (List V)) (w : World) : Cx := ⟨Tryd.prog, w, gls⟩
theorem Z3o {gls : Nat -> Option (List V)} {w W : World} {G : Nat -> Nat} (h : OKW (cxG gls w) W G) : OKW (cxD w) W G := ⟨h.below, h.Glo, h.Gz⟩
theorem Z52 {gls : Nat -> Option (List V)} {w : World} {f : FuncId} {args : List V} {r : V × Bool} (h : PC (cxD w) f args r) : PC (cxG gls w) f args r := ⟨h.1, fun W G φ xs ho hr => h.2 W G φ xs (Z3o ho) hr⟩
theorem Zyd {gls : Nat -> Option (List V)} {w : World} {c : FC} (h : c.Holds (cxD w)) : c.Holds (cxG gls w) := fun args y hr => by
 obtain ⟨v, o, h1, h2⟩ := h args y hr
 exact ⟨v, o, Z52 h1, h2⟩
theorem Z35 {laid : List (String × DataW Unit)} {w : World} (h : laidMetH Tryd.prog laid w) (hn : (laid.filter fun x => x.2.handleName?.isSome) = []) : laidMet Tryd.prog laid w := by
 unfold laidMetH at h
 rw [hn] at h; exact h
end Go.Proofs.YtpmgdngjbdkdfaaDoor
