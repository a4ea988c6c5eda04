/-
  Parts of the proof, one behind the other. Own work of this seat; some printed by its programs.
-/
import Derived.Test.YtpmgdngjbdkdfaaDoorM5
import Derived.Test.YtpmgdngjbdkdfaaDoorM4
import Derived.Test.YtpmgdngjbdkdfaaDoorCards
import Derived.Test.YtpmgdngjbdkdfaaDoorTie
import Derived.ProofKit
import Derived.OpenShut
import Derived.Deep.DeepHandedRow
import Derived.Lib.LaidTab
namespace Go.Proofs.YtpmgdngjbdkdfaaDoor
open Go.Abs
set_option maxRecDepth 10000
variable {e : Ev}
def wordW (b : Bytes) (i : Nat) : W32 := (((bw (b.getD i 0) <<< 24) ||| (bw (b.getD (i + 1) 0) <<< 16)) ||| (bw (b.getD (i + 2) 0) <<< 8)) ||| bw (b.getD (i + 3) 0)
def loadW (b : Bytes) : Nat -> Nat -> List W32 -> List W32
  | 0, _, ws => ws
  | n + 1, i, ws => loadW b n (i + 1) (ws.set i (wordW b (4 * i)))
def sig0 (x : W32) : W32 := (turnW x 7 ^^^ turnW x 18) ^^^ (x >>> 3)
def sig1 (x : W32) : W32 := (turnW x 17 ^^^ turnW x 19) ^^^ (x >>> 10)
def schW : Nat -> Nat -> List W32 -> List W32
  | 0, _, ws => ws
  | n + 1, i, ws => schW n (i + 1) (ws.set i (((ws.getD (i - 16) 0 + sig0 (ws.getD (i - 15) 0)) + ws.getD (i - 7) 0) + sig1 (ws.getD (i - 2) 0)))
def rndW (K ws : List W32) : Nat -> Nat -> W32 -> W32 -> W32 -> W32 -> W32 -> W32 -> W32 -> W32 -> List W32
  | 0, _, a, b, c, d, e, f, g, h => [a, b, c, d, e, f, g, h]
  | n + 1, i, a, b, c, d, e, f, g, h =>
    let p := (((h + threeW e 6 11 25) + ((e &&& f) ^^^ (~~~e &&& g))) + K.getD i 0) + ws.getD i 0
    let q := threeW a 2 13 22 + (((a &&& b) ^^^ (a &&& c)) ^^^ (b &&& c))
    rndW K ws n (i + 1) (p + q) a b c (d + p) e f g
def addW (x : List W32) : Nat -> Nat -> List W32 -> List W32
  | 0, _, st => st
  | n + 1, i, st => addW x n (i + 1) (st.set i (st.getD i 0 + x.getD i 0))
def allW (b : Bytes) : List W32 := schW 48 16 (loadW b 16 0 (List.replicate 64 0))
def blockW (K : List W32) (st : List W32) (b : Bytes) : List W32 :=
  addW (rndW K (allW b) 64 0 (st.getD 0 0) (st.getD 1 0) (st.getD 2 0) (st.getD 3 0) (st.getD 4 0) (st.getD 5 0) (st.getD 6 0) (st.getD 7 0)) 8 0 st
theorem loadW_len (b : Bytes) : ∀ (n i : Nat) (ws : List W32), (loadW b n i ws).length = ws.length
  | 0, _, _ => rfl
  | n + 1, i, ws => by rw [loadW, loadW_len b n]; simp
theorem schW_len : ∀ (n i : Nat) (ws : List W32), (schW n i ws).length = ws.length
  | 0, _, _ => rfl
  | n + 1, i, ws => by rw [schW, schW_len n]; simp
theorem allW_len (b : Bytes) : (allW b).length = 64 := by rw [allW, schW_len, loadW_len]; simp
theorem addW_len (x : List W32) : ∀ (n i : Nat) (st : List W32), (addW x n i st).length = st.length
  | 0, _, _ => rfl
  | n + 1, i, st => by rw [addW, addW_len x n]; simp
theorem getD_lt {α : Type} {l : List α} {d : α} {i : Nat} (h : i < l.length) : l.getD i d = l[i] := by simp [List.getD, h]
theorem v_eb {b : Bytes} {i : Nat} (h : i < b.length) : evp (.elem 1) [.sl false 1 (b.map byteV), .int .i64 (i : Int)] = some (byteV (b.getD i 0)) := v_elem (by simp [List.getD, h])
theorem v_ldy {c : UInt8} : evp (.ld none 0) [byteV c] = some (byteV c) := rfl
theorem v.word (b : Bytes) (h : 4 <= b.length) : vl e 80 0 [.sl false 1 (b.map byteV)] = some (bv (wordW b 0)) := by
  have h0 : evp (.elem 1) [.sl false 1 (b.map byteV), .int .i64 0] = some (byteV (b.getD 0 0)) := v_eb (i := 0) (by omega)
  have h1 : evp (.elem 1) [.sl false 1 (b.map byteV), .int .i64 1] = some (byteV (b.getD 1 0)) := v_eb (i := 1) (by omega)
  have h2 : evp (.elem 1) [.sl false 1 (b.map byteV), .int .i64 2] = some (byteV (b.getD 2 0)) := v_eb (i := 2) (by omega)
  have h3 : evp (.elem 1) [.sl false 1 (b.map byteV), .int .i64 3] = some (byteV (b.getD 3 0)) := v_eb (i := 3) (by omega)
  have s24 : ∀ x : W32, evp (.bin .shl .no) [bv x, .int .u64 24] = some (bv (x <<< 24)) := fun x => b_shl x 24 .u64 (by decide)
  have s16 : ∀ x : W32, evp (.bin .shl .no) [bv x, .int .u64 16] = some (bv (x <<< 16)) := fun x => b_shl x 16 .u64 (by decide)
  have s8 : ∀ x : W32, evp (.bin .shl .no) [bv x, .int .u64 8] = some (bv (x <<< 8)) := fun x => b_shl x 8 .u64 (by decide)
  rw [w.zq46]; unfold y.zq46
  simp only [yy, h0, h1, h2, h3, v_ldy, b_wide, s24, s16, s8, b_or]; rfl
theorem wordW_drop (b : Bytes) (i : Nat) : wordW (b.drop i) 0 = wordW b i := by
  unfold wordW
  simp [List.getD, List.getElem?_drop]
theorem v_snapd {b : Bytes} (hb : b.length = 64) {i : Nat} (hi : i < 64) : evp (.snapd 0 64) [bl b, .int .i64 (i : Int)] = some (.sl false 1 ((b.drop i).map byteV)) := by
  refine (if_pos (show 0 <= (i : Int) /\ (i : Int) < (64 : Nat) /\ 0 + 64 <= (bl b).cells.length from ⟨by omega, by omega, by show _ <= (b.map byteV).length; simp; omega⟩)).trans ?_
  show some (V.sl false 1 (((b.map byteV).drop (0 + (i : Int).toNat)).take (64 - (i : Int).toNat))) = _
  rw [Nat.zero_add, Int.toNat_natCast, List.map_drop, List.take_of_length_le (by simp; omega)]
theorem v_flr {x : W32} : evp .flr [bv x] = some (bv x) := rfl
theorem mul4 {i : Nat} (h : i < 64) : IntKind.i64.wrap (4 * (i : Int)) = ((4 * i : Nat) : Int) := by rw [w64 _ (by omega)]; omega
theorem v.load (st : V) (b : Bytes) (hb : b.length = 64) : ∀ (n i : Nat) (ws : List W32), i + n = 16 -> ws.length = 64 ->
    vl e 11136 8 [I i, st, bl b, wl ws] = vl e 11136 25 [I 16, st, bl b, wl (loadW b n i ws)]
  | 0, i, ws, hi, hw => by
    rw [w.zq25_h0_8]; unfold y.zq25_h0_8
    simp only [yy, if_neg (show ¬((i : Int) < 16) by omega)]; rfl
  | n + 1, i, ws, hi, hw => by
    have hd := v.word (e := e) (b.drop (4 * i)) (by simp; omega)
    rw [wordW_drop] at hd
    rw [w.zq25_h0_8]; unfold y.zq25_h0_8
    simp only [yy, if_pos (show (i : Int) < 16 by omega), v_mul, mul4 (show i < 64 by omega), v_chk (m := 64) (k := .i64) (i := ((4 * i : Nat) : Int)) (by omega) (by omega), v_snapd hb (show 4 * i < 64 by omega), hd, v_flr, v_chk (m := 64) (k := .i64) (i := (i : Int)) (by omega) (by omega), v_stw (show i < ws.length by omega), next64 (show i < 64 by omega) (by decide)]
    exact v.load st b hb n (i + 1) _ (by omega) (by simpa using hw)
theorem v_ldg {l : List W32} {i j : Nat} {x : Int} (hj : IntKind.i64.wrap x = (j : Int)) (h : j < 64) (hl : l.length = 64) : evp (.chk 64) [.int .i64 (IntKind.i64.wrap x)] = some (.int .i64 (j : Int)) /\ evp (.ldd none 0 1) [wl l, .int .i64 (j : Int)] = some (bv (l.getD j 0)) := by
  rw [hj]
  exact ⟨v_chk (by omega) (by omega), by rw [v_ldw (by omega), getD_lt (by omega)]⟩
theorem sub64s {i k : Nat} (h : k <= i) (hi : i < 1000) : IntKind.i64.wrap ((i : Int) - (k : Int)) = ((i - k : Nat) : Int) := by rw [w64 _ (by omega)]; omega
theorem v.sched (a0 a1 a2 a3 a4 a5 a6 a7 : W32) (b : V) : ∀ (n i : Nat) (ws : List W32), i + n = 64 -> 16 <= i -> ws.length = 64 ->
    vl e 11136 25 [I i, wl [a0, a1, a2, a3, a4, a5, a6, a7], b, wl ws] = vl e 11136 48 [bv a0, bv a1, bv a2, bv a3, bv a4, bv a5, bv a6, bv a7, wl (schW n i ws), I 0, wl [a0, a1, a2, a3, a4, a5, a6, a7], b]
  | 0, i, ws, hi, _, hw => by
    have l : ∀ k x, ([a0, a1, a2, a3, a4, a5, a6, a7].map bv)[k]? = some x -> evp (.ld none k) [wl [a0, a1, a2, a3, a4, a5, a6, a7]] = some x := fun k x h => h
    rw [w.zq25_h0_25]; unfold y.zq25_h0_25
    simp only [yy, if_neg (show ¬((i : Int) < 64) by omega), l 0 _ rfl, l 1 _ rfl, l 2 _ rfl, l 3 _ rfl, l 4 _ rfl, l 5 _ rfl, l 6 _ rfl, l 7 _ rfl]; rfl
  | n + 1, i, ws, hi, h16, hw => by
    obtain ⟨c15, l15⟩ := v_ldg (l := ws) (i := i) (j := i - 15) (x := (i : Int) - 15) (sub64s (k := 15) (by omega) (by omega)) (by omega) hw
    obtain ⟨c2, l2⟩ := v_ldg (l := ws) (i := i) (j := i - 2) (x := (i : Int) - 2) (sub64s (k := 2) (by omega) (by omega)) (by omega) hw
    obtain ⟨c16, l16⟩ := v_ldg (l := ws) (i := i) (j := i - 16) (x := (i : Int) - 16) (sub64s (k := 16) (by omega) (by omega)) (by omega) hw
    obtain ⟨c7, l7⟩ := v_ldg (l := ws) (i := i) (j := i - 7) (x := (i : Int) - 7) (sub64s (k := 7) (by omega) (by omega)) (by omega) hw
    have r7 : ∀ x : W32, vl e 81 0 [bv x, .int .i64 (-7)] = some (bv (turnW x 7)) := fun x => v.rot x 7 (by decide) (by decide) rfl
    have r18 : ∀ x : W32, vl e 81 0 [bv x, .int .i64 (-18)] = some (bv (turnW x 18)) := fun x => v.rot x 18 (by decide) (by decide) rfl
    have r17 : ∀ x : W32, vl e 81 0 [bv x, .int .i64 (-17)] = some (bv (turnW x 17)) := fun x => v.rot x 17 (by decide) (by decide) rfl
    have r19 : ∀ x : W32, vl e 81 0 [bv x, .int .i64 (-19)] = some (bv (turnW x 19)) := fun x => v.rot x 19 (by decide) (by decide) rfl
    have s3 : ∀ x : W32, evp (.bin .shr .no) [bv x, .int .u64 3] = some (bv (x >>> 3)) := fun x => b_shr x 3 .u64 (by decide)
    have s10 : ∀ x : W32, evp (.bin .shr .no) [bv x, .int .u64 10] = some (bv (x >>> 10)) := fun x => b_shr x 10 .u64 (by decide)
    rw [w.zq25_h0_25]; unfold y.zq25_h0_25
    simp only [yy, if_pos (show (i : Int) < 64 by omega), c15, l15, c2, l2, c16, l16, c7, l7, r7, r18, r17, r19, s3, s10, b_xor, b_add, v_chk (m := 64) (k := .i64) (i := (i : Int)) (by omega) (by omega), v_stw (show i < ws.length by omega), next64 (show i < 64 by omega) (by decide)]
    exact v.sched a0 a1 a2 a3 a4 a5 a6 a7 b n (i + 1) _ (by omega) (by omega) (by simpa using hw)
end Go.Proofs.YtpmgdngjbdkdfaaDoor
namespace Go.Proofs.YtpmgdngjbdkdfaaDoor
open Go.Abs
set_option maxRecDepth 10000
variable {e : Ev}
def KT : List W32 := [1116352408, 1899447441, 3049323471, 3921009573, 961987163, 1508970993, 2453635748, 2870763221, 3624381080, 310598401, 607225278, 1426881987, 1925078388, 2162078206, 2614888103, 3248222580, 3835390401, 4022224774, 264347078, 604807628, 770255983, 1249150122, 1555081692, 1996064986, 2554220882, 2821834349, 2952996808, 3210313671, 3336571891, 3584528711, 113926993, 338241895, 666307205, 773529912, 1294757372, 1396182291, 1695183700, 1986661051, 2177026350, 2456956037, 2730485921, 2820302411, 3259730800, 3345764771, 3516065817, 3600352804, 4094571909, 275423344, 430227734, 506948616, 659060556, 883997877, 958139571, 1322822218, 1537002063, 1747873779, 1955562222, 2024104815, 2227730452, 2361852424, 2428436474, 2756734187, 3204031479, 3329325298]
theorem tb_kt : tb0 = KT.map bv := rfl
theorem kt_len : KT.length = 64 := rfl
theorem v_ldk {k : IntKind} {i : Nat} (h : i < 64) : evp (.ldd none 0 1) [.agg tb0, .int k (i : Int)] = some (bv (KT.getD i 0)) := by
  rw [tb_kt, getD_lt (by rw [kt_len]; exact h)]; exact v_ldw (by rw [kt_len]; exact h)
theorem v_idxw {m : Nat} {l : List W32} {i : Nat} (h : i < l.length) (hm : i < m) : evp (.idxa m 1 none) [wl l, .int .i64 (i : Int)] = some (bv (l.getD i 0)) := by
  show (if 0 <= (i : Int) /\ (i : Int) < (m : Int) then (l.map bv)[(i : Int).toNat * 1]? else none) = _
  rw [if_pos ⟨by omega, by omega⟩, Nat.mul_one, Int.toNat_natCast, List.getElem?_map, List.getElem?_eq_getElem h, getD_lt h]; rfl
theorem v.rounds (st b : V) (ws : List W32) (hw : ws.length = 64) : ∀ (n i : Nat) (a b1 c d e1 f g h : W32), i + n = 64 ->
    vl e 11136 48 [bv a, bv b1, bv c, bv d, bv e1, bv f, bv g, bv h, wl ws, I i, st, b] = vl e 11136 72 [wl (rndW KT ws n i a b1 c d e1 f g h), I 0, st, b]
  | 0, i, a, b1, c, d, e1, f, g, h, hi => by
    have hc : evp (.cat [none, none, none, none, none, none, none, none]) [bv a, bv b1, bv c, bv d, bv e1, bv f, bv g, bv h] = some (wl [a, b1, c, d, e1, f, g, h]) := rfl
    rw [w.zq25_h0_48]; unfold y.zq25_h0_48
    simp only [yy, if_neg (show ¬((i : Int) < 64) by omega), hc]; rfl
  | n + 1, i, a, b1, c, d, e1, f, g, h, hi => by
    have r (k : Nat) (hk : k <= 32) (h1 : 1 <= k) (hq : evp (.bin .and .no) [.int .u64 (IntKind.u64.wrap (-(k : Int))), .int .u64 31] = some (.int .u64 ((32 - k : Nat) : Int))) (x : W32) := v.rot (e := e) x k hk h1 hq
    have r6 : ∀ x : W32, vl e 81 0 [bv x, .int .i64 (-6)] = some (bv (turnW x 6)) := r 6 (by decide) (by decide) rfl
    have r11 : ∀ x : W32, vl e 81 0 [bv x, .int .i64 (-11)] = some (bv (turnW x 11)) := r 11 (by decide) (by decide) rfl
    have r25 : ∀ x : W32, vl e 81 0 [bv x, .int .i64 (-25)] = some (bv (turnW x 25)) := r 25 (by decide) (by decide) rfl
    have r2 : ∀ x : W32, vl e 81 0 [bv x, .int .i64 (-2)] = some (bv (turnW x 2)) := r 2 (by decide) (by decide) rfl
    have r13 : ∀ x : W32, vl e 81 0 [bv x, .int .i64 (-13)] = some (bv (turnW x 13)) := r 13 (by decide) (by decide) rfl
    have r22 : ∀ x : W32, vl e 81 0 [bv x, .int .i64 (-22)] = some (bv (turnW x 22)) := r 22 (by decide) (by decide) rfl
    rw [w.zq25_h0_48]; unfold y.zq25_h0_48
    simp only [yy, if_pos (show (i : Int) < 64 by omega), v_idxw (m := 64) (l := ws) (i := i) (by omega) (by omega), r6, r11, r25, b_xor, b_add, b_and, b_not, v_chk (m := 64) (k := .i64) (i := (i : Int)) (by omega) (by omega)]
    refine bind_eq (v_ldk (show i < 64 by omega)) ?_
    simp only [yy, b_add, r2, r13, r22, b_xor, b_and, next64 (show i < 64 by omega) (by decide)]
    exact v.rounds st b ws hw n (i + 1) _ _ _ _ _ _ _ _ (by omega)
theorem v.addR (b : V) (x : List W32) (hx : x.length = 8) : ∀ (n i : Nat) (st : List W32), i + n = 8 -> st.length = 8 ->
    vl e 11136 72 [wl x, I i, wl st, b] = some (.tup [wl (addW x n i st), b])
  | 0, i, st, hi, hs => by
    rw [w.zq25_h0_72]; unfold y.zq25_h0_72
    simp only [yy, if_neg (show ¬((i : Int) < 8) by omega)]; rfl
  | n + 1, i, st, hi, hs => by
    have lw : evp (.ldd none 0 1) [wl st, .int .i64 (i : Int)] = some (bv (st.getD i 0)) := by rw [v_ldw (by omega), getD_lt (by omega)]
    rw [w.zq25_h0_72]; unfold y.zq25_h0_72
    simp only [yy, if_pos (show (i : Int) < 8 by omega), v_idxw (m := 8) (l := x) (i := i) (by omega) (by omega), v_chk (m := 8) (k := .i64) (i := (i : Int)) (by omega) (by omega), lw, b_add, v_stw (show i < st.length by omega), next64 (show i < 8 by omega) (by decide)]
    exact v.addR b x hx n (i + 1) _ (by omega) (by simpa using hs)
theorem rndW_len (K ws : List W32) : ∀ (n i : Nat) (a b c d e f g h : W32), (rndW K ws n i a b c d e f g h).length = 8
  | 0, _, _, _, _, _, _, _, _, _ => rfl
  | n + 1, i, a, b, c, d, e, f, g, h => rndW_len K ws n (i + 1) _ _ _ _ _ _ _ _
theorem eight {l : List W32} (h : l.length = 8) : ∃ a b c d e f g h, l = [a, b, c, d, e, f, g, h] := by
  match l, h with
  | [a, b, c, d, e, f, g, h], _ => exact ⟨a, b, c, d, e, f, g, h, rfl⟩
theorem v.block (st : List W32) (hs : st.length = 8) (b : Bytes) (hb : b.length = 64) : vl e 11136 1 [wl st, bl b] = some (.tup [wl (blockW KT st b), bl b]) := by
  obtain ⟨a0, a1, a2, a3, a4, a5, a6, a7, rfl⟩ := eight hs
  rw [w.zq25_h0]; unfold y.zq25_h0
  have hz : V.agg (repl 64 (.int .u32 0)) = wl (List.replicate 64 0) := rfl
  rw [hz]
  have h1 := v.load (e := e) (wl [a0, a1, a2, a3, a4, a5, a6, a7]) b hb 16 0 (List.replicate 64 0) (by decide) (by simp)
  have h2 := v.sched (e := e) a0 a1 a2 a3 a4 a5 a6 a7 (bl b) 48 16 (loadW b 16 0 (List.replicate 64 0)) (by decide) (by decide) (by rw [loadW_len]; simp)
  have h3 := v.rounds (e := e) (wl [a0, a1, a2, a3, a4, a5, a6, a7]) (bl b) (allW b) (allW_len b) 64 0 a0 a1 a2 a3 a4 a5 a6 a7 (by decide)
  have h4 := v.addR (e := e) (bl b) (rndW KT (allW b) 64 0 a0 a1 a2 a3 a4 a5 a6 a7) (rndW_len ..) 8 0 [a0, a1, a2, a3, a4, a5, a6, a7] (by decide) rfl
  exact h1.trans (h2.trans (h3.trans h4))
end Go.Proofs.YtpmgdngjbdkdfaaDoor
namespace Go.Proofs.YtpmgdngjbdkdfaaDoor
open Go.Abs
set_option maxRecDepth 10000
variable {e : Ev}
theorem encB_map (b : Bytes) : encB b = b.map byteV := rfl
theorem fill {α : Type} {F Z : List α} {i : Nat} (hi : i < F.length) (hl : F.length = Z.length) : (F.take i ++ Z.drop i).set i F[i] = F.take (i + 1) ++ Z.drop (i + 1) := by
  have hz : Z.drop i = Z[i]'(by omega) :: Z.drop (i + 1) := List.drop_eq_getElem_cons (by omega)
  have ht : F.take (i + 1) = F.take i ++ [F[i]] := by simp
  have hlt : (F.take i).length = i := by simp; omega
  rw [ht, hz, List.set_append_right _ _ (by omega), hlt, Nat.sub_self, List.set_cons_zero, List.append_assoc]; rfl
theorem fill_len {α : Type} {F Z : List α} {i : Nat} (hi : i <= F.length) (hl : F.length = Z.length) : (F.take i ++ Z.drop i).length = F.length := by simp; omega
def outB (st : List W32) : Bytes := (List.range 32).map fun i => wb ((st.getD (i / 4) 0) >>> (24 - 8 * (i % 4)))
theorem outB_len (st : List W32) : (outB st).length = 32 := by simp [outB]
theorem outB_get (st : List W32) {i : Nat} (h : i < (outB st).length) : (outB st)[i] = wb ((st.getD (i / 4) 0) >>> (24 - 8 * (i % 4))) := by simp [outB]
theorem v_cat32 {o : Bytes} (h : o.length = 32) : evp (.cat [some 32]) [bl o] = some (bl o) := by
  show (catV [some 32] [bl o]).map V.agg = _
  have hc : (bl o).cells.length = 32 /\ (bl o).cells.all V.sc = true := ⟨by show (o.map byteV).length = 32; simpa using h, by
    rw [List.all_eq_true]; intro c hc
    obtain ⟨x, _, rfl⟩ := List.mem_map.1 (show c ∈ o.map byteV from hc); rfl⟩
  show ((if (bl o).cells.length = 32 /\ (bl o).cells.all V.sc = true then (catV [] []).map ((bl o).cells ++ ·) else none)).map V.agg = _
  rw [if_pos hc]
  show some (V.agg ((bl o).cells ++ [])) = _
  rw [List.append_nil]; rfl
theorem zero32 : V.agg (repl 32 (.int .u8 0)) = bl (List.replicate 32 0) := rfl
theorem v.out (z : V) (st : List W32) (hs : st.length = 8) : ∀ (n i : Nat), i + n = 32 ->
    vl e 60 64 [I i, z, wl st, bl ((outB st).take i ++ (List.replicate 32 0).drop i)] = some (bl (outB st))
  | 0, i, hi => by
    have hl := outB_len st
    rw [List.take_of_length_le (by omega), List.drop_eq_nil_of_le (by simp; omega), List.append_nil]
    rw [w.zq44_64]; unfold y.zq44_64
    simp only [yy, if_neg (show ¬((i : Int) < 32) by omega), v_cat32 hl]
  | n + 1, i, hi => by
    have hl := outB_len st
    have hq : evp (.bin .quo .no) [.int .i64 (i : Int), .int .i64 4] = some (.int .i64 ((i / 4 : Nat) : Int)) := v_quo (k := 4) (by decide) (by omega)
    have hr : evp (.bin .rem .no) [.int .i64 (i : Int), .int .i64 4] = some (.int .i64 ((i % 4 : Nat) : Int)) := v_rem (k := 4) (by decide)
    have e1 : IntKind.i64.wrap (8 * ((i % 4 : Nat) : Int)) = ((8 * (i % 4) : Nat) : Int) := by rw [w64 _ (by omega)]; omega
    have e2 : IntKind.i64.wrap (24 - ((8 * (i % 4) : Nat) : Int)) = ((24 - 8 * (i % 4) : Nat) : Int) := by rw [w64 _ (by omega)]; omega
    have lw : evp (.ldd none 0 1) [wl st, .int .i64 ((i / 4 : Nat) : Int)] = some (bv (st.getD (i / 4) 0)) := by rw [v_ldw (by omega), getD_lt (by omega)]
    have hset : ((outB st).take i ++ (List.replicate 32 0).drop i).set i (wb ((st.getD (i / 4) 0) >>> (24 - 8 * (i % 4)))) = (outB st).take (i + 1) ++ (List.replicate 32 0).drop (i + 1) := by
      rw [<- outB_get st (by omega)]; exact fill (by omega) (by simpa using hl)
    have hst := v_stb8 (k := .i64) (l := (outB st).take i ++ (List.replicate 32 0).drop i) (i := i) (x := wb ((st.getD (i / 4) 0) >>> (24 - 8 * (i % 4)))) (by rw [fill_len (by omega) (by simpa using hl)]; omega)
    rw [hset] at hst
    rw [w.zq44_64]; unfold y.zq44_64
    simp only [yy, if_pos (show (i : Int) < 32 by omega), hq, v_chk (m := 8) (k := .i64) (i := ((i / 4 : Nat) : Int)) (by omega) (by omega), lw, hr, v_mul, e1, e2, b_shr (st.getD (i / 4) 0) (24 - 8 * (i % 4)) .i64 (by omega), b_narrow, v_chk (m := 32) (k := .i64) (i := (i : Int)) (by omega) (by omega), hst, next64 (show i < 64 by omega) (by decide)]
    exact v.out z st hs n (i + 1) (by omega)
def lenB (n : Nat) : Bytes := (List.range 8).map fun i => UInt8.ofNat (8 * n / 2 ^ (56 - 8 * i))
theorem lenB_len (n : Nat) : (lenB n).length = 8 := by simp [lenB]
theorem lenB_get (n : Nat) {i : Nat} (h : i < (lenB n).length) : (lenB n)[i] = UInt8.ofNat (8 * n / 2 ^ (56 - 8 * i)) := by simp [lenB]
theorem ofNat_byte (n : Nat) : V.int .u8 (IntKind.u8.wrap (n : Int)) = byteV (UInt8.ofNat n) := by
  rw [wrap8]; unfold byteV
  congr 1
theorem v.lens (s : Bytes) (hs : s.length <= 1000000000000) (o st : V) (base z : Bytes) (hb : base.length = 56) (hz : z.length = 8) : ∀ (n i : Nat), i + n = 8 ->
    vl e 60 43 [.str s, I i, o, st, bl (base ++ ((lenB s.length).take i ++ z.drop i))] = vl e 60 43 [.str s, I 8, o, st, bl (base ++ lenB s.length)]
  | 0, i, hi => by
    have hl := lenB_len s.length
    obtain rfl : i = 8 := by omega
    rw [List.take_of_length_le (by omega), List.drop_eq_nil_of_le (by omega), List.append_nil]; rfl
  | n + 1, i, hi => by
    have hl := lenB_len s.length
    have e0 : IntKind.i64.wrap (56 + (i : Int)) = ((56 + i : Nat) : Int) := by rw [w64 _ (by omega)]; omega
    have e1 : IntKind.i64.wrap (8 * (i : Int)) = ((8 * i : Nat) : Int) := by rw [w64 _ (by omega)]; omega
    have e2 : IntKind.i64.wrap (56 - ((8 * i : Nat) : Int)) = ((56 - 8 * i : Nat) : Int) := by rw [w64 _ (by omega)]; omega
    have e3 : evp (.i2i .u64) [.int .i64 (s.length : Int)] = some (.int .u64 (s.length : Int)) := by
      show some (V.int .u64 (IntKind.u64.wrap (s.length : Int))) = _
      rw [wrapU64, Int.emod_eq_of_lt (by omega) (by omega)]
    have e4 : evp (.bin .shl .no) [.int .u64 (s.length : Int), .int .u64 3] = some (.int .u64 ((8 * s.length : Nat) : Int)) := by
      show some (V.int .u64 (IntKind.u64.wrap ((s.length : Int) * 2 ^ 3))) = _
      rw [wrapU64, Int.emod_eq_of_lt (by omega) (by omega)]
      congr 2; omega
    have e5 : evp (.bin .shr .no) [.int .u64 ((8 * s.length : Nat) : Int), .int .i64 ((56 - 8 * i : Nat) : Int)] = some (.int .u64 ((8 * s.length / 2 ^ (56 - 8 * i) : Nat) : Int)) := by
      show (if ((56 - 8 * i : Nat) : Int) < 0 then none else some (V.int .u64 (((8 * s.length : Nat) : Int).fdiv (2 ^ (min ((56 - 8 * i : Nat) : Int).toNat IntKind.u64.bits))))) = _
      have : min ((56 - 8 * i : Nat) : Int).toNat IntKind.u64.bits = 56 - 8 * i := by show min _ 64 = _; omega
      rw [if_neg (by omega), this, Int.fdiv_eq_ediv_of_nonneg _ (Int.le_of_lt (Int.pow_pos (by decide)))]
      simp
    have e6 : evp (.i2i .u8) [.int .u64 ((8 * s.length / 2 ^ (56 - 8 * i) : Nat) : Int)] = some (byteV (UInt8.ofNat (8 * s.length / 2 ^ (56 - 8 * i)))) := congrArg some (ofNat_byte _)
    have hset : (base ++ ((lenB s.length).take i ++ z.drop i)).set (56 + i) (UInt8.ofNat (8 * s.length / 2 ^ (56 - 8 * i))) = base ++ ((lenB s.length).take (i + 1) ++ z.drop (i + 1)) := by
      rw [List.set_append_right _ _ (by omega), show 56 + i - base.length = i by omega, <- lenB_get s.length (by omega), fill (by omega) (by omega)]
    have hst := v_stb8 (k := .i64) (l := base ++ ((lenB s.length).take i ++ z.drop i)) (i := 56 + i) (x := UInt8.ofNat (8 * s.length / 2 ^ (56 - 8 * i))) (by rw [List.length_append, fill_len (by omega) (by omega)]; omega)
    rw [hset] at hst
    rw [w.zq44_43]; unfold y.zq44_43
    simp only [yy, if_pos (show (i : Int) < 8 by omega), e0, e3, e4, v_mul, e1, e2, e5, e6, v_chk (m := 64) (k := .i64) (i := ((56 + i : Nat) : Int)) (by omega) (by omega), hst, next64 (show i < 64 by omega) (by decide)]
    exact v.lens s hs o st base z hb hz n (i + 1) (by omega)
theorem v.endOf (s : Bytes) (hs : s.length <= 1000000000000) (o : V) (st : List W32) (h8 : st.length = 8) (base z : Bytes) (hb : base.length = 56) (hz : z.length = 8) :
    vl e 60 39 [.str s, o, wl st, bl (base ++ z)] = some (bl (outB (blockW KT st (base ++ lenB s.length)))) := by
  have h1 := v.lens (e := e) s hs o (wl st) base z hb hz 8 0 (by omega)
  rw [List.take_zero, List.drop_zero, List.nil_append] at h1
  have hl := lenB_len s.length
  have hblk := v.block (e := e) st h8 (base ++ lenB s.length) (by simp; omega)
  have h2 := v.out (e := e) o (blockW KT st (base ++ lenB s.length)) (by unfold blockW; rw [addW_len]; exact h8) 32 0 (by omega)
  rw [List.take_zero, List.drop_zero, List.nil_append] at h2
  rw [w.zq44_39]; unfold y.zq44_39
  refine h1.trans ?_
  rw [w.zq44_43]; unfold y.zq44_43
  simp only [yy, if_neg (show ¬((8 : Int) < 8) by omega), hblk]
  exact h2
end Go.Proofs.YtpmgdngjbdkdfaaDoor
namespace Go.Proofs.YtpmgdngjbdkdfaaDoor
open Go.Abs
set_option maxRecDepth 10000
variable {e : Ev}
def padN (k : Nat) : Nat := (119 - k % 64) % 64
def padB (n : Nat) (r : Bytes) : Bytes := r ++ (128 :: (List.replicate (padN r.length) 0 ++ lenB n))
def foldC (K : List W32) : Nat -> Bytes -> List W32 -> List W32
  | 0, _, st => st
  | m + 1, b, st => foldC K m (b.drop 64) (blockW K st (b.take 64))
theorem padB_len (n : Nat) (r : Bytes) : (padB n r).length = r.length + 9 + padN r.length := by simp [padB, lenB_len]; omega
theorem blockW_len (K st : List W32) (b : Bytes) : (blockW K st b).length = st.length := by unfold blockW; rw [addW_len]
def hashW (n : Nat) (r : Bytes) (st : List W32) : List W32 := foldC KT ((r.length + 9 + padN r.length) / 64) (padB n r) st
theorem hash_step {n : Nat} {r : Bytes} (h : 64 <= r.length) (st : List W32) : hashW n r st = hashW n (r.drop 64) (blockW KT st (r.take 64)) := by
  have hp : padN (r.length - 64) = padN r.length := by unfold padN; omega
  have hm : (r.length + 9 + padN r.length) / 64 = (r.length - 64 + 9 + padN r.length) / 64 + 1 := by omega
  unfold hashW
  rw [List.length_drop, hp, hm, foldC]
  have h1 : (padB n r).take 64 = r.take 64 := by unfold padB; rw [List.take_append_of_le_length h]
  have h2 : (padB n r).drop 64 = padB n (r.drop 64) := by unfold padB; rw [List.drop_append_of_le_length h, List.length_drop, hp]
  rw [h1, h2]
theorem hash_short {n : Nat} {r : Bytes} (h : r.length < 56) (st : List W32) : hashW n r st = blockW KT st ((r ++ (128 :: List.replicate (55 - r.length) 0)) ++ lenB n) := by
  have hp : padN r.length = 55 - r.length := by unfold padN; omega
  have hm : (r.length + 9 + padN r.length) / 64 = 1 := by omega
  have hl := padB_len n r
  unfold hashW
  rw [hm, foldC, foldC, List.take_of_length_le (by omega)]
  unfold padB
  rw [hp]; simp
theorem hash_long {n : Nat} {r : Bytes} (h : 56 <= r.length) (h2 : r.length < 64) (st : List W32) : hashW n r st = blockW KT (blockW KT st (r ++ (128 :: List.replicate (63 - r.length) 0))) (List.replicate 56 0 ++ lenB n) := by
  have hp : padN r.length = (63 - r.length) + 56 := by unfold padN; omega
  have hm : (r.length + 9 + padN r.length) / 64 = 2 := by omega
  have e1 : padB n r = (r ++ (128 :: List.replicate (63 - r.length) 0)) ++ (List.replicate 56 0 ++ lenB n) := by
    unfold padB
    rw [hp, <- List.replicate_append_replicate]; simp
  have l1 : (r ++ (128 :: List.replicate (63 - r.length) 0)).length = 64 := by simp; omega
  have l2 : (List.replicate 56 (0 : UInt8) ++ lenB n).length = 64 := by simp [lenB_len]
  unfold hashW
  rw [hm, foldC, foldC, foldC, e1, <- l1, List.take_left, List.drop_left, l1, List.take_of_length_le (by omega)]
theorem v_cpya {b : Bytes} (hb : b.length = 64) (r : Bytes) : evp (.cpya 0 64) [bl b, .str r] = some (bl (r.take 64 ++ b.drop (r.take 64).length)) := by
  refine (if_pos (show 0 + 64 <= (bl b).cells.length by show _ <= (b.map byteV).length; simp; omega)).trans ?_
  show some (V.agg (setAt (b.map byteV) 0 ((encB r).take 64))) = _
  unfold setAt
  rw [encB_map, List.take_zero, List.nil_append, Nat.zero_add, <- List.map_take, List.length_map, <- List.map_drop, <- List.map_append]
theorem v_cpyn {r : Bytes} : ∃ x, evp (.cpyn 64) [.str r] = some x := ⟨_, rfl⟩
theorem v_clr {b : Bytes} (hb : b.length = 64) : evp (.clra (.int .u8 0) 0 64) [bl b] = some (bl (List.replicate 64 0)) := by
  refine (if_pos (show 0 + 64 <= (bl b).cells.length by show _ <= (b.map byteV).length; simp; omega)).trans ?_
  show some (V.agg (setAt (b.map byteV) 0 (List.replicate 64 (.int .u8 0)))) = _
  unfold setAt
  rw [List.take_zero, List.nil_append, List.drop_eq_nil_of_le (by simp; omega), List.append_nil]; rfl
theorem v.sha12 (s : Bytes) (hs : s.length <= 1000000000000) : ∀ (m : Nat) (r : Bytes) (st : List W32) (b : Bytes), r.length <= m -> st.length = 8 -> b.length = 64 ->
    vl e 60 12 [.str s, .str r, V.agg (repl 32 (.int .u8 0)), wl st, bl b] = some (bl (outB (hashW s.length r st))) := by
  intro m
  induction m with
  | zero =>
    intro r st b hr h8 hb
    obtain rfl : r = [] := List.eq_nil_of_length_eq_zero (by omega)
    obtain ⟨x, hx⟩ := v_cpyn (r := [])
    have hend := v.endOf (e := e) s hs (V.agg (repl 32 (.int .u8 0))) st h8 (128 :: List.replicate 55 0) (List.replicate 8 0) (by simp) (by simp)
    rw [hash_short (by decide)]
    have hst := v_stb8 (k := .i64) (l := List.replicate 64 0) (i := 0) (x := 128) (by simp)
    have hcp := v_cpya (b := List.replicate 64 0) (by simp) []
    rw [w.zq44_12]; unfold y.zq44_12
    have e128 : V.int .u8 128 = byteV 128 := rfl
    simp only [yy, List.length_nil, Int.natCast_zero, if_neg (show ¬((64 : Int) <= 0) by omega), v_clr hb, hcp, hx, v_chk (m := 64) (k := .i64) (i := 0) (by omega) (by omega), e128]
    refine bind_eq hst ?_
    rw [if_neg (show ¬((56 : Int) <= 0) by omega)]
    exact hend
  | succ m ih =>
    intro r st b hr h8 hb
    obtain ⟨x, hx⟩ := v_cpyn (r := r)
    by_cases h64 : 64 <= r.length
    . have hl64 : (r.take 64).length = 64 := by simp; omega
      have hcp := v_cpya hb r
      rw [hl64, List.drop_eq_nil_of_le (by omega), List.append_nil] at hcp
      have hblk := v.block (e := e) st h8 (r.take 64) hl64
      have hsl : evp (.sls true false) [.str r, .int .i64 64] = some (.str (r.drop 64)) := v_sls1 (l := 64) (by omega)
      rw [hash_step h64]
      rw [w.zq44_12]; unfold y.zq44_12
      simp only [yy, if_pos (show (64 : Int) <= (r.length : Int) by omega), hcp, hx, hblk, hsl]
      exact ih (r.drop 64) _ _ (by simp; omega) (by rw [blockW_len]; exact h8) hl64
    . have htk : r.take 64 = r := List.take_of_length_le (by omega)
      have hcp := v_cpya (b := List.replicate 64 0) (by simp) r
      rw [htk, List.drop_replicate] at hcp
      have hst := v_stb8 (k := .i64) (l := r ++ List.replicate (64 - r.length) 0) (i := r.length) (x := 128) (by simp; omega)
      have hset : (r ++ List.replicate (64 - r.length) 0).set r.length 128 = r ++ (128 :: List.replicate (63 - r.length) 0) := by
        rw [List.set_append_right _ _ (Nat.le_refl _), Nat.sub_self, show 64 - r.length = (63 - r.length) + 1 by omega, List.replicate_succ, List.set_cons_zero]
      rw [hset] at hst
      have e128 : V.int .u8 128 = byteV 128 := rfl
      rw [w.zq44_12]; unfold y.zq44_12
      by_cases h56 : 56 <= r.length
      . have l1 : (r ++ (128 :: List.replicate (63 - r.length) 0)).length = 64 := by simp; omega
        have hblk := v.block (e := e) st h8 (r ++ (128 :: List.replicate (63 - r.length) 0)) l1
        have hend := v.endOf (e := e) s hs (V.agg (repl 32 (.int .u8 0))) (blockW KT st (r ++ (128 :: List.replicate (63 - r.length) 0))) (by rw [blockW_len]; exact h8) (List.replicate 56 0) (List.replicate 8 0) (by simp) (by simp)
        rw [List.replicate_append_replicate] at hend
        rw [hash_long h56 (by omega)]
        simp only [yy, if_neg (show ¬((64 : Int) <= (r.length : Int)) by omega), v_clr hb, hcp, hx, v_chk (m := 64) (k := .i64) (i := (r.length : Int)) (by omega) (by omega), e128, hst, if_pos (show (56 : Int) <= (r.length : Int) by omega), hblk, v_clr l1]
        exact hend
      . have hend := v.endOf (e := e) s hs (V.agg (repl 32 (.int .u8 0))) st h8 (r ++ (128 :: List.replicate (55 - r.length) 0)) (List.replicate 8 0) (by simp; omega) (by simp)
        have e1 : (r ++ (128 :: List.replicate (55 - r.length) 0)) ++ List.replicate 8 0 = r ++ (128 :: List.replicate (63 - r.length) 0) := by
          rw [show 63 - r.length = (55 - r.length) + 8 by omega, <- List.replicate_append_replicate]; simp
        rw [e1] at hend
        rw [hash_short (by omega)]
        simp only [yy, if_neg (show ¬((64 : Int) <= (r.length : Int)) by omega), v_clr hb, hcp, hx, v_chk (m := 64) (k := .i64) (i := (r.length : Int)) (by omega) (by omega), e128, hst, if_neg (show ¬((56 : Int) <= (r.length : Int)) by omega)]
        exact hend
def H0 : List W32 := [1779033703, 3144134277, 1013904242, 2773480762, 1359893119, 2600822924, 528734635, 1541459225]
def digest (s : Bytes) : Bytes := outB (hashW s.length s H0)
theorem digest_len (s : Bytes) : (digest s).length = 32 := outB_len _
theorem v.shaOf (s : Bytes) (hs : s.length <= 1000000000000) : vl e 60 0 [.str s] = some (bl (digest s)) := by
  rw [w.zq44]; unfold y.zq44
  exact v.sha12 s hs s.length s H0 (List.replicate 64 0) (Nat.le_refl _) rfl (by simp)
end Go.Proofs.YtpmgdngjbdkdfaaDoor
namespace Go.Proofs.YtpmgdngjbdkdfaaDoor
open Go.Abs
set_option maxRecDepth 10000
variable {e : Ev}
def numB (n : Nat) : Bytes := (List.range 8).map fun i => UInt8.ofNat (n / 2 ^ (56 - 8 * i))
theorem numB_len (n : Nat) : (numB n).length = 8 := by simp [numB]
theorem numB_get (n : Nat) {i : Nat} (h : i < (numB n).length) : (numB n)[i] = UInt8.ofNat (n / 2 ^ (56 - 8 * i)) := by simp [numB]
theorem v_b2so {l : Bytes} {k : Nat} (h : l.length = k) : evp (.b2so 0 k) [bl l] = some (.str l) := by
  show (if 0 + k <= (l.map byteV).length then (toBytes (((l.map byteV).drop 0).take k)).map V.str else none) = _
  rw [List.drop_zero, List.take_of_length_le (by simp; omega), toBytes_map]
  exact if_pos (by simp; omega)
theorem v.num10 (n : Nat) (hn : n <= 1000000000000) : ∀ (m i : Nat), i + m = 8 -> vl e 59 10 [I n, I i, bl ((numB n).take i ++ (List.replicate 8 0).drop i)] = some (.str (numB n))
  | 0, i, hi => by
    have hl := numB_len n
    rw [List.take_of_length_le (by omega), List.drop_eq_nil_of_le (by simp; omega), List.append_nil]
    have hb : evp (.b2so 0 8) [bl (numB n)] = some (.str (numB n)) := v_b2so (by omega)
    rw [w.zq3_10]; unfold y.zq3_10
    simp only [yy, if_neg (show ¬((i : Int) < 8) by omega), hb]
  | m + 1, i, hi => by
    have hl := numB_len n
    have e1 : IntKind.i64.wrap (8 * (i : Int)) = ((8 * i : Nat) : Int) := by rw [w64 _ (by omega)]; omega
    have e2 : IntKind.i64.wrap (56 - ((8 * i : Nat) : Int)) = ((56 - 8 * i : Nat) : Int) := by rw [w64 _ (by omega)]; omega
    have e3 : evp (.i2i .u64) [.int .i64 (n : Int)] = some (.int .u64 (n : Int)) := by
      show some (V.int .u64 (IntKind.u64.wrap (n : Int))) = _
      rw [wrapU64, Int.emod_eq_of_lt (by omega) (by omega)]
    have e5 : evp (.bin .shr .no) [.int .u64 (n : Int), .int .i64 ((56 - 8 * i : Nat) : Int)] = some (.int .u64 ((n / 2 ^ (56 - 8 * i) : Nat) : Int)) := by
      show (if ((56 - 8 * i : Nat) : Int) < 0 then none else some (V.int .u64 ((n : Int).fdiv (2 ^ (min ((56 - 8 * i : Nat) : Int).toNat IntKind.u64.bits))))) = _
      have : min ((56 - 8 * i : Nat) : Int).toNat IntKind.u64.bits = 56 - 8 * i := by show min _ 64 = _; omega
      rw [if_neg (by omega), this, Int.fdiv_eq_ediv_of_nonneg _ (Int.le_of_lt (Int.pow_pos (by decide)))]
      simp
    have e6 : evp (.i2i .u8) [.int .u64 ((n / 2 ^ (56 - 8 * i) : Nat) : Int)] = some (byteV (UInt8.ofNat (n / 2 ^ (56 - 8 * i)))) := congrArg some (ofNat_byte _)
    have hset : ((numB n).take i ++ (List.replicate 8 0).drop i).set i (UInt8.ofNat (n / 2 ^ (56 - 8 * i))) = (numB n).take (i + 1) ++ (List.replicate 8 0).drop (i + 1) := by
      rw [<- numB_get n (by omega)]; exact fill (by omega) (by simpa using hl)
    have hst := v_stb8 (k := .i64) (l := (numB n).take i ++ (List.replicate 8 0).drop i) (i := i) (x := UInt8.ofNat (n / 2 ^ (56 - 8 * i))) (by rw [fill_len (by omega) (by simpa using hl)]; omega)
    rw [hset] at hst
    rw [w.zq3_10]; unfold y.zq3_10
    simp only [yy, if_pos (show (i : Int) < 8 by omega), e3, v_mul, e1, e2, e5, e6, v_chk (m := 8) (k := .i64) (i := (i : Int)) (by omega) (by omega), hst, next64 (show i < 64 by omega) (by decide)]
    exact v.num10 n hn m (i + 1) (by omega)
theorem v.codeNum (n : Nat) (hn : n <= 1000000000000) : vl e 59 0 [I n] = some (.str (numB n)) := by
  have h := v.num10 (e := e) n hn 8 0 (by omega)
  rw [List.take_zero, List.drop_zero, List.nil_append] at h
  rw [w.zq3]; exact h
def partsB (l : List Bytes) : Bytes := (l.map fun p => numB p.length ++ p).flatten
def joinC (l : List Bytes) : Bytes := numB l.length ++ partsB l
def sumL (l : List Bytes) : Nat := (l.map fun p => 8 + p.length).sum
theorem sumL_cons (x : Bytes) (r : List Bytes) : sumL (x :: r) = 8 + x.length + sumL r := rfl
theorem partsB_cons (x : Bytes) (r : List Bytes) : partsB (x :: r) = numB x.length ++ x ++ partsB r := rfl
theorem partsB_len : ∀ l : List Bytes, (partsB l).length = sumL l
  | [] => rfl
  | x :: r => by
    have := partsB_len r
    simp only [partsB, sumL, List.map_cons, List.flatten_cons, List.length_append, List.sum_cons, numB_len] at this ⊢; omega
theorem sumL_len (m : List Bytes) : 8 * m.length <= sumL m := by
  induction m with
  | nil => simp [sumL]
  | cons x r ih => simp only [sumL, List.map_cons, List.sum_cons, List.length_cons] at ih ⊢; omega
theorem v_appS {l : Bytes} {s : Bytes} (h : l.length + s.length <= Lim) : evp (.app 1) [bsl l, .str s] = some (bsl (l ++ s)) := by
  show vAppC 1 (bsl l) (.str s) = _
  show (if (l.map byteV).length + (encB s).length <= Lim /\ 1 = 1 then some (V.sl false 1 (l.map byteV ++ encB s)) else none) = _
  rw [if_pos ⟨by simpa [encB] using h, rfl⟩, encB_map, <- List.map_append]
theorem v.join31 (l : List Bytes) (hl : sumL l <= 1000000000) : ∀ (n i : Nat) (out : Bytes), i + n = l.length -> out.length + sumL (l.drop i) <= 2000000000 ->
    vl e 43 31 [bsl out, strs l, I l.length, I i] = some (.str (out ++ partsB (l.drop i)))
  | 0, i, out, hi, ho => by
    rw [w.zq2_31, List.drop_eq_nil_of_le (by omega)]; unfold y.zq2_31
    simp only [yy, if_neg (show ¬((i : Int) < (l.length : Int)) by omega), v_b2s]
    simp [partsB]
  | n + 1, i, out, hi, ho => by
    have hLim : Lim = 4294967296 := rfl
    have hlt : i < l.length := by omega
    rw [List.drop_eq_getElem_cons hlt] at ho ⊢
    rw [sumL_cons] at ho
    rw [partsB_cons]
    have hn := numB_len l[i].length
    have hlen := sumL_len l
    rw [w.zq2_31]; unfold y.zq2_31
    simp only [yy, if_pos (show (i : Int) < (l.length : Int) by omega), v_get hlt, v_lds, v.codeNum l[i].length (by omega), v_appS (show out.length + (numB l[i].length).length <= Lim by omega), v_appS (show (out ++ numB l[i].length).length + l[i].length <= Lim by simp; omega), next64 hlt (by omega)]
    refine (v.join31 l hl n (i + 1) _ (by omega) (by simp only [List.length_append]; omega)).trans ?_
    rw [List.append_assoc, List.append_assoc, List.append_assoc]
theorem v.join10 (l : List Bytes) (hl : sumL l <= 1000000000) : ∀ (n i m : Nat), i + n = l.length -> m + sumL (l.drop i) <= 2000000000 ->
    vl e 43 10 [strs l, I m, strs l, I l.length, I i] = some (.str (joinC l))
  | 0, i, m, hi, hm => by
    have hLim : Lim = 4294967296 := rfl
    have h8 := sumL_len l
    have hn := numB_len l.length
    have hk : evp (.mks 1) [.int .i64 0, .int .i64 (m : Int)] = some (bsl []) := by
      show (if (0 : Int) = 0 /\ 0 <= (m : Int) /\ (m : Int) <= Lim then some (⟨.sl false 1 [], true, none⟩ : Res) else none).map (·.v) = _
      rw [if_pos ⟨rfl, by omega, by omega⟩]; rfl
    rw [w.zq2_10]; unfold y.zq2_10
    simp only [yy, if_neg (show ¬((i : Int) < (l.length : Int)) by omega), hk, v.codeNum l.length (by omega), v_appS (l := []) (s := numB l.length) (by simp; omega)]
    refine (v.join31 l hl l.length 0 _ (by omega) (by rw [List.drop_zero]; simp; omega)).trans ?_
    simp [joinC]
  | n + 1, i, m, hi, hm => by
    have hlt : i < l.length := by omega
    rw [List.drop_eq_getElem_cons hlt] at hm
    rw [sumL_cons] at hm
    have h8 := sumL_len l
    have e1 : IntKind.i64.wrap (8 + (l[i].length : Int)) = ((8 + l[i].length : Nat) : Int) := by rw [w64 _ (by omega)]; omega
    have e2 : IntKind.i64.wrap ((m : Int) + ((8 + l[i].length : Nat) : Int)) = ((m + (8 + l[i].length) : Nat) : Int) := by rw [w64 _ (by omega)]; omega
    rw [w.zq2_10]; unfold y.zq2_10
    simp only [yy, if_pos (show (i : Int) < (l.length : Int) by omega), v_get hlt, v_lds, e1, e2, next64 hlt (by omega)]
    exact v.join10 l hl n (i + 1) _ (by omega) (by omega)
theorem v.codeJoin (l : List Bytes) (hl : sumL l <= 1000000000) : vl e 43 0 [strs l] = some (.str (joinC l)) := by
  rw [w.zq2]; unfold y.zq2
  simp only [yy]
  exact v.join10 l hl l.length 0 8 (by omega) (by rw [List.drop_zero]; omega)
theorem joinC_len (l : List Bytes) : (joinC l).length = 8 + sumL l := by simp [joinC, numB_len, partsB_len]
def nameD (p s : Bytes) : Bytes := digest (joinC [p, s])
theorem nameD_len (p s : Bytes) : (nameD p s).length = 32 := digest_len _
theorem v_bsl2 {x y : Bytes} : evp (.bsl 1) [.str x, .str y] = some (strs [x, y]) := rfl
theorem v_push2 {x y : Bytes} : evp (.app 1) [.sl false 1 [.str x], .sl false 1 [.str y]] = some (strs [x, y]) := by
  have := v_push (l := [x]) (x := y) (show 1 + 1 <= Lim by decide)
  exact this
theorem v.shaSum (p s : Bytes) (hp : p.length <= 100) (hs : s.length <= 100000000) : vl e 44 0 [.str p, .sl false 1 [.str s]] = some (bl (nameD p s)) := by
  have hl : sumL [p, s] = 16 + p.length + s.length := by simp [sumL]; omega
  have hj := joinC_len [p, s]
  rw [w.zq45]; unfold y.zq45
  simp only [yy, v_bsl1, v_push2, v.codeJoin [p, s] (by omega), v.shaOf (joinC [p, s]) (by omega), v_cat32 (digest_len (joinC [p, s]))]
  rfl
theorem flat_eq : ∀ {n : Nat} {x y : Bytes}, x.length = n -> y.length = n -> flatEq (List.replicate n (some .u8, true)) (x.map byteV) (y.map byteV) = some (decide (x = y))
  | 0, [], [], _, _ => rfl
  | n + 1, a :: x, b :: y, hx, hy => by
    have ih := flat_eq (n := n) (x := x) (y := y) (by simpa using hx) (by simpa using hy)
    show (kdEq (some .u8, true) (byteV a) (byteV b)).bind (fun c => (flatEq (List.replicate n (some .u8, true)) (x.map byteV) (y.map byteV)).map (c && ·)) = _
    rw [ih]
    show some (decide ((a.toNat : Int) = (b.toNat : Int)) && decide (x = y)) = _
    have : ((a.toNat : Int) = (b.toNat : Int)) <-> a = b := ⟨fun h => UInt8.toNat_inj.1 (by omega), fun h => by rw [h]⟩
    by_cases h1 : a = b
    . subst h1; simp
    . rw [decide_eq_false (fun h => h1 (this.1 h))]; simp [h1]
theorem v_feq {x y : Bytes} (hx : x.length = 32) (hy : y.length = 32) : evp (.bin .eql (.flat [(some .u8, true), (some .u8, true), (some .u8, true), (some .u8, true), (some .u8, true), (some .u8, true), (some .u8, true), (some .u8, true), (some .u8, true), (some .u8, true), (some .u8, true), (some .u8, true), (some .u8, true), (some .u8, true), (some .u8, true), (some .u8, true), (some .u8, true), (some .u8, true), (some .u8, true), (some .u8, true), (some .u8, true), (some .u8, true), (some .u8, true), (some .u8, true), (some .u8, true), (some .u8, true), (some .u8, true), (some .u8, true), (some .u8, true), (some .u8, true), (some .u8, true), (some .u8, true)])) [bl x, bl y] = some (.bool (decide (x = y))) := by
  show (flatEq (List.replicate 32 (some .u8, true)) (x.map byteV) (y.map byteV)).map V.bool = _
  rw [flat_eq hx hy]; rfl
end Go.Proofs.YtpmgdngjbdkdfaaDoor
namespace Go.Proofs.YtpmgdngjbdkdfaaDoor
open Go.Abs
set_option maxRecDepth 10000
variable {e : Ev}
abbrev MB := List (Bytes × Bytes)
def mkP (p : Bytes × Bytes) : V × V := (bl p.1, .str p.2)
abbrev mv (M : MB) : V := mpV (M.map mkP)
abbrev qK : KK := (true, repl 32 (some .u8, true))
def putM : MB -> Bytes -> Bytes -> MB
  | [], k, x => [(k, x)]
  | p :: r, k, x => if k = p.1 then (k, x) :: r else p :: putM r k x
def getM : MB -> Bytes -> Option Bytes
  | [], _ => none
  | p :: r, k => if k = p.1 then some p.2 else getM r k
def keyL (M : MB) : Prop := ∀ p ∈ M, p.1.length = 32
theorem unMp_mv (l : List (V × V)) : unMp (mpV l) = some l := by
  show unM (l.map fun p => .tup [p.1, p.2]) = some l
  induction l with
  | nil => rfl
  | cons p r ih => simp only [List.map_cons, unM, ih]; rfl
theorem keyEq_bl {x z : Bytes} (hx : x.length = 32) (hz : z.length = 32) : keyEq qK (bl x) (bl z) = some (decide (x = z)) := flat_eq (n := 32) hx hz
theorem mPut_eq {k x : Bytes} (hk : k.length = 32) : ∀ {M : MB}, keyL M -> mPut qK (bl k) (.str x) (M.map mkP) = some ((putM M k x).map mkP)
  | [], _ => rfl
  | p :: r, h => by
    have ih := mPut_eq (x := x) hk (M := r) fun q hq => h q (by simp [hq])
    simp only [List.map_cons, mPut, putM, mkP] at ih ⊢
    rw [keyEq_bl hk (h p (by simp)), Option.bind_some]
    by_cases he : k = p.1
    . rw [if_pos (decide_eq_true he), if_pos he]; rfl
    . rw [if_neg (by simpa using he), if_neg he, ih]; rfl
theorem mFind_eq {k : Bytes} (hk : k.length = 32) : ∀ {M : MB}, keyL M -> mFind qK (bl k) (M.map mkP) = some ((getM M k).map V.str)
  | [], _ => rfl
  | p :: r, h => by
    have ih := mFind_eq hk (M := r) fun q hq => h q (by simp [hq])
    simp only [List.map_cons, mFind, getM, mkP] at ih ⊢
    rw [keyEq_bl hk (h p (by simp)), Option.bind_some]
    by_cases he : k = p.1
    . rw [if_pos (decide_eq_true he), if_pos he]; rfl
    . rw [if_neg (by simpa using he), if_neg he, ih]
theorem v_mup {M : MB} {k x : Bytes} (hM : keyL M) (hk : k.length = 32) : evp (.mup qK) [mv M, bl k, .str x] = some (mv (putM M k x)) := by
  show vMupC qK (mv M) (bl k) (.str x) = _
  simp only [vMupC, unMp_mv, Option.bind_some]
  rw [keyEq_bl hk hk, if_pos (by simp), mPut_eq hk hM]; rfl
theorem v_mlk {M : MB} {k : Bytes} (hM : keyL M) (hk : k.length = 32) : evp (.mlk qK (.str []) true) [mv M, bl k] = some (.tup [.str ((getM M k).getD []), .bool (getM M k).isSome]) := by
  show vMlkC qK (.str []) true (mv M) (bl k) = _
  simp only [vMlkC, unMp_mv, Option.bind_some]
  rw [keyEq_bl hk hk, if_pos (by simp), mFind_eq hk hM]
  cases getM M k <;> rfl
theorem v_mln {M : MB} : evp .mln [mv M] = some (I M.length) := by
  show vMlnC (mv M) = _
  simp only [vMlnC, unMp_mv, Option.map_some, List.length_map]
def keysM (M : MB) : List Bytes := M.map (·.1)
theorem keysM_cons (p : Bytes × Bytes) (r : MB) : keysM (p :: r) = p.1 :: keysM r := rfl
theorem keys_putM (k x : Bytes) : ∀ M : MB, keysM (putM M k x) = if k ∈ keysM M then keysM M else keysM M ++ [k]
  | [] => rfl
  | p :: r => by
    have ih := keys_putM k x r
    by_cases h : k = p.1
    . rw [putM, if_pos h, if_pos (by rw [keysM_cons, h]; exact List.mem_cons_self), keysM_cons, keysM_cons, h]
    . rw [putM, if_neg h, keysM_cons, ih, keysM_cons]
      by_cases h2 : k ∈ keysM r
      . rw [if_pos h2, if_pos (List.mem_cons_of_mem _ h2)]
      . rw [if_neg h2, if_neg (fun hc => (List.mem_cons.1 hc).elim h h2)]; rfl
def putsM (ps : MB) (M : MB) : MB := ps.foldl (fun M p => putM M p.1 p.2) M
theorem keyL_putM {M : MB} {k x : Bytes} (hM : keyL M) (hk : k.length = 32) : keyL (putM M k x) := by
  intro p hp
  have : p.1 ∈ keysM (putM M k x) := List.mem_map_of_mem hp
  rw [keys_putM] at this
  split at this
  . obtain ⟨q, hq, he⟩ := List.mem_map.1 this
    rw [<- he]; exact hM q hq
  . rcases List.mem_append.1 this with h | h
    . obtain ⟨q, hq, he⟩ := List.mem_map.1 h
      rw [<- he]; exact hM q hq
    . rw [List.mem_singleton.1 h]; exact hk
theorem keyL_putsM : ∀ {ps M : MB}, keyL ps -> keyL M -> keyL (putsM ps M)
  | [], _, _, h => h
  | p :: r, _, hp, h => keyL_putsM (ps := r) (fun q hq => hp q (by simp [hq])) (keyL_putM h (hp p (by simp)))
theorem putsM_app (a b M : MB) : putsM (a ++ b) M = putsM b (putsM a M) := by simp [putsM, List.foldl_append]
abbrev z32 : V := .agg (repl 32 (.int .u8 0))
def blobK : Bytes := [98, 108, 111, 98]
def treeK : Bytes := [116, 114, 101, 101]
theorem v.PutBlob (d : Bytes) (hd : d.length <= 32768) (M1 : MB) (hM : keyL M1) (m2 m3 : V) : vl e 10576 1 [.str d, mv M1, m2, m3] = some (.tup [bl (nameD blobK d), I 0, mv (putM M1 (nameD blobK d) d), m2, m3]) := by
  have h1 : vl e 52 0 [.str d] = some (bl (nameD blobK d)) := by
    rw [w.zq10]; unfold y.zq10
    have := v.shaSum (e := e) blobK d (by decide) (by omega)
    simp only [yy, v_bsl1]
    rw [show V.str [98, 108, 111, 98] = .str blobK from rfl, this]
    simp only [Option.bind_some, v_cat32 (nameD_len _ _)]
  rw [w.zq29_h0]; unfold y.zq29_h0
  simp only [yy, if_neg (show ¬(32768 : Int) < (d.length : Int) by omega), h1, v_cat32 (nameD_len _ _), v_mup hM (nameD_len _ _)]
structure En where
  nm : Bytes
  tr : Bool
  id : Bytes
def ev (x : En) : V := .agg (.str x.nm :: .bool x.tr :: x.id.map byteV)
abbrev entV (l : List En) : V := .sl false 34 (l.map ev)
theorem v_getE {l : List En} {i : Nat} (h : i < l.length) : evp (.elem 34) [entV l, I i] = some (ev l[i]) := v_elem (by simp [h])
theorem v_lenE {l : List En} : evp (.len false) [entV l] = some (I l.length) := by rw [entV, v_len, List.length_map]
theorem ev_cells (x : En) : (ev x).cells = .str x.nm :: .bool x.tr :: x.id.map byteV := rfl
theorem ev_len {x : En} (h : x.id.length = 32) : (ev x).cells.length = 34 := by rw [ev_cells]; simp [h]
theorem ev_sc (x : En) : (ev x).cells.all V.sc = true := by
  rw [ev_cells, List.all_cons, List.all_cons, List.all_eq_true.2]
  . rfl
  . intro c hc; obtain ⟨b, _, rfl⟩ := List.mem_map.1 hc; rfl
theorem v_ldE {x : En} (h : x.id.length = 32) : evp (.ld (some 34) 0) [ev x] = some (ev x) := by
  show ldCells (some 34) (ev x).cells 0 = _
  simp only [ldCells]
  rw [if_pos (by rw [ev_len h]; omega), List.drop_zero, List.take_of_length_le (by rw [ev_len h]; omega)]; rfl
theorem v_catE {x : En} (h : x.id.length = 32) : evp (.cat [some 34]) [ev x] = some (ev x) := by
  show (catV [some 34] [ev x]).map V.agg = _
  simp only [catV]
  rw [if_pos ⟨ev_len h, ev_sc x⟩]
  simp only [Option.map_some, List.append_nil]; rfl
theorem v_ldN {x : En} : evp (.ld none 0) [ev x] = some (.str x.nm) := rfl
theorem v_ldT {x : En} : evp (.ld none 1) [ev x] = some (.bool x.tr) := rfl
theorem v_ldI {x : En} (h : x.id.length = 32) : evp (.b2so 2 32) [ev x] = some (.str x.id) := by
  show vB2so 2 32 (ev x) = _
  unfold vB2so
  rw [if_pos (by rw [ev_len h]; omega), ev_cells]
  show (toBytes ((x.id.map byteV).take 32)).map V.str = _
  rw [List.take_of_length_le (by simp [h]), toBytes_map]; rfl
structure EnOK (l : List En) : Prop where
  nm : ∀ x ∈ l, partB x.nm = true /\ x.nm.length <= 128
  id : ∀ x ∈ l, x.id.length = 32
  up : l.Pairwise fun a b => Op.bytesLess a.nm b.nm = true
  len : l.length <= 512
theorem good_part {s : Bytes} (h : partB s = true) (hl : s.length <= 128) : goodP s = true := by
  unfold goodP
  rw [splitOn_none (part_no h)]
  simp [hl, h]
theorem v.last (s : Bytes) (c : UInt8) (hs : s.length <= 1000000000) (hc : c ∉ s) : vl e 70 0 [.str s, byteV c] = some (I (-1)) := by
  have key : ∀ (n : Nat), n <= s.length -> vl e 79 8 [.str s, byteV c, I ((n : Int) - 1)] = some (I (-1)) := by
    intro n
    induction n with
    | zero =>
      intro _
      rw [w.zq6_8]; unfold y.zq6_8
      simp only [yy, if_neg (show ¬((0 : Int) <= ((0 : Nat) : Int) - 1) by omega)]
    | succ n ih =>
      intro hn
      have hlt : n < s.length := by omega
      have hne : ¬((s[n].toNat : Int) = (c.toNat : Int)) := fun h => hc (by rw [<- byte_eq.1 h]; exact List.getElem_mem hlt)
      have e0 : ((n + 1 : Nat) : Int) - 1 = (n : Int) := by omega
      have := ih (by omega)
      rw [w.zq6_8]; unfold y.zq6_8
      rw [e0]
      have e1 : IntKind.i64.wrap ((n : Int) - 1) = (n : Int) - 1 := w64 _ (by omega)
      simp only [yy, if_pos (show (0 : Int) <= (n : Int) by omega), v_idx (List.getElem?_eq_getElem hlt), byteV, if_neg hne, e1]
      exact this
  rw [w.zq62]; unfold y.zq62
  have h1 : vl e 79 0 [.str s, byteV c] = some (I (-1)) := by
    rw [w.zq6]; unfold y.zq6
    have e1 : IntKind.i64.wrap ((s.length : Int) - 1) = (s.length : Int) - 1 := w64 _ (by omega)
    simp only [yy, e1]
    exact key s.length (Nat.le_refl _)
  simp only [yy, h1]
theorem v.Dir1 (s : Bytes) (hs : s.length <= 1000000000) (hc : (47 : UInt8) ∉ s) : vl e 58 0 [.str s] = some (.str []) := by
  rw [w.zq17]; unfold y.zq17
  have h1 := v.last (e := e) s 47 hs hc
  have h2 : evp (.mnx true) [.int .i64 (-1), .int .i64 0] = some (.int .i64 0) := rfl
  have h3 : evp (.sls false true) [.str s, .int .i64 0] = some (.str []) := v_sls0 (h := 0) (Nat.zero_le _)
  rw [show V.int .u8 47 = byteV 47 from rfl]
  simp only [yy, h1, h2, h3]
theorem v.GoodTree8 (he : EnvT e) (l : List En) (h : EnOK l) : ∀ (n i : Nat), i + n = l.length -> vl e 42 8 [entV l, entV l, I l.length, I i] = some (.bool true) := by
  intro n
  induction n with
  | zero =>
    intro i hi
    have hlen := h.len
    rw [w.zq12_8]; unfold y.zq12_8
    simp only [yy, if_neg (show ¬((i : Int) < (l.length : Int)) by omega), v_lenE]
    rw [decide_eq_true (show (l.length : Int) <= 512 by omega)]
  | succ n ih =>
    intro i hi
    have hlen := h.len
    have hlt : i < l.length := by omega
    have hid := h.id _ (List.getElem_mem hlt)
    obtain ⟨hp, hpl⟩ := h.nm _ (List.getElem_mem hlt)
    have hg := v.Good he l[i].nm (by omega)
    rw [good_part hp hpl] at hg
    have hd := v.Dir1 (e := e) l[i].nm (by omega) (part_no hp)
    have hn : (!decide (([] : Bytes) = [])) = false := rfl
    have := ih (i + 1) (by omega)
    rw [w.zq12_8]; unfold y.zq12_8
    by_cases h0 : 0 < i
    . have hlt' : i - 1 < l.length := by omega
      have hup : Op.bytesLess l[i - 1].nm l[i].nm = true := List.pairwise_iff_getElem.1 h.up (i - 1) i hlt' hlt (by omega)
      have hge : evp (.bin .geq .no) [.str l[i - 1].nm, .str l[i].nm] = some (.bool false) := by
        show some (V.bool (!Op.bytesLess l[i - 1].nm l[i].nm)) = _
        rw [hup]; rfl
      simp only [yy, if_pos (show (i : Int) < (l.length : Int) by omega), v_getE hlt, v_ldE hid, v_catE hid, v_ldN, hg, hd, if_pos (show (0 : Int) < (i : Int) by omega), pre64 (show 1 <= i by omega) (by omega), v_getE hlt', hge, next64 hlt (by omega)]
      simpa using this
    . simp only [yy, if_pos (show (i : Int) < (l.length : Int) by omega), v_getE hlt, v_ldE hid, v_catE hid, v_ldN, hg, hd, if_neg (show ¬(0 : Int) < (i : Int) by omega), next64 hlt (by omega)]
      simpa using this
theorem v.GoodTree (he : EnvT e) (l : List En) (h : EnOK l) : vl e 42 0 [entV l] = some (.bool true) := by
  rw [w.zq12]; unfold y.zq12
  simp only [yy, v_lenE]
  exact v.GoodTree8 he l h l.length 0 (Nat.zero_add _)
def enP (x : En) : List Bytes := [if x.tr then treeK else blobK, x.nm, x.id]
def treeP (l : List En) : List Bytes := l.flatMap enP
theorem treeP_len (l : List En) : (treeP l).length = 3 * l.length := by
  unfold treeP
  induction l with
  | nil => rfl
  | cons x r ih => rw [List.flatMap_cons, List.length_append, ih]; simp only [enP, List.length_cons, List.length_nil]; omega
theorem sumL_app' (a b : List Bytes) : sumL (a ++ b) = sumL a + sumL b := by simp [sumL]
theorem treeP_sum {l : List En} (h1 : ∀ x ∈ l, x.nm.length <= 128) (h2 : ∀ x ∈ l, x.id.length = 32) : sumL (treeP l) <= 188 * l.length := by
  unfold treeP
  induction l with
  | nil => exact Nat.zero_le _
  | cons x r ih =>
    have := ih (fun a ha => h1 a (by simp [ha])) (fun a ha => h2 a (by simp [ha]))
    have a1 := h1 x (by simp)
    have a2 := h2 x (by simp)
    rw [List.flatMap_cons, sumL_app', enP, sumL_cons, sumL_cons, sumL_cons, a2]
    have : (if x.tr = true then treeK else blobK).length = 4 := by cases x.tr <;> rfl
    rw [this]
    simp only [List.length_cons, show sumL [] = 0 from rfl]
    omega
theorem v_push3 {a : List Bytes} {x u t : Bytes} (h : a.length + 3 <= Lim) : evp (.app 1) [strs a, .sl false 1 [.str x, .str u, .str t]] = some (strs (a ++ [x, u, t])) := by
  rw [strs, v_app (by simpa using h)]; simp
theorem v.PutTree18 (l : List En) (h : EnOK l) : ∀ (n i : Nat) , i + n = l.length -> vl e 26 18 [strs (treeP (l.take i)), entV l, I l.length, I i] = some (.tup [.str (joinC (treeP l)), I 0]) := by
  intro n
  induction n with
  | zero =>
    intro i hi
    have hlen := h.len
    have hs := treeP_sum (fun x hx => (h.nm x hx).2) h.id
    have hj := v.codeJoin (e := e) (treeP l) (by omega)
    rw [w.zq13_18]; unfold y.zq13_18
    rw [List.take_of_length_le (show l.length <= i by omega)]
    simp only [yy, if_neg (show ¬((i : Int) < (l.length : Int)) by omega), hj]
  | succ n ih =>
    intro i hi
    have hlen := h.len
    have hlt : i < l.length := by omega
    have hid := h.id _ (List.getElem_mem hlt)
    have hal : (treeP (l.take i)).length + 3 <= Lim := by rw [treeP_len, List.length_take]; unfold Lim; omega
    have hto : treeP (l.take (i + 1)) = treeP (l.take i) ++ enP l[i] := by
      rw [List.take_succ_eq_append_getElem hlt, treeP, List.flatMap_append]; simp [treeP]
    have := ih (i + 1) (by omega)
    rw [hto] at this
    have hb3 : ∀ a b c : Bytes, evp (.bsl 1) [.str a, .str b, .str c] = some (.sl false 1 [.str a, .str b, .str c]) := fun _ _ _ => rfl
    rw [w.zq13_18]; unfold y.zq13_18
    cases ht : l[i].tr with
    | false =>
      rw [enP, ht] at this
      simp only [yy, if_pos (show (i : Int) < (l.length : Int) by omega), v_getE hlt, v_ldE hid, v_catE hid, v_ldT, ht, v_ldN, v_ldI hid, hb3, v_push3 hal, next64 hlt (by omega)]
      exact this
    | true =>
      rw [enP, ht] at this
      simp only [yy, if_pos (show (i : Int) < (l.length : Int) by omega), v_getE hlt, v_ldE hid, v_catE hid, v_ldT, ht, v_ldN, v_ldI hid, hb3, v_push3 hal, next64 hlt (by omega)]
      exact this
def treeB (l : List En) : Bytes := joinC (treeP l)
theorem v.PutTree (he : EnvT e) (l : List En) (h : EnOK l) (m1 m3 : V) (M2 : MB) (hM : keyL M2) : vl e 10224 1 [entV l, m1, mv M2, m3] = some (.tup [bl (nameD treeK (treeB l)), I 0, m1, mv (putM M2 (nameD treeK (treeB l)) (treeB l)), m3]) := by
  have hlen := h.len
  have hs := treeP_sum (fun x hx => (h.nm x hx).2) h.id
  have h1 : vl e 26 0 [entV l] = some (.tup [.str (treeB l), I 0]) := by
    rw [w.zq13]; unfold y.zq13
    have := v.PutTree18 (e := e) l h l.length 0 (Nat.zero_add _)
    simp only [yy, v.GoodTree he l h, v_lenE]
    exact this
  have h2 : vl e 27 0 [.str (treeB l)] = some (bl (nameD treeK (treeB l))) := by
    rw [w.zq14]; unfold y.zq14
    have := v.shaSum (e := e) treeK (treeB l) (by decide) (by unfold treeB; rw [joinC_len]; omega)
    simp only [yy, v_bsl1]
    rw [show V.str [116, 114, 101, 101] = .str treeK from rfl, this]
    simp only [Option.bind_some, v_cat32 (nameD_len _ _)]
  rw [w.zq30_h0]; unfold y.zq30_h0
  simp only [yy, h1, h2, v_cat32 (nameD_len _ _), v_mup hM (nameD_len _ _)]
  simp
end Go.Proofs.YtpmgdngjbdkdfaaDoor
namespace Go.Proofs.YtpmgdngjbdkdfaaDoor
open Go.Abs
set_option maxRecDepth 10000
variable {e : Ev}
abbrev aggS (l : List Bytes) : V := .agg (l.map .str)
theorem v_lddS {l : List Bytes} {i : Nat} (h : i < l.length) : evp (.ldd none 0 1) [aggS l, I i] = some (.str l[i]) := by
  show (l.map V.str)[0 + (i : Int).toNat * 1]? = _
  simp [h]
theorem v_stdS {l : List Bytes} {i : Nat} {x : Bytes} (h : i < l.length) : evp (.std 1 0 1) [aggS l, I i, .str x] = some (aggS (l.set i x)) := by
  show vSet 1 (0 + (i : Int).toNat * 1) (aggS l) (.str x) = _
  unfold vSet
  rw [if_pos (by simp [V.cells, V.sc]; omega)]
  simp only [V.cells, Nat.zero_add, Int.toNat_natCast, Nat.mul_one, setAt, List.length_singleton]
  rw [List.set_eq_take_append_cons_drop, if_pos h]
  simp
theorem v_clrxS {l : List Bytes} {i : Nat} (h : i < l.length) : evp (.clrx (.str [])) [aggS l, I l.length, I i] = some (aggS (l.take i ++ List.replicate (l.length - i) [])) := by
  show (if 0 <= (i : Int) /\ (i : Int) < (l.length : Int) /\ (l.length : Int).toNat <= (aggS l).cells.length then some (V.agg (setAt (aggS l).cells (i : Int).toNat (List.replicate ((l.length : Int).toNat - (i : Int).toNat) (V.str [])))) else none) = _
  rw [if_pos ⟨by omega, by omega, by simp [V.cells]⟩]
  simp only [V.cells, Int.toNat_natCast, setAt, List.length_replicate]
  rw [List.drop_eq_nil_of_le (by simp; omega)]
  simp
theorem v_snapxS {l : List Bytes} {i : Nat} (h : i <= l.length) : evp .snapx [aggS l, I i] = some (strs (l.take i)) := by
  show (if 0 <= (i : Int) /\ (i : Int).toNat <= (aggS l).cells.length then some (V.sl false 1 ((aggS l).cells.take (i : Int).toNat)) else none) = _
  rw [if_pos ⟨by omega, by simp [V.cells]; omega⟩]
  simp [V.cells]
theorem v.CloneS (l : List Bytes) (hl : l.length <= 1000000) : vl e 10880 1 [strs l] = some (.tup [I l.length, aggS l]) := by
  rw [w.zq48_h0]; unfold y.zq48_h0
  have h1 : evp (.rapp 1) [.agg [], I (0 : Nat), strs l] = some (aggS l) := by
    show vRapp 1 (.agg []) (I (0 : Nat)) (strs l) = _
    have hf : fits 1 (l.map V.str) = true := by simp [fits, V.cells, V.sc]
    simp only [vRapp, vTail, Option.bind_some, vFlat, hf, if_true, true_or]
    rw [if_pos ⟨by omega, by omega, by simp, by simp [Lim]; omega⟩]
    have hfl : ∀ l : List Bytes, (l.map V.str).flatMap V.cells = l.map V.str := fun l => by
      induction l with
      | nil => rfl
      | cons x r ih => simp only [List.map_cons, List.flatMap_cons, ih]; rfl
    simp only [V.cells, Int.toNat_natCast, Nat.zero_mul, List.take_zero, List.nil_append, hfl]
  have h2 : evp (.rlen 1) [I (0 : Nat), strs l] = some (I l.length) := by
    show vRlen 1 (I (0 : Nat)) (strs l) = _
    simp [vRlen, vTail]
  have h1' : evp (.rapp 1) [.agg [], .int .i64 0, strs l] = some (aggS l) := h1
  have h2' : evp (.rlen 1) [.int .i64 0, strs l] = some (I l.length) := h2
  simp only [yy, h1', h2']
  cases l with
  | nil =>
    have : vamb (V.sl false 1 []) (some (V.tup [.int .i64 0, .agg []])) (some (V.tup [.int .i64 0, .agg []])) = some (V.tup [.int .i64 0, .agg []]) := by
      unfold vamb
      exact if_pos rfl
    exact this
  | cons x r => rfl
end Go.Proofs.YtpmgdngjbdkdfaaDoor
namespace Go.Proofs.YtpmgdngjbdkdfaaDoor
open Go.Abs
set_option maxRecDepth 10000
variable {e : Ev}
theorem v.isE (x : Bytes) : vApply (vl e) (.fn 56 []) [.str x] = some (.bool (decide (x = []))) := by
  show vl e 56 0 ([.str x] ++ []) = _
  rw [List.append_nil, w.zq21]; unfold y.zq21
  simp only [yy, ]
theorem v.Join2 (he : EnvT e) (d n : Bytes) (hn : n ≠ []) (hd : d.length <= 1000000) (hn2 : n.length <= 1000000) : vl e 37 0 [strs [d, n]] = some (.str (if d = [] then n else d ++ 47 :: n)) := by
  have hcl := v.CloneS (e := e) [d, n] (by simp)
  simp only [List.length_cons, List.length_nil, Nat.zero_add] at hcl
  have c0 : evp .chkd [I (2 : Nat), I (0 : Nat)] = some (I (0 : Nat)) := v_chkdN (by omega)
  have c1 : evp .chkd [I (2 : Nat), I (1 : Nat)] = some (I (1 : Nat)) := v_chkdN (by omega)
  have l0 : evp (.ldd none 0 1) [aggS [d, n], I (0 : Nat)] = some (.str d) := v_lddS (l := [d, n]) (i := 0) (by simp)
  have l1 : evp (.ldd none 0 1) [aggS [d, n], I (1 : Nat)] = some (.str n) := v_lddS (l := [d, n]) (i := 1) (by simp)
  rw [w.zq20]; unfold y.zq20
  by_cases h : d = []
  . subst h
    rw [if_pos rfl]
    -- the first is found
    have hi : vl e 10784 1 [I (2 : Nat), .fn 56 [], aggS [[], n]] = some (.tup [I (0 : Nat), aggS [[], n]]) := by
      rw [w.zq52_h0]; unfold y.zq52_h0
      rw [w.zq52_h0_8]; unfold y.zq52_h0_8
      have hp := v.isE (e := e) []
      simp only [yy, if_pos (show (0 : Int) < ((2 : Nat) : Int) by omega)]
      rw [show (V.int .i64 0) = I (0 : Nat) from rfl, c0, Option.bind_some, l0, Option.bind_some, cv, hp]
      rfl
    have hdel : vl e 10864 1 [I (2 : Nat), .fn 56 [], aggS [[], n]] = some (.tup [I (1 : Nat), aggS [n, []]]) := by
      rw [w.zq51_h0]; unfold y.zq51_h0
      simp only [yy, hi, if_neg (show ¬((0 : Nat) : Int) = -1 by omega), next64 (show 0 < 1 by omega) (by omega)]
      have hp := v.isE (e := e) n
      rw [decide_eq_false hn] at hp
      have hst : evp (.std 1 0 1) [aggS [[], n], I (0 : Nat), .str n] = some (aggS [n, n]) := v_stdS (l := [[], n]) (i := 0) (by simp)
      have hcx : evp (.clrx (.str [])) [aggS [n, n], I (2 : Nat), I (1 : Nat)] = some (aggS [n, []]) := v_clrxS (l := [n, n]) (i := 1) (by simp)
      have hck : evp .chkl [I (2 : Nat), I (1 : Nat)] = some (I (1 : Nat)) := v_chklN (by omega)
      rw [w.zq51_h0_18]; unfold y.zq51_h0_18
      simp only [yy, if_pos (show ((1 : Nat) : Int) < ((2 : Nat) : Int) by omega), c1, l1, cv, hp, c0, hst, next64 (show 0 < 1 by omega) (by omega), next64 (show 1 < 2 by omega) (by omega)]
      rw [w.zq51_h0_18]; unfold y.zq51_h0_18
      simp only [yy, if_neg (show ¬((2 : Nat) : Int) < ((2 : Nat) : Int) by omega), c1, hcx, hck]
    have hsn : evp .snapx [aggS [n, []], I (1 : Nat)] = some (strs [n]) := v_snapxS (l := [n, []]) (i := 1) (by simp)
    have hj := v.join he [n] [47] (by simp) (by simp [joinS]; omega)
    have hfl : evp .flr [.str n] = some (.str n) := rfl
    simp only [yy, hcl, hdel, hsn, hj]
    simp only [joinS, hfl, Option.bind_some]
  . rw [if_neg h]
    have hi : vl e 10784 1 [I (2 : Nat), .fn 56 [], aggS [d, n]] = some (.tup [I (-1), aggS [d, n]]) := by
      have hp := v.isE (e := e) d
      have hq := v.isE (e := e) n
      rw [decide_eq_false h] at hp
      rw [decide_eq_false hn] at hq
      rw [w.zq52_h0]; unfold y.zq52_h0
      rw [w.zq52_h0_8]; unfold y.zq52_h0_8
      rw [show (V.int .i64 0) = I (0 : Nat) from rfl]
      simp only [yy, if_pos (show ((0 : Nat) : Int) < ((2 : Nat) : Int) by omega), c0, l0, cv, hp, next64 (show 0 < 1 by omega) (by omega)]
      rw [w.zq52_h0_8]; unfold y.zq52_h0_8
      simp only [yy, if_pos (show ((0 + 1 : Nat) : Int) < ((2 : Nat) : Int) by omega), c1, l1, cv, hq, next64 (show 1 < 2 by omega) (by omega)]
      rw [w.zq52_h0_8]; unfold y.zq52_h0_8
      simp only [yy, if_neg (show ¬((0 + 1 + 1 : Nat) : Int) < ((2 : Nat) : Int) by omega)]
    have hdel : vl e 10864 1 [I (2 : Nat), .fn 56 [], aggS [d, n]] = some (.tup [I (2 : Nat), aggS [d, n]]) := by
      rw [w.zq51_h0]; unfold y.zq51_h0
      simp only [yy, hi]
      simp
    have hsn : evp .snapx [aggS [d, n], I (2 : Nat)] = some (strs [d, n]) := v_snapxS (l := [d, n]) (i := 2) (by simp)
    have hj := v.join he [d, n] [47] (by simp) (by simp [joinS]; omega)
    have hfl : ∀ x : Bytes, evp .flr [.str x] = some (.str x) := fun _ => rfl
    simp only [yy, hcl, hdel, hsn, hj]
    simp only [hfl, Option.bind_some]
    simp [joinS]
end Go.Proofs.YtpmgdngjbdkdfaaDoor
namespace Go.Proofs.YtpmgdngjbdkdfaaDoor
open Go.Abs
set_option maxRecDepth 10000
variable {e : Ev}
def pS (S : List Fi) (i : Nat) : List Bytes := splitOn 47 (S.getD i ([], [])).1
structure SoOK (S : List Fi) : Prop where
  good : ∀ f ∈ S, goodP f.1 = true
  data : ∀ f ∈ S, f.2.length <= 32768
  len : S.length <= 512
  up : ∀ i j, i < j -> j < S.length -> cmpL (pS S i) (pS S j) < 0
  free : ∀ i j, i < S.length -> j < S.length -> i ≠ j -> ∀ R, pS S i ≠ pS S j ++ R
theorem cmpL_pre (A B : List Bytes) : ∀ D : List Bytes, cmpL (D ++ A) (D ++ B) = cmpL A B
  | [] => rfl
  | x :: D => by rw [List.cons_append, List.cons_append, cmpL, if_pos (cmpB_zero.2 rfl), cmpL_pre A B D]
theorem cmpL_head {x z : Bytes} {A B : List Bytes} (h : cmpL (x :: A) (z :: B) < 0) : x = z \/ Op.bytesLess x z = true := by
  rw [cmpL] at h
  by_cases h0 : cmpB x z = 0
  . exact .inl (cmpB_zero.1 h0)
  . rw [if_neg h0] at h; exact .inr (cmpB_neg.1 h)
theorem run_ex (p : Nat -> Prop) : ∀ n : Nat, ∃ k, k <= n /\ (∀ i, i < k -> p i) /\ (k < n -> ¬ p k)
  | 0 => ⟨0, Nat.le_refl _, fun i h => by omega, fun h => by omega⟩
  | n + 1 => by
    obtain ⟨k, h1, h2, h3⟩ := run_ex p n
    by_cases hk : k < n
    . exact ⟨k, by omega, h2, fun _ => h3 hk⟩
    . by_cases hp : p k
      . refine ⟨k + 1, by omega, fun i hi => ?_, fun h => by omega⟩
        rcases Nat.lt_or_eq_of_le (Nat.le_of_lt_succ hi) with h | rfl
        . exact h2 i h
        . exact hp
      . exact ⟨k, by omega, h2, fun _ => hp⟩
inductive Tr (S : List Fi) : List Bytes -> Nat -> Nat -> List En -> Bytes -> MB -> MB -> Prop
  | done {D : List Bytes} {a : Nat} {ls : List En} : Tr S D a a ls (nameD treeK (treeB ls)) [] [(nameD treeK (treeB ls), treeB ls)]
  | blob {D : List Bytes} {a b : Nat} {ls : List En} {x id : Bytes} {p1 p2 : MB} (hab : a < b) (hx : pS S a = D ++ [x]) (h : Tr S D (a + 1) b (ls ++ [⟨x, false, nameD blobK (S.getD a ([], [])).2⟩]) id p1 p2) :
      Tr S D a b ls id ((nameD blobK (S.getD a ([], [])).2, (S.getD a ([], [])).2) :: p1) p2
  | dir {D : List Bytes} {a b k : Nat} {ls : List En} {x id id1 : Bytes} {p1 p2 q1 q2 : MB} (hk : 0 < k) (hkb : a + k <= b) (hrun : ∀ i, a <= i -> i < a + k -> ∃ R, R ≠ [] /\ pS S i = D ++ x :: R) (hstop : a + k < b -> ¬ ∃ R, R ≠ [] /\ pS S (a + k) = D ++ x :: R)
      (h1 : Tr S (D ++ [x]) a (a + k) [] id1 p1 p2) (h2 : Tr S D (a + k) b (ls ++ [⟨x, true, id1⟩]) id q1 q2) : Tr S D a b ls id (p1 ++ q1) (p2 ++ q2)
theorem v_vlenN {a b : Nat} (h : a <= b) : evp .vlen [I a, I b] = some (I (b - a : Nat)) := by
  show (if 0 <= (a : Int) /\ (a : Int) <= (b : Int) then some (V.int .i64 ((b : Int) - (a : Int))) else none) = _
  rw [if_pos (by omega), <- Int.ofNat_sub h]
theorem v_vaddN {a b l : Nat} (h : a + l <= b) : evp .vadd [I a, I b, I l] = some (I (a + l : Nat)) := by
  show (if 0 <= (a : Int) /\ 0 <= (l : Int) /\ (a : Int) + (l : Int) <= (b : Int) then some (V.int .i64 ((a : Int) + (l : Int))) else none) = _
  rw [if_pos (by omega), Int.natCast_add]
theorem v_vidxN {a b l : Nat} (h : a + l < b) : evp .vidx [I a, I b, I l] = some (I (a + l : Nat)) := by
  show (if 0 <= (a : Int) /\ 0 <= (l : Int) /\ (a : Int) + (l : Int) < (b : Int) then some (V.int .i64 ((a : Int) + (l : Int))) else none) = _
  rw [if_pos (by omega), Int.natCast_add]
theorem id_all (id : Bytes) : (id.map byteV).all V.sc = true := by
  rw [List.all_eq_true]; intro c hc; obtain ⟨b, _, rfl⟩ := List.mem_map.1 hc; rfl
theorem id_ok {id : Bytes} (h : id.length = 32) : (bl id).cells.length = 32 /\ (bl id).cells.all V.sc = true := ⟨by simp [V.cells, h], id_all id⟩
theorem v_catN {nm id : Bytes} {t : Bool} (h : id.length = 32) : evp (.cat [none, none, some 32]) [.str nm, .bool t, bl id] = some (ev ⟨nm, t, id⟩) := by
  show (catV [none, none, some 32] [.str nm, .bool t, bl id]).map V.agg = _
  simp only [catV]
  rw [if_pos (show (V.str nm).sc = true from rfl), if_pos (show (V.bool t).sc = true from rfl), if_pos (id_ok h)]
  simp only [Option.map_some, List.append_nil]; rfl
theorem v_catU {nm id : Bytes} (h : id.length = 32) : evp (.cat [none, some 32]) [.str nm, bl id] = some (.agg (.str nm :: id.map byteV)) := by
  show (catV [none, some 32] [.str nm, bl id]).map V.agg = _
  simp only [catV]
  rw [if_pos (show (V.str nm).sc = true from rfl), if_pos (id_ok h)]
  simp only [Option.map_some, List.append_nil]; rfl
theorem v_bslE {x : En} (h : x.id.length = 32) : evp (.bsl 34) [ev x] = some (.sl false 34 [ev x]) := by
  have : fits 34 [ev x] = true := by simp [fits, ev_len h]; exact List.all_eq_true.1 (ev_sc x)
  show (if fits 34 [ev x] then some (V.sl false 34 [ev x]) else none) = _
  rw [this]; rfl
theorem v_appE {l : List En} {x : En} (h : l.length + 1 <= Lim) : evp (.app 34) [entV l, .sl false 34 [ev x]] = some (entV (l ++ [x])) := by
  rw [entV, v_app (by simpa using h)]; simp
theorem join_snoc {D : List Bytes} {x : Bytes} (hD : ∀ u ∈ D, partB u = true) : (if joinOn 47 D = [] then x else joinOn 47 D ++ 47 :: x) = joinOn 47 (D ++ [x]) := by
  by_cases h : D = []
  . subst h; rfl
  . rw [if_neg (joinOn_ne h hD), joinOn_app 47 D [x] h (by simp)]; rfl
section
variable (he : EnvT e) (S : List Fi) (hS : SoOK S)
include he hS
omit he in
theorem pS_parts {i : Nat} (h : i < S.length) : ∀ x ∈ pS S i, partB x = true := by
  unfold pS; rw [getD_F h]; exact good_parts (hS.good _ (List.getElem_mem h))
omit he hS in
theorem v_pathS {i : Nat} (h : i < S.length) : evp (.ldd none 0 2) [aggF S, I i] = some (.str (S.getD i ([], [])).1) := by rw [v_lddP h, getD_F h]
omit he in
theorem pathS_len {i : Nat} (h : i < S.length) : (S.getD i ([], [])).1.length <= 128 := by rw [getD_F h]; exact good_len (hS.good _ (List.getElem_mem h))
omit he in
theorem v.below44 (D : List Bytes) (hD : ∀ u ∈ D, partB u = true) (x : Bytes) (hx : partB x = true) (hxl : x.length <= 128) (hjl : (joinOn 47 (D ++ [x])).length <= 1000) (a b k : Nat) (hab : a + k <= b) (hb : b <= S.length) (hrun : ∀ i, a <= i -> i < a + k -> ∃ R, R ≠ [] /\ pS S i = D ++ x :: R) (hstop : a + k < b -> ¬ ∃ R, R ≠ [] /\ pS S (a + k) = D ++ x :: R)
    (ls : List En) (hls : ls.length <= 512) (id1 : Bytes) (hid : id1.length = 32) (m1 m2 m3 n1 n2 n3 z : V)
    (hrec : vl e 10336 1 [.str (joinOn 47 (D ++ [x])), I a, I (a + k : Nat), aggF S, m1, m2, m3] = some (.tup [bl id1, I 0, aggF S, n1, n2, n3])) : ∀ (n j : Nat), j + n = k ->
    vl e 10336 44 [.str (joinOn 47 D), I a, I b, entV ls, .str x, .str (joinOn 47 (D ++ [x])), I j, aggF S, m1, m2, m3, z] = vl e 10336 8 [.str (joinOn 47 D), I (a + k : Nat), I b, entV (ls ++ [⟨x, true, id1⟩]), aggF S, n1, n2, n3, z] := by
  have hlen := hS.len
  have hD' : ∀ u ∈ D ++ [x], partB u = true := fun u hu => (List.mem_append.1 hu).elim (hD u) (fun h => by rw [List.mem_singleton.1 h]; exact hx)
  have hLim : ls.length + 1 <= Lim := by unfold Lim; omega
  intro n
  induction n with
  | zero =>
    intro j hj
    have hjk : j = k := by omega
    subst hjk
    rw [w.zq33_h0_44]; unfold y.zq33_h0_44
    by_cases hc : a + j < b
    . have hi : a + j < S.length := by omega
      obtain ⟨u, hu, _⟩ := v.Under (e := e) (joinOn 47 (D ++ [x])) (S.getD (a + j) ([], [])).1 (by omega) (by have := pathS_len S hS hi; omega)
      have hno : (underB (joinOn 47 (D ++ [x])) (S.getD (a + j) ([], [])).1).isSome = false := by
        cases h : underB (joinOn 47 (D ++ [x])) (S.getD (a + j) ([], [])).1 with
        | none => rfl
        | some r =>
          obtain ⟨R, hR, hs⟩ := under_some hD' h
          exact absurd ⟨R, hR, by rw [pS, hs]; simp⟩ (hstop hc)
      rw [hno] at hu
      simp only [yy, v_vlenN (show a <= b by omega), if_pos (show (j : Int) < ((b - a : Nat) : Int) by omega), v_vidxN hc, v_pathS S hi, hu, v_vaddN (show a + j <= b by omega), hrec, v_cat32 hid, v_catN hid, v_bslE (x := ⟨x, true, id1⟩) hid, v_appE hLim]
      simp
    . simp only [yy, v_vlenN (show a <= b by omega), if_neg (show ¬(j : Int) < ((b - a : Nat) : Int) by omega), v_vaddN (show a + j <= b by omega), hrec, v_cat32 hid, v_catN hid, v_bslE (x := ⟨x, true, id1⟩) hid, v_appE hLim]
      simp
  | succ n ih =>
    intro j hj
    have hi : a + j < S.length := by omega
    obtain ⟨R, hR, hs⟩ := hrun (a + j) (by omega) (by omega)
    obtain ⟨u, hu, _⟩ := v.Under (e := e) (joinOn 47 (D ++ [x])) (S.getD (a + j) ([], [])).1 (by omega) (by have := pathS_len S hS hi; omega)
    have hpp := pS_parts S hS hi
    rw [hs] at hpp
    have hyes := under_D (p := (S.getD (a + j) ([], [])).1) hD' (R := R) (fun c hc => hpp c (by simp [hc])) hR (by rw [<- pS, hs]; simp)
    rw [hyes] at hu
    have := ih (j + 1) (by omega)
    rw [w.zq33_h0_44]; unfold y.zq33_h0_44
    simp only [yy, v_vlenN (show a <= b by omega), if_pos (show (j : Int) < ((b - a : Nat) : Int) by omega), v_vidxN (show a + j < b by omega), v_pathS S hi, hu, Option.isSome_some, next64 (show j < j + 1 by omega) (by omega)]
    exact this
theorem v.below8 : ∀ (q : Nat) (D : List Bytes) (a b : Nat) (ls : List En), (16 - D.length) * 513 + (b - a) <= q -> a <= b -> b <= S.length -> (∀ u ∈ D, partB u = true) -> (joinOn 47 D).length <= 128 -> (∀ i, a <= i -> i < b -> ∃ R, R ≠ [] /\ pS S i = D ++ R) -> EnOK ls -> ls.length + (b - a) <= 512 -> (∀ en ∈ ls, ∀ i, a <= i -> i < b -> ∀ x R, pS S i = D ++ x :: R -> Op.bytesLess en.nm x = true) ->
    ∃ (id : Bytes) (p1 p2 : MB), Tr S D a b ls id p1 p2 /\ id.length = 32 /\ keyL p1 /\ keyL p2 /\ ∀ (M1 M2 : MB) (m3 z : V), keyL M1 -> keyL M2 ->
      vl e 10336 8 [.str (joinOn 47 D), I a, I b, entV ls, aggF S, mv M1, mv M2, m3, z] = some (.tup [bl id, I 0, aggF S, mv (putsM p1 M1), mv (putsM p2 M2), m3]) := by
  have hlen := hS.len
  intro q
  induction q with
  | zero =>
    intro D a b ls hq hab hb hD hjl hin hls hll hlt
    have hab' : a = b := by omega
    subst hab'
    refine ⟨_, _, _, .done, nameD_len _ _, (fun p hp => by cases hp), (fun p hp => by rw [List.mem_singleton.1 hp]; exact nameD_len _ _), fun M1 M2 m3 z h1 h2 => ?_⟩
    rw [w.zq33_h0_8]; unfold y.zq33_h0_8
    simp only [yy, v_vlenN (Nat.le_refl a), if_neg (show ¬(0 : Int) < ((a - a : Nat) : Int) by omega), v.PutTree he ls hls (mv M1) m3 M2 h2, v_cat32 (nameD_len _ _)]
    rfl
  | succ q ih =>
    intro D a b ls hq hab hb hD hjl hin hls hll hlt
    rcases Nat.lt_or_eq_of_le hab with hlt' | rfl
    rotate_left
    . refine ⟨_, _, _, .done, nameD_len _ _, (fun p hp => by cases hp), (fun p hp => by rw [List.mem_singleton.1 hp]; exact nameD_len _ _), fun M1 M2 m3 z h1 h2 => ?_⟩
      rw [w.zq33_h0_8]; unfold y.zq33_h0_8
      simp only [yy, v_vlenN (Nat.le_refl a), if_neg (show ¬(0 : Int) < ((a - a : Nat) : Int) by omega), v.PutTree he ls hls (mv M1) m3 M2 h2, v_cat32 (nameD_len _ _)]
      rfl
    have ha : a < S.length := by omega
    obtain ⟨R0, hR0, hs0⟩ := hin a (Nat.le_refl _) hlt'
    obtain ⟨x, R, rfl⟩ : ∃ x R, R0 = x :: R := by cases R0 with
      | nil => exact absurd rfl hR0
      | cons x R => exact ⟨x, R, rfl⟩
    have hpa := pS_parts S hS ha
    rw [hs0] at hpa
    have hx : partB x = true := hpa x (by simp)
    have hR : ∀ u ∈ R, partB u = true := fun u hu => hpa u (by simp [hu])
    have hxR : ∀ u ∈ x :: R, partB u = true := fun u hu => hpa u (by simp only [List.mem_append]; exact .inr hu)
    have hpl := pathS_len S hS ha
    have hgood : goodP (S.getD a ([], [])).1 = true := by rw [getD_F ha]; exact hS.good _ (List.getElem_mem ha)
    have h16 : (pS S a).length <= 16 := by
      have := hgood
      simp only [goodP, Bool.and_eq_true, decide_eq_true_eq] at this
      exact this.1.2
    have hD16 : D.length < 16 := by rw [hs0] at h16; simp at h16; omega
    have hxl : x.length <= 128 := by
      have := splitOn_mem_length 47 (show x ∈ splitOn 47 (S.getD a ([], [])).1 by rw [<- pS, hs0]; simp)
      omega
    -- what stands behind the directory
    have hund := under_D (p := (S.getD a ([], [])).1) hD hxR (by simp) (by rw [<- pS]; exact hs0)
    obtain ⟨r, hr, hr2⟩ := v.Under (e := e) (joinOn 47 D) (S.getD a ([], [])).1 (by omega) (by omega)
    have hr3 := hr2 _ hund
    subst hr3
    rw [hund, Option.isSome_some] at hr
    have hrl := under_len hund
    have hsp := v.pSplit he (joinOn 47 (x :: R)) (by omega)
    have hps : psplit (joinOn 47 (x :: R)) = x :: R := by
      unfold psplit
      rw [if_neg (joinOn_ne (by simp) hxR), split_join (by simp) hxR]
    rw [hps] at hsp
    have hnew : ∀ (t : Bool) (id : Bytes), id.length = 32 -> EnOK (ls ++ [⟨x, t, id⟩]) := fun t id hid => {
      nm := fun en hen => (List.mem_append.1 hen).elim (hls.nm en) (fun h => by rw [List.mem_singleton.1 h]; exact ⟨hx, hxl⟩)
      id := fun en hen => (List.mem_append.1 hen).elim (hls.id en) (fun h => by rw [List.mem_singleton.1 h]; exact hid)
      up := List.pairwise_append.2 ⟨hls.up, List.pairwise_singleton _ _, fun u hu t ht => by rw [List.mem_singleton.1 ht]; exact hlt u hu a (Nat.le_refl _) hlt' x R hs0⟩
      len := by simp; omega }
    by_cases hRn : R = []
    . -- a file
      subst hRn
      have hd : (S.getD a ([], [])).2.length <= 32768 := by rw [getD_F ha]; exact hS.data _ (List.getElem_mem ha)
      obtain ⟨id, p1, p2, t1, t2, t3, t4, t5⟩ := ih D (a + 1) b (ls ++ [⟨x, false, nameD blobK (S.getD a ([], [])).2⟩]) (by omega) (by omega) hb hD hjl (fun i h1 h2 => hin i (by omega) h2) (hnew _ _ (nameD_len _ _)) (by simp; omega) (fun en hen i h1 h2 x' R' hs' => by
        have hup := hS.up a i (by omega) (by omega)
        rw [hs0, hs', cmpL_pre] at hup
        have hxx : Op.bytesLess x x' = true := by
          rcases cmpL_head hup with rfl | h
          . exact absurd (by rw [hs', hs0]; simp) (hS.free i a (by omega) ha (by omega) R')
          . exact h
        rcases List.mem_append.1 hen with h | h
        . exact hlt en h i (by omega) h2 x' R' hs'
        . rw [List.mem_singleton.1 h]; exact hxx)
      refine ⟨id, _, _, .blob hlt' hs0 t1, t2, fun p hp => (List.mem_cons.1 hp).elim (fun h => by rw [h]; exact nameD_len _ _) (t3 p), t4, fun M1 M2 m3 z h1 h2 => ?_⟩
      have hpb := v.PutBlob (e := e) (S.getD a ([], [])).2 hd M1 h1 (mv M2) m3
      have hdd : evp (.ldd none 1 2) [aggF S, I a] = some (.str (S.getD a ([], [])).2) := by rw [v_lddD ha, getD_F ha]
      have hi0 : evp .vidx [I a, I b, .int .i64 0] = some (I a) := v_vidxN (l := 0) (by omega)
      have ha1 : evp .vadd [I a, I b, .int .i64 1] = some (I (a + 1 : Nat)) := v_vaddN (l := 1) (by omega)
      rw [w.zq33_h0_8]; unfold y.zq33_h0_8
      have hjx : joinOn 47 [x] = x := rfl
      rw [hjx] at hr hsp
      simp only [yy, v_vlenN hab, if_pos (show (0 : Int) < ((b - a : Nat) : Int) by omega), hi0, v_pathS S ha, hr, hsp, v_get0, v_lds, hdd, hpb, v_cat32 (nameD_len _ _), v_catU (nameD_len _ _), v_catN (nameD_len _ _), v_bslE (x := ⟨x, false, nameD blobK (S.getD a ([], [])).2⟩) (nameD_len _ _), v_appE (show ls.length + 1 <= Lim by unfold Lim; omega), ha1]
      simp only [if_true]
      exact t5 (putM M1 _ _) M2 m3 z (keyL_putM h1 (nameD_len _ _)) h2
    . -- a directory
      obtain ⟨k, hk1, hk2, hk3⟩ := run_ex (fun t => ∃ R, R ≠ [] /\ pS S (a + t) = D ++ x :: R) (b - a)
      have hk0 : 0 < k := by
        refine Nat.pos_of_ne_zero fun h => ?_
        subst h
        exact hk3 (by omega) ⟨R, hRn, hs0⟩
      have hrun : ∀ i, a <= i -> i < a + k -> ∃ R, R ≠ [] /\ pS S i = D ++ x :: R := fun i h1 h2 => by
        have := hk2 (i - a) (by omega)
        rwa [show a + (i - a) = i by omega] at this
      have hstop : a + k < b -> ¬ ∃ R, R ≠ [] /\ pS S (a + k) = D ++ x :: R := fun h => hk3 (by omega)
      have hD' : ∀ u ∈ D ++ [x], partB u = true := fun u hu => (List.mem_append.1 hu).elim (hD u) (fun h => by rw [List.mem_singleton.1 h]; exact hx)
      have hjl' : (joinOn 47 (D ++ [x])).length <= 128 := by
        have hj := join_splitOn 47 (S.getD a ([], [])).1
        rw [<- pS, hs0, show D ++ x :: R = (D ++ [x]) ++ R by simp, joinOn_app 47 (D ++ [x]) R (by simp) hRn] at hj
        have := congrArg List.length hj
        simp only [List.length_append, List.length_cons] at this
        omega
      obtain ⟨id1, p1, p2, s1, s2, s3, s4, s5⟩ := ih (D ++ [x]) a (a + k) [] (by simp only [List.length_append, List.length_cons, List.length_nil]; omega) (by omega) (by omega) hD' hjl' (fun i h1 h2 => by
        obtain ⟨R', hR', hs'⟩ := hrun i h1 h2
        exact ⟨R', hR', by rw [hs']; simp⟩) { nm := (fun _ h => by cases h), id := (fun _ h => by cases h), up := .nil, len := by simp } (by simp; omega) (fun en hen => by cases hen)
      obtain ⟨id, q1, q2, t1, t2, t3, t4, t5⟩ := ih D (a + k) b (ls ++ [⟨x, true, id1⟩]) (by omega) (by omega) hb hD hjl (fun i h1 h2 => hin i (by omega) h2) (hnew _ _ s2) (by simp; omega) (fun en hen i h1 h2 x' R' hs' => by
        -- the first behind the directory
        obtain ⟨R2, hR2, hs2⟩ := hin (a + k) (by omega) (by omega)
        obtain ⟨x2, R3, rfl⟩ : ∃ x2 R3, R2 = x2 :: R3 := by cases R2 with
          | nil => exact absurd rfl hR2
          | cons x R => exact ⟨x, R, rfl⟩
        have hup := hS.up a (a + k) (by omega) (by omega)
        rw [hs0, hs2, cmpL_pre] at hup
        have hxx2 : Op.bytesLess x x2 = true := by
          rcases cmpL_head hup with rfl | h
          . by_cases hR3 : R3 = []
            . subst hR3
              exact absurd (show pS S a = pS S (a + k) ++ R by rw [hs0, hs2]; simp) (hS.free a (a + k) ha (by omega) (by omega) R)
            . exact absurd ⟨R3, hR3, hs2⟩ (hstop (by omega))
          . exact h
        have hxx : Op.bytesLess x x' = true := by
          rcases Nat.lt_or_eq_of_le h1 with h | rfl
          . have hup2 := hS.up (a + k) i h (by omega)
            rw [hs2, hs', cmpL_pre] at hup2
            rcases cmpL_head hup2 with rfl | h
            . exact hxx2
            . exact less_trans hxx2 h
          . rw [hs2] at hs'
            have := List.append_cancel_left hs'
            simp only [List.cons.injEq] at this
            rw [<- this.1]; exact hxx2
        rcases List.mem_append.1 hen with h | h
        . exact hlt en h i (by omega) h2 x' R' hs'
        . rw [List.mem_singleton.1 h]; exact hxx)
      refine ⟨id, _, _, .dir hk0 (by omega) hrun hstop s1 t1, t2, fun p hp => (List.mem_append.1 hp).elim (s3 p) (t3 p), fun p hp => (List.mem_append.1 hp).elim (s4 p) (t4 p), fun M1 M2 m3 z h1 h2 => ?_⟩
      have hr8 := s5 M1 M2 m3 z32 h1 h2
      have hrec : vl e 10336 1 [.str (joinOn 47 (D ++ [x])), I a, I (a + k : Nat), aggF S, mv M1, mv M2, m3] = some (.tup [bl id1, I 0, aggF S, mv (putsM p1 M1), mv (putsM p2 M2), m3]) := by
        rw [w.zq33_h0]; unfold y.zq33_h0
        exact hr8
      have h44 := v.below44 S hS D hD x hx hxl (by omega) a b k (by omega) hb hrun hstop ls (by omega) id1 s2 (mv M1) (mv M2) m3 (mv (putsM p1 M1)) (mv (putsM p2 M2)) m3 z hrec k 0 (Nat.zero_add _)
      have hi0 : evp .vidx [I a, I b, .int .i64 0] = some (I a) := v_vidxN (l := 0) (by omega)
      have hne : ¬ x = joinOn 47 (x :: R) := fun h => by
        have := part_no hx
        rw [h, joinOn_cons _ _ _ hRn] at this
        exact this (by simp)
      have hjn := v.Join2 he (joinOn 47 D) x (part_ne hx) (by omega) (by omega)
      rw [join_snoc hD] at hjn
      rw [w.zq33_h0_8]; unfold y.zq33_h0_8
      simp only [yy, v_vlenN hab, if_pos (show (0 : Int) < ((b - a : Nat) : Int) by omega), hi0, v_pathS S ha, hr, hsp, v_get0, v_lds, if_neg hne, v_bsl2, hjn]
      refine h44.trans ?_
      rw [t5 _ _ m3 z (keyL_putsM s3 h1) (keyL_putsM s4 h2), putsM_app, putsM_app]
end
end Go.Proofs.YtpmgdngjbdkdfaaDoor
namespace Go.Proofs.YtpmgdngjbdkdfaaDoor
open Go.Abs
set_option maxRecDepth 10000
variable {e : Ev}
theorem good_psp {p : Bytes} (h : goodP p = true) : psplit p = splitOn 47 p := if_neg (good_ne h)
theorem clash_iff {a b : Bytes} (ha : goodP a = true) (hb : goodP b = true) : clash a b = true <-> ∃ R, splitOn 47 b = splitOn 47 a ++ R := by
  have ja := join_splitOn 47 a
  constructor
  . intro h
    unfold clash at h
    simp only [Bool.or_eq_true, decide_eq_true_eq] at h
    rcases h with h | h
    . obtain ⟨r, hr⟩ := Option.isSome_iff_exists.1 h
      rw [<- ja] at hr
      obtain ⟨R, _, hs⟩ := under_some (good_parts ha) hr
      exact ⟨R, hs⟩
    . exact ⟨[], by rw [h]; simp⟩
  . rintro ⟨R, hR⟩
    unfold clash
    simp only [Bool.or_eq_true, decide_eq_true_eq]
    by_cases h0 : R = []
    . right
      subst h0
      rw [List.append_nil] at hR
      rw [<- ja, <- hR, join_splitOn]
    . left
      have hp := good_parts hb
      rw [hR] at hp
      have := under_D (good_parts ha) (fun x hx => hp x (by simp [hx])) h0 hR
      rw [ja] at this
      rw [this]; rfl
theorem between : ∀ {A B R : List Bytes}, ¬ cmpL B A < 0 -> ¬ cmpL (A ++ R) B < 0 -> ∃ R', B = A ++ R'
  | [], B, _, _, _ => ⟨B, rfl⟩
  | x :: A, [], _, h, _ => absurd (show cmpL [] (x :: A) < 0 by simp [cmpL]) h
  | x :: A, z :: B, R, h1, h2 => by
    rw [cmpL] at h1
    rw [List.cons_append, cmpL] at h2
    have hs := cmpB_swap x z
    by_cases h0 : cmpB x z = 0
    . have hz : cmpB z x = 0 := by omega
      rw [if_pos hz] at h1
      rw [if_pos h0] at h2
      obtain ⟨R', hR'⟩ := between h1 h2
      exact ⟨R', by rw [hR', cmpB_zero.1 h0]; rfl⟩
    . rw [if_neg (by omega)] at h1
      rw [if_neg h0] at h2
      omega
theorem cmpL_app : ∀ (A R : List Bytes), R ≠ [] -> cmpL A (A ++ R) < 0
  | [], R, h => by cases R with
    | nil => exact absurd rfl h
    | cons x r => simp [cmpL]
  | x :: A, R, h => by rw [List.cons_append, cmpL, if_pos (cmpB_zero.2 rfl)]; exact cmpL_app A R h
def allOK (l : List Fi) : Prop := (∀ f ∈ l, goodP f.1 = true) /\ l.Pairwise fun a b => clash a.1 b.1 = false /\ clash b.1 a.1 = false
theorem all_ok (l : List Fi) : (∀ i, i < l.length -> okI l i) <-> allOK l := by
  constructor
  . intro h
    refine ⟨fun f hf => ?_, List.pairwise_iff_getElem.2 fun i j hi hj hij => ?_⟩
    . obtain ⟨i, hi, rfl⟩ := List.mem_iff_getElem.1 hf
      have := (h i hi).1
      rwa [getD_F hi] at this
    . have h1 := (h j hj).2 i hi (by omega)
      have h2 := (h i hi).2 j hj (by omega)
      rw [getD_F hi, getD_F hj] at h1 h2
      exact ⟨h1, h2⟩
  . rintro ⟨h1, h2⟩ i hi
    have h2 := List.pairwise_iff_getElem.1 h2
    refine ⟨by rw [getD_F hi]; exact h1 _ (List.getElem_mem hi), fun k hk hki => ?_⟩
    rw [getD_F hi, getD_F hk]
    rcases Nat.lt_or_gt_of_ne hki with h | h
    . exact (h2 k i hk hi h).1
    . exact (h2 i k hi hk h).2
theorem all_perm {l m : List Fi} (h : l.Perm m) : allOK l <-> allOK m := by
  have hp : ∀ {l m : List Fi}, l.Perm m -> allOK l -> allOK m := fun h hl =>
    ⟨fun f hf => hl.1 f (h.mem_iff.2 hf), h.pairwise hl.2 (fun hab => ⟨hab.2, hab.1⟩)⟩
  exact ⟨hp h, hp h.symm⟩
def adjOK (S : List Fi) (j : Nat) : Prop := goodP (S.getD j ([], [])).1 = true /\ (0 < j -> clash (S.getD (j - 1) ([], [])).1 (S.getD j ([], [])).1 = false)
abbrev pc (a b : Fi) : Int := pcmp a.1 b.1
theorem adj_all {S : List Fi} (hs : So pc S) : (∀ j, j < S.length -> adjOK S j) <-> allOK S := by
  constructor
  . intro h
    have hg : ∀ f ∈ S, goodP f.1 = true := fun f hf => by
      obtain ⟨i, hi, rfl⟩ := List.mem_iff_getElem.1 hf
      have := (h i hi).1
      rwa [getD_F hi] at this
    refine ⟨hg, List.pairwise_iff_getElem.2 fun i j hi hj hij => ?_⟩
    have gi := hg _ (List.getElem_mem hi)
    have gj := hg _ (List.getElem_mem hj)
    have hle : ¬ cmpL (splitOn 47 S[j].1) (splitOn 47 S[i].1) < 0 := by
      have := List.pairwise_iff_getElem.1 hs i j hi hj hij
      unfold Le pc pcmp at this
      rwa [good_psp gi, good_psp gj] at this
    have first : clash S[i].1 S[j].1 = false := by
      cases hc : clash S[i].1 S[j].1 with
      | false => rfl
      | true =>
        obtain ⟨R, hR⟩ := (clash_iff gi gj).1 hc
        have hk : i + 1 < S.length := by omega
        have gk := hg _ (List.getElem_mem hk)
        have h1 : ¬ cmpL (splitOn 47 S[i + 1].1) (splitOn 47 S[i].1) < 0 := by
          have := List.pairwise_iff_getElem.1 hs i (i + 1) hi hk (by omega)
          unfold Le pc pcmp at this
          rwa [good_psp gi, good_psp gk] at this
        have h2 : ¬ cmpL (splitOn 47 S[i].1 ++ R) (splitOn 47 S[i + 1].1) < 0 := by
          rw [<- hR]
          rcases Nat.lt_or_eq_of_le (show i + 1 <= j by omega) with h' | h'
          . have := List.pairwise_iff_getElem.1 hs (i + 1) j hk hj h'
            unfold Le pc pcmp at this
            rwa [good_psp gj, good_psp gk] at this
          . have : S[i + 1] = S[j] := by congr 1
            rw [this]
            intro hx
            have := cmpL_zero.2 (rfl : splitOn 47 S[j].1 = splitOn 47 S[j].1)
            omega
        obtain ⟨R', hR'⟩ := between h1 h2
        have := (h (i + 1) hk).2 (by omega)
        rw [getD_F hk, Nat.add_sub_cancel, getD_F hi, (clash_iff gi gk).2 ⟨R', hR'⟩] at this
        cases this
    refine ⟨first, ?_⟩
    cases hc : clash S[j].1 S[i].1 with
    | false => rfl
    | true =>
      obtain ⟨R, hR⟩ := (clash_iff gj gi).1 hc
      by_cases h0 : R = []
      . rw [h0, List.append_nil] at hR
        rw [(clash_iff gi gj).2 ⟨[], by rw [hR]; simp⟩] at first
        cases first
      . rw [hR] at hle
        exact absurd (cmpL_app _ R h0) hle
  . rintro ⟨h1, h2⟩ j hj
    refine ⟨by rw [getD_F hj]; exact h1 _ (List.getElem_mem hj), fun h0 => ?_⟩
    rw [getD_F hj, getD_F (show j - 1 < S.length by omega)]
    exact (List.pairwise_iff_getElem.1 h2 (j - 1) j (by omega) hj (by omega)).1
theorem so_ok {S : List Fi} (hs : So pc S) (ha : allOK S) (hd : ∀ f ∈ S, f.2.length <= 32768) (hl : S.length <= 512) : SoOK S := by
  have free : ∀ i j, i < S.length -> j < S.length -> i ≠ j -> ∀ R, pS S i ≠ pS S j ++ R := by
    intro i j hi hj hij R h
    unfold pS at h
    rw [getD_F hi, getD_F hj] at h
    have gi := ha.1 _ (List.getElem_mem hi)
    have gj := ha.1 _ (List.getElem_mem hj)
    have hc := (clash_iff gj gi).2 ⟨R, h⟩
    rcases Nat.lt_or_gt_of_ne hij with h' | h'
    . rw [(List.pairwise_iff_getElem.1 ha.2 i j hi hj h').2] at hc; cases hc
    . rw [(List.pairwise_iff_getElem.1 ha.2 j i hj hi h').1] at hc; cases hc
  refine ⟨ha.1, hd, hl, fun i j hij hj => ?_, free⟩
  have hi : i < S.length := by omega
  have gi := ha.1 _ (List.getElem_mem hi)
  have gj := ha.1 _ (List.getElem_mem hj)
  have hle := List.pairwise_iff_getElem.1 hs i j hi hj hij
  unfold Le pc pcmp at hle
  rw [good_psp gi, good_psp gj] at hle
  have hne : cmpL (pS S i) (pS S j) ≠ 0 := fun h => free i j hi hj (by omega) [] (by rw [List.append_nil]; exact cmpL_zero.1 h)
  have hsw := cmpL_swap (pS S i) (pS S j)
  have e1 : pS S i = splitOn 47 S[i].1 := by unfold pS; rw [getD_F hi]
  have e2 : pS S j = splitOn 47 S[j].1 := by unfold pS; rw [getD_F hj]
  rw [<- e1, <- e2] at hle
  omega
abbrev zid : Bytes := List.replicate 32 0
theorem v_cat0 : evp (.cat []) [] = some (.agg []) := rfl
theorem v_catZ : evp (.cat [some 32]) [.agg (repl 32 (.int .u8 0))] = some (bl zid) := by rw [zero32]; exact v_cat32 (by simp)
section
variable (he : EnvT e) (S : List Fi) (hl : S.length <= 1000000) (hb : ∀ f ∈ S, f.1.length <= 1000000 /\ f.2.length <= 1000000000) (m1 m2 m3 z : V)
include hl
theorem v.build65 : ∀ (n i : Nat), i + n = S.length -> (vl e 10144 65 [I S.length, I S.length, I S.length, I i, m1, m2, m3, z, aggF S] =
    if ∀ f ∈ S.drop i, f.2.length <= 32768 then (vl e 10144 65 [I S.length, I S.length, I S.length, I S.length, m1, m2, m3, z, aggF S]) else some (.tup [bl zid, I 3, m1, m2, m3])) := by
  intro n
  induction n with
  | zero =>
    intro i hi
    rw [if_pos (by rw [List.drop_eq_nil_of_le (by omega)]; simp), show i = S.length by omega]
  | succ n ih =>
    intro i hi
    have hlt : i < S.length := by omega
    have hd := List.drop_eq_getElem_cons hlt
    rw [w.zq26_h0_65]; unfold y.zq26_h0_65
    by_cases hc : 32768 < S[i].2.length
    . simp only [yy, if_pos (show (i : Int) < (S.length : Int) by omega), v_chkdN hlt, v_lddF hlt, v_catF, v_ldd, if_pos (show (32768 : Int) < (S[i].2.length : Int) by omega), v_cat0, v_catZ]
      rw [if_neg (fun h => by have := h S[i] (by rw [hd]; exact List.mem_cons_self); omega)]
    . simp only [yy, if_pos (show (i : Int) < (S.length : Int) by omega), v_chkdN hlt, v_lddF hlt, v_catF, v_ldd, if_neg (show ¬(32768 : Int) < (S[i].2.length : Int) by omega), next64 hlt (by omega)]
      rw [ih (i + 1) (by omega)]
      have : (∀ f ∈ S.drop (i + 1), f.2.length <= 32768) <-> ∀ f ∈ S.drop i, f.2.length <= 32768 := by
        rw [hd]
        exact ⟨fun h f hf => (List.mem_cons.1 hf).elim (fun h => by rw [h]; omega) (h f), fun h f hf => h f (List.mem_cons_of_mem _ hf)⟩
      by_cases hp : ∀ f ∈ S.drop (i + 1), f.2.length <= 32768
      . rw [if_pos hp, if_pos (this.1 hp)]
      . rw [if_neg hp, if_neg (fun h => hp (this.2 h))]
include he hb
open Classical in
theorem v.build28 : ∀ (n i : Nat), i + n = S.length -> (vl e 10144 28 [I S.length, I S.length, I S.length, I i, m1, m2, m3, z, aggF S] =
    if ∀ j, j < S.length -> i <= j -> adjOK S j then (vl e 10144 65 [I S.length, I S.length, I S.length, I (0 : Nat), m1, m2, m3, z, aggF S]) else some (.tup [bl zid, I 1, m1, m2, m3])) := by
  intro n
  induction n with
  | zero =>
    intro i hi
    rw [if_pos (fun j h1 h2 => by omega), w.zq26_h0_28]; unfold y.zq26_h0_28
    simp only [yy, if_neg (show ¬(i : Int) < (S.length : Int) by omega)]
    rfl
  | succ n ih =>
    intro i hi
    have hlt : i < S.length := by omega
    have hg := v.Good he S[i].1 (hb _ (List.getElem_mem hlt)).1
    have hih := ih (i + 1) (by omega)
    have cong : adjOK S i -> ((if ∀ j, j < S.length -> i + 1 <= j -> adjOK S j then (vl e 10144 65 [I S.length, I S.length, I S.length, I (0 : Nat), m1, m2, m3, z, aggF S]) else some (.tup [bl zid, I 1, m1, m2, m3])) =
        if ∀ j, j < S.length -> i <= j -> adjOK S j then (vl e 10144 65 [I S.length, I S.length, I S.length, I (0 : Nat), m1, m2, m3, z, aggF S]) else some (.tup [bl zid, I 1, m1, m2, m3])) := by
      intro h0
      have : (∀ j, j < S.length -> i + 1 <= j -> adjOK S j) <-> ∀ j, j < S.length -> i <= j -> adjOK S j := by
        refine ⟨fun h j h1 h2 => ?_, fun h j h1 h2 => h j h1 (by omega)⟩
        rcases Nat.lt_or_eq_of_le h2 with h' | rfl
        . exact h j h1 h'
        . exact h0
      by_cases hp : ∀ j, j < S.length -> i + 1 <= j -> adjOK S j
      . rw [if_pos hp, if_pos (this.1 hp)]
      . rw [if_neg hp, if_neg (fun h => hp (this.2 h))]
    have bad : ¬ adjOK S i -> some (V.tup [bl zid, I 1, m1, m2, m3]) = if ∀ j, j < S.length -> i <= j -> adjOK S j then (vl e 10144 65 [I S.length, I S.length, I S.length, I (0 : Nat), m1, m2, m3, z, aggF S]) else some (.tup [bl zid, I 1, m1, m2, m3]) := by
      intro h0
      rw [if_neg (fun h => h0 (h i hlt (Nat.le_refl _)))]
    rw [w.zq26_h0_28]; unfold y.zq26_h0_28
    cases hgd : goodP S[i].1 with
    | false =>
      rw [hgd] at hg
      rw [<- bad (fun h => by have := h.1; rw [getD_F hlt, hgd] at this; cases this)]
      simp only [yy, if_pos (show (i : Int) < (S.length : Int) by omega), v_chkdN hlt, v_lddF hlt, v_catF, v_ldp, hg, v_cat0, v_catZ]
    | true =>
      rw [hgd] at hg
      by_cases h0 : 0 < i
      . have hlt' : i - 1 < S.length := by omega
        obtain ⟨x, hx, _⟩ := v.Under (e := e) S[i - 1].1 S[i].1 (hb _ (List.getElem_mem hlt')).1 (hb _ (List.getElem_mem hlt)).1
        have hl1 : evp (.ldd none 0 2) [aggF S, I (i - 1 : Nat)] = some (.str S[i - 1].1) := v_lddP hlt'
        have p1 := pre64 (show 1 <= i by omega) (show i <= 1152921504606846976 by omega)
        cases hu : (underB S[i - 1].1 S[i].1).isSome with
        | true =>
          rw [hu] at hx
          rw [<- bad (fun h => by have := h.2 h0; rw [getD_F hlt, getD_F hlt', clash, hu] at this; cases this)]
          simp only [yy, if_pos (show (i : Int) < (S.length : Int) by omega), v_chkdN hlt, v_lddF hlt, v_catF, v_ldp, hg, if_pos (show (0 : Int) < (i : Int) by omega), p1, v_chkdN hlt', hl1, hx, v_cat0, v_catZ]
        | false =>
          rw [hu] at hx
          by_cases heq : S[i - 1].1 = S[i].1
          . rw [<- bad (fun h => by have := h.2 h0; rw [getD_F hlt, getD_F hlt', clash, decide_eq_true heq, Bool.or_true] at this; cases this)]
            simp only [yy, if_pos (show (i : Int) < (S.length : Int) by omega), v_chkdN hlt, v_lddF hlt, v_catF, v_ldp, hg, if_pos (show (0 : Int) < (i : Int) by omega), p1, v_chkdN hlt', hl1, hx, if_pos heq, v_cat0, v_catZ]
          . rw [<- cong ⟨by rw [getD_F hlt]; exact hgd, fun _ => by rw [getD_F hlt, getD_F hlt', clash, hu, decide_eq_false heq]; rfl⟩, <- hih]
            simp only [yy, if_pos (show (i : Int) < (S.length : Int) by omega), v_chkdN hlt, v_lddF hlt, v_catF, v_ldp, hg, if_pos (show (0 : Int) < (i : Int) by omega), p1, v_chkdN hlt', hl1, hx, if_neg heq, next64 hlt (by omega)]
      . rw [<- cong ⟨by rw [getD_F hlt]; exact hgd, fun h => absurd h h0⟩, <- hih]
        simp only [yy, if_pos (show (i : Int) < (S.length : Int) by omega), v_chkdN hlt, v_lddF hlt, v_catF, v_ldp, hg, if_neg (show ¬(0 : Int) < (i : Int) by omega), next64 hlt (by omega)]
end
theorem v.Build (he : EnvT e) (l : List Fi) (hl : l.length <= 1000000) (hb : ∀ f ∈ l, f.1.length <= 1000000 /\ f.2.length <= 1000000000) :
    ∃ (id : Bytes) (p1 p2 : MB), id.length = 32 /\ keyL p1 /\ keyL p2 /\ (whyB l ≠ 0 -> p1 = [] /\ p2 = []) /\ (whyB l = 0 -> ∃ S, S.Perm l /\ SoOK S /\ Tr S [] 0 S.length [] id p1 p2) /\
      ∀ (M1 M2 : MB) (m3 : V), keyL M1 -> keyL M2 -> vl e 10144 1 [filesV l, mv M1, mv M2, m3] = some (.tup [bl id, I (whyB l), mv (putsM p1 M1), mv (putsM p2 M2), m3]) := by
  obtain ⟨S, hperm, hso, hsort⟩ := v.sort (v.ord he) l (fun f hf => (hb f hf).1) (by omega)
  have hSl : S.length = l.length := hperm.length_eq
  have hbS : ∀ f ∈ S, f.1.length <= 1000000 /\ f.2.length <= 1000000000 := fun f hf => hb f (hperm.mem_iff.1 hf)
  have start : ∀ (M1 M2 m3 : V), ¬ 512 < l.length -> vl e 10144 1 [filesV l, M1, M2, m3] = vl e 10144 28 [I S.length, I S.length, I S.length, I (0 : Nat), M1, M2, m3, z32, aggF S] := by
    intro M1 M2 m3 hn
    rw [w.zq26_h0]; unfold y.zq26_h0
    simp only [yy, v_lenF, if_neg (show ¬(512 : Int) < (l.length : Int) by omega), v.CloneF l hl, hsort]
    rw [hSl]; rfl
  have hall := (adj_all hso).trans ((all_perm hperm).trans (all_ok l).symm)
  unfold whyB
  by_cases h512 : 512 < l.length
  . rw [if_pos h512]
    refine ⟨zid, [], [], by simp, (fun _ h => by cases h), (fun _ h => by cases h), fun _ => ⟨rfl, rfl⟩, fun h => absurd h (by decide), fun M1 M2 m3 _ _ => ?_⟩
    rw [w.zq26_h0]; unfold y.zq26_h0
    simp only [yy, v_lenF, if_pos (show (512 : Int) < (l.length : Int) by omega), v_cat0, v_catZ]
    rfl
  rw [if_neg h512]
  have h28 := fun (m1 m2 m3 : V) => v.build28 he S (by omega) hbS m1 m2 m3 z32 S.length 0 (Nat.zero_add _)
  by_cases hok : ∀ i, i < l.length -> okI l i
  rotate_left
  . rw [if_neg hok]
    refine ⟨zid, [], [], by simp, (fun _ h => by cases h), (fun _ h => by cases h), fun _ => ⟨rfl, rfl⟩, fun h => absurd h (by decide), fun M1 M2 m3 _ _ => ?_⟩
    rw [start _ _ _ h512, h28, if_neg (fun h => hok (hall.1 fun j hj => h j hj (Nat.zero_le _)))]
    rfl
  rw [if_pos hok]
  have hadj : ∀ j, j < S.length -> 0 <= j -> adjOK S j := fun j hj _ => hall.2 hok j hj
  have h65 := fun (m1 m2 m3 : V) => v.build65 (e := e) S (by omega) m1 m2 m3 z32 S.length 0 (Nat.zero_add _)
  by_cases hd : ∀ f ∈ l, f.2.length <= 32768
  rotate_left
  . rw [if_neg hd]
    refine ⟨zid, [], [], by simp, (fun _ h => by cases h), (fun _ h => by cases h), fun _ => ⟨rfl, rfl⟩, fun h => absurd h (by decide), fun M1 M2 m3 _ _ => ?_⟩
    rw [start _ _ _ h512, h28, if_pos hadj, h65, if_neg (fun h => hd fun f hf => h f (by rw [List.drop_zero]; exact hperm.mem_iff.2 hf))]
    rfl
  rw [if_pos hd]
  have hS : SoOK S := so_ok hso ((adj_all hso).1 fun j hj => hadj j hj (Nat.zero_le _)) (fun f hf => hd f (hperm.mem_iff.1 hf)) (by omega)
  obtain ⟨id, p1, p2, t1, t2, t3, t4, t5⟩ := v.below8 he S hS _ [] 0 S.length [] (Nat.le_refl _) (Nat.zero_le _) (Nat.le_refl _) (fun u hu => by cases hu) (by simp [joinOn]) (fun i _ hi => ⟨pS S i, splitOn_ne _ _, rfl⟩) { nm := (fun _ h => by cases h), id := (fun _ h => by cases h), up := .nil, len := by simp } (by simp; omega) (fun en hen => by cases hen)
  refine ⟨id, p1, p2, t2, t3, t4, fun h => absurd rfl h, fun _ => ⟨S, hperm, hS, t1⟩, fun M1 M2 m3 k1 k2 => ?_⟩
  rw [start _ _ _ h512, h28, if_pos hadj, h65, if_pos (fun f hf => hd f (hperm.mem_iff.1 (by rw [List.drop_zero] at hf; exact hf)))]
  have hb8 := t5 M1 M2 m3 z32 k1 k2
  have hrec : vl e 10336 1 [.str [], I (0 : Nat), I S.length, aggF S, mv M1, mv M2, m3] = some (.tup [bl id, I 0, aggF S, mv (putsM p1 M1), mv (putsM p2 M2), m3]) := by
    rw [w.zq33_h0]; unfold y.zq33_h0
    exact hb8
  rw [w.zq26_h0_65]; unfold y.zq26_h0_65
  simp only [yy, if_neg (show ¬(S.length : Int) < (S.length : Int) by omega)]
  rw [show V.int .i64 0 = I (0 : Nat) from rfl, hrec]
  simp only [yy, v_cat32 t2]
end Go.Proofs.YtpmgdngjbdkdfaaDoor
namespace Go.Abs
variable {P : Program} {tabs : List FE} {ow : Cfg}
structure Ent (P : Program) (tabs : List FE) (ow : Cfg) where
  f : Nat
  l : Nat
  g : Gam -> List V -> Option V
  ok : ∀ (e : Nat -> List V -> Option V) (Γ : Gam) (xs : List V) (r : V), g Γ xs = some r -> Go.Abs.step P tabs e ow Γ f l xs = some r
section
variable {f l : Nat}
def ar0 (a : Gam -> Option V) : Gam -> List V -> Option V := fun Γ xs => match xs with | [] => a Γ  | _ => none
theorem ok0 {a : Gam -> Option V} (h : ∀ (e : Nat -> List V -> Option V) (Γ : Gam), Go.Abs.step P tabs e ow Γ f l [] = a Γ ) (e : Nat -> List V -> Option V) (Γ : Gam) (xs : List V) (r : V) (hr : ar0 a Γ xs = some r) : Go.Abs.step P tabs e ow Γ f l xs = some r := by
  unfold ar0 at hr
  split at hr
  . rw [h]; exact hr
  . cases hr
def ar1 (a : Gam -> V -> Option V) : Gam -> List V -> Option V := fun Γ xs => match xs with | [v0] => a Γ v0 | _ => none
theorem ok1 {a : Gam -> V -> Option V} (h : ∀ (e : Nat -> List V -> Option V) (Γ : Gam) (v0 : V), Go.Abs.step P tabs e ow Γ f l [v0] = a Γ v0) (e : Nat -> List V -> Option V) (Γ : Gam) (xs : List V) (r : V) (hr : ar1 a Γ xs = some r) : Go.Abs.step P tabs e ow Γ f l xs = some r := by
  unfold ar1 at hr
  split at hr
  . rw [h]; exact hr
  . cases hr
def ar2 (a : Gam -> V -> V -> Option V) : Gam -> List V -> Option V := fun Γ xs => match xs with | [v0, v1] => a Γ v0 v1 | _ => none
theorem ok2 {a : Gam -> V -> V -> Option V} (h : ∀ (e : Nat -> List V -> Option V) (Γ : Gam) (v0 v1 : V), Go.Abs.step P tabs e ow Γ f l [v0, v1] = a Γ v0 v1) (e : Nat -> List V -> Option V) (Γ : Gam) (xs : List V) (r : V) (hr : ar2 a Γ xs = some r) : Go.Abs.step P tabs e ow Γ f l xs = some r := by
  unfold ar2 at hr
  split at hr
  . rw [h]; exact hr
  . cases hr
def ar3 (a : Gam -> V -> V -> V -> Option V) : Gam -> List V -> Option V := fun Γ xs => match xs with | [v0, v1, v2] => a Γ v0 v1 v2 | _ => none
theorem ok3 {a : Gam -> V -> V -> V -> Option V} (h : ∀ (e : Nat -> List V -> Option V) (Γ : Gam) (v0 v1 v2 : V), Go.Abs.step P tabs e ow Γ f l [v0, v1, v2] = a Γ v0 v1 v2) (e : Nat -> List V -> Option V) (Γ : Gam) (xs : List V) (r : V) (hr : ar3 a Γ xs = some r) : Go.Abs.step P tabs e ow Γ f l xs = some r := by
  unfold ar3 at hr
  split at hr
  . rw [h]; exact hr
  . cases hr
def ar4 (a : Gam -> V -> V -> V -> V -> Option V) : Gam -> List V -> Option V := fun Γ xs => match xs with | [v0, v1, v2, v3] => a Γ v0 v1 v2 v3 | _ => none
theorem ok4 {a : Gam -> V -> V -> V -> V -> Option V} (h : ∀ (e : Nat -> List V -> Option V) (Γ : Gam) (v0 v1 v2 v3 : V), Go.Abs.step P tabs e ow Γ f l [v0, v1, v2, v3] = a Γ v0 v1 v2 v3) (e : Nat -> List V -> Option V) (Γ : Gam) (xs : List V) (r : V) (hr : ar4 a Γ xs = some r) : Go.Abs.step P tabs e ow Γ f l xs = some r := by
  unfold ar4 at hr
  split at hr
  . rw [h]; exact hr
  . cases hr
def ar5 (a : Gam -> V -> V -> V -> V -> V -> Option V) : Gam -> List V -> Option V := fun Γ xs => match xs with | [v0, v1, v2, v3, v4] => a Γ v0 v1 v2 v3 v4 | _ => none
theorem ok5 {a : Gam -> V -> V -> V -> V -> V -> Option V} (h : ∀ (e : Nat -> List V -> Option V) (Γ : Gam) (v0 v1 v2 v3 v4 : V), Go.Abs.step P tabs e ow Γ f l [v0, v1, v2, v3, v4] = a Γ v0 v1 v2 v3 v4) (e : Nat -> List V -> Option V) (Γ : Gam) (xs : List V) (r : V) (hr : ar5 a Γ xs = some r) : Go.Abs.step P tabs e ow Γ f l xs = some r := by
  unfold ar5 at hr
  split at hr
  . rw [h]; exact hr
  . cases hr
def ar6 (a : Gam -> V -> V -> V -> V -> V -> V -> Option V) : Gam -> List V -> Option V := fun Γ xs => match xs with | [v0, v1, v2, v3, v4, v5] => a Γ v0 v1 v2 v3 v4 v5 | _ => none
theorem ok6 {a : Gam -> V -> V -> V -> V -> V -> V -> Option V} (h : ∀ (e : Nat -> List V -> Option V) (Γ : Gam) (v0 v1 v2 v3 v4 v5 : V), Go.Abs.step P tabs e ow Γ f l [v0, v1, v2, v3, v4, v5] = a Γ v0 v1 v2 v3 v4 v5) (e : Nat -> List V -> Option V) (Γ : Gam) (xs : List V) (r : V) (hr : ar6 a Γ xs = some r) : Go.Abs.step P tabs e ow Γ f l xs = some r := by
  unfold ar6 at hr
  split at hr
  . rw [h]; exact hr
  . cases hr
def ar7 (a : Gam -> V -> V -> V -> V -> V -> V -> V -> Option V) : Gam -> List V -> Option V := fun Γ xs => match xs with | [v0, v1, v2, v3, v4, v5, v6] => a Γ v0 v1 v2 v3 v4 v5 v6 | _ => none
theorem ok7 {a : Gam -> V -> V -> V -> V -> V -> V -> V -> Option V} (h : ∀ (e : Nat -> List V -> Option V) (Γ : Gam) (v0 v1 v2 v3 v4 v5 v6 : V), Go.Abs.step P tabs e ow Γ f l [v0, v1, v2, v3, v4, v5, v6] = a Γ v0 v1 v2 v3 v4 v5 v6) (e : Nat -> List V -> Option V) (Γ : Gam) (xs : List V) (r : V) (hr : ar7 a Γ xs = some r) : Go.Abs.step P tabs e ow Γ f l xs = some r := by
  unfold ar7 at hr
  split at hr
  . rw [h]; exact hr
  . cases hr
def ar8 (a : Gam -> V -> V -> V -> V -> V -> V -> V -> V -> Option V) : Gam -> List V -> Option V := fun Γ xs => match xs with | [v0, v1, v2, v3, v4, v5, v6, v7] => a Γ v0 v1 v2 v3 v4 v5 v6 v7 | _ => none
theorem ok8 {a : Gam -> V -> V -> V -> V -> V -> V -> V -> V -> Option V} (h : ∀ (e : Nat -> List V -> Option V) (Γ : Gam) (v0 v1 v2 v3 v4 v5 v6 v7 : V), Go.Abs.step P tabs e ow Γ f l [v0, v1, v2, v3, v4, v5, v6, v7] = a Γ v0 v1 v2 v3 v4 v5 v6 v7) (e : Nat -> List V -> Option V) (Γ : Gam) (xs : List V) (r : V) (hr : ar8 a Γ xs = some r) : Go.Abs.step P tabs e ow Γ f l xs = some r := by
  unfold ar8 at hr
  split at hr
  . rw [h]; exact hr
  . cases hr
def ar9 (a : Gam -> V -> V -> V -> V -> V -> V -> V -> V -> V -> Option V) : Gam -> List V -> Option V := fun Γ xs => match xs with | [v0, v1, v2, v3, v4, v5, v6, v7, v8] => a Γ v0 v1 v2 v3 v4 v5 v6 v7 v8 | _ => none
theorem ok9 {a : Gam -> V -> V -> V -> V -> V -> V -> V -> V -> V -> Option V} (h : ∀ (e : Nat -> List V -> Option V) (Γ : Gam) (v0 v1 v2 v3 v4 v5 v6 v7 v8 : V), Go.Abs.step P tabs e ow Γ f l [v0, v1, v2, v3, v4, v5, v6, v7, v8] = a Γ v0 v1 v2 v3 v4 v5 v6 v7 v8) (e : Nat -> List V -> Option V) (Γ : Gam) (xs : List V) (r : V) (hr : ar9 a Γ xs = some r) : Go.Abs.step P tabs e ow Γ f l xs = some r := by
  unfold ar9 at hr
  split at hr
  . rw [h]; exact hr
  . cases hr
def ar10 (a : Gam -> V -> V -> V -> V -> V -> V -> V -> V -> V -> V -> Option V) : Gam -> List V -> Option V := fun Γ xs => match xs with | [v0, v1, v2, v3, v4, v5, v6, v7, v8, v9] => a Γ v0 v1 v2 v3 v4 v5 v6 v7 v8 v9 | _ => none
theorem ok10 {a : Gam -> V -> V -> V -> V -> V -> V -> V -> V -> V -> V -> Option V} (h : ∀ (e : Nat -> List V -> Option V) (Γ : Gam) (v0 v1 v2 v3 v4 v5 v6 v7 v8 v9 : V), Go.Abs.step P tabs e ow Γ f l [v0, v1, v2, v3, v4, v5, v6, v7, v8, v9] = a Γ v0 v1 v2 v3 v4 v5 v6 v7 v8 v9) (e : Nat -> List V -> Option V) (Γ : Gam) (xs : List V) (r : V) (hr : ar10 a Γ xs = some r) : Go.Abs.step P tabs e ow Γ f l xs = some r := by
  unfold ar10 at hr
  split at hr
  . rw [h]; exact hr
  . cases hr
def ar11 (a : Gam -> V -> V -> V -> V -> V -> V -> V -> V -> V -> V -> V -> Option V) : Gam -> List V -> Option V := fun Γ xs => match xs with | [v0, v1, v2, v3, v4, v5, v6, v7, v8, v9, v10] => a Γ v0 v1 v2 v3 v4 v5 v6 v7 v8 v9 v10 | _ => none
theorem ok11 {a : Gam -> V -> V -> V -> V -> V -> V -> V -> V -> V -> V -> V -> Option V} (h : ∀ (e : Nat -> List V -> Option V) (Γ : Gam) (v0 v1 v2 v3 v4 v5 v6 v7 v8 v9 v10 : V), Go.Abs.step P tabs e ow Γ f l [v0, v1, v2, v3, v4, v5, v6, v7, v8, v9, v10] = a Γ v0 v1 v2 v3 v4 v5 v6 v7 v8 v9 v10) (e : Nat -> List V -> Option V) (Γ : Gam) (xs : List V) (r : V) (hr : ar11 a Γ xs = some r) : Go.Abs.step P tabs e ow Γ f l xs = some r := by
  unfold ar11 at hr
  split at hr
  . rw [h]; exact hr
  . cases hr
def ar12 (a : Gam -> V -> V -> V -> V -> V -> V -> V -> V -> V -> V -> V -> V -> Option V) : Gam -> List V -> Option V := fun Γ xs => match xs with | [v0, v1, v2, v3, v4, v5, v6, v7, v8, v9, v10, v11] => a Γ v0 v1 v2 v3 v4 v5 v6 v7 v8 v9 v10 v11 | _ => none
theorem ok12 {a : Gam -> V -> V -> V -> V -> V -> V -> V -> V -> V -> V -> V -> V -> Option V} (h : ∀ (e : Nat -> List V -> Option V) (Γ : Gam) (v0 v1 v2 v3 v4 v5 v6 v7 v8 v9 v10 v11 : V), Go.Abs.step P tabs e ow Γ f l [v0, v1, v2, v3, v4, v5, v6, v7, v8, v9, v10, v11] = a Γ v0 v1 v2 v3 v4 v5 v6 v7 v8 v9 v10 v11) (e : Nat -> List V -> Option V) (Γ : Gam) (xs : List V) (r : V) (hr : ar12 a Γ xs = some r) : Go.Abs.step P tabs e ow Γ f l xs = some r := by
  unfold ar12 at hr
  split at hr
  . rw [h]; exact hr
  . cases hr
end
def look (f l : Nat) : List (Ent P tabs ow) -> Option (Ent P tabs ow)
  | [] => none
  | q :: r => match Nat.beq q.f f && Nat.beq q.l l with | true => some q | false => look f l r
theorem look_ok {f l : Nat} : ∀ {T : List (Ent P tabs ow)} {q : Ent P tabs ow}, look f l T = some q -> q.f = f /\ q.l = l
  | [], _, h => by cases h
  | p :: r, q, h => by
    unfold look at h
    split at h
    . rename_i hb
      cases h
      simp only [Bool.and_eq_true] at hb
      exact ⟨Nat.eq_of_beq_eq_true hb.1, Nat.eq_of_beq_eq_true hb.2⟩
    . exact look_ok h
def runY (T : List (Ent P tabs ow)) (e0 : Nat -> List V -> Option V) : Nat -> Gam
  | 0 => fun _ _ _ => none
  | n + 1 => fun f l xs => match look f l T with
    | some q => q.g (runY T e0 n) xs
    | none => match l with | 0 => e0 f xs | _ + 1 => none
theorem run_ok {T : List (Ent P tabs ow)} {e0 e : Nat -> List V -> Option V} (h0 : ∀ f xs r, e0 f xs = some r -> val P tabs e ow f 0 xs = some r) : ∀ n, Le (runY T e0 n) (val P tabs e ow)
  | 0 => fun _ _ _ _ h => by cases h
  | n + 1 => fun f l xs r h => by
    unfold runY at h
    split at h
    . rename_i q hq
      obtain ⟨rfl, rfl⟩ := look_ok hq
      have h1 := q.ok e _ xs r h
      rw [val_step]
      exact step_mono (run_ok h0 n) _ _ _ _ h1
    . split at h
      . exact h0 _ _ _ h
      . cases h
theorem run_eq {T : List (Ent P tabs ow)} {e0 e : Nat -> List V -> Option V} (h0 : ∀ f xs r, e0 f xs = some r -> val P tabs e ow f 0 xs = some r) (n : Nat) {f l : Nat} {xs : List V} {r : V} (h : runY T e0 n f l xs = some r) : val P tabs e ow f l xs = some r := run_ok h0 n f l xs r h
end Go.Abs
namespace Go.Proofs.YtpmgdngjbdkdfaaDoor
open Go.Abs
noncomputable def ents0 : List (Ent Tryd.prog tabs cfg) := [
 ⟨4, 0, ar2 y.zq36, ok2 s.zq36⟩,
 ⟨4, 15, ar3 y.zq36_15, ok3 s.zq36_15⟩,
 ⟨4, 31, ar7 y.zq36_31, ok7 s.zq36_31⟩,
 ⟨20, 0, ar2 y.zq23, ok2 s.zq23⟩,
 ⟨32, 0, ar2 y.zq50, ok2 s.zq50⟩,
 ⟨40, 0, ar1 y.zq5, ok1 s.zq5⟩,
 ⟨40, 17, ar3 y.zq5_17, ok3 s.zq5_17⟩,
 ⟨40, 30, ar4 y.zq5_30, ok4 s.zq5_30⟩,
 ⟨44, 0, ar2 y.zq45, ok2 s.zq45⟩,
 ⟨52, 0, ar1 y.zq10, ok1 s.zq10⟩,
 ⟨56, 0, ar1 y.zq21, ok1 s.zq21⟩,
 ⟨60, 0, ar1 y.zq44, ok1 s.zq44⟩,
 ⟨60, 12, ar5 y.zq44_12, ok5 s.zq44_12⟩,
 ⟨60, 39, ar4 y.zq44_39, ok4 s.zq44_39⟩,
 ⟨60, 43, ar5 y.zq44_43, ok5 s.zq44_43⟩,
 ⟨60, 64, ar4 y.zq44_64, ok4 s.zq44_64⟩,
 ⟨80, 0, ar1 y.zq46, ok1 s.zq46⟩,
 ⟨5, 0, ar1 y.zq35, ok1 s.zq35⟩,
 ⟨5, 15, ar2 y.zq35_15, ok2 s.zq35_15⟩,
 ⟨17, 0, ar2 y.zq27, ok2 s.zq27⟩,
 ⟨25, 0, ar1 y.zq11, ok1 s.zq11⟩,
 ⟨25, 9, ar2 y.zq11_9, ok2 s.zq11_9⟩,
 ⟨25, 18, ar2 y.zq11_18, ok2 s.zq11_18⟩,
 ⟨29, 0, ar2 y.zq49, ok2 s.zq49⟩,
 ⟨29, 8, ar5 y.zq49_8, ok5 s.zq49_8⟩,
 ⟨33, 0, ar1 y.zq19, ok1 s.zq19⟩,
 ⟨37, 0, ar1 y.zq20, ok1 s.zq20⟩,
 ⟨41, 0, ar1 y.zq15, ok1 s.zq15⟩,
 ⟨49, 0, ar2 y.zq52, ok2 s.zq52⟩,
 ⟨49, 8, ar4 y.zq52_8, ok4 s.zq52_8⟩]
noncomputable def ents1 : List (Ent Tryd.prog tabs cfg) := [
 ⟨57, 0, ar1 y.zq4, ok1 s.zq4⟩,
 ⟨57, 18, ar3 y.zq4_18, ok3 s.zq4_18⟩,
 ⟨81, 0, ar2 y.zq9, ok2 s.zq9⟩,
 ⟨6, 0, ar0 y.zq37, ok0 s.zq37⟩,
 ⟨10, 0, ar1 y.zq43, ok1 s.zq43⟩,
 ⟨10, 16, ar4 y.zq43_16, ok4 s.zq43_16⟩,
 ⟨10, 38, ar9 y.zq43_38, ok9 s.zq43_38⟩,
 ⟨10, 64, ar3 y.zq43_64, ok3 s.zq43_64⟩,
 ⟨18, 0, ar2 y.zq16, ok2 s.zq16⟩,
 ⟨22, 0, ar1 y.zq38, ok1 s.zq38⟩,
 ⟨22, 10, ar5 y.zq38_10, ok5 s.zq38_10⟩,
 ⟨26, 0, ar1 y.zq13, ok1 s.zq13⟩,
 ⟨26, 18, ar4 y.zq13_18, ok4 s.zq13_18⟩,
 ⟨30, 0, ar1 y.zq22, ok1 s.zq22⟩,
 ⟨34, 0, ar1 y.zq24, ok1 s.zq24⟩,
 ⟨38, 0, ar1 y.zq40, ok1 s.zq40⟩,
 ⟨38, 12, ar4 y.zq40_12, ok4 s.zq40_12⟩,
 ⟨42, 0, ar1 y.zq12, ok1 s.zq12⟩,
 ⟨42, 8, ar4 y.zq12_8, ok4 s.zq12_8⟩,
 ⟨58, 0, ar1 y.zq17, ok1 s.zq17⟩,
 ⟨62, 0, ar1 y.zq1, ok1 s.zq1⟩,
 ⟨66, 0, ar2 y.zq8, ok2 s.zq8⟩,
 ⟨70, 0, ar2 y.zq62, ok2 s.zq62⟩,
 ⟨7, 0, ar3 y.zq42, ok3 s.zq42⟩,
 ⟨7, 10, ar7 y.zq42_10, ok7 s.zq42_10⟩,
 ⟨19, 0, ar1 y.zq18, ok1 s.zq18⟩,
 ⟨23, 0, ar2 y.zq41, ok2 s.zq41⟩,
 ⟨27, 0, ar1 y.zq14, ok1 s.zq14⟩,
 ⟨35, 0, ar2 y.zq60, ok2 s.zq60⟩,
 ⟨39, 0, ar1 y.zq39, ok1 s.zq39⟩]
noncomputable def ents2 : List (Ent Tryd.prog tabs cfg) := [
 ⟨39, 8, ar2 y.zq39_8, ok2 s.zq39_8⟩,
 ⟨43, 0, ar1 y.zq2, ok1 s.zq2⟩,
 ⟨43, 10, ar5 y.zq2_10, ok5 s.zq2_10⟩,
 ⟨43, 31, ar4 y.zq2_31, ok4 s.zq2_31⟩,
 ⟨47, 0, ar2 y.zq0, ok2 s.zq0⟩,
 ⟨51, 0, ar2 y.zq7, ok2 s.zq7⟩,
 ⟨59, 0, ar1 y.zq3, ok1 s.zq3⟩,
 ⟨59, 10, ar3 y.zq3_10, ok3 s.zq3_10⟩,
 ⟨79, 0, ar2 y.zq6, ok2 s.zq6⟩,
 ⟨79, 8, ar3 y.zq6_8, ok3 s.zq6_8⟩,
 ⟨10128, 1, ar0 y.zq64_h0, ok0 s.zq64_h0⟩,
 ⟨11136, 1, ar2 y.zq25_h0, ok2 s.zq25_h0⟩,
 ⟨11136, 8, ar4 y.zq25_h0_8, ok4 s.zq25_h0_8⟩,
 ⟨11136, 25, ar4 y.zq25_h0_25, ok4 s.zq25_h0_25⟩,
 ⟨11136, 48, ar12 y.zq25_h0_48, ok12 s.zq25_h0_48⟩,
 ⟨11136, 72, ar4 y.zq25_h0_72, ok4 s.zq25_h0_72⟩,
 ⟨10880, 1, ar1 y.zq48_h0, ok1 s.zq48_h0⟩,
 ⟨10144, 1, ar4 y.zq26_h0, ok4 s.zq26_h0⟩,
 ⟨10144, 28, ar9 y.zq26_h0_28, ok9 s.zq26_h0_28⟩,
 ⟨10144, 65, ar9 y.zq26_h0_65, ok9 s.zq26_h0_65⟩,
 ⟨10864, 1, ar3 y.zq51_h0, ok3 s.zq51_h0⟩,
 ⟨10864, 18, ar5 y.zq51_h0_18, ok5 s.zq51_h0_18⟩,
 ⟨10240, 1, ar1 y.zq47_h0, ok1 s.zq47_h0⟩,
 ⟨10784, 1, ar3 y.zq52_h0, ok3 s.zq52_h0⟩,
 ⟨10784, 8, ar5 y.zq52_h0_8, ok5 s.zq52_h0_8⟩,
 ⟨10176, 1, ar3 y.zq31_h0, ok3 s.zq31_h0⟩,
 ⟨10192, 1, ar4 y.zq28_h0, ok4 s.zq28_h0⟩,
 ⟨10224, 1, ar4 y.zq30_h0, ok4 s.zq30_h0⟩,
 ⟨10256, 1, ar3 y.zq53_h0, ok3 s.zq53_h0⟩,
 ⟨10384, 1, ar8 y.zq34_h0, ok8 s.zq34_h0⟩]
noncomputable def ents3 : List (Ent Tryd.prog tabs cfg) := [
 ⟨10384, 26, ar10 y.zq34_h0_26, ok10 s.zq34_h0_26⟩,
 ⟨10449, 1, ar4 y.zq56_h1, ok4 s.zq56_h1⟩,
 ⟨10449, 8, ar7 y.zq56_h1_8, ok7 s.zq56_h1_8⟩,
 ⟨10449, 24, ar5 y.zq56_h1_24, ok5 s.zq56_h1_24⟩,
 ⟨10449, 36, ar7 y.zq56_h1_36, ok7 s.zq56_h1_36⟩,
 ⟨10208, 1, ar4 y.zq32_h0, ok4 s.zq32_h0⟩,
 ⟨10721, 1, ar5 y.zq54_h1, ok5 s.zq54_h1⟩,
 ⟨10721, 5, ar6 y.zq54_h1_5, ok6 s.zq54_h1_5⟩,
 ⟨10721, 17, ar7 y.zq54_h1_17, ok7 s.zq54_h1_17⟩,
 ⟨10737, 1, ar6 y.zq58_h1, ok6 s.zq58_h1⟩,
 ⟨10737, 12, ar6 y.zq58_h1_12, ok6 s.zq58_h1_12⟩,
 ⟨10737, 31, ar4 y.zq58_h1_31, ok4 s.zq58_h1_31⟩,
 ⟨10737, 54, ar6 y.zq58_h1_54, ok6 s.zq58_h1_54⟩,
 ⟨10737, 73, ar4 y.zq58_h1_73, ok4 s.zq58_h1_73⟩,
 ⟨10737, 102, ar10 y.zq58_h1_102, ok10 s.zq58_h1_102⟩,
 ⟨10737, 106, ar11 y.zq58_h1_106, ok11 s.zq58_h1_106⟩,
 ⟨10737, 129, ar8 y.zq58_h1_129, ok8 s.zq58_h1_129⟩,
 ⟨10977, 1, ar6 y.zq55_h1, ok6 s.zq55_h1⟩,
 ⟨10977, 8, ar6 y.zq55_h1_8, ok6 s.zq55_h1_8⟩,
 ⟨11153, 1, ar6 y.zq57_h1, ok6 s.zq57_h1⟩,
 ⟨11153, 5, ar6 y.zq57_h1_5, ok6 s.zq57_h1_5⟩,
 ⟨10336, 1, ar7 y.zq33_h0, ok7 s.zq33_h0⟩,
 ⟨10336, 8, ar9 y.zq33_h0_8, ok9 s.zq33_h0_8⟩,
 ⟨10336, 44, ar12 y.zq33_h0_44, ok12 s.zq33_h0_44⟩,
 ⟨10576, 1, ar4 y.zq29_h0, ok4 s.zq29_h0⟩]
noncomputable def ents : List (Ent Tryd.prog tabs cfg) := ents0 ++ ents1 ++ ents2 ++ ents3
end Go.Proofs.YtpmgdngjbdkdfaaDoor
namespace Go.Proofs.YtpmgdngjbdkdfaaDoor
open Go.Abs
set_option maxRecDepth 10000
variable {e : Ev}
theorem none_ok : ∀ f xs r, (fun (_ : Nat) (_ : List V) => (none : Option V)) f xs = some r -> vl e f 0 xs = some r := fun _ _ _ h => by cases h
theorem v.New : vl e 10128 1 [] = some (.tup [mv [], mv [], mv []]) := by
  rw [w.zq64_h0]; rfl
theorem v.Size (M1 M2 M3 : MB) (h : M1.length + M2.length + M3.length <= 1000000000) : vl e 10176 1 [mv M1, mv M2, mv M3] = some (.tup [I (M1.length + M2.length + M3.length : Nat), mv M1, mv M2, mv M3]) := by
  rw [w.zq31_h0]; unfold y.zq31_h0
  simp only [yy, v_mln, add64 (show M1.length + M2.length <= _ by omega), add64 (show M1.length + M2.length + M3.length <= _ by omega)]
theorem bl_scs (x : Bytes) : evp .scs [bl x] = some (bl x) := if_pos (id_all x)
theorem bl_ld {x : Bytes} (h : x.length = 32) : evp (.ld (some 32) 0) [bl x] = some (bl x) := by
  show ldCells (some 32) (bl x).cells 0 = _
  have : (bl x).cells.length = 32 := by simp [V.cells, h]
  simp only [ldCells]
  rw [if_pos (by omega), List.drop_zero, List.take_of_length_le (by omega)]; rfl
theorem v.TreeNone (id : Bytes) (h : id.length = 32) : vl e 10208 1 [bl id, mv [], mv [], mv []] = some (.tup [entV [], I 5, mv [], mv [], mv []]) := by
  have hg := v_mlk (M := []) (k := id) (fun _ h => by cases h) h
  rw [w.zq32_h0]; unfold y.zq32_h0
  simp only [yy, bl_scs, bl_ld h, hg, getM]
  rfl
theorem v.FilesNone (id : Bytes) (h : id.length = 32) : ∃ x, vl e 10192 1 [bl id, mv [], mv [], mv []] = some (.tup [x, I 5, mv [], mv [], mv []]) := by
  have ht := v.TreeNone (e := e) id h
  have hd : vl e 10384 1 [.str [], bl id, I 1, .sl false 33 [], I 4096, mv [], mv [], mv []] = some (.tup [I 5, .sl false 33 [], I 4096, mv [], mv [], mv []]) := by
    rw [w.zq34_h0]; unfold y.zq34_h0
    simp only [yy, bl_scs, bl_ld h, if_neg (show ¬(16 : Int) < 1 by omega), ht]
    rfl
  refine ⟨.sl false 33 [], ?_⟩
  rw [w.zq28_h0]; unfold y.zq28_h0
  simp only [yy, bl_scs, bl_ld h, hd]
  rfl
theorem tree0 : treeB [] = [0, 0, 0, 0, 0, 0, 0, 0] := by decide
theorem v.Get0 : vl e 25 0 [.str (treeB [])] = some (.tup [entV [], I 0]) := by
  rw [tree0]
  exact run_eq (T := ents) none_ok 200 (by kernel_rfl)
theorem why0 : whyB [] = 0 := by
  unfold whyB
  rw [if_neg (by simp), if_pos (fun i hi => by simp at hi), if_pos (by simp)]
theorem v.alive08 (he : EnvT e) : vl e 6 0 [] = some (.bool true) := by
  obtain ⟨id, p1, p2, t1, t2, t3, t4, t5, t6⟩ := v.Build he [] (by simp) (by simp)
  rw [why0] at t6
  obtain ⟨S, s1, s2, s3⟩ := t5 why0
  have hS : S = [] := List.perm_nil.1 s1
  subst hS
  obtain ⟨hid, hp1, hp2⟩ : id = nameD treeK (treeB []) /\ p1 = [] /\ p2 = [(nameD treeK (treeB []), treeB [])] := by
    simp only [List.length_nil] at s3
    cases s3 with
    | done => exact ⟨rfl, rfl, rfl⟩
    | blob hab _ _ => omega
    | dir hk hkb _ _ _ _ => omega
  subst hid hp1 hp2
  have k0 : keyL [] := fun _ h => by cases h
  have x1 := t6 [] [] (mv []) k0 k0
  have e1 : putsM [] [] = [] := rfl
  have e2 : putsM [(nameD treeK (treeB []), treeB [])] [] = [(nameD treeK (treeB []), treeB [])] := rfl
  rw [e1, e2] at x1
  have x2 := v.PutTree he [] { nm := (fun _ h => by cases h), id := (fun _ h => by cases h), up := .nil, len := by simp } (mv []) (mv []) [(nameD treeK (treeB []), treeB [])] t3
  have e3 : putM [(nameD treeK (treeB []), treeB [])] (nameD treeK (treeB [])) (treeB []) = [(nameD treeK (treeB []), treeB [])] := by simp [putM]
  rw [e3] at x2
  have hg := v_mlk (M := [(nameD treeK (treeB []), treeB [])]) (k := nameD treeK (treeB [])) t3 t1
  have e4 : getM [(nameD treeK (treeB []), treeB [])] (nameD treeK (treeB [])) = some (treeB []) := by simp [getM]
  rw [e4] at hg
  simp only [Option.getD_some, Option.isSome_some] at hg
  have ht : vl e 10208 1 [bl (nameD treeK (treeB [])), mv [], mv [(nameD treeK (treeB []), treeB [])], mv []] = some (.tup [entV [], I 0, mv [], mv [(nameD treeK (treeB []), treeB [])], mv []]) := by
    rw [w.zq32_h0]; unfold y.zq32_h0
    simp only [yy, bl_scs, bl_ld t1, hg, v.Get0]
  have hd : vl e 10384 1 [.str [], bl (nameD treeK (treeB [])), I 1, .sl false 33 [], I 4096, mv [], mv [(nameD treeK (treeB []), treeB [])], mv []] = some (.tup [I 0, .sl false 33 [], I 4096, mv [], mv [(nameD treeK (treeB []), treeB [])], mv []]) := by
    rw [w.zq34_h0]; unfold y.zq34_h0
    simp only [yy, bl_scs, bl_ld t1, if_neg (show ¬(16 : Int) < 1 by omega), ht, v_lenE]
    rw [w.zq34_h0_26]; unfold y.zq34_h0_26
    simp only [yy, List.length_nil]
    rfl
  have hf : vl e 10192 1 [bl (nameD treeK (treeB [])), mv [], mv [(nameD treeK (treeB []), treeB [])], mv []] = some (.tup [.sl false 33 [], I 0, mv [], mv [(nameD treeK (treeB []), treeB [])], mv []]) := by
    rw [w.zq28_h0]; unfold y.zq28_h0
    simp only [yy, bl_scs, bl_ld t1, hd]
    rfl
  have hz := v.Size (e := e) [] [(nameD treeK (treeB []), treeB [])] [] (by simp)
  have n0 : V.sl false 2 [] = filesV [] := rfl
  have n1 : V.sl false 34 [] = entV [] := rfl
  rw [w.zq37]; unfold y.zq37
  rw [n0, n1]
  simp only [yy, v.New, x1, v_cat32 t1, x2, hf, v_feq t1 t1]
  simp only [if_true, List.length_nil, Int.natCast_zero, Int.cast_ofNat_Int]
  rw [hz]
  rfl
theorem small {l : List Fi} {n : Nat} (h : l.length <= n) (hn : n <= 1000) (h2 : ∀ f ∈ l, f.1.length + f.2.length <= 4096) : l.length <= 1000000 /\ ∀ f ∈ l, f.1.length <= 1000000 /\ f.2.length <= 1000000000 :=
  ⟨by omega, fun f hf => by have := h2 f hf; omega⟩
theorem tr_len {S : List Fi} {D : List Bytes} {a b : Nat} {ls : List En} {id : Bytes} {p1 p2 : MB} (h : Tr S D a b ls id p1 p2) : a <= b /\ p1.length <= b - a := by
  induction h with
  | done => simp
  | blob hab hx h ih => simp only [List.length_cons]; omega
  | dir hk hkb hrun hstop h1 h2 ih1 ih2 => simp only [List.length_append]; omega
theorem tr_len2 {S : List Fi} (h16 : ∀ i, i < S.length -> (pS S i).length <= 16) {D : List Bytes} {a b : Nat} {ls : List En} {id : Bytes} {p1 p2 : MB} (h : Tr S D a b ls id p1 p2) : b <= S.length -> (∀ i, a <= i -> i < b -> D.length < (pS S i).length) -> p2.length <= 1 + (b - a) * (16 - D.length) := by
  induction h with
  | done => intro _ _; simp
  | @blob D a b ls x id p1 p2 hab hx h ih =>
    intro hb hi
    have := ih hb fun i h1 h2 => hi i (by omega) h2
    have h3 : b - a = (b - (a + 1)) + 1 := by omega
    rw [h3, Nat.add_mul]; omega
  | @dir D a b k ls x id id1 p1 p2 q1 q2 hk hkb hrun hstop h1 h2 ih1 ih2 =>
    intro hb hi
    have r1 := ih1 (by omega) fun i k1 k2 => by
      obtain ⟨R, hR, hs⟩ := hrun i k1 k2
      have := List.length_pos_iff.2 hR
      rw [hs]; simp; omega
    have r2 := ih2 hb fun i k1 k2 => hi i (by omega) k2
    have ha := hi a (Nat.le_refl _) (by omega)
    have ha2 := h16 a (by omega)
    simp only [List.length_append, List.length_cons, List.length_nil] at r1 ⊢
    have e1 : a + k - a = k := by omega
    have e2 : b - a = k + (b - (a + k)) := by omega
    have e3 : 16 - D.length = (16 - (D.length + (0 + 1))) + 1 := by omega
    rw [e1] at r1
    rw [e2, Nat.add_mul]
    have e4 : k * (16 - D.length) = k * (16 - (D.length + (0 + 1))) + k := by rw [e3, Nat.mul_succ]
    omega
theorem v.Build0 (he : EnvT e) (l : List Fi) (hl : l.length <= 1000000) (hb : ∀ f ∈ l, f.1.length <= 1000000 /\ f.2.length <= 1000000000) (h0 : whyB l = 0) :
    ∃ (id : Bytes) (p1 p2 : MB), id.length = 32 /\ keyL p1 /\ keyL p2 /\ p1.length <= 512 /\ p2.length <= 10000 /\
      ∀ (M1 M2 : MB) (m3 : V), keyL M1 -> keyL M2 -> vl e 10144 1 [filesV l, mv M1, mv M2, m3] = some (.tup [bl id, I 0, mv (putsM p1 M1), mv (putsM p2 M2), m3]) := by
  obtain ⟨id, p1, p2, t1, t2, t3, t4, t5, t6⟩ := v.Build he l hl hb
  obtain ⟨S, s1, s2, s3⟩ := t5 h0
  have hlen := s2.len
  have k1 := (tr_len s3).2
  have k2 := tr_len2 (fun i hi => by
    have := s2.good _ (List.getElem_mem hi)
    simp only [goodP, Bool.and_eq_true, decide_eq_true_eq] at this
    unfold pS; rw [getD_F hi]; exact this.1.2) s3 (Nat.le_refl _) (fun i _ hi => by
      have := List.length_pos_iff.2 (splitOn_ne 47 (S.getD i ([], [])).1)
      simpa [pS] using this)
  rw [h0] at t6
  refine ⟨id, p1, p2, t1, t2, t3, by omega, ?_, t6⟩
  simp only [List.length_nil] at k2
  omega
theorem q.treeApart (he : EnvT e) (a : List Fi) (ha : a.length <= 1000000000 /\ ∀ f ∈ a, f.1.length <= 1000000000 /\ f.2.length <= 1000000000) :
    vl e 5 0 [filesV a] = some (.bool true) := by
  have t15 : vl e 5 15 [filesV a, .bool true] = some (.bool true) := by
    rw [w.zq35_15]; rfl
  obtain ⟨g1, hg1, hs1⟩ := v.great (e := e) a ha.1 ha.2 40 4096 (by omega)
  rw [w.zq35]; unfold y.zq35
  cases g1 with
  | true => simp only [yy, v.alive08 he]; simp only [show V.int .i64 40 = I (40 : Nat) from rfl, show V.int .i64 4096 = I (4096 : Nat) from rfl, hg1, yy]; exact t15
  | false =>
  obtain ⟨la, ba⟩ := small (hs1 rfl).1 (by omega) (hs1 rfl).2
  have wa := v.why (e := e) a la ba
  simp only [yy, v.alive08 he]
  simp only [show V.int .i64 40 = I (40 : Nat) from rfl, show V.int .i64 4096 = I (4096 : Nat) from rfl, hg1, wa, yy]
  by_cases h1 : whyB a = 0
  rotate_left
  . simp only [decide_eq_false h1, yy]; exact t15
  simp only [decide_eq_true h1, yy]
  obtain ⟨id, p1, p2, a1, a2, a3, a4, a5, a6⟩ := v.Build0 he a la ba h1
  have k0 : keyL [] := fun _ h => by cases h
  have x1 := a6 [] [] (mv []) k0 k0
  obtain ⟨x, f1⟩ := v.FilesNone (e := e) id a1
  have f2 := v.TreeNone (e := e) id a1
  have z1 := v.Size (e := e) [] [] [] (by simp)
  rw [w.zq35_15]; unfold y.zq35_15
  simp only [yy, v.New, x1, v_cat32 a1, f1, f2, z1]
  rfl
end Go.Proofs.YtpmgdngjbdkdfaaDoor
namespace Go.Proofs.YtpmgdngjbdkdfaaDoor
open Go.Abs
structure T.File where
  Path : Bytes
  Data : Bytes
  deriving DecidableEq
def C.File (x : T.File) : List V := [(V.str x.Path)] ++ [(V.str x.Data)]
def E.File (x : T.File) : V := .agg (C.File x)
theorem E.File_clean (x : T.File) : (E.File x).clean = true := (clean_app (cleanL_mk rfl rfl) (cleanL_mk rfl rfl))
def E.LFile (l : (List T.File)) : V := .sl false 2 (l.map E.File)
end Go.Proofs.YtpmgdngjbdkdfaaDoor
namespace Go.Proofs.YtpmgdngjbdkdfaaDoor
open Go.ChangeShapes Go.WideShapes Go.RowKit Go.Abs
theorem ownK : ownKnob Tryd.prog.godebug = none := by kernel_rfl
theorem kids : Kids Tryd.prog (· < Tryd.prog.types.size) := kids_rows (by kernel_rfl) (by kernel_rfl)
theorem full : ∀ t e, t < Tryd.prog.types.size -> Tryd.prog.underlying t = some (.slice e) -> 0 < Tryd.prog.cellsOf e := slices_full_of Tryd.prog (by kernel_rfl)
section
variable {P : Program} {m : Nat} {t e : TypeId} {vs : List V}
theorem in_str (hu : P.underlying t = some .string) (h : HasT P (m + 1) t vs) : ∃ x : Bytes, nfL vs = [V.str x] := by
  simp only [HasT, hu] at h
  obtain ⟨b, rfl⟩ := h; exact ⟨b, rfl⟩
theorem in_sl {α : Type} {E : α -> V} {c : Nat} (hu : P.underlying t = some (.slice e)) (hc : P.cellsOf e = c) (he : ∀ ws, HasT P m e ws -> ∃ x, (elV P e ws).nf = E x) (h : HasT P (m + 1) t vs) : ∃ l : List α, nfL vs = [V.sl false c (l.map E)] := by
  simp only [HasT, hu, hc] at h
  rcases h with rfl | ⟨xs, rfl, hx⟩
  . exact ⟨[], rfl⟩
  . have : ∃ l : List α, nfL xs = l.map E := by
      clear hc
      induction xs with
      | nil => exact ⟨[], rfl⟩
      | cons x r ih =>
        obtain ⟨l, hl⟩ := ih fun y hy => hx y (by simp [hy])
        obtain ⟨ws, hw, rfl⟩ := hx x (by simp)
        obtain ⟨a, ha⟩ := he ws hw
        exact ⟨a :: l, by rw [nfL, ha, hl]; rfl⟩
    obtain ⟨l, hl⟩ := this
    exact ⟨l, by show [V.sl false c (nfL xs)] = _; rw [hl]⟩
theorem el_agg (ha : isAgT P t = true) {l : List V} (h : nfL vs = l) : (elV P t vs).nf = .agg l := by
  unfold elV; rw [if_pos ha]; show V.agg (nfL vs) = _; rw [h]
theorem el_one (ha : isAgT P t = false) {v : V} (h : nfL vs = [v]) : (elV P t vs).nf = v := by
  unfold elV; rw [if_neg (by simp [ha])]
  cases vs with
  | nil => cases h
  | cons x r => rw [nfL] at h; exact (List.cons.inj h).1
theorem nfL_flat : ∀ {wss : List (List V)}, nfL wss.flatten = (wss.map nfL).flatten
  | [] => rfl
  | w :: r => by rw [List.flatten_cons, nfL_append, nfL_flat]; rfl
end
mutual
theorem nf_wt : ∀ v : V, v.nf.wt <= v.wt
  | .agg cs => by simp only [V.nf, V.wt]; have := nfL_wt cs; omega
  | .sl true sz [] => by simp [V.nf, V.wt]
  | .sl true _ (x :: xs) => by simp [V.nf, V.wt]
  | .sl false sz xs => by simp only [V.nf, V.wt]; have := nfL_wt xs; omega
  | .el cs off => by simp [V.nf, V.wt]
  | .tup cs => by simp [V.nf, V.wt]
  | .fn f cs => by simp [V.nf, V.wt]
  | .mfn f cs => by simp [V.nf, V.wt]
  | .iface t v => by simp [V.nf, V.wt]
  | .bool b => Nat.le_refl _
  | .int k n => Nat.le_refl _
  | .str s => Nat.le_refl _
  | .osl a b c d e => Nat.le_refl _
  | .gp g o => Nat.le_refl _
  | .ptr i o => Nat.le_refl _
  | .nilptr => Nat.le_refl _
  | .map i => Nat.le_refl _
  | .nilmap => Nat.le_refl _
  | .nilfn => Nat.le_refl _
  | .nilif => Nat.le_refl _
theorem nfL_wt : ∀ l : List V, wtL (nfL l) <= wtL l
  | [] => Nat.le_refl _
  | v :: r => by simp only [nfL, wtL]; have := nf_wt v; have := nfL_wt r; omega
end
theorem wt_of {v w : V} {n : Nat} (h : v.nf = w) (hn : v.wt <= n) : w.wt <= n := by rw [<- h]; exact Nat.le_trans (nf_wt v) hn
theorem wt_sl {α : Type} {E : α -> V} {c : Nat} {l : List α} {n : Nat} (h : (V.sl false c (l.map E)).wt <= n) : l.length <= n /\ ∀ a ∈ l, (E a).wt <= n := by
  simp only [V.wt] at h
  refine ⟨by have := wtL_length (l.map E); simp at this; omega, fun a ha => ?_⟩
  have := wtL_mem (List.mem_map_of_mem (f := E) ha)
  omega
theorem wt_str {s : Bytes} {n : Nat} (h : (V.str s).wt <= n) : s.length <= n := by simp only [V.wt] at h; omega
theorem wt_mem {cs : List V} {v : V} {n : Nat} (h : (V.agg cs).wt <= n) (hv : v ∈ cs) : v.wt <= n := by
  simp only [V.wt] at h
  have := wtL_mem hv; omega
end Go.Proofs.YtpmgdngjbdkdfaaDoor
namespace Go.Proofs.YtpmgdngjbdkdfaaDoor
open Go.Abs
variable {e : Ev}
def fiOf (x : T.File) : Fi := (x.Path, x.Data)
theorem files_of (l : List T.File) : E.LFile l = filesV (l.map fiOf) := by
  unfold E.LFile filesV
  rw [List.map_map]; rfl
theorem files_wt {l : List T.File} (h : (E.LFile l).wt <= 1048576) : (l.map fiOf).length <= 1000000000 /\ ∀ f ∈ l.map fiOf, f.1.length <= 1000000000 /\ f.2.length <= 1000000000 := by
  obtain ⟨h1, h2⟩ := wt_sl (E := E.File) h
  refine ⟨by rw [List.length_map]; omega, fun f hf => ?_⟩
  obtain ⟨x, hx, rfl⟩ := List.mem_map.1 hf
  have h3 := h2 x hx
  have a1 := wt_str (wt_mem h3 (v := .str x.Path) (by simp [C.File]))
  have a2 := wt_str (wt_mem h3 (v := .str x.Data) (by simp [C.File]))
  exact ⟨by show x.Path.length <= _; omega, by show x.Data.length <= _; omega⟩
theorem p_treeApart (he : EnvT e) (a : List T.File) (ha : (E.LFile a).wt <= 1048576) : vl e 5 0 [E.LFile a] = some (.bool true) := by
  rw [files_of]
  exact q.treeApart he _ (files_wt ha)
end Go.Proofs.YtpmgdngjbdkdfaaDoor
namespace Go.Proofs.YtpmgdngjbdkdfaaDoor
open Go.Abs Go.RowKit
def exts : List FC := [K.strings_Split, K.strings_Contains, K.strings_Join]
theorem exts_ok (w : World) (hw : EnvOK w) : ∀ c ∈ exts, c.Holds (cxD w) := by
  intro c hc
  simp only [exts, List.mem_cons, List.not_mem_nil, or_false] at hc
  rcases hc with rfl | rfl | rfl
  . exact H.strings_Split w hw
  . exact H.strings_Contains w hw
  . exact H.strings_Join w hw
theorem exts_own : ∀ c ∈ exts, cfg.ow c.f = true -> c.own = true := by
  intro c hc h
  simp only [exts, List.mem_cons, List.not_mem_nil, or_false] at hc
  rcases hc with rfl | rfl | rfl
  . rfl
  . exact absurd h (by rw [show cfg.ow K.strings_Contains.f = false by kernel_rfl]; decide)
  . exact absurd h (by rw [show cfg.ow K.strings_Join.f = false by kernel_rfl]; decide)
theorem envX : EnvT (extOf exts) where
  split s c hs := extOf_eq (cs := exts) (c := K.strings_Split) rfl ⟨(s, [c]), splitOn c s, rfl, by simp [g.strings_Split, hs], rfl⟩
  contains s c hs := extOf_eq (cs := exts) (c := K.strings_Contains) rfl ⟨(s, [c]), decide (c ∈ s), rfl, by simp [g.strings_Contains, hs], rfl⟩
  join l s hl hj := extOf_eq (cs := exts) (c := K.strings_Join) rfl ⟨(l, s), joinS s l, rfl, by simp only [g.strings_Join, lib_joinS]; rw [if_pos ⟨hl, hj⟩], rfl⟩
end Go.Proofs.YtpmgdngjbdkdfaaDoor
namespace Go.Proofs.YtpmgdngjbdkdfaaDoor
open Go.Abs Go.RowKit Go.ChangeShapes Go.WideShapes
section
variable {P : Program} {w : World}
theorem laid_mem {n : String} {d : DataW Unit} : ∀ {l : List (String × DataW Unit)} {ps : List MemPlace}, DataW.LaidVars P w l ps -> (n, d) ∈ l ->
    ∃ g t cs fuel p, P.globalNamed n = some g /\ (P.globals[g]?).map (·.type) = some t /\ w.var? P n = some cs /\ DataW.trod (fun _ => ()) P w 0 (fun _ => true) false fuel t cs.toList = some (d, p)
  | [], _, _, h => by cases h
  | (m, c) :: r, ps, hl, h => by
    obtain ⟨g, t, cs, fuel, p, q, h1, h2, h3, h4, h5, _⟩ := hl
    rcases List.mem_cons.1 h with e | h
    . cases e; exact ⟨g, t, cs, fuel, p, h1, h2, h3, h4⟩
    . exact laid_mem h5 h
theorem var_cells {n : String} {g : Nat} {cs : Array Value} (hg : P.globalNamed n = some g) (h : w.var? P n = some cs) : ∃ t x, w.heap[g]? = some (.cells cs t x) := by
  unfold World.var? at h
  rw [hg, Option.bind_some] at h
  split at h
  . rename_i c t x hx; cases h; exact ⟨t, x, hx⟩
  . cases h
theorem trod_int {enc : TypeId × Value -> Unit} {held : Bool} {fuel : Nat} {e : TypeId} {k k' : IntKind} {cs : List Value} {n : Int} {p : List MemPlace} (he : P.underlying e = some (.int k)) (h : DataW.trod enc P w 0 (fun _ => true) held fuel e cs = some (.lit (.int k' n), p)) : cs = [.int k n] /\ k' = k := by
  cases fuel with
  | zero => simp [DataW.trod] at h
  | succ m =>
    unfold DataW.trod at h
    rw [he] at h
    split at h <;> simp_all
theorem gl_ints {laid : List (String × DataW Unit)} {n : String} {d : DataW Unit} {g : Nat} {t e : TypeId} {k : IntKind} {m : Nat} (ns : List Int) (h : laidMet P laid w) (hm : (n, d) ∈ laid) (hg : P.globalNamed n = some g) (ht : (P.globals[g]?).map (·.type) = some t)
    (hu : P.underlying t = some (.array m e)) (he : P.underlying e = some (.int k)) (hc : P.cellsOf e = 1) (hct : P.cellsOf t = ns.length) (hd : d = .agg (ns.map fun i => .lit (.int k i))) : Row w (G0 w) (fun _ => none) (ns.map (V.int k)) g 0 /\ (ns.map (V.int k)).length <= G0 w g := by
  obtain ⟨ps, hl, _, _⟩ := h
  obtain ⟨g', t', cs, fuel, p, h1, h2, h3, h4⟩ := laid_mem hl hm
  rw [hg] at h1; cases h1
  rw [ht] at h2; cases h2
  obtain ⟨t1, x1, hh⟩ := var_cells hg h3
  obtain ⟨xs, fu, _, hx, hlen, hxl, hel⟩ := DataW.trod_array hu h4
  have hxs : xs.map (·.1) = ns.map fun i => (DataW.lit (.int k i) : DataW Unit) := by
    have := (Prod.mk.inj hx).1
    rw [hd] at this
    exact (DataW.agg.inj this).symm
  have hnl : xs.length = ns.length := by have := congrArg List.length hxs; simpa using this
  have hsz : cs.size = ns.length := by rw [<- hct, <- hlen]; simp
  have hcell : ∀ i, (hi : i < ns.length) -> cs[i]? = some (.int k ns[i]) := by
    intro i hi
    have h5 := hel i (by omega)
    rw [hc, Nat.mul_one, List.getElem?_eq_getElem (by omega)] at h5
    have h6 : xs[i].1 = DataW.lit (.int k ns[i]) := by
      have h7 : (xs.map (·.1))[i]? = (ns.map fun i => (DataW.lit (.int k i) : DataW Unit))[i]? := by rw [hxs]
      rw [List.getElem?_map, List.getElem?_map, List.getElem?_eq_getElem (by omega), List.getElem?_eq_getElem hi] at h7
      simpa using h7
    obtain ⟨h8, _⟩ := trod_int (n := ns[i]) (p := xs[i].2) (k' := k) he (by rw [h5]; exact congrArg some (Prod.ext h6 rfl))
    have hi' : i < cs.toList.length := by simp; omega
    rw [List.drop_eq_getElem_cons hi', List.take_succ_cons, List.take_zero] at h8
    have h9 := (List.cons.inj h8).1
    rw [Array.getElem?_eq_getElem (by omega)]
    simpa using h9
  refine ⟨⟨fun c hc => ?_, fun i c hc => ?_⟩, ?_⟩
  . obtain ⟨j, _, rfl⟩ := List.mem_map.1 hc; rfl
  . rw [List.getElem?_map] at hc
    obtain ⟨j, hj, rfl⟩ := Option.map_eq_some_iff.1 hc
    obtain ⟨hi, hj⟩ := List.getElem?_eq_some_iff.1 hj
    refine ⟨.int k j, ?_, .int k j⟩
    rw [Nat.zero_add]
    simp only [World.cell?, hh]
    rw [<- hj]; exact hcell i hi
  . simp only [List.length_map, G0, hh]; omega
end
noncomputable def cxG (gls : Nat -> Option (List V)) (w : World) : Cx := ⟨Tryd.prog, w, gls⟩
theorem okw_gl {gls : Nat -> Option (List V)} {w W : World} {G : Nat -> Nat} (h : OKW (cxG gls w) W G) : OKW (cxD w) W G := ⟨h.below, h.Glo, h.Gz⟩
theorem pc_gl {gls : Nat -> Option (List V)} {w : World} {f : FuncId} {args : List V} {r : V × Bool} (h : PC (cxD w) f args r) : PC (cxG gls w) f args r := ⟨h.1, fun W G φ xs ho hr => h.2 W G φ xs (okw_gl ho) hr⟩
theorem hold_gl {gls : Nat -> Option (List V)} {w : World} {c : FC} (h : c.Holds (cxD w)) : c.Holds (cxG gls w) := fun args y hr => by
  obtain ⟨v, o, h1, h2⟩ := h args y hr
  exact ⟨v, o, pc_gl h1, h2⟩
theorem gl_met {laid : List (String × DataW Unit)} {w : World} (h : laidMetH Tryd.prog laid w) (hn : (laid.filter fun x => x.2.handleName?.isSome) = []) : laidMet Tryd.prog laid w := by
  unfold laidMetH at h
  rw [hn] at h; exact h
end Go.Proofs.YtpmgdngjbdkdfaaDoor
