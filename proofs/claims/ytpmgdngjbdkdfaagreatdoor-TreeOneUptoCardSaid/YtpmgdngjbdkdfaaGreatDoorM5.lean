/-
  Parts of the proof, one behind the other. Own work of this seat; some printed by its programs.
-/
import Derived.Test.YtpmgdngjbdkdfaaGreatDoorM4
import Derived.Test.YtpmgdngjbdkdfaaGreatDoorCards
import Derived.Test.YtpmgdngjbdkdfaaGreatDoorTie
import Derived.ProofKit
import Derived.OpenShut
import Derived.Deep.DeepHandedRow
import Derived.Lib.LaidTab
namespace Go.Proofs.YtpmgdngjbdkdfaaGreatDoor
open Go.Abs
set_option maxRecDepth 10000
variable {e : Ev}
theorem v.rParts (p : Bytes) (hp : p.length <= 1000000000) : vl e 50 0 [.str p] = some (strs (Zae 47 p)) := by
 have hLim : Lim = 4294967296 := rfl
 have key : ∀ (n i f : Nat) (acc : List Bytes), p.length + 1 = n + i -> f <= i -> acc.length <= i ->
   (i <= p.length -> vl e 50 12 [.str p, strs acc, I f, I i] = some (strs (acc ++ addH ((p.take i).drop f) (Zae 47 (p.drop i))))) /\ (i = p.length + 1 -> vl e 50 12 [.str p, strs acc, I f, I i] = some (strs acc)) := by
  intro n
  induction n with
  | zero =>
   intro i f acc hn hf ha
   refine ⟨fun h => by omega, fun h => ?_⟩
   rw [w.zq53_12]; unfold y.zq53_12
   simp only [yy, if_neg (show ¬((i : Int) <= (p.length : Int)) by omega)]
  | succ n ih =>
   intro i f acc hn hf ha
   refine ⟨fun hil => ?_, fun h => by omega⟩
   have e1 : IntKind.i64.wrap ((i : Int) + 1) = ((i + 1 : Nat) : Int) := w64 _ (by omega)
   rw [w.zq53_12]; unfold y.zq53_12
   by_cases he : i = p.length
   ·have hih := (ih (i + 1) (i + 1) (acc ++ [(p.take i).drop f]) (by omega) (Xaf _) (by simp; omega)).2 (by omega)
    simp only [yy, if_pos (show (i : Int) <= (p.length : Int) by omega), if_pos (show (i : Int) = (p.length : Int) by omega), Zyh hf hil, Zh7, Zps (show acc.length + 1 <= Lim by omega), e1, hih]
    rw [Xap (show p.length <= i by omega)]
    simp [Zae, addH]
   ·have hlt : i < p.length := by omega
    by_cases hc : p[i] = 47
    ·have hih := (ih (i + 1) (i + 1) (acc ++ [(p.take i).drop f]) (by omega) (Xaf _) (by simp; omega)).1 (by omega)
     have hc' : ((p[i].toNat : Nat) : Int) = 47 := by rw [hc]; rfl
     simp only [yy, if_pos (show (i : Int) <= (p.length : Int) by omega), if_neg (show ¬((i : Int) = (p.length : Int)) by omega), Zjg (Xad hlt), byteV, if_pos hc', Zyh hf hil, Zh7, Zps (show acc.length + 1 <= Lim by omega), e1]
     refine hih.trans ?_
     rw [Xal hlt, hc, Zn5, Xaj]
     congr 2
     rw [show (p.take (i + 1)).drop (i + 1) = [] from Xap (by simp; omega), Zp4 (Zbb _ _)]; rfl
    ·have hih := (ih (i + 1) f acc (by omega) (by omega) (by omega)).1 (by omega)
     have hne : ¬((p[i].toNat : Int) = 47) := fun h => hc (Xew.1 (by rw [show (47 : UInt8).toNat = 47 from rfl]; omega))
     simp only [yy, if_pos (show (i : Int) <= (p.length : Int) by omega), if_neg (show ¬((i : Int) = (p.length : Int)) by omega), Zjg (Xad hlt), byteV, if_neg hne, e1]
     refine hih.trans ?_
     rw [Xal hlt, Zmy hc, Zwk hlt hf]
 rw [w.zq53]; unfold y.zq53
 refine ((key (p.length + 1) 0 0 [] (by omega) (Xaf _) (Xaf _)).1 (Xby _)).trans ?_
 simp [Zp4 (Zbb _ _)]
theorem Zk7 {a b : UInt8} : ((a.toNat : Nat) : Int) = ((b.toNat : Nat) : Int) <-> a = b := ⟨fun h => Xew.1 (by omega), fun h => by rw [h]⟩
theorem v.rPart8 (s : Bytes) (hs : s.length <= 1000000000) : ∀ (n i : Nat), i + n = s.length -> vl e 51 8 [.str s, I i] = some (.bool (decide ((0 : UInt8) ∉ s.drop i) && decide ((47 : UInt8) ∉ s.drop i) && (!decide (s = []) && !decide (s = [46]) && !decide (s = [46, 46])))) := by
 intro n
 induction n with
 | zero =>
  intro i hi
  rw [w.zq52_8, Xap (show s.length <= i by omega)]; unfold y.zq52_8
  by_cases h1 : s = []
  ·simp only [yy, if_neg (show ¬((i : Int) < (s.length : Int)) by omega), if_pos h1]; simp [h1]
  by_cases h2 : s = [46]
  ·simp only [yy, if_neg (show ¬((i : Int) < (s.length : Int)) by omega), if_neg h1, if_pos h2]; simp [h2]
  simp only [yy, if_neg (show ¬((i : Int) < (s.length : Int)) by omega), if_neg h1, if_neg h2]; simp [h1, h2]
 | succ n ih =>
  intro i hi
  have hlt : i < s.length := by omega
  have hd := Xal hlt
  rw [w.zq52_8]; unfold y.zq52_8
  by_cases h0 : s[i] = 0
  ·have h0' : ((s[i].toNat : Nat) : Int) = 0 := by rw [h0]; rfl
   simp only [yy, if_pos (show (i : Int) < (s.length : Int) by omega), Zjg (Xad hlt), byteV, if_pos h0']
   have : (0 : UInt8) ∈ s.drop i := by rw [hd, h0]; exact Xc3
   rw [decide_eq_false (fun h => h this)]; rfl
  ·have h0' : ¬((s[i].toNat : Nat) : Int) = 0 := fun h => h0 (Zk7.1 (by rw [h]; rfl))
   by_cases h1 : s[i] = 47
   ·have h1' : ((s[i].toNat : Nat) : Int) = 47 := by rw [h1]; rfl
    simp only [yy, if_pos (show (i : Int) < (s.length : Int) by omega), Zjg (Xad hlt), byteV, if_neg h0', if_pos h1']
    have : (47 : UInt8) ∈ s.drop i := by rw [hd, h1]; exact Xc3
    rw [decide_eq_false (p := ¬(47 : UInt8) ∈ s.drop i) (fun h => h this), Xfj]; rfl
   ·have h1' : ¬((s[i].toNat : Nat) : Int) = 47 := fun h => h1 (Zk7.1 (by rw [h]; rfl))
    simp only [yy, if_pos (show (i : Int) < (s.length : Int) by omega), Zjg (Xad hlt), byteV, if_neg h0', if_neg h1', Zam hlt (by omega)]
    have m0 : (0 : UInt8) ∈ s.drop i <-> (0 : UInt8) ∈ s.drop (i + 1) := by rw [hd, Xa0]; exact ⟨fun h => h.resolve_left (Ne.symm h0), .inr⟩
    have m1 : (47 : UInt8) ∈ s.drop i <-> (47 : UInt8) ∈ s.drop (i + 1) := by rw [hd, Xa0]; exact ⟨fun h => h.resolve_left (Ne.symm h1), .inr⟩
    rw [ih (i + 1) (by omega)]
    simp only [m0, m1]
theorem v.rPart (s : Bytes) (hs : s.length <= 1000000000) : vl e 51 0 [.str s] = some (.bool (Zbl s)) := by
 rw [w.zq52]; unfold y.zq52
 refine (v.rPart8 s hs s.length 0 (Xan _)).trans ?_
 rw [Xa7]
 unfold Zbl
 congr 2
 cases decide (s = []) <;> cases decide (s = [46]) <;> cases decide (s = [46, 46]) <;> by_cases h4 : (0 : UInt8) ∈ s <;> by_cases h5 : (47 : UInt8) ∈ s <;> simp [h4, h5]
theorem v.rGood10 (p : Bytes) (l : List Bytes) (hl : l.length <= 1000000000) (hb : ∀ x ∈ l, x.length <= 1000000000) : ∀ (n i : Nat), i + n = l.length -> vl e 29 10 [.str p, strs l, strs l, I l.length, I i] = some (.bool ((l.drop i).all Zbl && (decide (p.length <= 128) && decide (l.length <= 16)))) := by
 intro n
 induction n with
 | zero =>
  intro i hi
  rw [w.zq50_10, Xap (show l.length <= i by omega)]; unfold y.zq50_10
  by_cases h : p.length <= 128
  ·simp only [yy, if_neg (show ¬((i : Int) < (l.length : Int)) by omega), if_pos (show (p.length : Int) <= 128 by omega)]
   rw [show decide ((l.length : Int) <= 16) = decide (l.length <= 16) from decide_eq_decide.2 (by omega)]
   simp [h]
  ·simp only [yy, if_neg (show ¬((i : Int) < (l.length : Int)) by omega), if_neg (show ¬(p.length : Int) <= 128 by omega)]
   simp [h]
 | succ n ih =>
  intro i hi
  have hlt : i < l.length := by omega
  have hd := Xal hlt
  have hp := v.rPart (e := e) l[i] (hb _ (Xas hlt))
  rw [w.zq50_10]; unfold y.zq50_10
  cases hg : Zbl l[i] with
  | false =>
   rw [hg] at hp
   simp only [yy, if_pos (show (i : Int) < (l.length : Int) by omega), Zd7 hlt, Zdz, hp]
   rw [hd, Xcv, hg, Xfi, Xfi]
  | true =>
   rw [hg] at hp
   simp only [yy, if_pos (show (i : Int) < (l.length : Int) by omega), Zd7 hlt, Zdz, hp, Zam hlt (by omega)]
   rw [ih (i + 1) (by omega), hd, Xcv, hg, Xeb]
theorem v.rGood (p : Bytes) (hp : p.length <= 1000000) : vl e 29 0 [.str p] = some (.bool (Zc5 p)) := by
 have hl := Zcv 47 p
 rw [w.zq50]; unfold y.zq50
 simp only [yy, v.rParts p (by omega), Zf3]
 refine (v.rGood10 p (Zae 47 p) (by omega) (fun x hx => by have := Zbu 47 hx; omega) _ 0 (Xan _)).trans ?_
 rw [Xa7]
 unfold Zc5
 rw [Xes]
theorem v.rUnder (d p : Bytes) (hd : d.length <= 1000000) (hp : p.length <= 1000000) : ∃ x : Bytes, vl e 30 0 [.str d, .str p] = some (.tup [.str x, .bool (Zb7 d p).isSome]) := by
 rw [w.zq55]; unfold y.zq55 Zb7
 by_cases h : d = []
 ·refine ⟨p, ?_⟩
  simp only [yy, if_pos h]
  by_cases h2 : p = [] <;> simp [h2, h]
 ·have e1 : IntKind.i64.wrap ((d.length : Int) + 1) = ((d.length + 1 : Nat) : Int) := Zam (show d.length < d.length + 1 by omega) (by omega)
  have hdl : 0 < d.length := Xaz.2 h
  by_cases h1 : p.length <= d.length + 1
  ·refine ⟨[], ?_⟩
   simp only [yy, if_neg h, e1, if_pos (show (p.length : Int) <= ((d.length + 1 : Nat) : Int) by omega)]
   rw [if_neg (fun hc => hc.2 (Xap h1))]
   rfl
  ·have hlt : d.length < p.length := by omega
   have ht : p.take (d.length + 1) = p.take d.length ++ [p[d.length]] := Xch hlt
   by_cases h2 : p.take d.length = d
   ·by_cases h3 : p[d.length] = 47
    ·have h3' : ((p[d.length].toNat : Nat) : Int) = 47 := by rw [h3]; rfl
     refine ⟨p.drop (d.length + 1), ?_⟩
     simp only [yy, if_neg h, e1, if_neg (show ¬(p.length : Int) <= ((d.length + 1 : Nat) : Int) by omega), Zke (show d.length <= p.length by omega), if_pos h2, Zjg (Xad hlt), byteV, if_pos h3', Zra (show d.length + 1 <= p.length by omega)]
     rw [if_pos ⟨by rw [ht, h2, h3], fun hc => by have := congrArg List.length hc; simp at this; omega⟩]
     rfl
    ·have h3' : ¬((p[d.length].toNat : Nat) : Int) = 47 := fun hh => h3 (Zk7.1 (by rw [hh]; rfl))
     refine ⟨[], ?_⟩
     simp only [yy, if_neg h, e1, if_neg (show ¬(p.length : Int) <= ((d.length + 1 : Nat) : Int) by omega), Zke (show d.length <= p.length by omega), if_pos h2, Zjg (Xad hlt), byteV, if_neg h3']
     rw [if_neg (fun hc => h3 (by
      have := hc.1
      rw [ht, h2] at this
      simpa using this))]
     rfl
   ·refine ⟨[], ?_⟩
    simp only [yy, if_neg h, e1, if_neg (show ¬(p.length : Int) <= ((d.length + 1 : Nat) : Int) by omega), Zke (show d.length <= p.length by omega), if_neg h2]
    rw [if_neg (fun hc => h2 (by
     have := congrArg (List.take d.length) hc.1
     simpa [List.take_take] using this))]
    rfl
theorem Zcm {l : List Fi} {i : Nat} (h : i < l.length) : evp (.elem 2) [Zad l, I i] = some (fv l[i]) := Zkm (by simp [h])
theorem Zf2 {x : Fi} : evp (.ld (some 2) 0) [fv x] = some (fv x) := rfl
theorem Zb3 {x : Fi} : evp (.cat [some 2]) [fv x] = some (fv x) := rfl
theorem Zet {x : Fi} : evp (.ld none 0) [fv x] = some (.str x.1) := rfl
theorem Zop {x : Fi} : evp (.ld none 1) [fv x] = some (.str x.2) := rfl
theorem Zc8 {l : List Fi} : evp (.len false) [Zad l] = some (I l.length) := by rw [Zad, Zuf, Xcj]
theorem v.great10 (l : List Fi) (hl : l.length <= 1000000000) (hb : ∀ f ∈ l, f.1.length <= 1000000000 /\ f.2.length <= 1000000000) (q by_ : Nat) (hby : by_ <= 1000000000) : ∀ (n i m : Nat), i + n = l.length -> m <= by_ -> ∃ b : Bool, vl e 8 10 [Zad l, I q, I by_, I m, Zad l, I l.length, I i] = some (.bool b) /\ (b = false -> l.length <= q /\ ∀ k (h : k < l.length), i <= k -> l[k].1.length + l[k].2.length <= by_) := by
 intro n
 induction n with
 | zero =>
  intro i m hi hm
  refine ⟨decide ((q : Int) < (l.length : Int)), ?_, fun h => ⟨by have := of_decide_eq_false h; omega, fun k hk hik => by omega⟩⟩
  rw [w.zq59_10]; unfold y.zq59_10
  simp only [yy, if_neg (show ¬((i : Int) < (l.length : Int)) by omega), Zc8]
 | succ n ih =>
  intro i m hi hm
  have hlt : i < l.length := by omega
  obtain ⟨h1, h2⟩ := hb _ (Xas hlt)
  have a1 : IntKind.i64.wrap ((l[i].1.length : Int) + (l[i].2.length : Int)) = ((l[i].1.length + l[i].2.length : Nat) : Int) := Zd1 (by omega)
  have a2 : IntKind.i64.wrap ((m : Int) + ((l[i].1.length + l[i].2.length : Nat) : Int)) = ((m + (l[i].1.length + l[i].2.length) : Nat) : Int) := Zd1 (by omega)
  rw [w.zq59_10]; unfold y.zq59_10
  by_cases hc : by_ < m + (l[i].1.length + l[i].2.length)
  ·refine ⟨true, ?_, fun h => by cases h⟩
   simp only [yy, if_pos (show (i : Int) < (l.length : Int) by omega), Zcm hlt, Zf2, Zb3, Zet, Zop, a1, a2, if_pos (show (by_ : Int) < ((m + (l[i].1.length + l[i].2.length) : Nat) : Int) by omega)]
  ·obtain ⟨b, r1, r2⟩ := ih (i + 1) (m + (l[i].1.length + l[i].2.length)) (by omega) (by omega)
   refine ⟨b, ?_, fun h => ⟨(r2 h).1, fun k hk hik => ?_⟩⟩
   ·simp only [yy, if_pos (show (i : Int) < (l.length : Int) by omega), Zcm hlt, Zf2, Zb3, Zet, Zop, a1, a2, if_neg (show ¬(by_ : Int) < ((m + (l[i].1.length + l[i].2.length) : Nat) : Int) by omega), Zam hlt (by omega)]
    exact r1
   ·rcases Xbi hik with h' | rfl
    ·exact (r2 h).2 k hk h'
    ·omega
theorem v.great (l : List Fi) (hl : l.length <= 1000000000) (hb : ∀ f ∈ l, f.1.length <= 1000000000 /\ f.2.length <= 1000000000) (q by_ : Nat) (hby : by_ <= 1000000000) : ∃ b : Bool, vl e 8 0 [Zad l, I q, I by_] = some (.bool b) /\ (b = false -> l.length <= q /\ ∀ f ∈ l, f.1.length + f.2.length <= by_) := by
 obtain ⟨b, r1, r2⟩ := v.great10 (e := e) l hl hb q by_ hby l.length 0 0 (Xan _) (Xby _)
 refine ⟨b, ?_, fun h => ⟨(r2 h).1, fun f hf => ?_⟩⟩
 ·rw [w.zq59]; unfold y.zq59
  simp only [yy, Zc8]
  exact r1
 ·obtain ⟨k, hk, rfl⟩ := Xb0.1 hf
  exact (r2 h).2 k hk (Xby _)
def Zcr (x f : Bytes) : Bool := (Zb7 x f).isSome || decide (x = f)
def okI (l : List Fi) (i : Nat) : Prop := Zc5 (l.getD i ([], [])).1 = true /\ ∀ k, k < l.length -> k ≠ i -> Zcr (l.getD k ([], [])).1 (l.getD i ([], [])).1 = false
open Classical in
noncomputable def whyB (l : List Fi) : Int := if 512 < l.length then 3 else if ∀ i, i < l.length -> okI l i then (if ∀ f ∈ l, f.2.length <= 32768 then 0 else 3) else 1
theorem Zay {l : List Fi} {i : Nat} (h : i < l.length) : l.getD i ([], []) = l[i] := by simp [List.getD, h]
section
variable (l : List Fi) (hl : l.length <= 1000000) (hb : ∀ f ∈ l, f.1.length <= 1000000 /\ f.2.length <= 1000000000)
include hl hb
omit hb in
theorem v.why64 : ∀ (n i : Nat), i + n = l.length -> vl e 9 64 [Zad l, I l.length, I i] = some (I (if ∀ f ∈ l.drop i, f.2.length <= 32768 then 0 else 3)) := by
 intro n
 induction n with
 | zero =>
  intro i hi
  rw [w.zq61_64]; unfold y.zq61_64
  simp only [yy, if_neg (show ¬((i : Int) < (l.length : Int)) by omega)]
  rw [Xap (by omega), if_pos (by simp)]
 | succ n ih =>
  intro i hi
  have hlt : i < l.length := by omega
  have hd := Xal hlt
  rw [w.zq61_64]; unfold y.zq61_64
  by_cases hc : 32768 < l[i].2.length
  ·simp only [yy, if_pos (show (i : Int) < (l.length : Int) by omega), Zcm hlt, Zf2, Zb3, Zop, if_pos (show (32768 : Int) < (l[i].2.length : Int) by omega)]
   rw [if_neg (fun h => by have := h l[i] (by rw [hd]; exact Xc3); omega)]
  ·simp only [yy, if_pos (show (i : Int) < (l.length : Int) by omega), Zcm hlt, Zf2, Zb3, Zop, if_neg (show ¬(32768 : Int) < (l[i].2.length : Int) by omega), Zam hlt (by omega)]
   rw [ih (i + 1) (by omega), hd]
   have : (∀ f ∈ l.drop (i + 1), f.2.length <= 32768) <-> ∀ f ∈ l[i] :: l.drop (i + 1), f.2.length <= 32768 := by
    simp only [Xa0, forall_eq_or_imp]
    exact ⟨fun h => ⟨by omega, h⟩, fun h => h.2⟩
   by_cases hp : ∀ f ∈ l.drop (i + 1), f.2.length <= 32768
   ·rw [if_pos hp, if_pos (this.1 hp)]
   ·rw [if_neg hp, if_neg (fun h => hp (this.2 h))]
open Classical in
theorem v.why38 (i : Nat) (hi : i < l.length) : ∀ (n k : Nat), k + n = l.length ->
  vl e 9 38 [Zad l, I i, Zad l, I l.length, I i, Zad l, I l.length, I k, fv l[i]] = if ∀ j, j < l.length -> k <= j -> j ≠ i -> Zcr (l.getD j ([], [])).1 l[i].1 = false then vl e 9 16 [Zad l, Zad l, I l.length, I (i + 1 : Nat)] else some (I 1) := by
 intro n
 induction n with
 | zero =>
  intro k hk
  rw [w.zq61_38]; unfold y.zq61_38
  simp only [yy, if_neg (show ¬((k : Int) < (l.length : Int)) by omega), Zam hi (by omega)]
  rw [if_pos (fun j h1 h2 => by omega)]
 | succ n ih =>
  intro k hk
  have hlt : k < l.length := by omega
  obtain ⟨x, hx⟩ := v.rUnder (e := e) l[k].1 l[i].1 (hb _ (Xas hlt)).1 (hb _ (Xas hi)).1
  have hih := ih (k + 1) (by omega)
  have step : (k = i \/ Zcr l[k].1 l[i].1 = false) -> ((∀ j, j < l.length -> k + 1 <= j -> j ≠ i -> Zcr (l.getD j ([], [])).1 l[i].1 = false) <-> ∀ j, j < l.length -> k <= j -> j ≠ i -> Zcr (l.getD j ([], [])).1 l[i].1 = false) := by
   intro h0
   refine ⟨fun h j h1 h2 h3 => ?_, fun h j h1 h2 h3 => h j h1 (by omega) h3⟩
   rcases Xbi h2 with h' | rfl
   ·exact h j h1 h' h3
   ·rcases h0 with h0 | h0
    ·exact absurd h0 h3
    ·rw [Zay h1]; exact h0
  have cong : (k = i \/ Zcr l[k].1 l[i].1 = false) -> (if ∀ j, j < l.length -> k + 1 <= j -> j ≠ i -> Zcr (l.getD j ([], [])).1 l[i].1 = false then vl e 9 16 [Zad l, Zad l, I l.length, I (i + 1 : Nat)] else some (I 1)) = if ∀ j, j < l.length -> k <= j -> j ≠ i -> Zcr (l.getD j ([], [])).1 l[i].1 = false then vl e 9 16 [Zad l, Zad l, I l.length, I (i + 1 : Nat)] else some (I 1) := by
   intro h0
   by_cases hp : ∀ j, j < l.length -> k + 1 <= j -> j ≠ i -> Zcr (l.getD j ([], [])).1 l[i].1 = false
   ·rw [if_pos hp, if_pos ((step h0).1 hp)]
   ·rw [if_neg hp, if_neg (fun h => hp ((step h0).2 h))]
  have bad : k ≠ i -> Zcr l[k].1 l[i].1 = true -> some (V.int .i64 1) = if ∀ j, j < l.length -> k <= j -> j ≠ i -> Zcr (l.getD j ([], [])).1 l[i].1 = false then vl e 9 16 [Zad l, Zad l, I l.length, I (i + 1 : Nat)] else some (I 1) := by
   intro h0 h1
   rw [if_neg (fun h => by have := h k hlt (Xaf _) h0; rw [Zay hlt, h1] at this; cases this)]
  rw [w.zq61_38]; unfold y.zq61_38
  by_cases hki : k = i
  ·rw [<- cong (.inl hki), <- hih]
   simp only [yy, if_pos (show (k : Int) < (l.length : Int) by omega), Zcm hlt, Zf2, Zb3, Zet, hx, if_pos (show (k : Int) = (i : Int) by omega), Zam hlt (by omega)]
  ·cases hu : (Zb7 l[k].1 l[i].1).isSome with
   | true =>
    rw [hu] at hx
    rw [<- bad hki (by unfold Zcr; rw [hu]; rfl)]
    simp only [yy, if_pos (show (k : Int) < (l.length : Int) by omega), Zcm hlt, Zf2, Zb3, Zet, hx, if_neg (show ¬(k : Int) = (i : Int) by omega)]
   | false =>
    rw [hu] at hx
    by_cases he : l[k].1 = l[i].1
    ·rw [<- bad hki (by unfold Zcr; rw [decide_eq_true he, Xfc])]
     simp only [yy, if_pos (show (k : Int) < (l.length : Int) by omega), Zcm hlt, Zf2, Zb3, Zet, hx, if_neg (show ¬(k : Int) = (i : Int) by omega), if_pos he]
    ·rw [<- cong (.inr (by unfold Zcr; rw [hu, decide_eq_false he]; rfl)), <- hih]
     simp only [yy, if_pos (show (k : Int) < (l.length : Int) by omega), Zcm hlt, Zf2, Zb3, Zet, hx, if_neg (show ¬(k : Int) = (i : Int) by omega), if_neg he, Zam hlt (by omega)]
open Classical in
theorem v.why16 : ∀ (n i : Nat), i + n = l.length -> vl e 9 16 [Zad l, Zad l, I l.length, I i] = some (I (if ∀ j, j < l.length -> i <= j -> okI l j then (if ∀ f ∈ l, f.2.length <= 32768 then 0 else 3) else 1)) := by
 intro n
 induction n with
 | zero =>
  intro i hi
  rw [w.zq61_16]; unfold y.zq61_16
  simp only [yy, if_neg (show ¬((i : Int) < (l.length : Int)) by omega), Zc8]
  have := v.why64 (e := e) l hl l.length 0 (Xan _)
  rw [Xa7] at this
  rw [if_pos (fun j h1 h2 => by omega)]
  exact this
 | succ n ih =>
  intro i hi
  have hlt : i < l.length := by omega
  have hg := v.rGood (e := e) l[i].1 (hb _ (Xas hlt)).1
  have h38 := v.why38 (e := e) l hl hb i hlt l.length 0 (Xan _)
  rw [w.zq61_16]; unfold y.zq61_16
  cases hgd : Zc5 l[i].1 with
  | false =>
   rw [hgd] at hg
   simp only [yy, if_pos (show (i : Int) < (l.length : Int) by omega), Zcm hlt, Zf2, Zb3, Zet, hg]
   rw [if_neg (fun h => by have := (h i hlt (Xaf _)).1; rw [Zay hlt, hgd] at this; cases this)]
  | true =>
   rw [hgd] at hg
   simp only [yy, if_pos (show (i : Int) < (l.length : Int) by omega), Zcm hlt, Zf2, Zb3, Zet, hg, Zc8]
   refine h38.trans ?_
   by_cases hc : ∀ j, j < l.length -> 0 <= j -> j ≠ i -> Zcr (l.getD j ([], [])).1 l[i].1 = false
   ·rw [if_pos hc, ih (i + 1) (by omega)]
    have hok : okI l i := ⟨by rw [Zay hlt]; exact hgd, fun k h1 h2 => by rw [Zay hlt]; exact hc k h1 (Xby _) h2⟩
    have : (∀ j, j < l.length -> i + 1 <= j -> okI l j) <-> ∀ j, j < l.length -> i <= j -> okI l j := by
     refine ⟨fun h j h1 h2 => ?_, fun h j h1 h2 => h j h1 (by omega)⟩
     rcases Xbi h2 with h' | rfl
     ·exact h j h1 h'
     ·exact hok
    by_cases hp : ∀ j, j < l.length -> i + 1 <= j -> okI l j
    ·rw [if_pos hp, if_pos (this.1 hp)]
    ·rw [if_neg hp, if_neg (fun h => hp (this.2 h))]
   ·rw [if_neg hc, if_neg (fun h => hc fun j h1 _ h2 => by have := (h i hlt (Xaf _)).2 j h1 h2; rw [Zay hlt] at this; exact this)]
theorem v.why : vl e 9 0 [Zad l] = some (I (whyB l)) := by
 rw [w.zq61]; unfold y.zq61 whyB
 by_cases h : 512 < l.length
 ·simp only [yy, Zc8, if_pos (show (512 : Int) < (l.length : Int) by omega)]
  rw [if_pos h]
 ·simp only [yy, Zc8, if_neg (show ¬(512 : Int) < (l.length : Int) by omega)]
  rw [if_neg h]
  refine (v.why16 l hl hb l.length 0 (Xan _)).trans ?_
  congr 2
  have : (∀ j, j < l.length -> 0 <= j -> okI l j) <-> ∀ i, i < l.length -> okI l i := ⟨fun h i hi => h i hi (Xby _), fun h i hi _ => h i hi⟩
  by_cases hp : ∀ i, i < l.length -> okI l i
  ·rw [if_pos hp, if_pos (this.2 hp)]
  ·rw [if_neg hp, if_neg (fun h => hp (this.1 h))]
end
theorem Zs7 : ∀ l : List Fi, (l.map fv).flatMap V.cells = fl l
 | [] => rfl
 | f :: r => by rw [Xaq, Xbm, Zs7 r]; rfl
theorem v.CloneF (l : List Fi) (hl : l.length <= 1000000) : vl e 10528 1 [Zad l] = some (.tup [I l.length, aggF l]) := by
 rw [w.zq65_h0]; unfold y.zq65_h0
 have h1 : evp (.rapp 2) [.agg [], .int .i64 0, Zad l] = some (aggF l) := by
  show Zry 2 (.agg []) (I 0) (Zad l) = _
  have hf : fits 2 (l.map fv) = true := by simp [fits, fv, V.cells, V.sc]
  simp only [Zry, Zbw, Xak, Zjj, hf, if_true, true_or]
  rw [if_pos ⟨by omega, by omega, by simp, by simp [Lim]; omega⟩, Zs7]
  simp [V.cells]
 have h2 : evp (.rlen 2) [.int .i64 0, Zad l] = some (I l.length) := by
  show Zpj 2 (I 0) (Zad l) = _
  simp [Zpj, Zbw]
 simp only [yy, h1, h2]
 cases l with
 | nil =>
  have : vamb (V.sl false 2 []) (some (V.tup [.int .i64 0, .agg []])) (some (V.tup [.int .i64 0, .agg []])) = some (V.tup [.int .i64 0, .agg []]) := by
   unfold vamb
   exact if_pos rfl
  exact this
 | cons x r => rfl
end Go.Proofs.YtpmgdngjbdkdfaaGreatDoor
namespace Go.Proofs.YtpmgdngjbdkdfaaGreatDoor
open Go.Abs
set_option maxRecDepth 10000
abbrev W32 := BitVec 32
def bv (x : W32) : V := .int .u32 (x.toNat : Int)
theorem Zpo (n : Int) : IntKind.u32.wrap n = n % 4294967296 := by simp [IntKind.wrap, IntKind.signed, IntKind.bits]
theorem Z4m (n : Int) : IntKind.u8.wrap n = n % 256 := by simp [IntKind.wrap, IntKind.signed, IntKind.bits]
theorem Zfa (n : Int) : IntKind.u64.wrap n = n % 18446744073709551616 := by simp [IntKind.wrap, IntKind.signed, IntKind.bits]
theorem Zli (x : W32) : IntKind.u32.wrap (x.toNat : Int) = (x.toNat : Int) := by rw [Zpo]; have := x.isLt; omega
theorem Zow (x : W32) : BitVec.ofInt IntKind.u32.bits (x.toNat : Int) = x := by
 show BitVec.ofInt 32 (x.toNat : Int) = x
 rw [BitVec.ofInt_natCast, BitVec.ofNat_toNat, BitVec.setWidth_eq]
theorem b_add (x y : W32) : evp (.bin .add .no) [bv x, bv y] = some (bv (x + y)) := by
 show some (V.int .u32 (IntKind.u32.wrap ((x.toNat : Int) + (y.toNat : Int)))) = _
 rw [Zpo]
 unfold bv
 rw [BitVec.toNat_add]
 congr 2
theorem b_and (x y : W32) : evp (.bin .and .no) [bv x, bv y] = some (bv (x &&& y)) := by
 show some (V.int .u32 (IntKind.u32.wrap ((BitVec.ofInt IntKind.u32.bits (x.toNat : Int) &&& BitVec.ofInt IntKind.u32.bits (y.toNat : Int)).toNat : Nat))) = _
 rw [Zow, Zow]; exact congrArg (fun n => some (V.int .u32 n)) (Zli (x &&& y))
theorem b_or (x y : W32) : evp (.bin .or .no) [bv x, bv y] = some (bv (x ||| y)) := by
 show some (V.int .u32 (IntKind.u32.wrap ((BitVec.ofInt IntKind.u32.bits (x.toNat : Int) ||| BitVec.ofInt IntKind.u32.bits (y.toNat : Int)).toNat : Nat))) = _
 rw [Zow, Zow]; exact congrArg (fun n => some (V.int .u32 n)) (Zli (x ||| y))
theorem b_xor (x y : W32) : evp (.bin .xor .no) [bv x, bv y] = some (bv (x ^^^ y)) := by
 show some (V.int .u32 (IntKind.u32.wrap ((BitVec.ofInt IntKind.u32.bits (x.toNat : Int) ^^^ BitVec.ofInt IntKind.u32.bits (y.toNat : Int)).toNat : Nat))) = _
 rw [Zow, Zow]; exact congrArg (fun n => some (V.int .u32 n)) (Zli (x ^^^ y))
theorem Z2i (x : W32) : evp (.un .xor) [bv x] = some (bv (~~~x)) := by
 show some (V.int .u32 (IntKind.u32.wrap ((BitVec.ofInt 32 4294967295 ^^^ BitVec.ofInt 32 (x.toNat : Int)).toNat : Nat))) = _
 rw [show BitVec.ofInt 32 (x.toNat : Int) = x from Zow x, show BitVec.ofInt 32 4294967295 = BitVec.allOnes 32 by decide, BitVec.allOnes_xor]; exact congrArg (fun n => some (V.int .u32 n)) (Zli (~~~x))
theorem Znb (x : W32) (k : Nat) (kd : IntKind) (hk : k <= 32) : evp (.bin .shl .no) [bv x, .int kd (k : Int)] = some (bv (x <<< k)) := by
 show (if (k : Int) < 0 then none else some (V.int .u32 (IntKind.u32.wrap ((x.toNat : Int) * 2 ^ (min (k : Int).toNat IntKind.u32.bits))))) = _
 rw [if_neg (by omega), Zpo]
 unfold bv
 rw [BitVec.toNat_shiftLeft, Xep]
 have : min (k : Int).toNat IntKind.u32.bits = k := by show min _ 32 = k; omega
 rw [this]
 congr 2
theorem Znh (x : W32) (k : Nat) (kd : IntKind) (hk : k <= 32) : evp (.bin .shr .no) [bv x, .int kd (k : Int)] = some (bv (x >>> k)) := by
 show (if (k : Int) < 0 then none else some (V.int .u32 ((x.toNat : Int).fdiv (2 ^ (min (k : Int).toNat IntKind.u32.bits))))) = _
 have : min (k : Int).toNat IntKind.u32.bits = k := by show min _ 32 = k; omega
 rw [if_neg (by omega), this]
 unfold bv
 rw [BitVec.toNat_ushiftRight, Nat.shiftRight_eq_div_pow]
 congr 2
 rw [Xdb _ (Int.le_of_lt (Int.pow_pos (by decide)))]
 simp
def bw (b : UInt8) : W32 := BitVec.ofNat 32 b.toNat
theorem Zyi (b : UInt8) : evp (.i2i .u32) [byteV b] = some (bv (bw b)) := by
 show some (V.int .u32 (IntKind.u32.wrap (b.toNat : Int))) = _
 rw [Zpo]
 unfold bv bw
 rw [BitVec.toNat_ofNat]
 congr 2
def wb (x : W32) : UInt8 := UInt8.ofNat x.toNat
theorem Zpu (x : W32) : evp (.i2i .u8) [bv x] = some (byteV (wb x)) := by
 show some (V.int .u8 (IntKind.u8.wrap (x.toNat : Int))) = _
 rw [Z4m]
 unfold byteV wb
 congr 2
def Zdh (x : W32) (k : Nat) : W32 := (x >>> k) ||| (x <<< (32 - k))
variable {e : Ev}
theorem v.turn (x : W32) (k : Nat) (hk : k <= 32) : vl e 101 0 [bv x, .int .u64 (k : Int)] = some (bv (Zdh x k)) := by
 have e1 : IntKind.u64.wrap (32 - (k : Int)) = ((32 - k : Nat) : Int) := by rw [Zfa]; omega
 rw [w.zq48]; unfold y.zq48
 simp only [yy, Znh x k .u64 hk, e1, Znb x (32 - k) .u64 (by omega), b_or]; rfl
theorem v.rot (x : W32) (k : Nat) (hk : k <= 32) (h1 : 1 <= k) (hw : evp (.bin .and .no) [.int .u64 (IntKind.u64.wrap (-(k : Int))), .int .u64 31] = some (.int .u64 ((32 - k : Nat) : Int))) : vl e 108 0 [bv x, .int .i64 (-(k : Int))] = some (bv (Zdh x k)) := by
 have e0 : evp (.i2i .u64) [.int .i64 (-(k : Int))] = some (.int .u64 (IntKind.u64.wrap (-(k : Int)))) := rfl
 have e1 : IntKind.u64.wrap (32 - ((32 - k : Nat) : Int)) = (k : Int) := by rw [Zfa]; omega
 rw [w.zq9]; unfold y.zq9
 simp only [yy, e0, hw, Znb x (32 - k) .u64 (by omega), e1, Znh x k .u64 hk, b_or]
 unfold Zdh
 rw [BitVec.or_comm]
def Zmr (x : W32) (i j k : Nat) : W32 := (Zdh x i ^^^ Zdh x j) ^^^ Zdh x k
theorem v.three (x : W32) (i j k : Nat) (hi : i <= 32) (hj : j <= 32) (hk : k <= 32) : vl e 102 0 [bv x, .int .u64 (i : Int), .int .u64 (j : Int), .int .u64 (k : Int)] = some (bv (Zmr x i j k)) := by
 rw [w.zq47]; unfold y.zq47
 simp only [yy, v.turn x i hi, v.turn x j hj, v.turn x k hk, b_xor]; rfl
abbrev wl (l : List W32) : V := .agg (l.map bv)
abbrev bl (l : Bytes) : V := .agg (l.map byteV)
theorem Zfg {m : Nat} {k : IntKind} {i : Int} (h0 : 0 <= i) (h : i < m) : evp (.chk m) [.int k i] = some (.int k i) := by
 show vChk m (.int k i) = _
 exact if_pos ⟨h0, h⟩
theorem Zr9 {l : List W32} {k : IntKind} {i : Nat} (h : i < l.length) : evp (.ldd none 0 1) [wl l, .int k (i : Int)] = some (bv l[i]) := by
 show (l.map bv)[0 + (i : Int).toNat * 1]? = _
 rw [Xan, Xcu, Xbw, Xbp, Xad h]; rfl
theorem Zu0 {l : List W32} {k : IntKind} {i : Nat} {x : W32} (h : i < l.length) : evp (.std 1 0 1) [wl l, .int k (i : Int), bv x] = some (wl (l.set i x)) := by
 show vSet 1 (0 + (i : Int).toNat * 1) (wl l) (bv x) = _
 have hc : (wl l).cells = l.map bv := rfl
 have hb : (bv x).cells = [bv x] := rfl
 unfold vSet
 rw [Xan, Xcu, Xbw, hc, hb, if_pos ⟨rfl, rfl, by simp; omega⟩, wl, List.map_set, Xcw, if_pos (by simpa using h)]
 simp [Zat]
theorem Zkb {l : Bytes} {k : IntKind} {i : Nat} {x : UInt8} (h : i < l.length) : evp (.std 1 0 1) [bl l, .int k (i : Int), byteV x] = some (bl (l.set i x)) := by
 show vSet 1 (0 + (i : Int).toNat * 1) (bl l) (byteV x) = _
 have hc : (bl l).cells = l.map byteV := rfl
 have hb : (byteV x).cells = [byteV x] := rfl
 unfold vSet
 rw [Xan, Xcu, Xbw, hc, hb, if_pos ⟨rfl, rfl, by simp; omega⟩, bl, List.map_set, Xcw, if_pos (by simpa using h)]
 simp [Zat]
end Go.Proofs.YtpmgdngjbdkdfaaGreatDoor
namespace Go.Proofs.YtpmgdngjbdkdfaaGreatDoor
open Go.Abs
set_option maxRecDepth 10000
variable {e : Ev}
def Zvb (b : Bytes) (i : Nat) : W32 := (((bw (b.getD i 0) <<< 24) ||| (bw (b.getD (i + 1) 0) <<< 16)) ||| (bw (b.getD (i + 2) 0) <<< 8)) ||| bw (b.getD (i + 3) 0)
def Zlv (b : Bytes) : Nat -> Nat -> List W32 -> List W32
 | 0, _, ws => ws
 | n + 1, i, ws => Zlv b n (i + 1) (ws.set i (Zvb b (4 * i)))
def sig0 (x : W32) : W32 := (Zdh x 7 ^^^ Zdh x 18) ^^^ (x >>> 3)
def sig1 (x : W32) : W32 := (Zdh x 17 ^^^ Zdh x 19) ^^^ (x >>> 10)
def schW : Nat -> Nat -> List W32 -> List W32
 | 0, _, ws => ws
 | n + 1, i, ws => schW n (i + 1) (ws.set i (((ws.getD (i - 16) 0 + sig0 (ws.getD (i - 15) 0)) + ws.getD (i - 7) 0) + sig1 (ws.getD (i - 2) 0)))
def rndW (K ws : List W32) : Nat -> Nat -> W32 -> W32 -> W32 -> W32 -> W32 -> W32 -> W32 -> W32 -> List W32
 | 0, _, a, b, c, d, e, f, g, h => [a, b, c, d, e, f, g, h]
 | n + 1, i, a, b, c, d, e, f, g, h =>
  let p := (((h + Zmr e 6 11 25) + ((e &&& f) ^^^ (~~~e &&& g))) + K.getD i 0) + ws.getD i 0
  let q := Zmr a 2 13 22 + (((a &&& b) ^^^ (a &&& c)) ^^^ (b &&& c))
  rndW K ws n (i + 1) (p + q) a b c (d + p) e f g
def addW (x : List W32) : Nat -> Nat -> List W32 -> List W32
 | 0, _, st => st
 | n + 1, i, st => addW x n (i + 1) (st.set i (st.getD i 0 + x.getD i 0))
def allW (b : Bytes) : List W32 := schW 48 16 (Zlv b 16 0 (List.replicate 64 0))
def Zdl (K : List W32) (st : List W32) (b : Bytes) : List W32 :=
 addW (rndW K (allW b) 64 0 (st.getD 0 0) (st.getD 1 0) (st.getD 2 0) (st.getD 3 0) (st.getD 4 0) (st.getD 5 0) (st.getD 6 0) (st.getD 7 0)) 8 0 st
theorem Zgn (b : Bytes) : ∀ (n i : Nat) (ws : List W32), (Zlv b n i ws).length = ws.length
 | 0, _, _ => rfl
 | n + 1, i, ws => by rw [Zlv, Zgn b n]; simp
theorem Zp9 : ∀ (n i : Nat) (ws : List W32), (schW n i ws).length = ws.length
 | 0, _, _ => rfl
 | n + 1, i, ws => by rw [schW, Zp9 n]; simp
theorem Zqb (b : Bytes) : (allW b).length = 64 := by rw [allW, Zp9, Zgn]; simp
theorem Zll (x : List W32) : ∀ (n i : Nat) (st : List W32), (addW x n i st).length = st.length
 | 0, _, _ => rfl
 | n + 1, i, st => by rw [addW, Zll x n]; simp
theorem Zcb {α : Type} {l : List α} {d : α} {i : Nat} (h : i < l.length) : l.getD i d = l[i] := by simp [List.getD, h]
theorem v_eb {b : Bytes} {i : Nat} (h : i < b.length) : evp (.elem 1) [.sl false 1 (b.map byteV), .int .i64 (i : Int)] = some (byteV (b.getD i 0)) := Zkm (by simp [List.getD, h])
theorem Z33 {c : UInt8} : evp (.ld none 0) [byteV c] = some (byteV c) := rfl
theorem v.word (b : Bytes) (h : 4 <= b.length) : vl e 107 0 [.sl false 1 (b.map byteV)] = some (bv (Zvb b 0)) := by
 have h0 : evp (.elem 1) [.sl false 1 (b.map byteV), .int .i64 0] = some (byteV (b.getD 0 0)) := v_eb (i := 0) (by omega)
 have h1 : evp (.elem 1) [.sl false 1 (b.map byteV), .int .i64 1] = some (byteV (b.getD 1 0)) := v_eb (i := 1) (by omega)
 have h2 : evp (.elem 1) [.sl false 1 (b.map byteV), .int .i64 2] = some (byteV (b.getD 2 0)) := v_eb (i := 2) (by omega)
 have h3 : evp (.elem 1) [.sl false 1 (b.map byteV), .int .i64 3] = some (byteV (b.getD 3 0)) := v_eb (i := 3) (by omega)
 have s24 : ∀ x : W32, evp (.bin .shl .no) [bv x, .int .u64 24] = some (bv (x <<< 24)) := fun x => Znb x 24 .u64 (by decide)
 have s16 : ∀ x : W32, evp (.bin .shl .no) [bv x, .int .u64 16] = some (bv (x <<< 16)) := fun x => Znb x 16 .u64 (by decide)
 have s8 : ∀ x : W32, evp (.bin .shl .no) [bv x, .int .u64 8] = some (bv (x <<< 8)) := fun x => Znb x 8 .u64 (by decide)
 rw [w.zq64]; unfold y.zq64
 simp only [yy, h0, h1, h2, h3, Z33, Zyi, s24, s16, s8, b_or]; rfl
theorem Zrp (b : Bytes) (i : Nat) : Zvb (b.drop i) 0 = Zvb b i := by
 unfold Zvb
 simp [List.getD, Xce]
theorem Zwc (c : UInt8) : (bw c).toNat < 256 := by
 unfold bw
 rw [BitVec.toNat_ofNat]
 have := c.toNat_lt
 omega
theorem Ztg {x y : W32} (k : Nat) (hx : x.toNat % 2 ^ k = 0) (hy : y.toNat < 2 ^ k) : x + y = x ||| y := by
 refine BitVec.add_eq_or_of_and_eq_zero x y ?_
 apply BitVec.eq_of_toNat_eq
 rw [BitVec.toNat_and]
 obtain ⟨q, hq⟩ : ∃ q, x.toNat = 2 ^ k * q := ⟨x.toNat / 2 ^ k, by have := Nat.div_add_mod x.toNat (2 ^ k); omega⟩
 show x.toNat &&& y.toNat = 0
 rw [hq]
 apply Nat.eq_of_testBit_eq
 intro j
 rw [Nat.testBit_and, Nat.zero_testBit, Nat.testBit_two_pow_mul]
 by_cases hj : k <= j
 ·rw [Nat.testBit_lt_two_pow (Xb1 hy (Nat.pow_le_pow_right (by decide) hj)), Xfj]
 ·rw [decide_eq_false hj]; rfl
theorem Zwm (a b c d : UInt8) : (((bw a <<< 24) + (bw b <<< 16)) + (bw c <<< 8)) + bw d = (((bw a <<< 24) ||| (bw b <<< 16)) ||| (bw c <<< 8)) ||| bw d := by
 have ha := Zwc a; have hb := Zwc b; have hc := Zwc c; have hd := Zwc d
 have e24 : (bw a <<< 24).toNat = (bw a).toNat * 16777216 := by rw [BitVec.toNat_shiftLeft, Xep]; exact Xe8 (by omega)
 have e16 : (bw b <<< 16).toNat = (bw b).toNat * 65536 := by rw [BitVec.toNat_shiftLeft, Xep]; exact Xe8 (by omega)
 have e8 : (bw c <<< 8).toNat = (bw c).toNat * 256 := by rw [BitVec.toNat_shiftLeft, Xep]; exact Xe8 (by omega)
 have h1 : (bw a <<< 24) + (bw b <<< 16) = (bw a <<< 24) ||| (bw b <<< 16) := Ztg 24 (by rw [e24]; omega) (by rw [e16]; omega)
 have t1 : ((bw a <<< 24) + (bw b <<< 16)).toNat = (bw a).toNat * 16777216 + (bw b).toNat * 65536 := by rw [BitVec.toNat_add, e24, e16]; omega
 have h2 : ((bw a <<< 24) + (bw b <<< 16)) + (bw c <<< 8) = ((bw a <<< 24) + (bw b <<< 16)) ||| (bw c <<< 8) := Ztg 16 (by rw [t1]; omega) (by rw [e8]; omega)
 have t2 : (((bw a <<< 24) + (bw b <<< 16)) + (bw c <<< 8)).toNat = (bw a).toNat * 16777216 + (bw b).toNat * 65536 + (bw c).toNat * 256 := by rw [BitVec.toNat_add, t1, e8]; omega
 have h3 : (((bw a <<< 24) + (bw b <<< 16)) + (bw c <<< 8)) + bw d = (((bw a <<< 24) + (bw b <<< 16)) + (bw c <<< 8)) ||| bw d := Ztg 8 (by rw [t2]; omega) (by omega)
 rw [h3, h2, h1]
theorem Z00 {b : Bytes} (hb : b.length = 64) {i : Nat} (hi : i < 64) : evp (.snapd 0 64) [bl b, .int .i64 (i : Int)] = some (.sl false 1 ((b.drop i).map byteV)) := by
 refine (if_pos (show 0 <= (i : Int) /\ (i : Int) < (64 : Nat) /\ 0 + 64 <= (bl b).cells.length from ⟨by omega, by omega, by show _ <= (b.map byteV).length; simp; omega⟩)).trans ?_
 show some (V.sl false 1 (((b.map byteV).drop (0 + (i : Int).toNat)).take (64 - (i : Int).toNat))) = _
 rw [Xan, Xbw, Xe6, Xax (by simp; omega)]
theorem Z6q {x : W32} : evp .flr [bv x] = some (bv x) := rfl
theorem mul4 {i : Nat} (h : i < 64) : IntKind.i64.wrap (4 * (i : Int)) = ((4 * i : Nat) : Int) := by rw [w64 _ (by omega)]; omega
theorem v.load (st : V) (b : Bytes) (hb : b.length = 64) : ∀ (n i : Nat) (ws : List W32), i + n = 16 -> ws.length = 64 ->
  vl e 11456 8 [I i, st, bl b, wl ws] = vl e 11456 25 [I 16, st, bl b, wl (Zlv b n i ws)]
 | 0, i, ws, hi, hw => by
  rw [w.zq29_h0_8]; unfold y.zq29_h0_8
  simp only [yy, if_neg (show ¬((i : Int) < 16) by omega)]; rfl
 | n + 1, i, ws, hi, hw => by
  have hd := v.word (e := e) (b.drop (4 * i)) (by simp; omega)
  rw [Zrp] at hd
  rw [w.zq29_h0_8]; unfold y.zq29_h0_8
  simp only [yy, if_pos (show (i : Int) < 16 by omega), Zjm, mul4 (show i < 64 by omega), Zfg (m := 64) (k := .i64) (i := ((4 * i : Nat) : Int)) (by omega) (by omega), Z00 hb (show 4 * i < 64 by omega), hd, Z6q, Zfg (m := 64) (k := .i64) (i := (i : Int)) (by omega) (by omega), Zu0 (show i < ws.length by omega), Zam (show i < 64 by omega) (by decide)]
  exact v.load st b hb n (i + 1) _ (by omega) (by simpa using hw)
theorem v.nload (st K z : V) (b : Bytes) (hb : b.length = 64) : ∀ (n i : Nat) (ws : List W32), i + n = 16 -> ws.length = 64 ->
  vl e 84 10 [.sl false 1 (b.map byteV), I i, st, K, z, wl ws] = vl e 84 25 [I 16, st, K, z, wl (Zlv b n i ws)]
 | 0, i, ws, hi, hw => by
  rw [w.zq43_10]; unfold y.zq43_10
  simp only [yy, if_neg (show ¬((i : Int) < 16) by omega)]; rfl
 | n + 1, i, ws, hi, hw => by
  have s24 : ∀ x : W32, evp (.bin .shl .no) [bv x, .int .u64 24] = some (bv (x <<< 24)) := fun x => Znb x 24 .u64 (by decide)
  have s16 : ∀ x : W32, evp (.bin .shl .no) [bv x, .int .u64 16] = some (bv (x <<< 16)) := fun x => Znb x 16 .u64 (by decide)
  have s8 : ∀ x : W32, evp (.bin .shl .no) [bv x, .int .u64 8] = some (bv (x <<< 8)) := fun x => Znb x 8 .u64 (by decide)
  have e1 : IntKind.i64.wrap (((4 * i : Nat) : Int) + 1) = ((4 * i + 1 : Nat) : Int) := by rw [w64 _ (by omega)]; omega
  have e2 : IntKind.i64.wrap (((4 * i : Nat) : Int) + 2) = ((4 * i + 2 : Nat) : Int) := by rw [w64 _ (by omega)]; omega
  have e3 : IntKind.i64.wrap (((4 * i : Nat) : Int) + 3) = ((4 * i + 3 : Nat) : Int) := by rw [w64 _ (by omega)]; omega
  rw [w.zq43_10]; unfold y.zq43_10
  simp only [yy, if_pos (show (i : Int) < 16 by omega), Zjm, mul4 (show i < 64 by omega), e1, e2, e3, v_eb (show 4 * i < b.length by omega), v_eb (show 4 * i + 1 < b.length by omega), v_eb (show 4 * i + 2 < b.length by omega), v_eb (show 4 * i + 3 < b.length by omega), Z33, Zyi, s24, s16, s8, b_add, Zwm,
   Zfg (m := 64) (k := .i64) (i := (i : Int)) (by omega) (by omega), Zu0 (show i < ws.length by omega), Zam (show i < 64 by omega) (by decide)]
  exact v.nload st K z b hb n (i + 1) _ (by omega) (by simpa using hw)
theorem Zn6 {l : List W32} {i j : Nat} {x : Int} (hj : IntKind.i64.wrap x = (j : Int)) (h : j < 64) (hl : l.length = 64) : evp (.chk 64) [.int .i64 (IntKind.i64.wrap x)] = some (.int .i64 (j : Int)) /\ evp (.ldd none 0 1) [wl l, .int .i64 (j : Int)] = some (bv (l.getD j 0)) := by
 rw [hj]
 exact ⟨Zfg (by omega) (by omega), by rw [Zr9 (by omega), Zcb (by omega)]⟩
theorem Zhg {i k : Nat} (h : k <= i) (hi : i < 1000) : IntKind.i64.wrap ((i : Int) - (k : Int)) = ((i - k : Nat) : Int) := by rw [w64 _ (by omega)]; omega
theorem v.sched (a0 a1 a2 a3 a4 a5 a6 a7 : W32) (b : V) : ∀ (n i : Nat) (ws : List W32), i + n = 64 -> 16 <= i -> ws.length = 64 ->
  vl e 11456 25 [I i, wl [a0, a1, a2, a3, a4, a5, a6, a7], b, wl ws] = vl e 11456 48 [bv a0, bv a1, bv a2, bv a3, bv a4, bv a5, bv a6, bv a7, wl (schW n i ws), I 0, wl [a0, a1, a2, a3, a4, a5, a6, a7], b]
 | 0, i, ws, hi, _, hw => by
  have l : ∀ k x, ([a0, a1, a2, a3, a4, a5, a6, a7].map bv)[k]? = some x -> evp (.ld none k) [wl [a0, a1, a2, a3, a4, a5, a6, a7]] = some x := fun k x h => h
  rw [w.zq29_h0_25]; unfold y.zq29_h0_25
  simp only [yy, if_neg (show ¬((i : Int) < 64) by omega), l 0 _ rfl, l 1 _ rfl, l 2 _ rfl, l 3 _ rfl, l 4 _ rfl, l 5 _ rfl, l 6 _ rfl, l 7 _ rfl]; rfl
 | n + 1, i, ws, hi, h16, hw => by
  obtain ⟨c15, l15⟩ := Zn6 (l := ws) (i := i) (j := i - 15) (x := (i : Int) - 15) (Zhg (k := 15) (by omega) (by omega)) (by omega) hw
  obtain ⟨c2, l2⟩ := Zn6 (l := ws) (i := i) (j := i - 2) (x := (i : Int) - 2) (Zhg (k := 2) (by omega) (by omega)) (by omega) hw
  obtain ⟨c16, l16⟩ := Zn6 (l := ws) (i := i) (j := i - 16) (x := (i : Int) - 16) (Zhg (k := 16) (by omega) (by omega)) (by omega) hw
  obtain ⟨c7, l7⟩ := Zn6 (l := ws) (i := i) (j := i - 7) (x := (i : Int) - 7) (Zhg (k := 7) (by omega) (by omega)) (by omega) hw
  have r7 : ∀ x : W32, vl e 108 0 [bv x, .int .i64 (-7)] = some (bv (Zdh x 7)) := fun x => v.rot x 7 (by decide) (by decide) rfl
  have r18 : ∀ x : W32, vl e 108 0 [bv x, .int .i64 (-18)] = some (bv (Zdh x 18)) := fun x => v.rot x 18 (by decide) (by decide) rfl
  have r17 : ∀ x : W32, vl e 108 0 [bv x, .int .i64 (-17)] = some (bv (Zdh x 17)) := fun x => v.rot x 17 (by decide) (by decide) rfl
  have r19 : ∀ x : W32, vl e 108 0 [bv x, .int .i64 (-19)] = some (bv (Zdh x 19)) := fun x => v.rot x 19 (by decide) (by decide) rfl
  have s3 : ∀ x : W32, evp (.bin .shr .no) [bv x, .int .u64 3] = some (bv (x >>> 3)) := fun x => Znh x 3 .u64 (by decide)
  have s10 : ∀ x : W32, evp (.bin .shr .no) [bv x, .int .u64 10] = some (bv (x >>> 10)) := fun x => Znh x 10 .u64 (by decide)
  rw [w.zq29_h0_25]; unfold y.zq29_h0_25
  simp only [yy, if_pos (show (i : Int) < 64 by omega), c15, l15, c2, l2, c16, l16, c7, l7, r7, r18, r17, r19, s3, s10, b_xor, b_add, Zfg (m := 64) (k := .i64) (i := (i : Int)) (by omega) (by omega), Zu0 (show i < ws.length by omega), Zam (show i < 64 by omega) (by decide)]
  exact v.sched a0 a1 a2 a3 a4 a5 a6 a7 b n (i + 1) _ (by omega) (by omega) (by simpa using hw)
theorem v.nsched (a0 a1 a2 a3 a4 a5 a6 a7 : W32) (K z : V) : ∀ (n i : Nat) (ws : List W32), i + n = 64 -> 16 <= i -> ws.length = 64 ->
  vl e 84 25 [I i, wl [a0, a1, a2, a3, a4, a5, a6, a7], K, z, wl ws] = vl e 84 48 [bv a0, bv a1, bv a2, bv a3, bv a4, bv a5, bv a6, bv a7, I 0, wl [a0, a1, a2, a3, a4, a5, a6, a7], K, z, wl (schW n i ws)]
 | 0, i, ws, hi, _, hw => by
  have l : ∀ k x, ([a0, a1, a2, a3, a4, a5, a6, a7].map bv)[k]? = some x -> evp (.ld none k) [wl [a0, a1, a2, a3, a4, a5, a6, a7]] = some x := fun k x h => h
  rw [w.zq43_25]; unfold y.zq43_25
  simp only [yy, if_neg (show ¬((i : Int) < 64) by omega), l 0 _ rfl, l 1 _ rfl, l 2 _ rfl, l 3 _ rfl, l 4 _ rfl, l 5 _ rfl, l 6 _ rfl, l 7 _ rfl]; rfl
 | n + 1, i, ws, hi, h16, hw => by
  obtain ⟨c15, l15⟩ := Zn6 (l := ws) (i := i) (j := i - 15) (x := (i : Int) - 15) (Zhg (k := 15) (by omega) (by omega)) (by omega) hw
  obtain ⟨c2, l2⟩ := Zn6 (l := ws) (i := i) (j := i - 2) (x := (i : Int) - 2) (Zhg (k := 2) (by omega) (by omega)) (by omega) hw
  obtain ⟨c16, l16⟩ := Zn6 (l := ws) (i := i) (j := i - 16) (x := (i : Int) - 16) (Zhg (k := 16) (by omega) (by omega)) (by omega) hw
  obtain ⟨c7, l7⟩ := Zn6 (l := ws) (i := i) (j := i - 7) (x := (i : Int) - 7) (Zhg (k := 7) (by omega) (by omega)) (by omega) hw
  have r7 : ∀ x : W32, vl e 101 0 [bv x, .int .u64 7] = some (bv (Zdh x 7)) := fun x => v.turn x 7 (by decide)
  have r18 : ∀ x : W32, vl e 101 0 [bv x, .int .u64 18] = some (bv (Zdh x 18)) := fun x => v.turn x 18 (by decide)
  have r17 : ∀ x : W32, vl e 101 0 [bv x, .int .u64 17] = some (bv (Zdh x 17)) := fun x => v.turn x 17 (by decide)
  have r19 : ∀ x : W32, vl e 101 0 [bv x, .int .u64 19] = some (bv (Zdh x 19)) := fun x => v.turn x 19 (by decide)
  have s3 : ∀ x : W32, evp (.bin .shr .no) [bv x, .int .u64 3] = some (bv (x >>> 3)) := fun x => Znh x 3 .u64 (by decide)
  have s10 : ∀ x : W32, evp (.bin .shr .no) [bv x, .int .u64 10] = some (bv (x >>> 10)) := fun x => Znh x 10 .u64 (by decide)
  rw [w.zq43_25]; unfold y.zq43_25
  simp only [yy, if_pos (show (i : Int) < 64 by omega), c15, l15, c2, l2, c16, l16, c7, l7, r7, r18, r17, r19, s3, s10, b_xor, b_add, Zfg (m := 64) (k := .i64) (i := (i : Int)) (by omega) (by omega), Zu0 (show i < ws.length by omega), Zam (show i < 64 by omega) (by decide)]
  exact v.nsched a0 a1 a2 a3 a4 a5 a6 a7 K z n (i + 1) _ (by omega) (by omega) (by simpa using hw)
end Go.Proofs.YtpmgdngjbdkdfaaGreatDoor
namespace Go.Proofs.YtpmgdngjbdkdfaaGreatDoor
open Go.Abs
set_option maxRecDepth 10000
variable {e : Ev}
def KT : List W32 := [1116352408, 1899447441, 3049323471, 3921009573, 961987163, 1508970993, 2453635748, 2870763221, 3624381080, 310598401, 607225278, 1426881987, 1925078388, 2162078206, 2614888103, 3248222580, 3835390401, 4022224774, 264347078, 604807628, 770255983, 1249150122, 1555081692, 1996064986, 2554220882, 2821834349, 2952996808, 3210313671, 3336571891, 3584528711, 113926993, 338241895, 666307205, 773529912, 1294757372, 1396182291, 1695183700, 1986661051, 2177026350, 2456956037, 2730485921, 2820302411, 3259730800, 3345764771, 3516065817, 3600352804, 4094571909, 275423344, 430227734, 506948616, 659060556, 883997877, 958139571, 1322822218, 1537002063, 1747873779, 1955562222, 2024104815, 2227730452, 2361852424, 2428436474, 2756734187, 3204031479, 3329325298]
theorem Z71 : tb0 = KT.map bv := rfl
theorem Zn7 : KT.length = 64 := rfl
theorem Z6p {k : IntKind} {i : Nat} (h : i < 64) : evp (.ldd none 0 1) [.agg tb0, .int k (i : Int)] = some (bv (KT.getD i 0)) := by
 rw [Z71, Zcb (by rw [Zn7]; exact h)]; exact Zr9 (by rw [Zn7]; exact h)
theorem Zus {m : Nat} {l : List W32} {i : Nat} (h : i < l.length) (hm : i < m) : evp (.idxa m 1 none) [wl l, .int .i64 (i : Int)] = some (bv (l.getD i 0)) := by
 show (if 0 <= (i : Int) /\ (i : Int) < (m : Int) then (l.map bv)[(i : Int).toNat * 1]? else none) = _
 rw [if_pos ⟨by omega, by omega⟩, Xcu, Xbw, Xbp, Xad h, Zcb h]; rfl
theorem v.rounds (st b : V) (ws : List W32) (hw : ws.length = 64) : ∀ (n i : Nat) (a b1 c d e1 f g h : W32), i + n = 64 ->
  vl e 11456 48 [bv a, bv b1, bv c, bv d, bv e1, bv f, bv g, bv h, wl ws, I i, st, b] = vl e 11456 72 [wl (rndW KT ws n i a b1 c d e1 f g h), I 0, st, b]
 | 0, i, a, b1, c, d, e1, f, g, h, hi => by
  have hc : evp (.cat [none, none, none, none, none, none, none, none]) [bv a, bv b1, bv c, bv d, bv e1, bv f, bv g, bv h] = some (wl [a, b1, c, d, e1, f, g, h]) := rfl
  rw [w.zq29_h0_48]; unfold y.zq29_h0_48
  simp only [yy, if_neg (show ¬((i : Int) < 64) by omega), hc]; rfl
 | n + 1, i, a, b1, c, d, e1, f, g, h, hi => by
  have r (k : Nat) (hk : k <= 32) (h1 : 1 <= k) (hq : evp (.bin .and .no) [.int .u64 (IntKind.u64.wrap (-(k : Int))), .int .u64 31] = some (.int .u64 ((32 - k : Nat) : Int))) (x : W32) := v.rot (e := e) x k hk h1 hq
  have r6 : ∀ x : W32, vl e 108 0 [bv x, .int .i64 (-6)] = some (bv (Zdh x 6)) := r 6 (by decide) (by decide) rfl
  have r11 : ∀ x : W32, vl e 108 0 [bv x, .int .i64 (-11)] = some (bv (Zdh x 11)) := r 11 (by decide) (by decide) rfl
  have r25 : ∀ x : W32, vl e 108 0 [bv x, .int .i64 (-25)] = some (bv (Zdh x 25)) := r 25 (by decide) (by decide) rfl
  have r2 : ∀ x : W32, vl e 108 0 [bv x, .int .i64 (-2)] = some (bv (Zdh x 2)) := r 2 (by decide) (by decide) rfl
  have r13 : ∀ x : W32, vl e 108 0 [bv x, .int .i64 (-13)] = some (bv (Zdh x 13)) := r 13 (by decide) (by decide) rfl
  have r22 : ∀ x : W32, vl e 108 0 [bv x, .int .i64 (-22)] = some (bv (Zdh x 22)) := r 22 (by decide) (by decide) rfl
  rw [w.zq29_h0_48]; unfold y.zq29_h0_48
  simp only [yy, if_pos (show (i : Int) < 64 by omega), Zus (m := 64) (l := ws) (i := i) (by omega) (by omega), r6, r11, r25, b_xor, b_add, b_and, Z2i, Zfg (m := 64) (k := .i64) (i := (i : Int)) (by omega) (by omega)]
  refine Zt4 (Z6p (show i < 64 by omega)) ?_
  simp only [yy, b_add, r2, r13, r22, b_xor, b_and, Zam (show i < 64 by omega) (by decide)]
  exact v.rounds st b ws hw n (i + 1) _ _ _ _ _ _ _ _ (by omega)
theorem v.nrounds (st z : V) (ws : List W32) (hw : ws.length = 64) (a0 a1 a2 a3 a4 a5 a6 a7 : W32) : ∀ (n i : Nat) (a b1 c d e1 f g h : W32), i + n = 64 ->
  vl e 84 48 [bv a, bv b1, bv c, bv d, bv e1, bv f, bv g, bv h, I i, wl [a0, a1, a2, a3, a4, a5, a6, a7], wl KT, z, wl ws] = some (wl (addW (rndW KT ws n i a b1 c d e1 f g h) 8 0 [a0, a1, a2, a3, a4, a5, a6, a7]))
 | 0, i, a, b1, c, d, e1, f, g, h, hi => by
  have l : ∀ k x, ([a0, a1, a2, a3, a4, a5, a6, a7].map bv)[k]? = some x -> evp (.ld none k) [wl [a0, a1, a2, a3, a4, a5, a6, a7]] = some x := fun k x h => h
  have hc : ∀ x0 x1 x2 x3 x4 x5 x6 x7 : W32, evp (.cat [none, none, none, none, none, none, none, none]) [bv x0, bv x1, bv x2, bv x3, bv x4, bv x5, bv x6, bv x7] = some (wl [x0, x1, x2, x3, x4, x5, x6, x7]) := fun _ _ _ _ _ _ _ _ => rfl
  rw [w.zq43_48]; unfold y.zq43_48
  simp only [yy, if_neg (show ¬((i : Int) < 64) by omega), l 0 _ rfl, l 1 _ rfl, l 2 _ rfl, l 3 _ rfl, l 4 _ rfl, l 5 _ rfl, l 6 _ rfl, l 7 _ rfl, b_add, hc]; rfl
 | n + 1, i, a, b1, c, d, e1, f, g, h, hi => by
  have t6 : ∀ x : W32, vl e 102 0 [bv x, .int .u64 6, .int .u64 11, .int .u64 25] = some (bv (Zmr x 6 11 25)) := fun x => v.three x 6 11 25 (by decide) (by decide) (by decide)
  have t2 : ∀ x : W32, vl e 102 0 [bv x, .int .u64 2, .int .u64 13, .int .u64 22] = some (bv (Zmr x 2 13 22)) := fun x => v.three x 2 13 22 (by decide) (by decide) (by decide)
  have lk : evp (.ldd none 0 1) [wl KT, .int .i64 (i : Int)] = some (bv (KT.getD i 0)) := by rw [Zr9 (by rw [Zn7]; omega), Zcb (by rw [Zn7]; omega)]
  have lw : evp (.ldd none 0 1) [wl ws, .int .i64 (i : Int)] = some (bv (ws.getD i 0)) := by rw [Zr9 (by omega), Zcb (by omega)]
  rw [w.zq43_48]; unfold y.zq43_48
  simp only [yy, if_pos (show (i : Int) < 64 by omega), t6, t2, b_xor, b_add, b_and, Z2i, Zfg (m := 64) (k := .i64) (i := (i : Int)) (by omega) (by omega), lk, lw, Zam (show i < 64 by omega) (by decide)]
  exact v.nrounds st z ws hw a0 a1 a2 a3 a4 a5 a6 a7 n (i + 1) _ _ _ _ _ _ _ _ (by omega)
theorem v.addR (b : V) (x : List W32) (hx : x.length = 8) : ∀ (n i : Nat) (st : List W32), i + n = 8 -> st.length = 8 ->
  vl e 11456 72 [wl x, I i, wl st, b] = some (.tup [wl (addW x n i st), b])
 | 0, i, st, hi, hs => by
  rw [w.zq29_h0_72]; unfold y.zq29_h0_72
  simp only [yy, if_neg (show ¬((i : Int) < 8) by omega)]; rfl
 | n + 1, i, st, hi, hs => by
  have lw : evp (.ldd none 0 1) [wl st, .int .i64 (i : Int)] = some (bv (st.getD i 0)) := by rw [Zr9 (by omega), Zcb (by omega)]
  rw [w.zq29_h0_72]; unfold y.zq29_h0_72
  simp only [yy, if_pos (show (i : Int) < 8 by omega), Zus (m := 8) (l := x) (i := i) (by omega) (by omega), Zfg (m := 8) (k := .i64) (i := (i : Int)) (by omega) (by omega), lw, b_add, Zu0 (show i < st.length by omega), Zam (show i < 8 by omega) (by decide)]
  exact v.addR b x hx n (i + 1) _ (by omega) (by simpa using hs)
theorem Zqw (K ws : List W32) : ∀ (n i : Nat) (a b c d e f g h : W32), (rndW K ws n i a b c d e f g h).length = 8
 | 0, _, _, _, _, _, _, _, _, _ => rfl
 | n + 1, i, a, b, c, d, e, f, g, h => Zqw K ws n (i + 1) _ _ _ _ _ _ _ _
theorem Z2h {l : List W32} (h : l.length = 8) : ∃ a b c d e f g h, l = [a, b, c, d, e, f, g, h] := by
 match l, h with
 | [a, b, c, d, e, f, g, h], _ => exact ⟨a, b, c, d, e, f, g, h, rfl⟩
theorem v.block (st : List W32) (hs : st.length = 8) (b : Bytes) (hb : b.length = 64) : vl e 11456 1 [wl st, bl b] = some (.tup [wl (Zdl KT st b), bl b]) := by
 obtain ⟨a0, a1, a2, a3, a4, a5, a6, a7, rfl⟩ := Z2h hs
 rw [w.zq29_h0]; unfold y.zq29_h0
 have hz : V.agg (repl 64 (.int .u32 0)) = wl (List.replicate 64 0) := rfl
 rw [hz]
 have h1 := v.load (e := e) (wl [a0, a1, a2, a3, a4, a5, a6, a7]) b hb 16 0 (List.replicate 64 0) (by decide) (by simp)
 have h2 := v.sched (e := e) a0 a1 a2 a3 a4 a5 a6 a7 (bl b) 48 16 (Zlv b 16 0 (List.replicate 64 0)) (by decide) (by decide) (by rw [Zgn]; simp)
 have h3 := v.rounds (e := e) (wl [a0, a1, a2, a3, a4, a5, a6, a7]) (bl b) (allW b) (Zqb b) 64 0 a0 a1 a2 a3 a4 a5 a6 a7 (by decide)
 have h4 := v.addR (e := e) (bl b) (rndW KT (allW b) 64 0 a0 a1 a2 a3 a4 a5 a6 a7) (Zqw ..) 8 0 [a0, a1, a2, a3, a4, a5, a6, a7] (by decide) rfl
 exact h1.trans (h2.trans (h3.trans h4))
theorem v.Next (st : List W32) (hs : st.length = 8) (b : Bytes) (hb : b.length = 64) : vl e 84 0 [wl st, .sl false 1 (b.map byteV), wl KT] = some (wl (Zdl KT st b)) := by
 obtain ⟨a0, a1, a2, a3, a4, a5, a6, a7, rfl⟩ := Z2h hs
 rw [w.zq43]; unfold y.zq43
 have hz : V.agg (repl 64 (.int .u32 0)) = wl (List.replicate 64 0) := rfl
 have hz8 : V.agg [.int .u32 0, .int .u32 0, .int .u32 0, .int .u32 0, .int .u32 0, .int .u32 0, .int .u32 0, .int .u32 0] = wl (List.replicate 8 0) := rfl
 have hsc : ∀ l : List W32, evp .scs [wl l] = some (wl l) := fun l => if_pos (by
  rw [Xao]; intro c hc
  obtain ⟨x, _, rfl⟩ := Xba.1 (show c ∈ l.map bv from hc); rfl)
 rw [hz]
 simp only [yy, hsc]
 have h1 := v.nload (e := e) (wl [a0, a1, a2, a3, a4, a5, a6, a7]) (wl KT) (wl (List.replicate 8 0)) b hb 16 0 (List.replicate 64 0) (by decide) (by simp)
 have h2 := v.nsched (e := e) a0 a1 a2 a3 a4 a5 a6 a7 (wl KT) (wl (List.replicate 8 0)) 48 16 (Zlv b 16 0 (List.replicate 64 0)) (by decide) (by decide) (by rw [Zgn]; simp)
 have h3 := v.nrounds (e := e) (wl [a0, a1, a2, a3, a4, a5, a6, a7]) (wl (List.replicate 8 0)) (allW b) (Zqb b) a0 a1 a2 a3 a4 a5 a6 a7 64 0 a0 a1 a2 a3 a4 a5 a6 a7 (by decide)
 exact h1.trans (h2.trans h3)
theorem v.Numbers : vl e 83 0 [] = some (wl KT) := by
 rw [w.zq44]; rfl
end Go.Proofs.YtpmgdngjbdkdfaaGreatDoor
namespace Go.Proofs.YtpmgdngjbdkdfaaGreatDoor
open Go.Abs
set_option maxRecDepth 10000
variable {e : Ev}
theorem Zqf (b : Bytes) : encB b = b.map byteV := rfl
theorem fill {α : Type} {F Z : List α} {i : Nat} (hi : i < F.length) (hl : F.length = Z.length) : (F.take i ++ Z.drop i).set i F[i] = F.take (i + 1) ++ Z.drop (i + 1) := by
 have hz : Z.drop i = Z[i]'(by omega) :: Z.drop (i + 1) := Xal (by omega)
 have ht : F.take (i + 1) = F.take i ++ [F[i]] := by simp
 have hlt : (F.take i).length = i := by simp; omega
 rw [ht, hz, Xck _ _ (by omega), hlt, Xe9, List.set_cons_zero, Xaj]; rfl
theorem Zhx {α : Type} {F Z : List α} {i : Nat} (hi : i <= F.length) (hl : F.length = Z.length) : (F.take i ++ Z.drop i).length = F.length := by simp; omega
def outB (st : List W32) : Bytes := (List.range 32).map fun i => wb ((st.getD (i / 4) 0) >>> (24 - 8 * (i % 4)))
theorem Zgu (st : List W32) : (outB st).length = 32 := by simp [outB]
theorem Zrf (st : List W32) {i : Nat} (h : i < (outB st).length) : (outB st)[i] = wb ((st.getD (i / 4) 0) >>> (24 - 8 * (i % 4))) := by simp [outB]
theorem Zbc {o : Bytes} (h : o.length = 32) : evp (.cat [some 32]) [bl o] = some (bl o) := by
 show (catV [some 32] [bl o]).map V.agg = _
 have hc : (bl o).cells.length = 32 /\ (bl o).cells.all V.sc = true := ⟨by show (o.map byteV).length = 32; simpa using h, by
  rw [Xao]; intro c hc
  obtain ⟨x, _, rfl⟩ := Xba.1 (show c ∈ o.map byteV from hc); rfl⟩
 show ((if (bl o).cells.length = 32 /\ (bl o).cells.all V.sc = true then (catV [] []).map ((bl o).cells ++ ·) else none)).map V.agg = _
 rw [if_pos hc]
 show some (V.agg ((bl o).cells ++ [])) = _
 rw [Xat]; rfl
theorem Z2e : V.agg (repl 32 (.int .u8 0)) = bl (List.replicate 32 0) := rfl
theorem v.out (z : V) (st : List W32) (hs : st.length = 8) : ∀ (n i : Nat), i + n = 32 ->
  vl e 70 64 [I i, z, wl st, bl ((outB st).take i ++ (List.replicate 32 0).drop i)] = some (bl (outB st))
 | 0, i, hi => by
  have hl := Zgu st
  rw [Xax (by omega), Xap (by simp; omega), Xat]
  rw [w.zq62_64]; unfold y.zq62_64
  simp only [yy, if_neg (show ¬((i : Int) < 32) by omega), Zbc hl]
 | n + 1, i, hi => by
  have hl := Zgu st
  have hq : evp (.bin .quo .no) [.int .i64 (i : Int), .int .i64 4] = some (.int .i64 ((i / 4 : Nat) : Int)) := Z0u (k := 4) (by decide) (by omega)
  have hr : evp (.bin .rem .no) [.int .i64 (i : Int), .int .i64 4] = some (.int .i64 ((i % 4 : Nat) : Int)) := Zxm (k := 4) (by decide)
  have e1 : IntKind.i64.wrap (8 * ((i % 4 : Nat) : Int)) = ((8 * (i % 4) : Nat) : Int) := by rw [w64 _ (by omega)]; omega
  have e2 : IntKind.i64.wrap (24 - ((8 * (i % 4) : Nat) : Int)) = ((24 - 8 * (i % 4) : Nat) : Int) := by rw [w64 _ (by omega)]; omega
  have lw : evp (.ldd none 0 1) [wl st, .int .i64 ((i / 4 : Nat) : Int)] = some (bv (st.getD (i / 4) 0)) := by rw [Zr9 (by omega), Zcb (by omega)]
  have hset : ((outB st).take i ++ (List.replicate 32 0).drop i).set i (wb ((st.getD (i / 4) 0) >>> (24 - 8 * (i % 4)))) = (outB st).take (i + 1) ++ (List.replicate 32 0).drop (i + 1) := by
   rw [<- Zrf st (by omega)]; exact fill (by omega) (by simpa using hl)
  have hst := Zkb (k := .i64) (l := (outB st).take i ++ (List.replicate 32 0).drop i) (i := i) (x := wb ((st.getD (i / 4) 0) >>> (24 - 8 * (i % 4)))) (by rw [Zhx (by omega) (by simpa using hl)]; omega)
  rw [hset] at hst
  rw [w.zq62_64]; unfold y.zq62_64
  simp only [yy, if_pos (show (i : Int) < 32 by omega), hq, Zfg (m := 8) (k := .i64) (i := ((i / 4 : Nat) : Int)) (by omega) (by omega), lw, hr, Zjm, e1, e2, Znh (st.getD (i / 4) 0) (24 - 8 * (i % 4)) .i64 (by omega), Zpu, Zfg (m := 32) (k := .i64) (i := (i : Int)) (by omega) (by omega), hst, Zam (show i < 64 by omega) (by decide)]
  exact v.out z st hs n (i + 1) (by omega)
theorem v.nout45 (st : List W32) (hs : st.length = 8) (i : Nat) (hi : i < 8) : ∀ (n j : Nat), j + n = 4 ->
  vl e 62 45 [I i, bv (st.getD i 0), I j, wl st, I i, V.agg (repl 32 (.int .u8 0)), bl ((outB st).take (4 * i + j) ++ (List.replicate 32 0).drop (4 * i + j))] =
   vl e 62 31 [wl st, I ((i + 1 : Nat) : Int), V.agg (repl 32 (.int .u8 0)), bl ((outB st).take (4 * (i + 1)) ++ (List.replicate 32 0).drop (4 * (i + 1)))]
 | 0, j, hj => by
  rw [w.zq45_45]; unfold y.zq45_45
  have : 4 * i + j = 4 * (i + 1) := by omega
  rw [this]
  simp only [yy, if_neg (show ¬((j : Int) < 4) by omega), Zam (show i < 64 by omega) (by decide)]
 | n + 1, j, hj => by
  have hl := Zgu st
  have e0 : IntKind.i64.wrap (4 * (i : Int)) = ((4 * i : Nat) : Int) := mul4 (by omega)
  have e1 : IntKind.i64.wrap (((4 * i : Nat) : Int) + (j : Int)) = ((4 * i + j : Nat) : Int) := by rw [w64 _ (by omega)]; omega
  have e2 : IntKind.i64.wrap (8 * (j : Int)) = ((8 * j : Nat) : Int) := by rw [w64 _ (by omega)]; omega
  have e3 : IntKind.i64.wrap (24 - ((8 * j : Nat) : Int)) = ((24 - 8 * j : Nat) : Int) := by rw [w64 _ (by omega)]; omega
  have e4 : evp (.i2i .u64) [.int .i64 ((24 - 8 * j : Nat) : Int)] = some (.int .u64 ((24 - 8 * j : Nat) : Int)) := by
   show some (V.int .u64 (IntKind.u64.wrap ((24 - 8 * j : Nat) : Int))) = _
   rw [Zfa, Xdj (by omega) (by omega)]
  have hd : (4 * i + j) / 4 = i /\ (4 * i + j) % 4 = j := by omega
  have hset : ((outB st).take (4 * i + j) ++ (List.replicate 32 0).drop (4 * i + j)).set (4 * i + j) (wb ((st.getD i 0) >>> (24 - 8 * j))) = (outB st).take (4 * i + (j + 1)) ++ (List.replicate 32 0).drop (4 * i + (j + 1)) := by
   have := Zrf st (i := 4 * i + j) (by omega)
   rw [hd.1, hd.2] at this
   rw [<- this]; exact fill (by omega) (by simpa using hl)
  have hst := Zkb (k := .i64) (l := (outB st).take (4 * i + j) ++ (List.replicate 32 0).drop (4 * i + j)) (i := 4 * i + j) (x := wb ((st.getD i 0) >>> (24 - 8 * j))) (by rw [Zhx (by omega) (by simpa using hl)]; omega)
  rw [hset] at hst
  rw [w.zq45_45]; unfold y.zq45_45
  simp only [yy, if_pos (show (j : Int) < 4 by omega), Zjm, e0, e1, e2, e3, e4, Znh (st.getD i 0) (24 - 8 * j) .u64 (by omega), Zpu, Zfg (m := 32) (k := .i64) (i := ((4 * i + j : Nat) : Int)) (by omega) (by omega), hst, Zam (show j < 64 by omega) (by decide)]
  exact v.nout45 st hs i hi n (j + 1) (by omega)
theorem v.nout (st : List W32) (hs : st.length = 8) : ∀ (n i : Nat), i + n = 8 ->
  vl e 62 31 [wl st, I i, V.agg (repl 32 (.int .u8 0)), bl ((outB st).take (4 * i) ++ (List.replicate 32 0).drop (4 * i))] = some (bl (outB st))
 | 0, i, hi => by
  have hl := Zgu st
  rw [Xax (by omega), Xap (by simp; omega), Xat]
  rw [w.zq45_31]; unfold y.zq45_31
  simp only [yy, if_neg (show ¬((i : Int) < 8) by omega), Zbc hl]
 | n + 1, i, hi => by
  rw [w.zq45_31]; unfold y.zq45_31
  simp only [yy, if_pos (show (i : Int) < 8 by omega), Zus (m := 8) (l := st) (i := i) (by omega) (by omega)]
  exact (v.nout45 st hs i (by omega) 4 0 (by omega)).trans (v.nout st hs n (i + 1) (by omega))
def lenB (n : Nat) : Bytes := (List.range 8).map fun i => UInt8.ofNat (8 * n / 2 ^ (56 - 8 * i))
theorem Zgo (n : Nat) : (lenB n).length = 8 := by simp [lenB]
theorem Zwb (n : Nat) {i : Nat} (h : i < (lenB n).length) : (lenB n)[i] = UInt8.ofNat (8 * n / 2 ^ (56 - 8 * i)) := by simp [lenB]
theorem Zec (n : Nat) : V.int .u8 (IntKind.u8.wrap (n : Int)) = byteV (UInt8.ofNat n) := by
 rw [Z4m]; unfold byteV
 congr 1
theorem v.lens (s : Bytes) (hs : s.length <= 1000000000000) (o st : V) (base z : Bytes) (hb : base.length = 56) (hz : z.length = 8) : ∀ (n i : Nat), i + n = 8 ->
  vl e 70 43 [.str s, I i, o, st, bl (base ++ ((lenB s.length).take i ++ z.drop i))] = vl e 70 43 [.str s, I 8, o, st, bl (base ++ lenB s.length)]
 | 0, i, hi => by
  have hl := Zgo s.length
  obtain rfl : i = 8 := by omega
  rw [Xax (by omega), Xap (by omega), Xat]; rfl
 | n + 1, i, hi => by
  have hl := Zgo s.length
  have e0 : IntKind.i64.wrap (56 + (i : Int)) = ((56 + i : Nat) : Int) := by rw [w64 _ (by omega)]; omega
  have e1 : IntKind.i64.wrap (8 * (i : Int)) = ((8 * i : Nat) : Int) := by rw [w64 _ (by omega)]; omega
  have e2 : IntKind.i64.wrap (56 - ((8 * i : Nat) : Int)) = ((56 - 8 * i : Nat) : Int) := by rw [w64 _ (by omega)]; omega
  have e3 : evp (.i2i .u64) [.int .i64 (s.length : Int)] = some (.int .u64 (s.length : Int)) := by
   show some (V.int .u64 (IntKind.u64.wrap (s.length : Int))) = _
   rw [Zfa, Xdj (by omega) (by omega)]
  have e4 : evp (.bin .shl .no) [.int .u64 (s.length : Int), .int .u64 3] = some (.int .u64 ((8 * s.length : Nat) : Int)) := by
   show some (V.int .u64 (IntKind.u64.wrap ((s.length : Int) * 2 ^ 3))) = _
   rw [Zfa, Xdj (by omega) (by omega)]
   congr 2; omega
  have e5 : evp (.bin .shr .no) [.int .u64 ((8 * s.length : Nat) : Int), .int .i64 ((56 - 8 * i : Nat) : Int)] = some (.int .u64 ((8 * s.length / 2 ^ (56 - 8 * i) : Nat) : Int)) := by
   show (if ((56 - 8 * i : Nat) : Int) < 0 then none else some (V.int .u64 (((8 * s.length : Nat) : Int).fdiv (2 ^ (min ((56 - 8 * i : Nat) : Int).toNat IntKind.u64.bits))))) = _
   have : min ((56 - 8 * i : Nat) : Int).toNat IntKind.u64.bits = 56 - 8 * i := by show min _ 64 = _; omega
   rw [if_neg (by omega), this, Xdb _ (Int.le_of_lt (Int.pow_pos (by decide)))]
   simp
  have e6 : evp (.i2i .u8) [.int .u64 ((8 * s.length / 2 ^ (56 - 8 * i) : Nat) : Int)] = some (byteV (UInt8.ofNat (8 * s.length / 2 ^ (56 - 8 * i)))) := congrArg some (Zec _)
  have hset : (base ++ ((lenB s.length).take i ++ z.drop i)).set (56 + i) (UInt8.ofNat (8 * s.length / 2 ^ (56 - 8 * i))) = base ++ ((lenB s.length).take (i + 1) ++ z.drop (i + 1)) := by
   rw [Xck _ _ (by omega), show 56 + i - base.length = i by omega, <- Zwb s.length (by omega), fill (by omega) (by omega)]
  have hst := Zkb (k := .i64) (l := base ++ ((lenB s.length).take i ++ z.drop i)) (i := 56 + i) (x := UInt8.ofNat (8 * s.length / 2 ^ (56 - 8 * i))) (by rw [Xag, Zhx (by omega) (by omega)]; omega)
  rw [hset] at hst
  rw [w.zq62_43]; unfold y.zq62_43
  simp only [yy, if_pos (show (i : Int) < 8 by omega), e0, e3, e4, Zjm, e1, e2, e5, e6, Zfg (m := 64) (k := .i64) (i := ((56 + i : Nat) : Int)) (by omega) (by omega), hst, Zam (show i < 64 by omega) (by decide)]
  exact v.lens s hs o st base z hb hz n (i + 1) (by omega)
theorem v.endOf (s : Bytes) (hs : s.length <= 1000000000000) (o : V) (st : List W32) (h8 : st.length = 8) (base z : Bytes) (hb : base.length = 56) (hz : z.length = 8) :
  vl e 70 39 [.str s, o, wl st, bl (base ++ z)] = some (bl (outB (Zdl KT st (base ++ lenB s.length)))) := by
 have h1 := v.lens (e := e) s hs o (wl st) base z hb hz 8 0 (by omega)
 rw [Xcm, Xa7, Xbf] at h1
 have hl := Zgo s.length
 have hblk := v.block (e := e) st h8 (base ++ lenB s.length) (by simp; omega)
 have h2 := v.out (e := e) o (Zdl KT st (base ++ lenB s.length)) (by unfold Zdl; rw [Zll]; exact h8) 32 0 (by omega)
 rw [Xcm, Xa7, Xbf] at h2
 rw [w.zq62_39]; unfold y.zq62_39
 refine h1.trans ?_
 rw [w.zq62_43]; unfold y.zq62_43
 simp only [yy, if_neg (show ¬((8 : Int) < 8) by omega), hblk]
 exact h2
end Go.Proofs.YtpmgdngjbdkdfaaGreatDoor
namespace Go.Proofs.YtpmgdngjbdkdfaaGreatDoor
open Go.Abs
set_option maxRecDepth 10000
variable {e : Ev}
def padN (k : Nat) : Nat := (119 - k % 64) % 64
def padB (n : Nat) (r : Bytes) : Bytes := r ++ (128 :: (List.replicate (padN r.length) 0 ++ lenB n))
def Zjn (K : List W32) : Nat -> Bytes -> List W32 -> List W32
 | 0, _, st => st
 | m + 1, b, st => Zjn K m (b.drop 64) (Zdl K st (b.take 64))
theorem Zrh (n : Nat) (r : Bytes) : (padB n r).length = r.length + 9 + padN r.length := by simp [padB, Zgo]; omega
theorem Znd (k : Nat) : (k + 9 + padN k) % 64 = 0 /\ padN k < 64 := by unfold padN; omega
theorem Zfr (K st : List W32) (b : Bytes) : (Zdl K st b).length = st.length := by unfold Zdl; rw [Zll]
def Zlc (n : Nat) (r : Bytes) (st : List W32) : List W32 := Zjn KT ((r.length + 9 + padN r.length) / 64) (padB n r) st
theorem Zvp {n : Nat} {r : Bytes} (h : 64 <= r.length) (st : List W32) : Zlc n r st = Zlc n (r.drop 64) (Zdl KT st (r.take 64)) := by
 have hp : padN (r.length - 64) = padN r.length := by unfold padN; omega
 have hm : (r.length + 9 + padN r.length) / 64 = (r.length - 64 + 9 + padN r.length) / 64 + 1 := by omega
 unfold Zlc
 rw [Xcp, hp, hm, Zjn]
 have h1 : (padB n r).take 64 = r.take 64 := by unfold padB; rw [Xcd h]
 have h2 : (padB n r).drop 64 = padB n (r.drop 64) := by unfold padB; rw [Xcc h, Xcp, hp]
 rw [h1, h2]
theorem Zkf {n : Nat} {r : Bytes} (h : r.length < 56) (st : List W32) : Zlc n r st = Zdl KT st ((r ++ (128 :: List.replicate (55 - r.length) 0)) ++ lenB n) := by
 have hp : padN r.length = 55 - r.length := by unfold padN; omega
 have hm : (r.length + 9 + padN r.length) / 64 = 1 := by omega
 have hl := Zrh n r
 unfold Zlc
 rw [hm, Zjn, Zjn, Xax (by omega)]
 unfold padB
 rw [hp]; simp
theorem Zsy {n : Nat} {r : Bytes} (h : 56 <= r.length) (h2 : r.length < 64) (st : List W32) : Zlc n r st = Zdl KT (Zdl KT st (r ++ (128 :: List.replicate (63 - r.length) 0))) (List.replicate 56 0 ++ lenB n) := by
 have hp : padN r.length = (63 - r.length) + 56 := by unfold padN; omega
 have hm : (r.length + 9 + padN r.length) / 64 = 2 := by omega
 have e1 : padB n r = (r ++ (128 :: List.replicate (63 - r.length) 0)) ++ (List.replicate 56 0 ++ lenB n) := by
  unfold padB
  rw [hp, <- Xdk]; simp
 have l1 : (r ++ (128 :: List.replicate (63 - r.length) 0)).length = 64 := by simp; omega
 have l2 : (List.replicate 56 (0 : UInt8) ++ lenB n).length = 64 := by simp [Zgo]
 unfold Zlc
 rw [hm, Zjn, Zjn, Zjn, e1, <- l1, List.take_left, Xc6, l1, Xax (by omega)]
theorem Ztb {b : Bytes} (hb : b.length = 64) (r : Bytes) : evp (.cpya 0 64) [bl b, .str r] = some (bl (r.take 64 ++ b.drop (r.take 64).length)) := by
 refine (if_pos (show 0 + 64 <= (bl b).cells.length by show _ <= (b.map byteV).length; simp; omega)).trans ?_
 show some (V.agg (Zat (b.map byteV) 0 ((encB r).take 64))) = _
 unfold Zat
 rw [Zqf, Xcm, Xbf, Xan, <- Xdm, Xcj, <- Xe6, <- Xc0]
theorem Zx8 {r : Bytes} : ∃ x, evp (.cpyn 64) [.str r] = some x := ⟨_, rfl⟩
theorem Zw0 {b : Bytes} (hb : b.length = 64) : evp (.clra (.int .u8 0) 0 64) [bl b] = some (bl (List.replicate 64 0)) := by
 refine (if_pos (show 0 + 64 <= (bl b).cells.length by show _ <= (b.map byteV).length; simp; omega)).trans ?_
 show some (V.agg (Zat (b.map byteV) 0 (List.replicate 64 (.int .u8 0)))) = _
 unfold Zat
 rw [Xcm, Xbf, Xap (by simp; omega), Xat]; rfl
theorem v.sha12 (s : Bytes) (hs : s.length <= 1000000000000) : ∀ (m : Nat) (r : Bytes) (st : List W32) (b : Bytes), r.length <= m -> st.length = 8 -> b.length = 64 ->
  vl e 70 12 [.str s, .str r, V.agg (repl 32 (.int .u8 0)), wl st, bl b] = some (bl (outB (Zlc s.length r st))) := by
 intro m
 induction m with
 | zero =>
  intro r st b hr h8 hb
  obtain rfl : r = [] := Xbb (by omega)
  obtain ⟨x, hx⟩ := Zx8 (r := [])
  have hend := v.endOf (e := e) s hs (V.agg (repl 32 (.int .u8 0))) st h8 (128 :: List.replicate 55 0) (List.replicate 8 0) (by simp) (by simp)
  rw [Zkf (by decide)]
  have hst := Zkb (k := .i64) (l := List.replicate 64 0) (i := 0) (x := 128) (by simp)
  have hcp := Ztb (b := List.replicate 64 0) (by simp) []
  rw [w.zq62_12]; unfold y.zq62_12
  have e128 : V.int .u8 128 = byteV 128 := rfl
  simp only [yy, Xa5, Int.natCast_zero, if_neg (show ¬((64 : Int) <= 0) by omega), Zw0 hb, hcp, hx, Zfg (m := 64) (k := .i64) (i := 0) (by omega) (by omega), e128]
  refine Zt4 hst ?_
  rw [if_neg (show ¬((56 : Int) <= 0) by omega)]
  exact hend
 | succ m ih =>
  intro r st b hr h8 hb
  obtain ⟨x, hx⟩ := Zx8 (r := r)
  by_cases h64 : 64 <= r.length
  ·have hl64 : (r.take 64).length = 64 := by simp; omega
   have hcp := Ztb hb r
   rw [hl64, Xap (by omega), Xat] at hcp
   have hblk := v.block (e := e) st h8 (r.take 64) hl64
   have hsl : evp (.sls true false) [.str r, .int .i64 64] = some (.str (r.drop 64)) := Zra (l := 64) (by omega)
   rw [Zvp h64]
   rw [w.zq62_12]; unfold y.zq62_12
   simp only [yy, if_pos (show (64 : Int) <= (r.length : Int) by omega), hcp, hx, hblk, hsl]
   exact ih (r.drop 64) _ _ (by simp; omega) (by rw [Zfr]; exact h8) hl64
  ·have htk : r.take 64 = r := Xax (by omega)
   have hcp := Ztb (b := List.replicate 64 0) (by simp) r
   rw [htk, List.drop_replicate] at hcp
   have hst := Zkb (k := .i64) (l := r ++ List.replicate (64 - r.length) 0) (i := r.length) (x := 128) (by simp; omega)
   have hset : (r ++ List.replicate (64 - r.length) 0).set r.length 128 = r ++ (128 :: List.replicate (63 - r.length) 0) := by
    rw [Xck _ _ (Xaf _), Xe9, show 64 - r.length = (63 - r.length) + 1 by omega, Xdl, List.set_cons_zero]
   rw [hset] at hst
   have e128 : V.int .u8 128 = byteV 128 := rfl
   rw [w.zq62_12]; unfold y.zq62_12
   by_cases h56 : 56 <= r.length
   ·have l1 : (r ++ (128 :: List.replicate (63 - r.length) 0)).length = 64 := by simp; omega
    have hblk := v.block (e := e) st h8 (r ++ (128 :: List.replicate (63 - r.length) 0)) l1
    have hend := v.endOf (e := e) s hs (V.agg (repl 32 (.int .u8 0))) (Zdl KT st (r ++ (128 :: List.replicate (63 - r.length) 0))) (by rw [Zfr]; exact h8) (List.replicate 56 0) (List.replicate 8 0) (by simp) (by simp)
    rw [Xdk] at hend
    rw [Zsy h56 (by omega)]
    simp only [yy, if_neg (show ¬((64 : Int) <= (r.length : Int)) by omega), Zw0 hb, hcp, hx, Zfg (m := 64) (k := .i64) (i := (r.length : Int)) (by omega) (by omega), e128, hst, if_pos (show (56 : Int) <= (r.length : Int) by omega), hblk, Zw0 l1]
    exact hend
   ·have hend := v.endOf (e := e) s hs (V.agg (repl 32 (.int .u8 0))) st h8 (r ++ (128 :: List.replicate (55 - r.length) 0)) (List.replicate 8 0) (by simp; omega) (by simp)
    have e1 : (r ++ (128 :: List.replicate (55 - r.length) 0)) ++ List.replicate 8 0 = r ++ (128 :: List.replicate (63 - r.length) 0) := by
     rw [show 63 - r.length = (55 - r.length) + 8 by omega, <- Xdk]; simp
    rw [e1] at hend
    rw [Zkf (by omega)]
    simp only [yy, if_neg (show ¬((64 : Int) <= (r.length : Int)) by omega), Zw0 hb, hcp, hx, Zfg (m := 64) (k := .i64) (i := (r.length : Int)) (by omega) (by omega), e128, hst, if_neg (show ¬((56 : Int) <= (r.length : Int)) by omega)]
    exact hend
def H0 : List W32 := [1779033703, 3144134277, 1013904242, 2773480762, 1359893119, 2600822924, 528734635, 1541459225]
def Zri (s : Bytes) : Bytes := outB (Zlc s.length s H0)
theorem Zg6 (s : Bytes) : (Zri s).length = 32 := Zgu _
theorem v.shaOf (s : Bytes) (hs : s.length <= 1000000000000) : vl e 70 0 [.str s] = some (bl (Zri s)) := by
 rw [w.zq62]; unfold y.zq62
 exact v.sha12 s hs s.length s H0 (List.replicate 64 0) (Xaf _) rfl (by simp)
theorem Zy1 {l : Bytes} {x : UInt8} (h : l.length + 1 <= Lim) : evp (.app 1) [bsl l, .sl false 1 [byteV x]] = some (bsl (l ++ [x])) := by
 rw [bsl, Znk (by simpa using h)]; simp
theorem Zqk {l m : Bytes} (h : l.length + m.length <= Lim) : evp (.app 1) [bsl l, bsl m] = some (bsl (l ++ m)) := by
 rw [bsl, bsl, Znk (by simpa using h)]; simp
theorem Zmi {x : UInt8} : evp (.bsl 1) [byteV x] = some (.sl false 1 [byteV x]) := rfl
theorem v.pad8 (b : Bytes) (hb : b.length <= 1000000000) : ∀ (n : Nat) (l : Bytes), n = padN (l.length - 1) -> 1 <= l.length -> l.length + n <= 2000000000 ->
  vl e 82 8 [bsl b, bsl l] = vl e 82 25 [bsl (l ++ List.replicate n 0), I b.length, .sl false 1 [], I 0]
 | n, l, hn, h1, h2 => by
  have hLim : Lim = 4294967296 := rfl
  have hr : evp (.bin .rem .no) [.int .i64 (l.length : Int), .int .i64 64] = some (.int .i64 ((l.length % 64 : Nat) : Int)) := Zxm (k := 64) (by decide)
  have e0 : V.int .u8 0 = byteV 0 := rfl
  rw [w.zq46_8]; unfold y.zq46_8
  cases n with
  | zero =>
   have : l.length % 64 = 56 := by unfold padN at hn; omega
   simp only [yy, hr, if_pos (show ((l.length % 64 : Nat) : Int) = 56 by omega)]
   rw [List.replicate_zero, Xat]
  | succ n =>
   have hn' : n = padN ((l ++ [0]).length - 1) := by simp; unfold padN at hn ⊢; omega
   have : l.length % 64 ≠ 56 := by unfold padN at hn; omega
   simp only [yy, hr, if_neg (show ¬(((l.length % 64 : Nat) : Int) = 56) by omega), e0, Zmi, Zy1 (show l.length + 1 <= Lim by omega)]
   have h3 := v.pad8 b hb n (l ++ [0]) hn' (by simp) (by simp; omega)
   refine h3.trans ?_
   rw [Xaj, Xct, <- Xdl]
def Zv1 : Nat -> Nat -> Bytes -> Bytes
 | 0, _, t => t
 | k + 1, m, t => Zv1 k (m / 256) (UInt8.ofNat (m % 256) :: t)
theorem Zbk {x y : Nat} (h : x % 256 = y % 256) : UInt8.ofNat x = UInt8.ofNat y := by
 apply Xew.1
 simp only [UInt8.toNat_ofNat']
 exact h
theorem Z1p (n : Nat) : Zv1 7 (n / 32) [UInt8.ofNat (n % 32 * 8)] = lenB n := by
 show [_, _, _, _, _, _, _, _] = [_, _, _, _, _, _, _, _]
 simp only [Nat.div_div_eq_div_mul, Nat.reduceMul, Nat.reduceSub, Nat.reducePow]
 congr 1
 ·exact Zbk (by omega)
 congr 1
 ·exact Zbk (by omega)
 congr 1
 ·exact Zbk (by omega)
 congr 1
 ·exact Zbk (by omega)
 congr 1
 ·exact Zbk (by omega)
 congr 1
 ·exact Zbk (by omega)
 congr 1
 ·exact Zbk (by omega)
 congr 1
 ·exact Zbk (by omega)
theorem v.pad25 (out : Bytes) (ho : out.length <= 2000000000) : ∀ (k i m : Nat) (t : Bytes), i + k = 8 -> 1 <= i -> m <= 1000000000 -> t.length = i ->
  vl e 82 25 [bsl out, I m, bsl t, I i] = some (bsl (out ++ Zv1 k m t))
 | 0, i, m, t, hi, h1, hm, ht => by
  have hLim : Lim = 4294967296 := rfl
  rw [w.zq46_25]; unfold y.zq46_25
  simp only [yy, if_neg (show ¬((i : Int) < 8) by omega), Zqk (show out.length + t.length <= Lim by omega)]; rfl
 | k + 1, i, m, t, hi, h1, hm, ht => by
  have hLim : Lim = 4294967296 := rfl
  have hr : evp (.bin .rem .no) [.int .i64 (m : Int), .int .i64 256] = some (.int .i64 ((m % 256 : Nat) : Int)) := Zxm (k := 256) (by decide)
  have hq : evp (.bin .quo .no) [.int .i64 (m : Int), .int .i64 256] = some (.int .i64 ((m / 256 : Nat) : Int)) := Z0u (k := 256) (by decide) (by omega)
  have hn : evp (.i2i .u8) [.int .i64 ((m % 256 : Nat) : Int)] = some (byteV (UInt8.ofNat (m % 256))) := congrArg some (Zec _)
  have ha : evp (.app 1) [.sl false 1 [byteV (UInt8.ofNat (m % 256))], bsl t] = some (bsl (UInt8.ofNat (m % 256) :: t)) := Zqk (l := [UInt8.ofNat (m % 256)]) (by simp; omega)
  rw [w.zq46_25]; unfold y.zq46_25
  simp only [yy, if_pos (show (i : Int) < 8 by omega), if_neg (show ¬((i : Int) = 0) by omega), hr, hn, Zmi, ha, hq, Zam (show i < 64 by omega) (by decide)]
  exact v.pad25 out ho k (i + 1) (m / 256) _ (by omega) (by omega) (by omega) (by simp; omega)
theorem v.Padded (b : Bytes) (hb : b.length <= 1000000000) : vl e 82 0 [bsl b] = some (bsl (padB b.length b)) := by
 have hLim : Lim = 4294967296 := rfl
 have hpn := (Znd b.length).2
 have e128 : V.int .u8 128 = byteV 128 := rfl
 have h0 : evp (.bsl 1) [] = some (bsl []) := rfl
 have h8 := v.pad8 (e := e) b hb (padN b.length) (b ++ [128]) (by simp) (by simp) (by simp; omega)
 have hr : evp (.bin .rem .no) [.int .i64 (b.length : Int), .int .i64 32] = some (.int .i64 ((b.length % 32 : Nat) : Int)) := Zxm (k := 32) (by decide)
 have hq : evp (.bin .quo .no) [.int .i64 (b.length : Int), .int .i64 32] = some (.int .i64 ((b.length / 32 : Nat) : Int)) := Z0u (k := 32) (by decide) (by omega)
 have hm : IntKind.i64.wrap (((b.length % 32 : Nat) : Int) * 8) = ((b.length % 32 * 8 : Nat) : Int) := by rw [w64 _ (by omega)]; omega
 have hn : evp (.i2i .u8) [.int .i64 ((b.length % 32 * 8 : Nat) : Int)] = some (byteV (UInt8.ofNat (b.length % 32 * 8))) := congrArg some (Zec _)
 have ha : evp (.app 1) [.sl false 1 [byteV (UInt8.ofNat (b.length % 32 * 8))], .sl false 1 []] = some (bsl [UInt8.ofNat (b.length % 32 * 8)]) := Zqk (l := [UInt8.ofNat (b.length % 32 * 8)]) (m := []) (by simp; omega)
 have h25 := v.pad25 (e := e) (b ++ [128] ++ List.replicate (padN b.length) 0) (by simp; omega) 7 1 (b.length / 32) [UInt8.ofNat (b.length % 32 * 8)] (by omega) (by omega) (by omega) rfl
 rw [Z1p] at h25
 rw [w.zq46]; unfold y.zq46
 simp only [yy, h0, Zqk (l := []) (m := b) (by simp; omega), e128, Zmi]
 rw [Xbf, Zy1 (by omega)]
 simp only [yy]
 refine h8.trans ?_
 rw [w.zq46_25]; unfold y.zq46_25
 simp only [yy, if_pos (show (0 : Int) < 8 by omega), if_true, hr, Zjm, hm, hn, Zmi, ha, hq]
 refine h25.trans ?_
 unfold padB; simp
theorem Z8m {l : Bytes} {i j : Nat} (h1 : i <= j) (h2 : j <= l.length) : evp (.slc 1 true true false) [bsl l, .int .i64 (i : Int), .int .i64 (j : Int)] = some (bsl ((l.take j).drop i)) := by
 simp only [evp, Zt2, vSlc, vOpt]
 simp [cut3]
 exact ⟨h2, h1⟩
theorem Zyo {l : List W32} (n : Nat) (h : l.length = n) : evp (.cat [some n]) [wl l] = some (wl l) := by
 show ((if (wl l).cells.length = n /\ (wl l).cells.all V.sc = true then (catV [] []).map ((wl l).cells ++ ·) else none)).map V.agg = _
 rw [if_pos ⟨by show (l.map bv).length = n; simpa using h, by
  rw [Xao]; intro c hc
  obtain ⟨x, _, rfl⟩ := Xba.1 (show c ∈ l.map bv from hc); rfl⟩]
 show some (V.agg ((wl l).cells ++ [])) = _
 rw [Xat]; rfl
theorem v.nOf14 (all : Bytes) (ha : all.length <= 2000000000) : ∀ (n j : Nat) (st : List W32), all.length = 64 * (j + n) -> st.length = 8 ->
  vl e 62 14 [bsl all, I ((64 * j : Nat) : Int), V.agg (repl 32 (.int .u8 0)), wl st, wl KT] = some (bl (outB (Zjn KT n (all.drop (64 * j)) st)))
 | 0, j, st, hj, h8 => by
  rw [w.zq45_14]; unfold y.zq45_14
  simp only [yy, if_neg (show ¬(((64 * j : Nat) : Int) < (all.length : Int)) by omega)]
  have h := v.nout (e := e) st h8 8 0 (by omega)
  rw [Nat.mul_zero, Xcm, Xa7, Xbf] at h
  exact h
 | n + 1, j, st, hj, h8 => by
  have e1 : IntKind.i64.wrap (((64 * j : Nat) : Int) + 64) = ((64 * (j + 1) : Nat) : Int) := by rw [w64 _ (by omega)]; omega
  have hsl := Z8m (l := all) (i := 64 * j) (j := 64 * (j + 1)) (by omega) (by omega)
  have hcl : (all.take (64 * (j + 1))).drop (64 * j) = (all.drop (64 * j)).take 64 := by rw [List.drop_take, show 64 * (j + 1) - 64 * j = 64 by omega]
  rw [hcl] at hsl
  have hN := v.Next (e := e) st h8 ((all.drop (64 * j)).take 64) (by simp; omega)
  rw [w.zq45_14]; unfold y.zq45_14
  simp only [yy, if_pos (show ((64 * j : Nat) : Int) < (all.length : Int) by omega), e1, hsl, hN, Zyo 8 (show (Zdl KT st ((all.drop (64 * j)).take 64)).length = 8 by rw [Zfr]; exact h8)]
  have h := v.nOf14 all ha n (j + 1) (Zdl KT st ((all.drop (64 * j)).take 64)) (by omega) (by rw [Zfr]; exact h8)
  rw [Zjn, Xdg, show 64 * j + 64 = 64 * (j + 1) by omega]
  exact h
theorem v.refOf (b : Bytes) (hb : b.length <= 1000000000) : vl e 62 0 [bsl b] = some (bl (Zri b)) := by
 have hpn := Znd b.length
 have hl := Zrh b.length b
 have hc : evp (.cat [none, none, none, none, none, none, none, none]) [.int .u32 1779033703, .int .u32 3144134277, .int .u32 1013904242, .int .u32 2773480762, .int .u32 1359893119, .int .u32 2600822924, .int .u32 528734635, .int .u32 1541459225] = some (wl H0) := rfl
 have h := v.nOf14 (e := e) (padB b.length b) (by omega) ((b.length + 9 + padN b.length) / 64) 0 H0 (by omega) rfl
 rw [w.zq45]; unfold y.zq45
 simp only [yy, hc, v.Padded b hb, v.Numbers, Zyo 64 Zn7]
 exact h
end Go.Proofs.YtpmgdngjbdkdfaaGreatDoor
namespace Go.Proofs.YtpmgdngjbdkdfaaGreatDoor
open Go.Abs
set_option maxRecDepth 10000
variable {e : Ev}
def numB (n : Nat) : Bytes := (List.range 8).map fun i => UInt8.ofNat (n / 2 ^ (56 - 8 * i))
theorem Zb9 (n : Nat) : (numB n).length = 8 := by simp [numB]
theorem Zwi (n : Nat) {i : Nat} (h : i < (numB n).length) : (numB n)[i] = UInt8.ofNat (n / 2 ^ (56 - 8 * i)) := by simp [numB]
theorem Z42 {l : Bytes} {k : Nat} (h : l.length = k) : evp (.b2so 0 k) [bl l] = some (.str l) := by
 show (if 0 + k <= (l.map byteV).length then (Zbt (((l.map byteV).drop 0).take k)).map V.str else none) = _
 rw [Xa7, Xax (by simp; omega), Zel]
 exact if_pos (by simp; omega)
theorem v.num10 (n : Nat) (hn : n <= 1000000000000) : ∀ (m i : Nat), i + m = 8 -> vl e 86 10 [I n, I i, bl ((numB n).take i ++ (List.replicate 8 0).drop i)] = some (.str (numB n))
 | 0, i, hi => by
  have hl := Zb9 n
  rw [Xax (by omega), Xap (by simp; omega), Xat]
  have hb : evp (.b2so 0 8) [bl (numB n)] = some (.str (numB n)) := Z42 (by omega)
  rw [w.zq3_10]; unfold y.zq3_10
  simp only [yy, if_neg (show ¬((i : Int) < 8) by omega), hb]
 | m + 1, i, hi => by
  have hl := Zb9 n
  have e1 : IntKind.i64.wrap (8 * (i : Int)) = ((8 * i : Nat) : Int) := by rw [w64 _ (by omega)]; omega
  have e2 : IntKind.i64.wrap (56 - ((8 * i : Nat) : Int)) = ((56 - 8 * i : Nat) : Int) := by rw [w64 _ (by omega)]; omega
  have e3 : evp (.i2i .u64) [.int .i64 (n : Int)] = some (.int .u64 (n : Int)) := by
   show some (V.int .u64 (IntKind.u64.wrap (n : Int))) = _
   rw [Zfa, Xdj (by omega) (by omega)]
  have e5 : evp (.bin .shr .no) [.int .u64 (n : Int), .int .i64 ((56 - 8 * i : Nat) : Int)] = some (.int .u64 ((n / 2 ^ (56 - 8 * i) : Nat) : Int)) := by
   show (if ((56 - 8 * i : Nat) : Int) < 0 then none else some (V.int .u64 ((n : Int).fdiv (2 ^ (min ((56 - 8 * i : Nat) : Int).toNat IntKind.u64.bits))))) = _
   have : min ((56 - 8 * i : Nat) : Int).toNat IntKind.u64.bits = 56 - 8 * i := by show min _ 64 = _; omega
   rw [if_neg (by omega), this, Xdb _ (Int.le_of_lt (Int.pow_pos (by decide)))]
   simp
  have e6 : evp (.i2i .u8) [.int .u64 ((n / 2 ^ (56 - 8 * i) : Nat) : Int)] = some (byteV (UInt8.ofNat (n / 2 ^ (56 - 8 * i)))) := congrArg some (Zec _)
  have hset : ((numB n).take i ++ (List.replicate 8 0).drop i).set i (UInt8.ofNat (n / 2 ^ (56 - 8 * i))) = (numB n).take (i + 1) ++ (List.replicate 8 0).drop (i + 1) := by
   rw [<- Zwi n (by omega)]; exact fill (by omega) (by simpa using hl)
  have hst := Zkb (k := .i64) (l := (numB n).take i ++ (List.replicate 8 0).drop i) (i := i) (x := UInt8.ofNat (n / 2 ^ (56 - 8 * i))) (by rw [Zhx (by omega) (by simpa using hl)]; omega)
  rw [hset] at hst
  rw [w.zq3_10]; unfold y.zq3_10
  simp only [yy, if_pos (show (i : Int) < 8 by omega), e3, Zjm, e1, e2, e5, e6, Zfg (m := 8) (k := .i64) (i := (i : Int)) (by omega) (by omega), hst, Zam (show i < 64 by omega) (by decide)]
  exact v.num10 n hn m (i + 1) (by omega)
theorem v.codeNum (n : Nat) (hn : n <= 1000000000000) : vl e 86 0 [I n] = some (.str (numB n)) := by
 have h := v.num10 (e := e) n hn 8 0 (by omega)
 rw [Xcm, Xa7, Xbf] at h
 rw [w.zq3]; exact h
theorem Z74 (n : Nat) : Zv1 8 n [] = numB n := by
 show [_, _, _, _, _, _, _, _] = [_, _, _, _, _, _, _, _]
 simp only [Nat.div_div_eq_div_mul, Nat.reduceMul, Nat.reduceSub, Nat.reducePow]
 congr 1
 ·exact Zbk (by omega)
 congr 1
 ·exact Zbk (by omega)
 congr 1
 ·exact Zbk (by omega)
 congr 1
 ·exact Zbk (by omega)
 congr 1
 ·exact Zbk (by omega)
 congr 1
 ·exact Zbk (by omega)
 congr 1
 ·exact Zbk (by omega)
 congr 1
 ·exact Zbk (by omega)
theorem v.num12 : ∀ (k i m : Nat) (t : Bytes), i + k = 8 -> t.length = i -> m <= 1000000000000 -> vl e 65 12 [.int .u64 (m : Int), .str t, I i] = some (.str (Zv1 k m t))
 | 0, i, m, t, hi, ht, hm => by
  rw [w.zq42_12]; unfold y.zq42_12
  simp only [yy, if_neg (show ¬((i : Int) < 8) by omega)]; rfl
 | k + 1, i, m, t, hi, ht, hm => by
  have hr : evp (.bin .rem .no) [.int .u64 (m : Int), .int .u64 256] = some (.int .u64 ((m % 256 : Nat) : Int)) := by
   show some (V.int .u64 ((m : Int).tmod (256 : Nat))) = _
   rw [<- Int.ofNat_tmod]
  have hq : evp (.bin .quo .no) [.int .u64 (m : Int), .int .u64 256] = some (.int .u64 ((m / 256 : Nat) : Int)) := by
   show some (V.int .u64 (IntKind.u64.wrap ((m : Int).tdiv (256 : Nat)))) = _
   rw [<- Int.ofNat_tdiv, Zfa]
   have := Xff m 256
   generalize m / 256 = q at *
   rw [Xdj (by omega) (by omega)]
  have hn : evp (.i2i .u8) [.int .u64 ((m % 256 : Nat) : Int)] = some (byteV (UInt8.ofNat (m % 256))) := congrArg some (Zec _)
  have hb : evp .b2s [.sl false 1 [byteV (UInt8.ofNat (m % 256))]] = some (.str [UInt8.ofNat (m % 256)]) := Z25 (l := [UInt8.ofNat (m % 256)])
  have := Xff m 256
  rw [w.zq42_12]; unfold y.zq42_12
  simp only [yy, if_pos (show (i : Int) < 8 by omega), hr, hn, Zmi, hb, Zja (show ([UInt8.ofNat (m % 256)] : Bytes).length + t.length <= 4611686018427387904 by simp; omega), hq, Zam (show i < 64 by omega) (by decide)]
  exact v.num12 k (i + 1) (m / 256) _ (by omega) (by simp; omega) (by omega)
theorem v.refNum (n : Nat) (hn : n <= 1000000000000) : vl e 65 0 [I n] = some (.str (numB n)) := by
 have e3 : evp (.i2i .u64) [.int .i64 (n : Int)] = some (.int .u64 (n : Int)) := by
  show some (V.int .u64 (IntKind.u64.wrap (n : Int))) = _
  rw [Zfa, Xdj (by omega) (by omega)]
 rw [w.zq42]; unfold y.zq42
 simp only [yy, e3]
 exact (v.num12 8 0 n [] (by omega) rfl hn).trans (by rw [Z74])
def Zfi (l : List Bytes) : Bytes := (l.map fun p => numB p.length ++ p).flatten
def Zev (l : List Bytes) : Bytes := numB l.length ++ Zfi l
def sumL (l : List Bytes) : Nat := (l.map fun p => 8 + p.length).sum
theorem Zeb (x : Bytes) (r : List Bytes) : sumL (x :: r) = 8 + x.length + sumL r := rfl
theorem Zep (x : Bytes) (r : List Bytes) : Zfi (x :: r) = numB x.length ++ x ++ Zfi r := rfl
theorem Zj1 : ∀ l : List Bytes, (Zfi l).length = sumL l
 | [] => rfl
 | x :: r => by
  have := Zj1 r
  simp only [Zfi, sumL, Xaq, Xcn, Xag, Xe5, Zb9] at this ⊢; omega
theorem Zem (m : List Bytes) : 8 * m.length <= sumL m := by
 induction m with
 | nil => simp [sumL]
 | cons x r ih => simp only [sumL, Xaq, Xe5, Xaw] at ih ⊢; omega
theorem Zvh {l : Bytes} {s : Bytes} (h : l.length + s.length <= Lim) : evp (.app 1) [bsl l, .str s] = some (bsl (l ++ s)) := by
 show Zw5 1 (bsl l) (.str s) = _
 show (if (l.map byteV).length + (encB s).length <= Lim /\ 1 = 1 then some (V.sl false 1 (l.map byteV ++ encB s)) else none) = _
 rw [if_pos ⟨by simpa [encB] using h, rfl⟩, Zqf, <- Xc0]
theorem v.join31 (l : List Bytes) (hl : sumL l <= 1000000000) : ∀ (n i : Nat) (out : Bytes), i + n = l.length -> out.length + sumL (l.drop i) <= 2000000000 ->
  vl e 64 31 [bsl out, strs l, I l.length, I i] = some (.str (out ++ Zfi (l.drop i)))
 | 0, i, out, hi, ho => by
  rw [w.zq2_31, Xap (by omega)]; unfold y.zq2_31
  simp only [yy, if_neg (show ¬((i : Int) < (l.length : Int)) by omega), Z25]
  simp [Zfi]
 | n + 1, i, out, hi, ho => by
  have hLim : Lim = 4294967296 := rfl
  have hlt : i < l.length := by omega
  rw [Xal hlt] at ho ⊢
  rw [Zeb] at ho
  rw [Zep]
  have hn := Zb9 l[i].length
  have hlen := Zem l
  rw [w.zq2_31]; unfold y.zq2_31
  simp only [yy, if_pos (show (i : Int) < (l.length : Int) by omega), Zd7 hlt, Zdz, v.codeNum l[i].length (by omega), Zvh (show out.length + (numB l[i].length).length <= Lim by omega), Zvh (show (out ++ numB l[i].length).length + l[i].length <= Lim by simp; omega), Zam hlt (by omega)]
  refine (v.join31 l hl n (i + 1) _ (by omega) (by simp only [Xag]; omega)).trans ?_
  rw [Xaj, Xaj, Xaj]
theorem Zhv : ∀ {l : List Bytes} {x : Bytes}, x ∈ l -> 8 + x.length <= sumL l
 | y :: r, x, h => by
  rcases Xa0.1 h with rfl | h
  ·simp [sumL]
  ·have := Zhv h; simp only [sumL, Xaq, Xe5] at this ⊢; omega
theorem v.join10 (l : List Bytes) (hl : sumL l <= 1000000000) : ∀ (n i m : Nat), i + n = l.length -> m + sumL (l.drop i) <= 2000000000 ->
  vl e 64 10 [strs l, I m, strs l, I l.length, I i] = some (.str (Zev l))
 | 0, i, m, hi, hm => by
  have hLim : Lim = 4294967296 := rfl
  have h8 := Zem l
  have hn := Zb9 l.length
  have hk : evp (.mks 1) [.int .i64 0, .int .i64 (m : Int)] = some (bsl []) := by
   show (if (0 : Int) = 0 /\ 0 <= (m : Int) /\ (m : Int) <= Lim then some (⟨.sl false 1 [], true, none⟩ : Res) else none).map (·.v) = _
   rw [if_pos ⟨rfl, by omega, by omega⟩]; rfl
  rw [w.zq2_10]; unfold y.zq2_10
  simp only [yy, if_neg (show ¬((i : Int) < (l.length : Int)) by omega), hk, v.codeNum l.length (by omega), Zvh (l := []) (s := numB l.length) (by simp; omega)]
  refine (v.join31 l hl l.length 0 _ (by omega) (by rw [Xa7]; simp; omega)).trans ?_
  simp [Zev]
 | n + 1, i, m, hi, hm => by
  have hlt : i < l.length := by omega
  rw [Xal hlt] at hm
  rw [Zeb] at hm
  have h8 := Zem l
  have e1 : IntKind.i64.wrap (8 + (l[i].length : Int)) = ((8 + l[i].length : Nat) : Int) := by rw [w64 _ (by omega)]; omega
  have e2 : IntKind.i64.wrap ((m : Int) + ((8 + l[i].length : Nat) : Int)) = ((m + (8 + l[i].length) : Nat) : Int) := by rw [w64 _ (by omega)]; omega
  rw [w.zq2_10]; unfold y.zq2_10
  simp only [yy, if_pos (show (i : Int) < (l.length : Int) by omega), Zd7 hlt, Zdz, e1, e2, Zam hlt (by omega)]
  exact v.join10 l hl n (i + 1) _ (by omega) (by omega)
theorem v.codeJoin (l : List Bytes) (hl : sumL l <= 1000000000) : vl e 64 0 [strs l] = some (.str (Zev l)) := by
 rw [w.zq2]; unfold y.zq2
 simp only [yy]
 exact v.join10 l hl l.length 0 8 (by omega) (by rw [Xa7]; omega)
theorem v.rjoin10 (l : List Bytes) (hl : sumL l <= 1000000000) : ∀ (n i : Nat) (out : Bytes), i + n = l.length -> out.length + sumL (l.drop i) <= 2000000000 ->
  vl e 43 10 [.str out, strs l, I l.length, I i] = some (.str (out ++ Zfi (l.drop i)))
 | 0, i, out, hi, ho => by
  rw [w.zq41_10, Xap (by omega)]; unfold y.zq41_10
  simp only [yy, if_neg (show ¬((i : Int) < (l.length : Int)) by omega)]
  simp [Zfi]
 | n + 1, i, out, hi, ho => by
  have hlt : i < l.length := by omega
  rw [Xal hlt] at ho ⊢
  rw [Zeb] at ho
  rw [Zep]
  have hn := Zb9 l[i].length
  have h8 := Zem l
  rw [w.zq41_10]; unfold y.zq41_10
  simp only [yy, if_pos (show (i : Int) < (l.length : Int) by omega), Zd7 hlt, Zdz, v.refNum l[i].length (by omega), Zja (show out.length + (numB l[i].length).length <= 4611686018427387904 by omega), Zja (show (out ++ numB l[i].length).length + l[i].length <= 4611686018427387904 by simp; omega), Zam hlt (by omega)]
  refine (v.rjoin10 l hl n (i + 1) _ (by omega) (by simp only [Xag]; omega)).trans ?_
  rw [Xaj, Xaj, Xaj]
theorem v.refJoin (l : List Bytes) (hl : sumL l <= 1000000000) : vl e 43 0 [strs l] = some (.str (Zev l)) := by
 have h8 := Zem l
 have hn := Zb9 l.length
 rw [w.zq41]; unfold y.zq41
 simp only [yy, v.refNum l.length (by omega)]
 refine (v.rjoin10 l hl l.length 0 _ (by omega) (by rw [Xa7]; omega)).trans ?_
 simp [Zev]
theorem Zfd (l : List Bytes) : (Zev l).length = 8 + sumL l := by simp [Zev, Zb9, Zj1]
def Zaz (p s : Bytes) : Bytes := Zri (Zev [p, s])
theorem Zaj (p s : Bytes) : (Zaz p s).length = 32 := Zg6 _
theorem Znx {x y : Bytes} : evp (.bsl 1) [.str x, .str y] = some (strs [x, y]) := rfl
theorem Z1j {x y : Bytes} : evp (.app 1) [.sl false 1 [.str x], .sl false 1 [.str y]] = some (strs [x, y]) := by
 have := Zps (l := [x]) (x := y) (show 1 + 1 <= Lim by decide)
 exact this
theorem v.shaSum (p s : Bytes) (hp : p.length <= 100) (hs : s.length <= 100000000) : vl e 46 0 [.str p, .sl false 1 [.str s]] = some (bl (Zaz p s)) := by
 have hl : sumL [p, s] = 16 + p.length + s.length := by simp [sumL]; omega
 have hj := Zfd [p, s]
 rw [w.zq63]; unfold y.zq63
 simp only [yy, Zh7, Z1j, v.codeJoin [p, s] (by omega), v.shaOf (Zev [p, s]) (by omega), Zbc (Zg6 (Zev [p, s]))]
 rfl
theorem v.refSum (p s : Bytes) (hp : p.length <= 100) (hs : s.length <= 100000000) : vl e 40 0 [.str p, .str s] = some (bl (Zaz p s)) := by
 have hl : sumL [p, s] = 16 + p.length + s.length := by simp [sumL]; omega
 have hj := Zfd [p, s]
 have h2 : evp .s2b [.str (Zev [p, s])] = some (bsl (Zev [p, s])) := rfl
 rw [w.zq56]; unfold y.zq56
 simp only [yy, Znx, v.refJoin [p, s] (by omega), h2, v.refOf (Zev [p, s]) (by omega), Zbc (Zg6 (Zev [p, s]))]
 rfl
theorem Zog : ∀ {n : Nat} {x y : Bytes}, x.length = n -> y.length = n -> Zau (List.replicate n (some .u8, true)) (x.map byteV) (y.map byteV) = some (decide (x = y))
 | 0, [], [], _, _ => rfl
 | n + 1, a :: x, b :: y, hx, hy => by
  have ih := Zog (n := n) (x := x) (y := y) (by simpa using hx) (by simpa using hy)
  show (kdEq (some .u8, true) (byteV a) (byteV b)).bind (fun c => (Zau (List.replicate n (some .u8, true)) (x.map byteV) (y.map byteV)).map (c && ·)) = _
  rw [ih]
  show some (decide ((a.toNat : Int) = (b.toNat : Int)) && decide (x = y)) = _
  have : ((a.toNat : Int) = (b.toNat : Int)) <-> a = b := ⟨fun h => Xew.1 (by omega), fun h => by rw [h]⟩
  by_cases h1 : a = b
  ·subst h1; simp
  ·rw [decide_eq_false (fun h => h1 (this.1 h))]; simp [h1]
theorem Zmv {x y : Bytes} (hx : x.length = 32) (hy : y.length = 32) : evp (.bin .eql (.flat [(some .u8, true), (some .u8, true), (some .u8, true), (some .u8, true), (some .u8, true), (some .u8, true), (some .u8, true), (some .u8, true), (some .u8, true), (some .u8, true), (some .u8, true), (some .u8, true), (some .u8, true), (some .u8, true), (some .u8, true), (some .u8, true), (some .u8, true), (some .u8, true), (some .u8, true), (some .u8, true), (some .u8, true), (some .u8, true), (some .u8, true), (some .u8, true), (some .u8, true), (some .u8, true), (some .u8, true), (some .u8, true), (some .u8, true), (some .u8, true), (some .u8, true), (some .u8, true)])) [bl x, bl y] = some (.bool (decide (x = y))) := by
 show (Zau (List.replicate 32 (some .u8, true)) (x.map byteV) (y.map byteV)).map V.bool = _
 rw [Zog hx hy]; rfl
end Go.Proofs.YtpmgdngjbdkdfaaGreatDoor
namespace Go.Proofs.YtpmgdngjbdkdfaaGreatDoor
open Go.Abs
set_option maxRecDepth 10000
variable {e : Ev}
abbrev MB := List (Bytes × Bytes)
def mkP (p : Bytes × Bytes) : V × V := (bl p.1, .str p.2)
abbrev mv (M : MB) : V := mpV (M.map mkP)
abbrev qK : KK := (true, repl 32 (some .u8, true))
def putM : MB -> Bytes -> Bytes -> MB
 | [], k, x => [(k, x)]
 | p :: r, k, x => if k = p.1 then (k, x) :: r else p :: putM r k x
def getM : MB -> Bytes -> Option Bytes
 | [], _ => none
 | p :: r, k => if k = p.1 then some p.2 else getM r k
def keyL (M : MB) : Prop := ∀ p ∈ M, p.1.length = 32
theorem Zox (l : List (V × V)) : unMp (mpV l) = some l := by
 show unM (l.map fun p => .tup [p.1, p.2]) = some l
 induction l with
 | nil => rfl
 | cons p r ih => simp only [Xaq, unM, ih]; rfl
theorem Zhw {x z : Bytes} (hx : x.length = 32) (hz : z.length = 32) : Zdq qK (bl x) (bl z) = some (decide (x = z)) := Zog (n := 32) hx hz
theorem Zsk {k x : Bytes} (hk : k.length = 32) : ∀ {M : MB}, keyL M -> mPut qK (bl k) (.str x) (M.map mkP) = some ((putM M k x).map mkP)
 | [], _ => rfl
 | p :: r, h => by
  have ih := Zsk (x := x) hk (M := r) fun q hq => h q (by simp [hq])
  simp only [Xaq, mPut, putM, mkP] at ih ⊢
  rw [Zhw hk (h p (by simp)), Xak]
  by_cases he : k = p.1
  ·rw [if_pos (decide_eq_true he), if_pos he]; rfl
  ·rw [if_neg (by simpa using he), if_neg he, ih]; rfl
theorem Zqa {k : Bytes} (hk : k.length = 32) : ∀ {M : MB}, keyL M -> Ze1 qK (bl k) (M.map mkP) = some ((getM M k).map V.str)
 | [], _ => rfl
 | p :: r, h => by
  have ih := Zqa hk (M := r) fun q hq => h q (by simp [hq])
  simp only [Xaq, Ze1, getM, mkP] at ih ⊢
  rw [Zhw hk (h p (by simp)), Xak]
  by_cases he : k = p.1
  ·rw [if_pos (decide_eq_true he), if_pos he]; rfl
  ·rw [if_neg (by simpa using he), if_neg he, ih]
theorem Z27 {M : MB} {k x : Bytes} (hM : keyL M) (hk : k.length = 32) : evp (.mup qK) [mv M, bl k, .str x] = some (mv (putM M k x)) := by
 show Zwt qK (mv M) (bl k) (.str x) = _
 simp only [Zwt, Zox, Xak]
 rw [Zhw hk hk, if_pos (by simp), Zsk hk hM]; rfl
theorem Z76 {M : MB} {k : Bytes} (hM : keyL M) (hk : k.length = 32) : evp (.mlk qK (.str []) true) [mv M, bl k] = some (.tup [.str ((getM M k).getD []), .bool (getM M k).isSome]) := by
 show Zx2 qK (.str []) true (mv M) (bl k) = _
 simp only [Zx2, Zox, Xak]
 rw [Zhw hk hk, if_pos (by simp), Zqa hk hM]
 cases getM M k <;> rfl
theorem Z60 {M : MB} : evp .mln [mv M] = some (I M.length) := by
 show Zwa (mv M) = _
 simp only [Zwa, Zox, Xau, Xcj]
def Zl8 (M : MB) : List Bytes := M.map (·.1)
theorem Zeg (p : Bytes × Bytes) (r : MB) : Zl8 (p :: r) = p.1 :: Zl8 r := rfl
theorem Znv (k x : Bytes) : ∀ M : MB, Zl8 (putM M k x) = if k ∈ Zl8 M then Zl8 M else Zl8 M ++ [k]
 | [] => rfl
 | p :: r => by
  have ih := Znv k x r
  by_cases h : k = p.1
  ·rw [putM, if_pos h, if_pos (by rw [Zeg, h]; exact Xc3), Zeg, Zeg, h]
  ·rw [putM, if_neg h, Zeg, ih, Zeg]
   by_cases h2 : k ∈ Zl8 r
   ·rw [if_pos h2, if_pos (Xbn _ h2)]
   ·rw [if_neg h2, if_neg (fun hc => (Xa0.1 hc).elim h h2)]; rfl
def Ze7 (ps : MB) (M : MB) : MB := ps.foldl (fun M p => putM M p.1 p.2) M
theorem Zm1 {M : MB} {k x : Bytes} (hM : keyL M) (hk : k.length = 32) : keyL (putM M k x) := by
 intro p hp
 have : p.1 ∈ Zl8 (putM M k x) := Xc8 hp
 rw [Znv] at this
 split at this
 ·obtain ⟨q, hq, he⟩ := Xba.1 this
  rw [<- he]; exact hM q hq
 ·rcases Xay.1 this with h | h
  ·obtain ⟨q, hq, he⟩ := Xba.1 h
   rw [<- he]; exact hM q hq
  ·rw [Xa4.1 h]; exact hk
theorem Zd8 : ∀ {ps M : MB}, keyL ps -> keyL M -> keyL (Ze7 ps M)
 | [], _, _, h => h
 | p :: r, _, hp, h => Zd8 (ps := r) (fun q hq => hp q (by simp [hq])) (Zm1 h (hp p (by simp)))
theorem Zmp (a b M : MB) : Ze7 (a ++ b) M = Ze7 b (Ze7 a M) := by simp [Ze7, List.foldl_append]
abbrev z32 : V := .agg (repl 32 (.int .u8 0))
def Zc6 : Bytes := [98, 108, 111, 98]
def Za7 : Bytes := [116, 114, 101, 101]
theorem v.PutBlob (d : Bytes) (hd : d.length <= 32768) (M1 : MB) (hM : keyL M1) (m2 m3 : V) : vl e 10224 1 [.str d, mv M1, m2, m3] = some (.tup [bl (Zaz Zc6 d), I 0, mv (putM M1 (Zaz Zc6 d) d), m2, m3]) := by
 have h1 : vl e 22 0 [.str d] = some (bl (Zaz Zc6 d)) := by
  rw [w.zq10]; unfold y.zq10
  have := v.shaSum (e := e) Zc6 d (by decide) (by omega)
  simp only [yy, Zh7]
  rw [show V.str [98, 108, 111, 98] = .str Zc6 from rfl, this]
  simp only [Xak, Zbc (Zaj _ _)]
 rw [w.zq33_h0]; unfold y.zq33_h0
 simp only [yy, if_neg (show ¬(32768 : Int) < (d.length : Int) by omega), h1, Zbc (Zaj _ _), Z27 hM (Zaj _ _)]
structure En where
 nm : Bytes
 tr : Bool
 id : Bytes
def ev (x : En) : V := .agg (.str x.nm :: .bool x.tr :: x.id.map byteV)
abbrev entV (l : List En) : V := .sl false 34 (l.map ev)
theorem Zhp {l : List En} {i : Nat} (h : i < l.length) : evp (.elem 34) [entV l, I i] = some (ev l[i]) := Zkm (by simp [h])
theorem Zm7 {l : List En} : evp (.len false) [entV l] = some (I l.length) := by rw [entV, Zuf, Xcj]
theorem Zkt (x : En) : (ev x).cells = .str x.nm :: .bool x.tr :: x.id.map byteV := rfl
theorem Zn3 {x : En} (h : x.id.length = 32) : (ev x).cells.length = 34 := by rw [Zkt]; simp [h]
theorem Z2c (x : En) : (ev x).cells.all V.sc = true := by
 rw [Zkt, Xcv, Xcv, Xao.2]
 ·rfl
 ·intro c hc; obtain ⟨b, _, rfl⟩ := Xba.1 hc; rfl
theorem Zrq {x : En} (h : x.id.length = 32) : evp (.ld (some 34) 0) [ev x] = some (ev x) := by
 show Zal (some 34) (ev x).cells 0 = _
 simp only [Zal]
 rw [if_pos (by rw [Zn3 h]; omega), Xa7, Xax (by rw [Zn3 h]; omega)]; rfl
theorem Zjx {x : En} (h : x.id.length = 32) : evp (.cat [some 34]) [ev x] = some (ev x) := by
 show (catV [some 34] [ev x]).map V.agg = _
 simp only [catV]
 rw [if_pos ⟨Zn3 h, Z2c x⟩]
 simp only [Xau, Xat]; rfl
theorem Zo6 {x : En} : evp (.ld none 0) [ev x] = some (.str x.nm) := rfl
theorem Zui {x : En} : evp (.ld none 1) [ev x] = some (.bool x.tr) := rfl
theorem Zv6 {x : En} (h : x.id.length = 32) : evp (.b2so 2 32) [ev x] = some (.str x.id) := by
 show Zws 2 32 (ev x) = _
 unfold Zws
 rw [if_pos (by rw [Zn3 h]; omega), Zkt]
 show (Zbt ((x.id.map byteV).take 32)).map V.str = _
 rw [Xax (by simp [h]), Zel]; rfl
structure EnOK (l : List En) : Prop where
 nm : ∀ x ∈ l, Zbl x.nm = true /\ x.nm.length <= 128
 id : ∀ x ∈ l, x.id.length = 32
 up : l.Pairwise fun a b => Op.bytesLess a.nm b.nm = true
 len : l.length <= 512
theorem Zvu {s : Bytes} (h : Zbl s = true) (hl : s.length <= 128) : Zc5 s = true := by
 unfold Zc5
 rw [Zdw (Zga h)]
 simp [hl, h]
theorem v.last (s : Bytes) (c : UInt8) (hs : s.length <= 1000000000) (hc : c ∉ s) : vl e 103 0 [.str s, byteV c] = some (I (-1)) := by
 have key : ∀ (n : Nat), n <= s.length -> vl e 116 8 [.str s, byteV c, I ((n : Int) - 1)] = some (I (-1)) := by
  intro n
  induction n with
  | zero =>
   intro _
   rw [w.zq6_8]; unfold y.zq6_8
   simp only [yy, if_neg (show ¬((0 : Int) <= ((0 : Nat) : Int) - 1) by omega)]
  | succ n ih =>
   intro hn
   have hlt : n < s.length := by omega
   have hne : ¬((s[n].toNat : Int) = (c.toNat : Int)) := fun h => hc (by rw [<- Zk7.1 h]; exact Xas hlt)
   have e0 : ((n + 1 : Nat) : Int) - 1 = (n : Int) := by omega
   have := ih (by omega)
   rw [w.zq6_8]; unfold y.zq6_8
   rw [e0]
   have e1 : IntKind.i64.wrap ((n : Int) - 1) = (n : Int) - 1 := w64 _ (by omega)
   simp only [yy, if_pos (show (0 : Int) <= (n : Int) by omega), Zjg (Xad hlt), byteV, if_neg hne, e1]
   exact this
 rw [w.zq80]; unfold y.zq80
 have h1 : vl e 116 0 [.str s, byteV c] = some (I (-1)) := by
  rw [w.zq6]; unfold y.zq6
  have e1 : IntKind.i64.wrap ((s.length : Int) - 1) = (s.length : Int) - 1 := w64 _ (by omega)
  simp only [yy, e1]
  exact key s.length (Xaf _)
 simp only [yy, h1]
theorem v.Dir1 (s : Bytes) (hs : s.length <= 1000000000) (hc : (47 : UInt8) ∉ s) : vl e 85 0 [.str s] = some (.str []) := by
 rw [w.zq17]; unfold y.zq17
 have h1 := v.last (e := e) s 47 hs hc
 have h2 : evp (.mnx true) [.int .i64 (-1), .int .i64 0] = some (.int .i64 0) := rfl
 have h3 : evp (.sls false true) [.str s, .int .i64 0] = some (.str []) := Zke (h := 0) (Xby _)
 rw [show V.int .u8 47 = byteV 47 from rfl]
 simp only [yy, h1, h2, h3]
theorem v.GoodTree8 (he : EnvT e) (l : List En) (h : EnOK l) : ∀ (n i : Nat), i + n = l.length -> vl e 63 8 [entV l, entV l, I l.length, I i] = some (.bool true) := by
 intro n
 induction n with
 | zero =>
  intro i hi
  have hlen := h.len
  rw [w.zq12_8]; unfold y.zq12_8
  simp only [yy, if_neg (show ¬((i : Int) < (l.length : Int)) by omega), Zm7]
  rw [decide_eq_true (show (l.length : Int) <= 512 by omega)]
 | succ n ih =>
  intro i hi
  have hlen := h.len
  have hlt : i < l.length := by omega
  have hid := h.id _ (Xas hlt)
  obtain ⟨hp, hpl⟩ := h.nm _ (Xas hlt)
  have hg := v.Good he l[i].nm (by omega)
  rw [Zvu hp hpl] at hg
  have hd := v.Dir1 (e := e) l[i].nm (by omega) (Zga hp)
  have hn : (!decide (([] : Bytes) = [])) = false := rfl
  have := ih (i + 1) (by omega)
  rw [w.zq12_8]; unfold y.zq12_8
  by_cases h0 : 0 < i
  ·have hlt' : i - 1 < l.length := by omega
   have hup : Op.bytesLess l[i - 1].nm l[i].nm = true := Xbc.1 h.up (i - 1) i hlt' hlt (by omega)
   have hge : evp (.bin .geq .no) [.str l[i - 1].nm, .str l[i].nm] = some (.bool false) := by
    show some (V.bool (!Op.bytesLess l[i - 1].nm l[i].nm)) = _
    rw [hup]; rfl
   simp only [yy, if_pos (show (i : Int) < (l.length : Int) by omega), Zhp hlt, Zrq hid, Zjx hid, Zo6, hg, hd, if_pos (show (0 : Int) < (i : Int) by omega), Zkn (show 1 <= i by omega) (by omega), Zhp hlt', hge, Zam hlt (by omega)]
   simpa using this
  ·simp only [yy, if_pos (show (i : Int) < (l.length : Int) by omega), Zhp hlt, Zrq hid, Zjx hid, Zo6, hg, hd, if_neg (show ¬(0 : Int) < (i : Int) by omega), Zam hlt (by omega)]
   simpa using this
theorem v.GoodTree (he : EnvT e) (l : List En) (h : EnOK l) : vl e 63 0 [entV l] = some (.bool true) := by
 rw [w.zq12]; unfold y.zq12
 simp only [yy, Zm7]
 exact v.GoodTree8 he l h l.length 0 (Xan _)
def enP (x : En) : List Bytes := [if x.tr then Za7 else Zc6, x.nm, x.id]
def Zb4 (l : List En) : List Bytes := l.flatMap enP
theorem Zdk (l : List En) : (Zb4 l).length = 3 * l.length := by
 unfold Zb4
 induction l with
 | nil => rfl
 | cons x r ih => rw [Xbm, Xag, ih]; simp only [enP, Xaw, Xa5]; omega
theorem Zvv (a b : List Bytes) : sumL (a ++ b) = sumL a + sumL b := by simp [sumL]
theorem Zeh {l : List En} (h1 : ∀ x ∈ l, x.nm.length <= 128) (h2 : ∀ x ∈ l, x.id.length = 32) : sumL (Zb4 l) <= 188 * l.length := by
 unfold Zb4
 induction l with
 | nil => exact Xby _
 | cons x r ih =>
  have := ih (fun a ha => h1 a (by simp [ha])) (fun a ha => h2 a (by simp [ha]))
  have a1 := h1 x (by simp)
  have a2 := h2 x (by simp)
  rw [Xbm, Zvv, enP, Zeb, Zeb, Zeb, a2]
  have : (if x.tr = true then Za7 else Zc6).length = 4 := by cases x.tr <;> rfl
  rw [this]
  simp only [Xaw, show sumL [] = 0 from rfl]
  omega
theorem Zve {a : List Bytes} {x u t : Bytes} (h : a.length + 3 <= Lim) : evp (.app 1) [strs a, .sl false 1 [.str x, .str u, .str t]] = some (strs (a ++ [x, u, t])) := by
 rw [strs, Znk (by simpa using h)]; simp
theorem v.PutTree18 (l : List En) (h : EnOK l) : ∀ (n i : Nat) , i + n = l.length -> vl e 41 18 [strs (Zb4 (l.take i)), entV l, I l.length, I i] = some (.tup [.str (Zev (Zb4 l)), I 0]) := by
 intro n
 induction n with
 | zero =>
  intro i hi
  have hlen := h.len
  have hs := Zeh (fun x hx => (h.nm x hx).2) h.id
  have hj := v.codeJoin (e := e) (Zb4 l) (by omega)
  rw [w.zq13_18]; unfold y.zq13_18
  rw [Xax (show l.length <= i by omega)]
  simp only [yy, if_neg (show ¬((i : Int) < (l.length : Int)) by omega), hj]
 | succ n ih =>
  intro i hi
  have hlen := h.len
  have hlt : i < l.length := by omega
  have hid := h.id _ (Xas hlt)
  have hal : (Zb4 (l.take i)).length + 3 <= Lim := by rw [Zdk, Xbl]; unfold Lim; omega
  have hto : Zb4 (l.take (i + 1)) = Zb4 (l.take i) ++ enP l[i] := by
   rw [Xch hlt, Zb4, List.flatMap_append]; simp [Zb4]
  have := ih (i + 1) (by omega)
  rw [hto] at this
  have hb3 : ∀ a b c : Bytes, evp (.bsl 1) [.str a, .str b, .str c] = some (.sl false 1 [.str a, .str b, .str c]) := fun _ _ _ => rfl
  rw [w.zq13_18]; unfold y.zq13_18
  cases ht : l[i].tr with
  | false =>
   rw [enP, ht] at this
   simp only [yy, if_pos (show (i : Int) < (l.length : Int) by omega), Zhp hlt, Zrq hid, Zjx hid, Zui, ht, Zo6, Zv6 hid, hb3, Zve hal, Zam hlt (by omega)]
   exact this
  | true =>
   rw [enP, ht] at this
   simp only [yy, if_pos (show (i : Int) < (l.length : Int) by omega), Zhp hlt, Zrq hid, Zjx hid, Zui, ht, Zo6, Zv6 hid, hb3, Zve hal, Zam hlt (by omega)]
   exact this
def Zar (l : List En) : Bytes := Zev (Zb4 l)
theorem v.PutTree (he : EnvT e) (l : List En) (h : EnOK l) (m1 m3 : V) (M2 : MB) (hM : keyL M2) : vl e 10256 1 [entV l, m1, mv M2, m3] = some (.tup [bl (Zaz Za7 (Zar l)), I 0, m1, mv (putM M2 (Zaz Za7 (Zar l)) (Zar l)), m3]) := by
 have hlen := h.len
 have hs := Zeh (fun x hx => (h.nm x hx).2) h.id
 have h1 : vl e 41 0 [entV l] = some (.tup [.str (Zar l), I 0]) := by
  rw [w.zq13]; unfold y.zq13
  have := v.PutTree18 (e := e) l h l.length 0 (Xan _)
  simp only [yy, v.GoodTree he l h, Zm7]
  exact this
 have h2 : vl e 42 0 [.str (Zar l)] = some (bl (Zaz Za7 (Zar l))) := by
  rw [w.zq14]; unfold y.zq14
  have := v.shaSum (e := e) Za7 (Zar l) (by decide) (by unfold Zar; rw [Zfd]; omega)
  simp only [yy, Zh7]
  rw [show V.str [116, 114, 101, 101] = .str Za7 from rfl, this]
  simp only [Xak, Zbc (Zaj _ _)]
 rw [w.zq34_h0]; unfold y.zq34_h0
 simp only [yy, h1, h2, Zbc (Zaj _ _), Z27 hM (Zaj _ _)]
 simp
end Go.Proofs.YtpmgdngjbdkdfaaGreatDoor
namespace Go.Proofs.YtpmgdngjbdkdfaaGreatDoor
open Go.Abs
set_option maxRecDepth 10000
variable {e : Ev}
abbrev aggS (l : List Bytes) : V := .agg (l.map .str)
theorem Zyc {l : List Bytes} {i : Nat} (h : i < l.length) : evp (.ldd none 0 1) [aggS l, I i] = some (.str l[i]) := by
 show (l.map V.str)[0 + (i : Int).toNat * 1]? = _
 simp [h]
theorem Z5c {l : List Bytes} {i : Nat} {x : Bytes} (h : i < l.length) : evp (.std 1 0 1) [aggS l, I i, .str x] = some (aggS (l.set i x)) := by
 show vSet 1 (0 + (i : Int).toNat * 1) (aggS l) (.str x) = _
 unfold vSet
 rw [if_pos (by simp [V.cells, V.sc]; omega)]
 simp only [V.cells, Xan, Xbw, Xcu, Zat, Xel]
 rw [Xcw, if_pos h]
 simp
theorem Zzu {l : List Bytes} {i : Nat} (h : i < l.length) : evp (.clrx (.str [])) [aggS l, I l.length, I i] = some (aggS (l.take i ++ List.replicate (l.length - i) [])) := by
 show (if 0 <= (i : Int) /\ (i : Int) < (l.length : Int) /\ (l.length : Int).toNat <= (aggS l).cells.length then some (V.agg (Zat (aggS l).cells (i : Int).toNat (List.replicate ((l.length : Int).toNat - (i : Int).toNat) (V.str [])))) else none) = _
 rw [if_pos ⟨by omega, by omega, by simp [V.cells]⟩]
 simp only [V.cells, Xbw, Zat, List.length_replicate]
 rw [Xap (by simp; omega)]
 simp
theorem Zqy {l : List Bytes} {i : Nat} (h : i <= l.length) : evp .snapx [aggS l, I i] = some (strs (l.take i)) := by
 show (if 0 <= (i : Int) /\ (i : Int).toNat <= (aggS l).cells.length then some (V.sl false 1 ((aggS l).cells.take (i : Int).toNat)) else none) = _
 rw [if_pos ⟨by omega, by simp [V.cells]; omega⟩]
 simp [V.cells]
theorem v.CloneS (l : List Bytes) (hl : l.length <= 1000000) : vl e 11280 1 [strs l] = some (.tup [I l.length, aggS l]) := by
 rw [w.zq66_h0]; unfold y.zq66_h0
 have h1 : evp (.rapp 1) [.agg [], I (0 : Nat), strs l] = some (aggS l) := by
  show Zry 1 (.agg []) (I (0 : Nat)) (strs l) = _
  have hf : fits 1 (l.map V.str) = true := by simp [fits, V.cells, V.sc]
  simp only [Zry, Zbw, Xak, Zjj, hf, if_true, true_or]
  rw [if_pos ⟨by omega, by omega, by simp, by simp [Lim]; omega⟩]
  have hfl : ∀ l : List Bytes, (l.map V.str).flatMap V.cells = l.map V.str := fun l => by
   induction l with
   | nil => rfl
   | cons x r ih => simp only [Xaq, Xbm, ih]; rfl
  simp only [V.cells, Xbw, Xfa, Xcm, Xbf, hfl]
 have h2 : evp (.rlen 1) [I (0 : Nat), strs l] = some (I l.length) := by
  show Zpj 1 (I (0 : Nat)) (strs l) = _
  simp [Zpj, Zbw]
 have h1' : evp (.rapp 1) [.agg [], .int .i64 0, strs l] = some (aggS l) := h1
 have h2' : evp (.rlen 1) [.int .i64 0, strs l] = some (I l.length) := h2
 simp only [yy, h1', h2']
 cases l with
 | nil =>
  have : vamb (V.sl false 1 []) (some (V.tup [.int .i64 0, .agg []])) (some (V.tup [.int .i64 0, .agg []])) = some (V.tup [.int .i64 0, .agg []]) := by
   unfold vamb
   exact if_pos rfl
  exact this
 | cons x r => rfl
end Go.Proofs.YtpmgdngjbdkdfaaGreatDoor
namespace Go.Proofs.YtpmgdngjbdkdfaaGreatDoor
open Go.Abs
set_option maxRecDepth 10000
variable {e : Ev}
theorem v.isE (x : Bytes) : Zex (vl e) (.fn 81 []) [.str x] = some (.bool (decide (x = []))) := by
 show vl e 81 0 ([.str x] ++ []) = _
 rw [Xat, w.zq21]; unfold y.zq21
 simp only [yy, ]
theorem v.Join2 (he : EnvT e) (d n : Bytes) (hn : n ≠ []) (hd : d.length <= 1000000) (hn2 : n.length <= 1000000) : vl e 61 0 [strs [d, n]] = some (.str (if d = [] then n else d ++ 47 :: n)) := by
 have hcl := v.CloneS (e := e) [d, n] (by simp)
 simp only [Xaw, Xa5, Xan] at hcl
 have c0 : evp .chkd [I (2 : Nat), I (0 : Nat)] = some (I (0 : Nat)) := Zba (by omega)
 have c1 : evp .chkd [I (2 : Nat), I (1 : Nat)] = some (I (1 : Nat)) := Zba (by omega)
 have l0 : evp (.ldd none 0 1) [aggS [d, n], I (0 : Nat)] = some (.str d) := Zyc (l := [d, n]) (i := 0) (by simp)
 have l1 : evp (.ldd none 0 1) [aggS [d, n], I (1 : Nat)] = some (.str n) := Zyc (l := [d, n]) (i := 1) (by simp)
 rw [w.zq20]; unfold y.zq20
 by_cases h : d = []
 ·subst h
  rw [if_pos rfl]
  -- the first is found
  have hi : vl e 11200 1 [I (2 : Nat), .fn 81 [], aggS [[], n]] = some (.tup [I (0 : Nat), aggS [[], n]]) := by
   rw [w.zq70_h0]; unfold y.zq70_h0
   rw [w.zq70_h0_8]; unfold y.zq70_h0_8
   have hp := v.isE (e := e) []
   simp only [yy, if_pos (show (0 : Int) < ((2 : Nat) : Int) by omega)]
   rw [show (V.int .i64 0) = I (0 : Nat) from rfl, c0, Xak, l0, Xak, cv, hp]
   rfl
  have hdel : vl e 11264 1 [I (2 : Nat), .fn 81 [], aggS [[], n]] = some (.tup [I (1 : Nat), aggS [n, []]]) := by
   rw [w.zq69_h0]; unfold y.zq69_h0
   simp only [yy, hi, if_neg (show ¬((0 : Nat) : Int) = -1 by omega), Zam (show 0 < 1 by omega) (by omega)]
   have hp := v.isE (e := e) n
   rw [decide_eq_false hn] at hp
   have hst : evp (.std 1 0 1) [aggS [[], n], I (0 : Nat), .str n] = some (aggS [n, n]) := Z5c (l := [[], n]) (i := 0) (by simp)
   have hcx : evp (.clrx (.str [])) [aggS [n, n], I (2 : Nat), I (1 : Nat)] = some (aggS [n, []]) := Zzu (l := [n, n]) (i := 1) (by simp)
   have hck : evp .chkl [I (2 : Nat), I (1 : Nat)] = some (I (1 : Nat)) := Z0g (by omega)
   rw [w.zq69_h0_18]; unfold y.zq69_h0_18
   simp only [yy, if_pos (show ((1 : Nat) : Int) < ((2 : Nat) : Int) by omega), c1, l1, cv, hp, c0, hst, Zam (show 0 < 1 by omega) (by omega), Zam (show 1 < 2 by omega) (by omega)]
   rw [w.zq69_h0_18]; unfold y.zq69_h0_18
   simp only [yy, if_neg (show ¬((2 : Nat) : Int) < ((2 : Nat) : Int) by omega), c1, hcx, hck]
  have hsn : evp .snapx [aggS [n, []], I (1 : Nat)] = some (strs [n]) := Zqy (l := [n, []]) (i := 1) (by simp)
  have hj := v.join he [n] [47] (by simp) (by simp [Zhb]; omega)
  have hfl : evp .flr [.str n] = some (.str n) := rfl
  simp only [yy, hcl, hdel, hsn, hj]
  simp only [Zhb, hfl, Xak]
 ·rw [if_neg h]
  have hi : vl e 11200 1 [I (2 : Nat), .fn 81 [], aggS [d, n]] = some (.tup [I (-1), aggS [d, n]]) := by
   have hp := v.isE (e := e) d
   have hq := v.isE (e := e) n
   rw [decide_eq_false h] at hp
   rw [decide_eq_false hn] at hq
   rw [w.zq70_h0]; unfold y.zq70_h0
   rw [w.zq70_h0_8]; unfold y.zq70_h0_8
   rw [show (V.int .i64 0) = I (0 : Nat) from rfl]
   simp only [yy, if_pos (show ((0 : Nat) : Int) < ((2 : Nat) : Int) by omega), c0, l0, cv, hp, Zam (show 0 < 1 by omega) (by omega)]
   rw [w.zq70_h0_8]; unfold y.zq70_h0_8
   simp only [yy, if_pos (show ((0 + 1 : Nat) : Int) < ((2 : Nat) : Int) by omega), c1, l1, cv, hq, Zam (show 1 < 2 by omega) (by omega)]
   rw [w.zq70_h0_8]; unfold y.zq70_h0_8
   simp only [yy, if_neg (show ¬((0 + 1 + 1 : Nat) : Int) < ((2 : Nat) : Int) by omega)]
  have hdel : vl e 11264 1 [I (2 : Nat), .fn 81 [], aggS [d, n]] = some (.tup [I (2 : Nat), aggS [d, n]]) := by
   rw [w.zq69_h0]; unfold y.zq69_h0
   simp only [yy, hi]
   simp
  have hsn : evp .snapx [aggS [d, n], I (2 : Nat)] = some (strs [d, n]) := Zqy (l := [d, n]) (i := 2) (by simp)
  have hj := v.join he [d, n] [47] (by simp) (by simp [Zhb]; omega)
  have hfl : ∀ x : Bytes, evp .flr [.str x] = some (.str x) := fun _ => rfl
  simp only [yy, hcl, hdel, hsn, hj]
  simp only [hfl, Xak]
  simp [Zhb]
end Go.Proofs.YtpmgdngjbdkdfaaGreatDoor
namespace Go.Proofs.YtpmgdngjbdkdfaaGreatDoor
open Go.Abs
set_option maxRecDepth 10000
variable {e : Ev}
def pS (S : List Fi) (i : Nat) : List Bytes := Zae 47 (S.getD i ([], [])).1
structure SoOK (S : List Fi) : Prop where
 good : ∀ f ∈ S, Zc5 f.1 = true
 data : ∀ f ∈ S, f.2.length <= 32768
 len : S.length <= 512
 up : ∀ i j, i < j -> j < S.length -> cmpL (pS S i) (pS S j) < 0
 free : ∀ i j, i < S.length -> j < S.length -> i ≠ j -> ∀ R, pS S i ≠ pS S j ++ R
theorem Zfs (A B : List Bytes) : ∀ D : List Bytes, cmpL (D ++ A) (D ++ B) = cmpL A B
 | [] => rfl
 | x :: D => by rw [Xbk, Xbk, cmpL, if_pos (Zcz.2 rfl), Zfs A B D]
theorem Zfc {x z : Bytes} {A B : List Bytes} (h : cmpL (x :: A) (z :: B) < 0) : x = z \/ Op.bytesLess x z = true := by
 rw [cmpL] at h
 by_cases h0 : cmpB x z = 0
 ·exact .inl (Zcz.1 h0)
 ·rw [if_neg h0] at h; exact .inr (Zh4.1 h)
theorem Zza (p : Nat -> Prop) : ∀ n : Nat, ∃ k, k <= n /\ (∀ i, i < k -> p i) /\ (k < n -> ¬ p k)
 | 0 => ⟨0, Xaf _, fun i h => by omega, fun h => by omega⟩
 | n + 1 => by
  obtain ⟨k, h1, h2, h3⟩ := Zza p n
  by_cases hk : k < n
  ·exact ⟨k, by omega, h2, fun _ => h3 hk⟩
  ·by_cases hp : p k
   ·refine ⟨k + 1, by omega, fun i hi => ?_, fun h => by omega⟩
    rcases Xbi (Nat.le_of_lt_succ hi) with h | rfl
    ·exact h2 i h
    ·exact hp
   ·exact ⟨k, by omega, h2, fun _ => hp⟩
inductive Tr (S : List Fi) : List Bytes -> Nat -> Nat -> List En -> Bytes -> MB -> MB -> Prop
 | done {D : List Bytes} {a : Nat} {ls : List En} (hok : EnOK ls) : Tr S D a a ls (Zaz Za7 (Zar ls)) [] [(Zaz Za7 (Zar ls), Zar ls)]
 | blob {D : List Bytes} {a b : Nat} {ls : List En} {x id : Bytes} {p1 p2 : MB} (hab : a < b) (hx : pS S a = D ++ [x]) (h : Tr S D (a + 1) b (ls ++ [⟨x, false, Zaz Zc6 (S.getD a ([], [])).2⟩]) id p1 p2) :
   Tr S D a b ls id ((Zaz Zc6 (S.getD a ([], [])).2, (S.getD a ([], [])).2) :: p1) p2
 | dir {D : List Bytes} {a b k : Nat} {ls : List En} {x id id1 : Bytes} {p1 p2 q1 q2 : MB} (hk : 0 < k) (hkb : a + k <= b) (hrun : ∀ i, a <= i -> i < a + k -> ∃ R, R ≠ [] /\ pS S i = D ++ x :: R) (hstop : a + k < b -> ¬ ∃ R, R ≠ [] /\ pS S (a + k) = D ++ x :: R)
   (h1 : Tr S (D ++ [x]) a (a + k) [] id1 p1 p2) (h2 : Tr S D (a + k) b (ls ++ [⟨x, true, id1⟩]) id q1 q2) : Tr S D a b ls id (p1 ++ q1) (p2 ++ q2)
theorem Zgc {a b : Nat} (h : a <= b) : evp .vlen [I a, I b] = some (I (b - a : Nat)) := by
 show (if 0 <= (a : Int) /\ (a : Int) <= (b : Int) then some (V.int .i64 ((b : Int) - (a : Int))) else none) = _
 rw [if_pos (by omega), <- Int.ofNat_sub h]
theorem Zpg {a b l : Nat} (h : a + l <= b) : evp .vadd [I a, I b, I l] = some (I (a + l : Nat)) := by
 show (if 0 <= (a : Int) /\ 0 <= (l : Int) /\ (a : Int) + (l : Int) <= (b : Int) then some (V.int .i64 ((a : Int) + (l : Int))) else none) = _
 rw [if_pos (by omega), Xfg]
theorem Zku {a b l : Nat} (h : a + l < b) : evp .vidx [I a, I b, I l] = some (I (a + l : Nat)) := by
 show (if 0 <= (a : Int) /\ 0 <= (l : Int) /\ (a : Int) + (l : Int) < (b : Int) then some (V.int .i64 ((a : Int) + (l : Int))) else none) = _
 rw [if_pos (by omega), Xfg]
theorem Zuv (id : Bytes) : (id.map byteV).all V.sc = true := by
 rw [Xao]; intro c hc; obtain ⟨b, _, rfl⟩ := Xba.1 hc; rfl
theorem Zzi {id : Bytes} (h : id.length = 32) : (bl id).cells.length = 32 /\ (bl id).cells.all V.sc = true := ⟨by simp [V.cells, h], Zuv id⟩
theorem Zm9 {nm id : Bytes} {t : Bool} (h : id.length = 32) : evp (.cat [none, none, some 32]) [.str nm, .bool t, bl id] = some (ev ⟨nm, t, id⟩) := by
 show (catV [none, none, some 32] [.str nm, .bool t, bl id]).map V.agg = _
 simp only [catV]
 rw [if_pos (show (V.str nm).sc = true from rfl), if_pos (show (V.bool t).sc = true from rfl), if_pos (Zzi h)]
 simp only [Xau, Xat]; rfl
theorem Zzc {nm id : Bytes} (h : id.length = 32) : evp (.cat [none, some 32]) [.str nm, bl id] = some (.agg (.str nm :: id.map byteV)) := by
 show (catV [none, some 32] [.str nm, bl id]).map V.agg = _
 simp only [catV]
 rw [if_pos (show (V.str nm).sc = true from rfl), if_pos (Zzi h)]
 simp only [Xau, Xat]; rfl
theorem Znq {x : En} (h : x.id.length = 32) : evp (.bsl 34) [ev x] = some (.sl false 34 [ev x]) := by
 have : fits 34 [ev x] = true := by simp [fits, Zn3 h]; exact Xao.1 (Z2c x)
 show (if fits 34 [ev x] then some (V.sl false 34 [ev x]) else none) = _
 rw [this]; rfl
theorem Zlt {l : List En} {x : En} (h : l.length + 1 <= Lim) : evp (.app 34) [entV l, .sl false 34 [ev x]] = some (entV (l ++ [x])) := by
 rw [entV, Znk (by simpa using h)]; simp
theorem Zm0 {D : List Bytes} {x : Bytes} (hD : ∀ u ∈ D, Zbl u = true) : (if Zah 47 D = [] then x else Zah 47 D ++ 47 :: x) = Zah 47 (D ++ [x]) := by
 by_cases h : D = []
 ·subst h; rfl
 ·rw [if_neg (Ze6 h hD), Zd9 47 D [x] h (by simp)]; rfl
section
variable (he : EnvT e) (S : List Fi) (hS : SoOK S)
include he hS
omit he in
theorem Zk8 {i : Nat} (h : i < S.length) : ∀ x ∈ pS S i, Zbl x = true := by
 unfold pS; rw [Zay h]; exact Zfp (hS.good _ (Xas h))
omit he hS in
theorem Zlj {i : Nat} (h : i < S.length) : evp (.ldd none 0 2) [aggF S, I i] = some (.str (S.getD i ([], [])).1) := by rw [Zyf h, Zay h]
omit he in
theorem Zgz {i : Nat} (h : i < S.length) : (S.getD i ([], [])).1.length <= 128 := by rw [Zay h]; exact Zkp (hS.good _ (Xas h))
omit he in
theorem v.below44 (D : List Bytes) (hD : ∀ u ∈ D, Zbl u = true) (x : Bytes) (hx : Zbl x = true) (hxl : x.length <= 128) (hjl : (Zah 47 (D ++ [x])).length <= 1000) (a b k : Nat) (hab : a + k <= b) (hb : b <= S.length) (hrun : ∀ i, a <= i -> i < a + k -> ∃ R, R ≠ [] /\ pS S i = D ++ x :: R) (hstop : a + k < b -> ¬ ∃ R, R ≠ [] /\ pS S (a + k) = D ++ x :: R)
  (ls : List En) (hls : ls.length <= 512) (id1 : Bytes) (hid : id1.length = 32) (m1 m2 m3 n1 n2 n3 z : V)
  (hrec : vl e 10624 1 [.str (Zah 47 (D ++ [x])), I a, I (a + k : Nat), aggF S, m1, m2, m3] = some (.tup [bl id1, I 0, aggF S, n1, n2, n3])) : ∀ (n j : Nat), j + n = k ->
  vl e 10624 44 [.str (Zah 47 D), I a, I b, entV ls, .str x, .str (Zah 47 (D ++ [x])), I j, aggF S, m1, m2, m3, z] = vl e 10624 8 [.str (Zah 47 D), I (a + k : Nat), I b, entV (ls ++ [⟨x, true, id1⟩]), aggF S, n1, n2, n3, z] := by
 have hlen := hS.len
 have hD' : ∀ u ∈ D ++ [x], Zbl u = true := fun u hu => (Xay.1 hu).elim (hD u) (fun h => by rw [Xa4.1 h]; exact hx)
 have hLim : ls.length + 1 <= Lim := by unfold Lim; omega
 intro n
 induction n with
 | zero =>
  intro j hj
  have hjk : j = k := by omega
  subst hjk
  rw [w.zq37_h0_44]; unfold y.zq37_h0_44
  by_cases hc : a + j < b
  ·have hi : a + j < S.length := by omega
   obtain ⟨u, hu, _⟩ := v.Under (e := e) (Zah 47 (D ++ [x])) (S.getD (a + j) ([], [])).1 (by omega) (by have := Zgz S hS hi; omega)
   have hno : (Zb7 (Zah 47 (D ++ [x])) (S.getD (a + j) ([], [])).1).isSome = false := by
    cases h : Zb7 (Zah 47 (D ++ [x])) (S.getD (a + j) ([], [])).1 with
    | none => rfl
    | some r =>
     obtain ⟨R, hR, hs⟩ := Zg2 hD' h
     exact absurd ⟨R, hR, by rw [pS, hs]; simp⟩ (hstop hc)
   rw [hno] at hu
   simp only [yy, Zgc (show a <= b by omega), if_pos (show (j : Int) < ((b - a : Nat) : Int) by omega), Zku hc, Zlj S hi, hu, Zpg (show a + j <= b by omega), hrec, Zbc hid, Zm9 hid, Znq (x := ⟨x, true, id1⟩) hid, Zlt hLim]
   simp
  ·simp only [yy, Zgc (show a <= b by omega), if_neg (show ¬(j : Int) < ((b - a : Nat) : Int) by omega), Zpg (show a + j <= b by omega), hrec, Zbc hid, Zm9 hid, Znq (x := ⟨x, true, id1⟩) hid, Zlt hLim]
   simp
 | succ n ih =>
  intro j hj
  have hi : a + j < S.length := by omega
  obtain ⟨R, hR, hs⟩ := hrun (a + j) (by omega) (by omega)
  obtain ⟨u, hu, _⟩ := v.Under (e := e) (Zah 47 (D ++ [x])) (S.getD (a + j) ([], [])).1 (by omega) (by have := Zgz S hS hi; omega)
  have hpp := Zk8 S hS hi
  rw [hs] at hpp
  have hyes := Zlr (p := (S.getD (a + j) ([], [])).1) hD' (R := R) (fun c hc => hpp c (by simp [hc])) hR (by rw [<- pS, hs]; simp)
  rw [hyes] at hu
  have := ih (j + 1) (by omega)
  rw [w.zq37_h0_44]; unfold y.zq37_h0_44
  simp only [yy, Zgc (show a <= b by omega), if_pos (show (j : Int) < ((b - a : Nat) : Int) by omega), Zku (show a + j < b by omega), Zlj S hi, hu, Xdq, Zam (show j < j + 1 by omega) (by omega)]
  exact this
theorem v.below8 : ∀ (q : Nat) (D : List Bytes) (a b : Nat) (ls : List En), (16 - D.length) * 513 + (b - a) <= q -> a <= b -> b <= S.length -> (∀ u ∈ D, Zbl u = true) -> (Zah 47 D).length <= 128 -> (∀ i, a <= i -> i < b -> ∃ R, R ≠ [] /\ pS S i = D ++ R) -> EnOK ls -> ls.length + (b - a) <= 512 -> (∀ en ∈ ls, ∀ i, a <= i -> i < b -> ∀ x R, pS S i = D ++ x :: R -> Op.bytesLess en.nm x = true) ->
  ∃ (id : Bytes) (p1 p2 : MB), Tr S D a b ls id p1 p2 /\ id.length = 32 /\ keyL p1 /\ keyL p2 /\ ∀ (M1 M2 : MB) (m3 z : V), keyL M1 -> keyL M2 ->
   vl e 10624 8 [.str (Zah 47 D), I a, I b, entV ls, aggF S, mv M1, mv M2, m3, z] = some (.tup [bl id, I 0, aggF S, mv (Ze7 p1 M1), mv (Ze7 p2 M2), m3]) := by
 have hlen := hS.len
 intro q
 induction q with
 | zero =>
  intro D a b ls hq hab hb hD hjl hin hls hll hlt
  have hab' : a = b := by omega
  subst hab'
  refine ⟨_, _, _, .done hls, Zaj _ _, (fun p hp => by cases hp), (fun p hp => by rw [Xa4.1 hp]; exact Zaj _ _), fun M1 M2 m3 z h1 h2 => ?_⟩
  rw [w.zq37_h0_8]; unfold y.zq37_h0_8
  simp only [yy, Zgc (Xaf a), if_neg (show ¬(0 : Int) < ((a - a : Nat) : Int) by omega), v.PutTree he ls hls (mv M1) m3 M2 h2, Zbc (Zaj _ _)]
  rfl
 | succ q ih =>
  intro D a b ls hq hab hb hD hjl hin hls hll hlt
  rcases Xbi hab with hlt' | rfl
  rotate_left
  ·refine ⟨_, _, _, .done hls, Zaj _ _, (fun p hp => by cases hp), (fun p hp => by rw [Xa4.1 hp]; exact Zaj _ _), fun M1 M2 m3 z h1 h2 => ?_⟩
   rw [w.zq37_h0_8]; unfold y.zq37_h0_8
   simp only [yy, Zgc (Xaf a), if_neg (show ¬(0 : Int) < ((a - a : Nat) : Int) by omega), v.PutTree he ls hls (mv M1) m3 M2 h2, Zbc (Zaj _ _)]
   rfl
  have ha : a < S.length := by omega
  obtain ⟨R0, hR0, hs0⟩ := hin a (Xaf _) hlt'
  obtain ⟨x, R, rfl⟩ : ∃ x R, R0 = x :: R := by cases R0 with
   | nil => exact absurd rfl hR0
   | cons x R => exact ⟨x, R, rfl⟩
  have hpa := Zk8 S hS ha
  rw [hs0] at hpa
  have hx : Zbl x = true := hpa x (by simp)
  have hR : ∀ u ∈ R, Zbl u = true := fun u hu => hpa u (by simp [hu])
  have hxR : ∀ u ∈ x :: R, Zbl u = true := fun u hu => hpa u (by simp only [Xay]; exact .inr hu)
  have hpl := Zgz S hS ha
  have hgood : Zc5 (S.getD a ([], [])).1 = true := by rw [Zay ha]; exact hS.good _ (Xas ha)
  have h16 : (pS S a).length <= 16 := by
   have := hgood
   simp only [Zc5, Xai, decide_eq_true_eq] at this
   exact this.1.2
  have hD16 : D.length < 16 := by rw [hs0] at h16; simp at h16; omega
  have hxl : x.length <= 128 := by
   have := Zbu 47 (show x ∈ Zae 47 (S.getD a ([], [])).1 by rw [<- pS, hs0]; simp)
   omega
  -- what stands behind the directory
  have hund := Zlr (p := (S.getD a ([], [])).1) hD hxR (by simp) (by rw [<- pS]; exact hs0)
  obtain ⟨r, hr, hr2⟩ := v.Under (e := e) (Zah 47 D) (S.getD a ([], [])).1 (by omega) (by omega)
  have hr3 := hr2 _ hund
  subst hr3
  rw [hund, Xdq] at hr
  have hrl := Zmw hund
  have hsp := v.pSplit he (Zah 47 (x :: R)) (by omega)
  have hps : Zb2 (Zah 47 (x :: R)) = x :: R := by
   unfold Zb2
   rw [if_neg (Ze6 (by simp) hxR), Zg5 (by simp) hxR]
  rw [hps] at hsp
  have hnew : ∀ (t : Bool) (id : Bytes), id.length = 32 -> EnOK (ls ++ [⟨x, t, id⟩]) := fun t id hid => {
   nm := fun en hen => (Xay.1 hen).elim (hls.nm en) (fun h => by rw [Xa4.1 h]; exact ⟨hx, hxl⟩)
   id := fun en hen => (Xay.1 hen).elim (hls.id en) (fun h => by rw [Xa4.1 h]; exact hid)
   up := Xb5.2 ⟨hls.up, List.pairwise_singleton _ _, fun u hu t ht => by rw [Xa4.1 ht]; exact hlt u hu a (Xaf _) hlt' x R hs0⟩
   len := by simp; omega }
  by_cases hRn : R = []
  ·-- a file
   subst hRn
   have hd : (S.getD a ([], [])).2.length <= 32768 := by rw [Zay ha]; exact hS.data _ (Xas ha)
   obtain ⟨id, p1, p2, t1, t2, t3, t4, t5⟩ := ih D (a + 1) b (ls ++ [⟨x, false, Zaz Zc6 (S.getD a ([], [])).2⟩]) (by omega) (by omega) hb hD hjl (fun i h1 h2 => hin i (by omega) h2) (hnew _ _ (Zaj _ _)) (by simp; omega) (fun en hen i h1 h2 x' R' hs' => by
    have hup := hS.up a i (by omega) (by omega)
    rw [hs0, hs', Zfs] at hup
    have hxx : Op.bytesLess x x' = true := by
     rcases Zfc hup with rfl | h
     ·exact absurd (by rw [hs', hs0]; simp) (hS.free i a (by omega) ha (by omega) R')
     ·exact h
    rcases Xay.1 hen with h | h
    ·exact hlt en h i (by omega) h2 x' R' hs'
    ·rw [Xa4.1 h]; exact hxx)
   refine ⟨id, _, _, .blob hlt' hs0 t1, t2, fun p hp => (Xa0.1 hp).elim (fun h => by rw [h]; exact Zaj _ _) (t3 p), t4, fun M1 M2 m3 z h1 h2 => ?_⟩
   have hpb := v.PutBlob (e := e) (S.getD a ([], [])).2 hd M1 h1 (mv M2) m3
   have hdd : evp (.ldd none 1 2) [aggF S, I a] = some (.str (S.getD a ([], [])).2) := by rw [Z28 ha, Zay ha]
   have hi0 : evp .vidx [I a, I b, .int .i64 0] = some (I a) := Zku (l := 0) (by omega)
   have ha1 : evp .vadd [I a, I b, .int .i64 1] = some (I (a + 1 : Nat)) := Zpg (l := 1) (by omega)
   rw [w.zq37_h0_8]; unfold y.zq37_h0_8
   have hjx : Zah 47 [x] = x := rfl
   rw [hjx] at hr hsp
   simp only [yy, Zgc hab, if_pos (show (0 : Int) < ((b - a : Nat) : Int) by omega), hi0, Zlj S ha, hr, hsp, Zna, Zdz, hdd, hpb, Zbc (Zaj _ _), Zzc (Zaj _ _), Zm9 (Zaj _ _), Znq (x := ⟨x, false, Zaz Zc6 (S.getD a ([], [])).2⟩) (Zaj _ _), Zlt (show ls.length + 1 <= Lim by unfold Lim; omega), ha1]
   simp only [if_true]
   exact t5 (putM M1 _ _) M2 m3 z (Zm1 h1 (Zaj _ _)) h2
  ·-- a directory
   obtain ⟨k, hk1, hk2, hk3⟩ := Zza (fun t => ∃ R, R ≠ [] /\ pS S (a + t) = D ++ x :: R) (b - a)
   have hk0 : 0 < k := by
    refine Nat.pos_of_ne_zero fun h => ?_
    subst h
    exact hk3 (by omega) ⟨R, hRn, hs0⟩
   have hrun : ∀ i, a <= i -> i < a + k -> ∃ R, R ≠ [] /\ pS S i = D ++ x :: R := fun i h1 h2 => by
    have := hk2 (i - a) (by omega)
    rwa [show a + (i - a) = i by omega] at this
   have hstop : a + k < b -> ¬ ∃ R, R ≠ [] /\ pS S (a + k) = D ++ x :: R := fun h => hk3 (by omega)
   have hD' : ∀ u ∈ D ++ [x], Zbl u = true := fun u hu => (Xay.1 hu).elim (hD u) (fun h => by rw [Xa4.1 h]; exact hx)
   have hjl' : (Zah 47 (D ++ [x])).length <= 128 := by
    have hj := Zbe 47 (S.getD a ([], [])).1
    rw [<- pS, hs0, show D ++ x :: R = (D ++ [x]) ++ R by simp, Zd9 47 (D ++ [x]) R (by simp) hRn] at hj
    have := congrArg List.length hj
    simp only [Xag, Xaw] at this
    omega
   obtain ⟨id1, p1, p2, s1, s2, s3, s4, s5⟩ := ih (D ++ [x]) a (a + k) [] (by simp only [Xag, Xaw, Xa5]; omega) (by omega) (by omega) hD' hjl' (fun i h1 h2 => by
    obtain ⟨R', hR', hs'⟩ := hrun i h1 h2
    exact ⟨R', hR', by rw [hs']; simp⟩) { nm := (fun _ h => by cases h), id := (fun _ h => by cases h), up := .nil, len := by simp } (by simp; omega) (fun en hen => by cases hen)
   obtain ⟨id, q1, q2, t1, t2, t3, t4, t5⟩ := ih D (a + k) b (ls ++ [⟨x, true, id1⟩]) (by omega) (by omega) hb hD hjl (fun i h1 h2 => hin i (by omega) h2) (hnew _ _ s2) (by simp; omega) (fun en hen i h1 h2 x' R' hs' => by
    -- the first behind the directory
    obtain ⟨R2, hR2, hs2⟩ := hin (a + k) (by omega) (by omega)
    obtain ⟨x2, R3, rfl⟩ : ∃ x2 R3, R2 = x2 :: R3 := by cases R2 with
     | nil => exact absurd rfl hR2
     | cons x R => exact ⟨x, R, rfl⟩
    have hup := hS.up a (a + k) (by omega) (by omega)
    rw [hs0, hs2, Zfs] at hup
    have hxx2 : Op.bytesLess x x2 = true := by
     rcases Zfc hup with rfl | h
     ·by_cases hR3 : R3 = []
      ·subst hR3
       exact absurd (show pS S a = pS S (a + k) ++ R by rw [hs0, hs2]; simp) (hS.free a (a + k) ha (by omega) (by omega) R)
      ·exact absurd ⟨R3, hR3, hs2⟩ (hstop (by omega))
     ·exact h
    have hxx : Op.bytesLess x x' = true := by
     rcases Xbi h1 with h | rfl
     ·have hup2 := hS.up (a + k) i h (by omega)
      rw [hs2, hs', Zfs] at hup2
      rcases Zfc hup2 with rfl | h
      ·exact hxx2
      ·exact Zd5 hxx2 h
     ·rw [hs2] at hs'
      have := Xca hs'
      simp only [Xb4] at this
      rw [<- this.1]; exact hxx2
    rcases Xay.1 hen with h | h
    ·exact hlt en h i (by omega) h2 x' R' hs'
    ·rw [Xa4.1 h]; exact hxx)
   refine ⟨id, _, _, .dir hk0 (by omega) hrun hstop s1 t1, t2, fun p hp => (Xay.1 hp).elim (s3 p) (t3 p), fun p hp => (Xay.1 hp).elim (s4 p) (t4 p), fun M1 M2 m3 z h1 h2 => ?_⟩
   have hr8 := s5 M1 M2 m3 z32 h1 h2
   have hrec : vl e 10624 1 [.str (Zah 47 (D ++ [x])), I a, I (a + k : Nat), aggF S, mv M1, mv M2, m3] = some (.tup [bl id1, I 0, aggF S, mv (Ze7 p1 M1), mv (Ze7 p2 M2), m3]) := by
    rw [w.zq37_h0]; unfold y.zq37_h0
    exact hr8
   have h44 := v.below44 S hS D hD x hx hxl (by omega) a b k (by omega) hb hrun hstop ls (by omega) id1 s2 (mv M1) (mv M2) m3 (mv (Ze7 p1 M1)) (mv (Ze7 p2 M2)) m3 z hrec k 0 (Xan _)
   have hi0 : evp .vidx [I a, I b, .int .i64 0] = some (I a) := Zku (l := 0) (by omega)
   have hne : ¬ x = Zah 47 (x :: R) := fun h => by
    have := Zga hx
    rw [h, Zcu _ _ _ hRn] at this
    exact this (by simp)
   have hjn := v.Join2 he (Zah 47 D) x (Zlk hx) (by omega) (by omega)
   rw [Zm0 hD] at hjn
   rw [w.zq37_h0_8]; unfold y.zq37_h0_8
   simp only [yy, Zgc hab, if_pos (show (0 : Int) < ((b - a : Nat) : Int) by omega), hi0, Zlj S ha, hr, hsp, Zna, Zdz, if_neg hne, Znx, hjn]
   refine h44.trans ?_
   rw [t5 _ _ m3 z (Zd8 s3 h1) (Zd8 s4 h2), Zmp, Zmp]
end
end Go.Proofs.YtpmgdngjbdkdfaaGreatDoor
namespace Go.Proofs.YtpmgdngjbdkdfaaGreatDoor
open Go.Abs
set_option maxRecDepth 10000
variable {e : Ev}
theorem Zdu {p : Bytes} (h : Zc5 p = true) : Zb2 p = Zae 47 p := if_neg (Z0n h)
theorem Zfk {a b : Bytes} (ha : Zc5 a = true) (hb : Zc5 b = true) : Zcr a b = true <-> ∃ R, Zae 47 b = Zae 47 a ++ R := by
 have ja := Zbe 47 a
 constructor
 ·intro h
  unfold Zcr at h
  simp only [Xa8, decide_eq_true_eq] at h
  rcases h with h | h
  ·obtain ⟨r, hr⟩ := Xcr.1 h
   rw [<- ja] at hr
   obtain ⟨R, _, hs⟩ := Zg2 (Zfp ha) hr
   exact ⟨R, hs⟩
  ·exact ⟨[], by rw [h]; simp⟩
 ·rintro ⟨R, hR⟩
  unfold Zcr
  simp only [Xa8, decide_eq_true_eq]
  by_cases h0 : R = []
  ·right
   subst h0
   rw [Xat] at hR
   rw [<- ja, <- hR, Zbe]
  ·left
   have hp := Zfp hb
   rw [hR] at hp
   have := Zlr (Zfp ha) (fun x hx => hp x (by simp [hx])) h0 hR
   rw [ja] at this
   rw [this]; rfl
theorem Zt8 : ∀ {A B R : List Bytes}, ¬ cmpL B A < 0 -> ¬ cmpL (A ++ R) B < 0 -> ∃ R', B = A ++ R'
 | [], B, _, _, _ => ⟨B, rfl⟩
 | x :: A, [], _, h, _ => absurd (show cmpL [] (x :: A) < 0 by simp [cmpL]) h
 | x :: A, z :: B, R, h1, h2 => by
  rw [cmpL] at h1
  rw [Xbk, cmpL] at h2
  have hs := Zmk x z
  by_cases h0 : cmpB x z = 0
  ·have hz : cmpB z x = 0 := by omega
   rw [if_pos hz] at h1
   rw [if_pos h0] at h2
   obtain ⟨R', hR'⟩ := Zt8 h1 h2
   exact ⟨R', by rw [hR', Zcz.1 h0]; rfl⟩
  ·rw [if_neg (by omega)] at h1
   rw [if_neg h0] at h2
   omega
theorem Zrd : ∀ (A R : List Bytes), R ≠ [] -> cmpL A (A ++ R) < 0
 | [], R, h => by cases R with
  | nil => exact absurd rfl h
  | cons x r => simp [cmpL]
 | x :: A, R, h => by rw [Xbk, cmpL, if_pos (Zcz.2 rfl)]; exact Zrd A R h
def Zmu (l : List Fi) : Prop := (∀ f ∈ l, Zc5 f.1 = true) /\ l.Pairwise fun a b => Zcr a.1 b.1 = false /\ Zcr b.1 a.1 = false
theorem Zyu (l : List Fi) : (∀ i, i < l.length -> okI l i) <-> Zmu l := by
 constructor
 ·intro h
  refine ⟨fun f hf => ?_, Xbc.2 fun i j hi hj hij => ?_⟩
  ·obtain ⟨i, hi, rfl⟩ := Xb0.1 hf
   have := (h i hi).1
   rwa [Zay hi] at this
  ·have h1 := (h j hj).2 i hi (by omega)
   have h2 := (h i hi).2 j hj (by omega)
   rw [Zay hi, Zay hj] at h1 h2
   exact ⟨h1, h2⟩
 ·rintro ⟨h1, h2⟩ i hi
  have h2 := Xbc.1 h2
  refine ⟨by rw [Zay hi]; exact h1 _ (Xas hi), fun k hk hki => ?_⟩
  rw [Zay hi, Zay hk]
  rcases Xez hki with h | h
  ·exact (h2 k i hk hi h).1
  ·exact (h2 i k hi hk h).2
theorem Zpy {l m : List Fi} (h : l.Perm m) : Zmu l <-> Zmu m := by
 have hp : ∀ {l m : List Fi}, l.Perm m -> Zmu l -> Zmu m := fun h hl =>
  ⟨fun f hf => hl.1 f (h.mem_iff.2 hf), h.pairwise hl.2 (fun hab => ⟨hab.2, hab.1⟩)⟩
 exact ⟨hp h, hp h.symm⟩
def Zic (S : List Fi) (j : Nat) : Prop := Zc5 (S.getD j ([], [])).1 = true /\ (0 < j -> Zcr (S.getD (j - 1) ([], [])).1 (S.getD j ([], [])).1 = false)
abbrev pc (a b : Fi) : Int := pcmp a.1 b.1
theorem Zv4 {S : List Fi} (hs : So pc S) : (∀ j, j < S.length -> Zic S j) <-> Zmu S := by
 constructor
 ·intro h
  have hg : ∀ f ∈ S, Zc5 f.1 = true := fun f hf => by
   obtain ⟨i, hi, rfl⟩ := Xb0.1 hf
   have := (h i hi).1
   rwa [Zay hi] at this
  refine ⟨hg, Xbc.2 fun i j hi hj hij => ?_⟩
  have gi := hg _ (Xas hi)
  have gj := hg _ (Xas hj)
  have hle : ¬ cmpL (Zae 47 S[j].1) (Zae 47 S[i].1) < 0 := by
   have := Xbc.1 hs i j hi hj hij
   unfold Le pc pcmp at this
   rwa [Zdu gi, Zdu gj] at this
  have first : Zcr S[i].1 S[j].1 = false := by
   cases hc : Zcr S[i].1 S[j].1 with
   | false => rfl
   | true =>
    obtain ⟨R, hR⟩ := (Zfk gi gj).1 hc
    have hk : i + 1 < S.length := by omega
    have gk := hg _ (Xas hk)
    have h1 : ¬ cmpL (Zae 47 S[i + 1].1) (Zae 47 S[i].1) < 0 := by
     have := Xbc.1 hs i (i + 1) hi hk (by omega)
     unfold Le pc pcmp at this
     rwa [Zdu gi, Zdu gk] at this
    have h2 : ¬ cmpL (Zae 47 S[i].1 ++ R) (Zae 47 S[i + 1].1) < 0 := by
     rw [<- hR]
     rcases Xbi (show i + 1 <= j by omega) with h' | h'
     ·have := Xbc.1 hs (i + 1) j hk hj h'
      unfold Le pc pcmp at this
      rwa [Zdu gj, Zdu gk] at this
     ·have : S[i + 1] = S[j] := by congr 1
      rw [this]
      intro hx
      have := cmpL_zero.2 (rfl : Zae 47 S[j].1 = Zae 47 S[j].1)
      omega
    obtain ⟨R', hR'⟩ := Zt8 h1 h2
    have := (h (i + 1) hk).2 (by omega)
    rw [Zay hk, Nat.add_sub_cancel, Zay hi, (Zfk gi gk).2 ⟨R', hR'⟩] at this
    cases this
  refine ⟨first, ?_⟩
  cases hc : Zcr S[j].1 S[i].1 with
  | false => rfl
  | true =>
   obtain ⟨R, hR⟩ := (Zfk gj gi).1 hc
   by_cases h0 : R = []
   ·rw [h0, Xat] at hR
    rw [(Zfk gi gj).2 ⟨[], by rw [hR]; simp⟩] at first
    cases first
   ·rw [hR] at hle
    exact absurd (Zrd _ R h0) hle
 ·rintro ⟨h1, h2⟩ j hj
  refine ⟨by rw [Zay hj]; exact h1 _ (Xas hj), fun h0 => ?_⟩
  rw [Zay hj, Zay (show j - 1 < S.length by omega)]
  exact (Xbc.1 h2 (j - 1) j (by omega) hj (by omega)).1
theorem Z40 {S : List Fi} (hs : So pc S) (ha : Zmu S) (hd : ∀ f ∈ S, f.2.length <= 32768) (hl : S.length <= 512) : SoOK S := by
 have free : ∀ i j, i < S.length -> j < S.length -> i ≠ j -> ∀ R, pS S i ≠ pS S j ++ R := by
  intro i j hi hj hij R h
  unfold pS at h
  rw [Zay hi, Zay hj] at h
  have gi := ha.1 _ (Xas hi)
  have gj := ha.1 _ (Xas hj)
  have hc := (Zfk gj gi).2 ⟨R, h⟩
  rcases Xez hij with h' | h'
  ·rw [(Xbc.1 ha.2 i j hi hj h').2] at hc; cases hc
  ·rw [(Xbc.1 ha.2 j i hj hi h').1] at hc; cases hc
 refine ⟨ha.1, hd, hl, fun i j hij hj => ?_, free⟩
 have hi : i < S.length := by omega
 have gi := ha.1 _ (Xas hi)
 have gj := ha.1 _ (Xas hj)
 have hle := Xbc.1 hs i j hi hj hij
 unfold Le pc pcmp at hle
 rw [Zdu gi, Zdu gj] at hle
 have hne : cmpL (pS S i) (pS S j) ≠ 0 := fun h => free i j hi hj (by omega) [] (by rw [Xat]; exact cmpL_zero.1 h)
 have hsw := Zgt (pS S i) (pS S j)
 have e1 : pS S i = Zae 47 S[i].1 := by unfold pS; rw [Zay hi]
 have e2 : pS S j = Zae 47 S[j].1 := by unfold pS; rw [Zay hj]
 rw [<- e1, <- e2] at hle
 omega
abbrev zid : Bytes := List.replicate 32 0
theorem Zme : evp (.cat []) [] = some (.agg []) := rfl
theorem Zmz : evp (.cat [some 32]) [.agg (repl 32 (.int .u8 0))] = some (bl zid) := by rw [Z2e]; exact Zbc (by simp)
section
variable (he : EnvT e) (S : List Fi) (hl : S.length <= 1000000) (hb : ∀ f ∈ S, f.1.length <= 1000000 /\ f.2.length <= 1000000000) (m1 m2 m3 z : V)
include hl
theorem v.build65 : ∀ (n i : Nat), i + n = S.length -> (vl e 10208 65 [I S.length, I S.length, I S.length, I i, m1, m2, m3, z, aggF S] =
  if ∀ f ∈ S.drop i, f.2.length <= 32768 then (vl e 10208 65 [I S.length, I S.length, I S.length, I S.length, m1, m2, m3, z, aggF S]) else some (.tup [bl zid, I 3, m1, m2, m3])) := by
 intro n
 induction n with
 | zero =>
  intro i hi
  rw [if_pos (by rw [Xap (by omega)]; simp), show i = S.length by omega]
 | succ n ih =>
  intro i hi
  have hlt : i < S.length := by omega
  have hd := Xal hlt
  rw [w.zq30_h0_65]; unfold y.zq30_h0_65
  by_cases hc : 32768 < S[i].2.length
  ·simp only [yy, if_pos (show (i : Int) < (S.length : Int) by omega), Zba hlt, Zdr hlt, Zb3, Zop, if_pos (show (32768 : Int) < (S[i].2.length : Int) by omega), Zme, Zmz]
   rw [if_neg (fun h => by have := h S[i] (by rw [hd]; exact Xc3); omega)]
  ·simp only [yy, if_pos (show (i : Int) < (S.length : Int) by omega), Zba hlt, Zdr hlt, Zb3, Zop, if_neg (show ¬(32768 : Int) < (S[i].2.length : Int) by omega), Zam hlt (by omega)]
   rw [ih (i + 1) (by omega)]
   have : (∀ f ∈ S.drop (i + 1), f.2.length <= 32768) <-> ∀ f ∈ S.drop i, f.2.length <= 32768 := by
    rw [hd]
    exact ⟨fun h f hf => (Xa0.1 hf).elim (fun h => by rw [h]; omega) (h f), fun h f hf => h f (Xbn _ hf)⟩
   by_cases hp : ∀ f ∈ S.drop (i + 1), f.2.length <= 32768
   ·rw [if_pos hp, if_pos (this.1 hp)]
   ·rw [if_neg hp, if_neg (fun h => hp (this.2 h))]
include he hb
open Classical in
theorem v.build28 : ∀ (n i : Nat), i + n = S.length -> (vl e 10208 28 [I S.length, I S.length, I S.length, I i, m1, m2, m3, z, aggF S] =
  if ∀ j, j < S.length -> i <= j -> Zic S j then (vl e 10208 65 [I S.length, I S.length, I S.length, I (0 : Nat), m1, m2, m3, z, aggF S]) else some (.tup [bl zid, I 1, m1, m2, m3])) := by
 intro n
 induction n with
 | zero =>
  intro i hi
  rw [if_pos (fun j h1 h2 => by omega), w.zq30_h0_28]; unfold y.zq30_h0_28
  simp only [yy, if_neg (show ¬(i : Int) < (S.length : Int) by omega)]
  rfl
 | succ n ih =>
  intro i hi
  have hlt : i < S.length := by omega
  have hg := v.Good he S[i].1 (hb _ (Xas hlt)).1
  have hih := ih (i + 1) (by omega)
  have cong : Zic S i -> ((if ∀ j, j < S.length -> i + 1 <= j -> Zic S j then (vl e 10208 65 [I S.length, I S.length, I S.length, I (0 : Nat), m1, m2, m3, z, aggF S]) else some (.tup [bl zid, I 1, m1, m2, m3])) =
    if ∀ j, j < S.length -> i <= j -> Zic S j then (vl e 10208 65 [I S.length, I S.length, I S.length, I (0 : Nat), m1, m2, m3, z, aggF S]) else some (.tup [bl zid, I 1, m1, m2, m3])) := by
   intro h0
   have : (∀ j, j < S.length -> i + 1 <= j -> Zic S j) <-> ∀ j, j < S.length -> i <= j -> Zic S j := by
    refine ⟨fun h j h1 h2 => ?_, fun h j h1 h2 => h j h1 (by omega)⟩
    rcases Xbi h2 with h' | rfl
    ·exact h j h1 h'
    ·exact h0
   by_cases hp : ∀ j, j < S.length -> i + 1 <= j -> Zic S j
   ·rw [if_pos hp, if_pos (this.1 hp)]
   ·rw [if_neg hp, if_neg (fun h => hp (this.2 h))]
  have bad : ¬ Zic S i -> some (V.tup [bl zid, I 1, m1, m2, m3]) = if ∀ j, j < S.length -> i <= j -> Zic S j then (vl e 10208 65 [I S.length, I S.length, I S.length, I (0 : Nat), m1, m2, m3, z, aggF S]) else some (.tup [bl zid, I 1, m1, m2, m3]) := by
   intro h0
   rw [if_neg (fun h => h0 (h i hlt (Xaf _)))]
  rw [w.zq30_h0_28]; unfold y.zq30_h0_28
  cases hgd : Zc5 S[i].1 with
  | false =>
   rw [hgd] at hg
   rw [<- bad (fun h => by have := h.1; rw [Zay hlt, hgd] at this; cases this)]
   simp only [yy, if_pos (show (i : Int) < (S.length : Int) by omega), Zba hlt, Zdr hlt, Zb3, Zet, hg, Zme, Zmz]
  | true =>
   rw [hgd] at hg
   by_cases h0 : 0 < i
   ·have hlt' : i - 1 < S.length := by omega
    obtain ⟨x, hx, _⟩ := v.Under (e := e) S[i - 1].1 S[i].1 (hb _ (Xas hlt')).1 (hb _ (Xas hlt)).1
    have hl1 : evp (.ldd none 0 2) [aggF S, I (i - 1 : Nat)] = some (.str S[i - 1].1) := Zyf hlt'
    have p1 := Zkn (show 1 <= i by omega) (show i <= 1152921504606846976 by omega)
    cases hu : (Zb7 S[i - 1].1 S[i].1).isSome with
    | true =>
     rw [hu] at hx
     rw [<- bad (fun h => by have := h.2 h0; rw [Zay hlt, Zay hlt', Zcr, hu] at this; cases this)]
     simp only [yy, if_pos (show (i : Int) < (S.length : Int) by omega), Zba hlt, Zdr hlt, Zb3, Zet, hg, if_pos (show (0 : Int) < (i : Int) by omega), p1, Zba hlt', hl1, hx, Zme, Zmz]
    | false =>
     rw [hu] at hx
     by_cases heq : S[i - 1].1 = S[i].1
     ·rw [<- bad (fun h => by have := h.2 h0; rw [Zay hlt, Zay hlt', Zcr, decide_eq_true heq, Xfc] at this; cases this)]
      simp only [yy, if_pos (show (i : Int) < (S.length : Int) by omega), Zba hlt, Zdr hlt, Zb3, Zet, hg, if_pos (show (0 : Int) < (i : Int) by omega), p1, Zba hlt', hl1, hx, if_pos heq, Zme, Zmz]
     ·rw [<- cong ⟨by rw [Zay hlt]; exact hgd, fun _ => by rw [Zay hlt, Zay hlt', Zcr, hu, decide_eq_false heq]; rfl⟩, <- hih]
      simp only [yy, if_pos (show (i : Int) < (S.length : Int) by omega), Zba hlt, Zdr hlt, Zb3, Zet, hg, if_pos (show (0 : Int) < (i : Int) by omega), p1, Zba hlt', hl1, hx, if_neg heq, Zam hlt (by omega)]
   ·rw [<- cong ⟨by rw [Zay hlt]; exact hgd, fun h => absurd h h0⟩, <- hih]
    simp only [yy, if_pos (show (i : Int) < (S.length : Int) by omega), Zba hlt, Zdr hlt, Zb3, Zet, hg, if_neg (show ¬(0 : Int) < (i : Int) by omega), Zam hlt (by omega)]
end
theorem v.Build (he : EnvT e) (l : List Fi) (hl : l.length <= 1000000) (hb : ∀ f ∈ l, f.1.length <= 1000000 /\ f.2.length <= 1000000000) :
  ∃ (id : Bytes) (p1 p2 : MB), id.length = 32 /\ keyL p1 /\ keyL p2 /\ (whyB l ≠ 0 -> p1 = [] /\ p2 = []) /\ (whyB l = 0 -> ∃ S, S.Perm l /\ SoOK S /\ Tr S [] 0 S.length [] id p1 p2) /\
   ∀ (M1 M2 : MB) (m3 : V), keyL M1 -> keyL M2 -> vl e 10208 1 [Zad l, mv M1, mv M2, m3] = some (.tup [bl id, I (whyB l), mv (Ze7 p1 M1), mv (Ze7 p2 M2), m3]) := by
 obtain ⟨S, hperm, hso, hsort⟩ := v.sort (v.ord he) l (fun f hf => (hb f hf).1) (by omega)
 have hSl : S.length = l.length := hperm.length_eq
 have hbS : ∀ f ∈ S, f.1.length <= 1000000 /\ f.2.length <= 1000000000 := fun f hf => hb f (hperm.mem_iff.1 hf)
 have start : ∀ (M1 M2 m3 : V), ¬ 512 < l.length -> vl e 10208 1 [Zad l, M1, M2, m3] = vl e 10208 28 [I S.length, I S.length, I S.length, I (0 : Nat), M1, M2, m3, z32, aggF S] := by
  intro M1 M2 m3 hn
  rw [w.zq30_h0]; unfold y.zq30_h0
  simp only [yy, Zc8, if_neg (show ¬(512 : Int) < (l.length : Int) by omega), v.CloneF l hl, hsort]
  rw [hSl]; rfl
 have hall := (Zv4 hso).trans ((Zpy hperm).trans (Zyu l).symm)
 unfold whyB
 by_cases h512 : 512 < l.length
 ·rw [if_pos h512]
  refine ⟨zid, [], [], by simp, (fun _ h => by cases h), (fun _ h => by cases h), fun _ => ⟨rfl, rfl⟩, fun h => absurd h (by decide), fun M1 M2 m3 _ _ => ?_⟩
  rw [w.zq30_h0]; unfold y.zq30_h0
  simp only [yy, Zc8, if_pos (show (512 : Int) < (l.length : Int) by omega), Zme, Zmz]
  rfl
 rw [if_neg h512]
 have h28 := fun (m1 m2 m3 : V) => v.build28 he S (by omega) hbS m1 m2 m3 z32 S.length 0 (Xan _)
 by_cases hok : ∀ i, i < l.length -> okI l i
 rotate_left
 ·rw [if_neg hok]
  refine ⟨zid, [], [], by simp, (fun _ h => by cases h), (fun _ h => by cases h), fun _ => ⟨rfl, rfl⟩, fun h => absurd h (by decide), fun M1 M2 m3 _ _ => ?_⟩
  rw [start _ _ _ h512, h28, if_neg (fun h => hok (hall.1 fun j hj => h j hj (Xby _)))]
  rfl
 rw [if_pos hok]
 have hadj : ∀ j, j < S.length -> 0 <= j -> Zic S j := fun j hj _ => hall.2 hok j hj
 have h65 := fun (m1 m2 m3 : V) => v.build65 (e := e) S (by omega) m1 m2 m3 z32 S.length 0 (Xan _)
 by_cases hd : ∀ f ∈ l, f.2.length <= 32768
 rotate_left
 ·rw [if_neg hd]
  refine ⟨zid, [], [], by simp, (fun _ h => by cases h), (fun _ h => by cases h), fun _ => ⟨rfl, rfl⟩, fun h => absurd h (by decide), fun M1 M2 m3 _ _ => ?_⟩
  rw [start _ _ _ h512, h28, if_pos hadj, h65, if_neg (fun h => hd fun f hf => h f (by rw [Xa7]; exact hperm.mem_iff.2 hf))]
  rfl
 rw [if_pos hd]
 have hS : SoOK S := Z40 hso ((Zv4 hso).1 fun j hj => hadj j hj (Xby _)) (fun f hf => hd f (hperm.mem_iff.1 hf)) (by omega)
 obtain ⟨id, p1, p2, t1, t2, t3, t4, t5⟩ := v.below8 he S hS _ [] 0 S.length [] (Xaf _) (Xby _) (Xaf _) (fun u hu => by cases hu) (by simp [Zah]) (fun i _ hi => ⟨pS S i, Zbb _ _, rfl⟩) { nm := (fun _ h => by cases h), id := (fun _ h => by cases h), up := .nil, len := by simp } (by simp; omega) (fun en hen => by cases hen)
 refine ⟨id, p1, p2, t2, t3, t4, fun h => absurd rfl h, fun _ => ⟨S, hperm, hS, t1⟩, fun M1 M2 m3 k1 k2 => ?_⟩
 rw [start _ _ _ h512, h28, if_pos hadj, h65, if_pos (fun f hf => hd f (hperm.mem_iff.1 (by rw [Xa7] at hf; exact hf)))]
 have hb8 := t5 M1 M2 m3 z32 k1 k2
 have hrec : vl e 10624 1 [.str [], I (0 : Nat), I S.length, aggF S, mv M1, mv M2, m3] = some (.tup [bl id, I 0, aggF S, mv (Ze7 p1 M1), mv (Ze7 p2 M2), m3]) := by
  rw [w.zq37_h0]; unfold y.zq37_h0
  exact hb8
 rw [w.zq30_h0_65]; unfold y.zq30_h0_65
 simp only [yy, if_neg (show ¬(S.length : Int) < (S.length : Int) by omega)]
 rw [show V.int .i64 0 = I (0 : Nat) from rfl, hrec]
 simp only [yy, Zbc t2]
end Go.Proofs.YtpmgdngjbdkdfaaGreatDoor
namespace Go.Proofs.YtpmgdngjbdkdfaaGreatDoor
open Go.Abs
set_option maxRecDepth 10000
variable {e : Ev}
theorem v.New : vl e 10192 1 [] = some (.tup [mv [], mv [], mv []]) := by
 rw [w.zq82_h0]; rfl
theorem v.Size (M1 M2 M3 : MB) (h : M1.length + M2.length + M3.length <= 1000000000) : vl e 10448 1 [mv M1, mv M2, mv M3] = some (.tup [I (M1.length + M2.length + M3.length : Nat), mv M1, mv M2, mv M3]) := by
 rw [w.zq35_h0]; unfold y.zq35_h0
 simp only [yy, Z60, Zd1 (show M1.length + M2.length <= _ by omega), Zd1 (show M1.length + M2.length + M3.length <= _ by omega)]
theorem Zs2 (x : Bytes) : evp .scs [bl x] = some (bl x) := if_pos (Zuv x)
theorem Z1n {x : Bytes} (h : x.length = 32) : evp (.ld (some 32) 0) [bl x] = some (bl x) := by
 show Zal (some 32) (bl x).cells 0 = _
 have : (bl x).cells.length = 32 := by simp [V.cells, h]
 simp only [Zal]
 rw [if_pos (by omega), Xa7, Xax (by omega)]; rfl
theorem Z80 : Zar [] = [0, 0, 0, 0, 0, 0, 0, 0] := by decide
theorem v.Read0 : ∀ (n i : Nat), i + n = 8 -> vl e 117 18 [.str [0, 0, 0, 0, 0, 0, 0, 0], .int .u64 0, I i] = some (.tup [I 0, .bool true]) := by
 intro n
 induction n with
 | zero =>
  intro i hi
  rw [w.zq4_18]; unfold y.zq4_18
  simp only [yy, if_neg (show ¬((i : Int) < 8) by omega)]
  rfl
 | succ n ih =>
  intro i hi
  have hx : ([0, 0, 0, 0, 0, 0, 0, 0] : Bytes)[i]? = some 0 := by
   have : i = 0 \/ i = 1 \/ i = 2 \/ i = 3 \/ i = 4 \/ i = 5 \/ i = 6 \/ i = 7 := by omega
   rcases this with rfl | rfl | rfl | rfl | rfl | rfl | rfl | rfl <;> rfl
  have h1 : evp (.bin .shl .no) [.int .u64 0, .int .u64 8] = some (.int .u64 0) := rfl
  have h2 : evp (.i2i .u64) [byteV 0] = some (.int .u64 0) := rfl
  have h3 : evp (.bin .or .no) [.int .u64 0, .int .u64 0] = some (.int .u64 0) := rfl
  rw [w.zq4_18]; unfold y.zq4_18
  simp only [yy, if_pos (show (i : Int) < 8 by omega), h1, Zjg hx, h2, h3, Zam (show i < 8 by omega) (by omega)]
  exact ih (i + 1) (by omega)
theorem v.Get0 (he : EnvT e) : vl e 87 0 [.str (Zar [])] = some (.tup [entV [], I 0]) := by
 rw [Z80]
 have hr : vl e 117 0 [.str [0, 0, 0, 0, 0, 0, 0, 0]] = some (.tup [I 0, .bool true]) := by
  rw [w.zq4]; unfold y.zq4
  simp only [yy, Xaw, Xa5]
  exact v.Read0 8 0 rfl
 have hs : vl e 104 0 [.str [0, 0, 0, 0, 0, 0, 0, 0]] = some (.tup [strs [], I 0]) := by
  rw [w.zq5]; unfold y.zq5
  have q0 : evp (.len true) [.str [0, 0, 0, 0, 0, 0, 0, 0]] = some (.int .i64 8) := rfl
  have q1 : evp (.bin .quo .no) [.int .i64 8, .int .i64 8] = some (.int .i64 1) := rfl
  have q3 : evp (.mnx false) [I 0, .int .i64 4096] = some (I 0) := rfl
  have q4 : evp (.mks 1) [.int .i64 0, I 0] = some (strs []) := rfl
  have q5 : evp (.sls true false) [.str [0, 0, 0, 0, 0, 0, 0, 0], .int .i64 8] = some (.str []) := rfl
  have h17 : vl e 104 17 [.str [0, 0, 0, 0, 0, 0, 0, 0], I 0, .bool false] = some (.tup [strs [], I 0]) := by
   rw [w.zq5_17]; unfold y.zq5_17
   simp only [vif, pr, q3, q4, q5, Xak]
   rw [w.zq5_30]; rfl
  simp only [pr, ca, q0, q1, hr, Xak]
  exact h17
 have h9 : vl e 87 9 [strs [], .bool false] = some (.tup [entV [], I 0]) := by
  rw [w.zq11_9]
  show vl e 87 18 [strs [], entV []] = _
  have h42 := v.GoodTree he [] { nm := (fun _ h => by cases h), id := (fun _ h => by cases h), up := .nil, len := by simp }
  rw [w.zq11_18]; unfold y.zq11_18
  simp only [yy, Zf3, Xa5, h42]
  rfl
 rw [w.zq11]; unfold y.zq11
 simp only [pr, ca, hs, Xak]
 exact h9
theorem why0 : whyB [] = 0 := by
 unfold whyB
 rw [if_neg (by simp), if_pos (fun i hi => by simp at hi), if_pos (by simp)]
theorem v.alive08 (he : EnvT e) : vl e 7 0 [] = some (.bool true) := by
 obtain ⟨id, p1, p2, t1, t2, t3, t4, t5, t6⟩ := v.Build he [] (by simp) (by simp)
 rw [why0] at t6
 obtain ⟨S, s1, s2, s3⟩ := t5 why0
 have hS : S = [] := List.perm_nil.1 s1
 subst hS
 obtain ⟨hid, hp1, hp2⟩ : id = Zaz Za7 (Zar []) /\ p1 = [] /\ p2 = [(Zaz Za7 (Zar []), Zar [])] := by
  simp only [Xa5] at s3
  cases s3 with
  | done => exact ⟨rfl, rfl, rfl⟩
  | blob hab _ _ => omega
  | dir hk hkb _ _ _ _ => omega
 subst hid hp1 hp2
 have k0 : keyL [] := fun _ h => by cases h
 have x1 := t6 [] [] (mv []) k0 k0
 have e1 : Ze7 [] [] = [] := rfl
 have e2 : Ze7 [(Zaz Za7 (Zar []), Zar [])] [] = [(Zaz Za7 (Zar []), Zar [])] := rfl
 rw [e1, e2] at x1
 have x2 := v.PutTree he [] { nm := (fun _ h => by cases h), id := (fun _ h => by cases h), up := .nil, len := by simp } (mv []) (mv []) [(Zaz Za7 (Zar []), Zar [])] t3
 have e3 : putM [(Zaz Za7 (Zar []), Zar [])] (Zaz Za7 (Zar [])) (Zar []) = [(Zaz Za7 (Zar []), Zar [])] := by simp [putM]
 rw [e3] at x2
 have hg := Z76 (M := [(Zaz Za7 (Zar []), Zar [])]) (k := Zaz Za7 (Zar [])) t3 t1
 have e4 : getM [(Zaz Za7 (Zar []), Zar [])] (Zaz Za7 (Zar [])) = some (Zar []) := by simp [getM]
 rw [e4] at hg
 simp only [Xb6, Xdq] at hg
 have ht : vl e 11056 1 [bl (Zaz Za7 (Zar [])), mv [], mv [(Zaz Za7 (Zar []), Zar [])], mv []] = some (.tup [entV [], I 0, mv [], mv [(Zaz Za7 (Zar []), Zar [])], mv []]) := by
  rw [w.zq36_h0]; unfold y.zq36_h0
  simp only [yy, Zs2, Z1n t1, hg, v.Get0 he]
 have hd : vl e 10704 1 [.str [], bl (Zaz Za7 (Zar [])), I 1, .sl false 33 [], I 4096, mv [], mv [(Zaz Za7 (Zar []), Zar [])], mv []] = some (.tup [I 0, .sl false 33 [], I 4096, mv [], mv [(Zaz Za7 (Zar []), Zar [])], mv []]) := by
  rw [w.zq38_h0]; unfold y.zq38_h0
  simp only [yy, Zs2, Z1n t1, if_neg (show ¬(16 : Int) < 1 by omega), ht, Zm7]
  rw [w.zq38_h0_26]; unfold y.zq38_h0_26
  simp only [yy, Xa5]
  rfl
 have hf : vl e 10288 1 [bl (Zaz Za7 (Zar [])), mv [], mv [(Zaz Za7 (Zar []), Zar [])], mv []] = some (.tup [.sl false 33 [], I 0, mv [], mv [(Zaz Za7 (Zar []), Zar [])], mv []]) := by
  rw [w.zq32_h0]; unfold y.zq32_h0
  simp only [yy, Zs2, Z1n t1, hd]
  rfl
 have hz := v.Size (e := e) [] [(Zaz Za7 (Zar []), Zar [])] [] (by simp)
 have n0 : V.sl false 2 [] = Zad [] := rfl
 have n1 : V.sl false 34 [] = entV [] := rfl
 rw [w.zq40]; unfold y.zq40
 rw [n0, n1]
 simp only [yy, v.New, x1, Zbc t1, x2, hf, Zmv t1 t1]
 simp only [if_true, Xa5, Int.natCast_zero, Int.cast_ofNat_Int]
 rw [hz]
 rfl
theorem Z5f {l : List Fi} {n : Nat} (h : l.length <= n) (hn : n <= 1000) (h2 : ∀ f ∈ l, f.1.length + f.2.length <= 4096) : l.length <= 1000000 /\ ∀ f ∈ l, f.1.length <= 1000000 /\ f.2.length <= 1000000000 :=
 ⟨by omega, fun f hf => by have := h2 f hf; omega⟩
theorem Z43 {S : List Fi} {D : List Bytes} {a b : Nat} {ls : List En} {id : Bytes} {p1 p2 : MB} (h : Tr S D a b ls id p1 p2) : a <= b /\ p1.length <= b - a := by
 induction h with
 | done => simp
 | blob hab hx h ih => simp only [Xaw]; omega
 | dir hk hkb hrun hstop h1 h2 ih1 ih2 => simp only [Xag]; omega
theorem Zzp {S : List Fi} (h16 : ∀ i, i < S.length -> (pS S i).length <= 16) {D : List Bytes} {a b : Nat} {ls : List En} {id : Bytes} {p1 p2 : MB} (h : Tr S D a b ls id p1 p2) : b <= S.length -> (∀ i, a <= i -> i < b -> D.length < (pS S i).length) -> p2.length <= 1 + (b - a) * (16 - D.length) := by
 induction h with
 | done => intro _ _; simp
 | @blob D a b ls x id p1 p2 hab hx h ih =>
  intro hb hi
  have := ih hb fun i h1 h2 => hi i (by omega) h2
  have h3 : b - a = (b - (a + 1)) + 1 := by omega
  rw [h3, Xb8]; omega
 | @dir D a b k ls x id id1 p1 p2 q1 q2 hk hkb hrun hstop h1 h2 ih1 ih2 =>
  intro hb hi
  have r1 := ih1 (by omega) fun i k1 k2 => by
   obtain ⟨R, hR, hs⟩ := hrun i k1 k2
   have := Xaz.2 hR
   rw [hs]; simp; omega
  have r2 := ih2 hb fun i k1 k2 => hi i (by omega) k2
  have ha := hi a (Xaf _) (by omega)
  have ha2 := h16 a (by omega)
  simp only [Xag, Xaw, Xa5] at r1 ⊢
  have e1 : a + k - a = k := by omega
  have e2 : b - a = k + (b - (a + k)) := by omega
  have e3 : 16 - D.length = (16 - (D.length + (0 + 1))) + 1 := by omega
  rw [e1] at r1
  rw [e2, Xb8]
  have e4 : k * (16 - D.length) = k * (16 - (D.length + (0 + 1))) + k := by rw [e3, Nat.mul_succ]
  omega
end Go.Proofs.YtpmgdngjbdkdfaaGreatDoor
namespace Go.Proofs.YtpmgdngjbdkdfaaGreatDoor
open Go.Abs
set_option maxRecDepth 10000
theorem Z2r (n : Nat) : (UInt8.ofNat n).toNat = n % 256 := by simp
def valB (b : Bytes) : Nat := b.foldl (fun v c => v * 256 + c.toNat) 0
theorem Zpn {n : Nat} (h : n < 18446744073709551616) : valB (numB n) = n := by
 have e : numB n = [UInt8.ofNat (n / 2 ^ 56), UInt8.ofNat (n / 2 ^ 48), UInt8.ofNat (n / 2 ^ 40), UInt8.ofNat (n / 2 ^ 32), UInt8.ofNat (n / 2 ^ 24), UInt8.ofNat (n / 2 ^ 16), UInt8.ofNat (n / 2 ^ 8), UInt8.ofNat (n / 2 ^ 0)] := rfl
 rw [e]
 simp only [valB, List.foldl, Z2r, Nat.reducePow]
 omega
theorem Zp5 {n m : Nat} (hn : n < 18446744073709551616) (hm : m < 18446744073709551616) (h : numB n = numB m) : n = m := by
 rw [<- Zpn hn, <- Zpn hm, h]
theorem Zjr : ∀ {l m : List Bytes}, l.length = m.length -> (∀ x ∈ l, x.length < 18446744073709551616) -> (∀ x ∈ m, x.length < 18446744073709551616) -> Zfi l = Zfi m -> l = m
 | [], [], _, _, _, _ => rfl
 | x :: l, z :: m, hl, h1, h2, h => by
  rw [Zep, Zep, Xaj, Xaj] at h
  obtain ⟨e1, e2⟩ := Xc1 h (by rw [Zb9, Zb9])
  have hx := Zp5 (h1 x (by simp)) (h2 z (by simp)) e1
  obtain ⟨e3, e4⟩ := Xc1 e2 hx
  rw [e3, Zjr (by simpa using hl) (fun a ha => h1 a (by simp [ha])) (fun a ha => h2 a (by simp [ha])) e4]
theorem Zm5 {l m : List Bytes} (hl : l.length < 18446744073709551616) (hm : m.length < 18446744073709551616) (h1 : ∀ x ∈ l, x.length < 18446744073709551616) (h2 : ∀ x ∈ m, x.length < 18446744073709551616) (h : Zev l = Zev m) : l = m := by
 unfold Zev at h
 obtain ⟨e1, e2⟩ := Xc1 h (by rw [Zb9, Zb9])
 exact Zjr (Zp5 hl hm e1) h1 h2 e2
theorem Z0t {x z : En} (h : enP x = enP z) : x = z := by
 obtain ⟨a, b, c⟩ := x
 obtain ⟨a', b', c'⟩ := z
 simp only [enP, Xb4, and_true] at h
 obtain ⟨h1, rfl, rfl⟩ := h
 have : b = b' := by
  cases b <;> cases b' <;> first | rfl | (simp [Za7, Zc6] at h1)
 subst this; rfl
theorem Zii : ∀ {l m : List En}, Zb4 l = Zb4 m -> l = m
 | [], [], _ => rfl
 | [], x :: m, h => by have := congrArg List.length h; rw [Zdk, Zdk] at this; simp at this
 | x :: l, [], h => by have := congrArg List.length h; rw [Zdk, Zdk] at this; simp at this
 | x :: l, z :: m, h => by
  unfold Zb4 at h
  rw [Xbm, Xbm] at h
  obtain ⟨e1, e2⟩ := Xc1 h rfl
  rw [Z0t e1, Zii (l := l) (m := m) e2]
theorem Zs5 {l m : List En} (hl : EnOK l) (hm : EnOK m) (h : Zar l = Zar m) : l = m := by
 have len : ∀ {l : List En}, EnOK l -> (Zb4 l).length < 18446744073709551616 /\ ∀ x ∈ Zb4 l, x.length < 18446744073709551616 := by
  intro l hl
  have h0 := hl.len
  have hs := Zeh (fun x hx => (hl.nm x hx).2) hl.id
  refine ⟨by rw [Zdk]; omega, fun x hx => ?_⟩
  have := Zhv hx
  omega
 exact Zii (Zm5 (len hl).1 (len hm).1 (len hl).2 (len hm).2 h)
theorem Zw7 {X es : List En} (h : EnOK es) (he : Zar X = Zar es) : X = es := by
 have h0 := h.len
 have hs := Zeh (fun x hx => (h.nm x hx).2) h.id
 have l1 : sumL (Zb4 X) = sumL (Zb4 es) := by
  have := congrArg List.length he
  simp only [Zar, Zfd] at this; omega
 have s1 := Zem (Zb4 X)
 have s2 := Zem (Zb4 es)
 exact Zii (Zm5 (by omega) (by omega) (fun x hx => by have := Zhv hx; omega) (fun x hx => by have := Zhv hx; omega) he)
def Cons (P : MB) : Prop := ∀ p ∈ P, ∀ q ∈ P, p.1 = q.1 -> p.2 = q.2
theorem Cons.sub {P Q : MB} (h : Cons P) (hs : ∀ p ∈ Q, p ∈ P) : Cons Q := fun p hp q hq => h p (hs p hp) q (hs q hq)
theorem Tr.fin {S : List Fi} {D : List Bytes} {a b : Nat} {ls : List En} {id : Bytes} {p1 p2 : MB} (h : Tr S D a b ls id p1 p2) : ∃ es, id = Zaz Za7 (Zar (ls ++ es)) /\ (Zaz Za7 (Zar (ls ++ es)), Zar (ls ++ es)) ∈ p2 := by
 induction h with
 | done => exact ⟨[], by rw [Xat], by rw [Xat]; simp⟩
 | blob _ _ _ ih =>
  obtain ⟨es, h1, h2⟩ := ih
  exact ⟨_ :: es, by rw [h1, Xaj]; rfl, by rw [Xaj] at h2; exact h2⟩
 | dir _ _ _ _ _ _ _ ih =>
  obtain ⟨es, h1, h2⟩ := ih
  exact ⟨_ :: es, by rw [h1, Xaj]; rfl, by rw [Xaj] at h2; exact Xa9 _ h2⟩
theorem Tr.det {S : List Fi} {D : List Bytes} {a b : Nat} {ls : List En} {id : Bytes} {p1 p2 : MB} (h : Tr S D a b ls id p1 p2) : ∀ {id' : Bytes} {q1 q2 : MB}, Tr S D a b ls id' q1 q2 -> id = id' /\ p1 = q1 /\ p2 = q2 := by
 induction h with
 | done =>
  intro id' q1 q2 h'
  cases h' with
  | done => exact ⟨rfl, rfl, rfl⟩
  | blob hab _ _ => omega
  | dir hk hkb _ _ _ _ => omega
 | @blob D a b ls x id p1 p2 hab hx h ih =>
  intro id' q1 q2 h'
  cases h' with
  | done => omega
  | blob hab' hx' h' =>
   have := Xca (hx.symm.trans hx')
   simp only [Xb4, and_true] at this
   subst this
   obtain ⟨e1, e2, e3⟩ := ih h'
   exact ⟨e1, by rw [e2], e3⟩
  | dir hk hkb hrun hstop h1 h2 =>
   obtain ⟨R, hR, hs⟩ := hrun a (Xaf _) (by omega)
   have := Xca (hx.symm.trans hs)
   simp only [Xb4] at this
   exact absurd this.2.symm hR
 | @dir D a b k ls x id id1 p1 p2 q1 q2 hk hkb hrun hstop h1 h2 ih1 ih2 =>
  intro id' r1 r2 h'
  obtain ⟨R, hR, hs⟩ := hrun a (Xaf _) (by omega)
  cases h' with
  | done => omega
  | blob hab' hx' h' =>
   have := Xca (hx'.symm.trans hs)
   simp only [Xb4] at this
   exact absurd this.2.symm hR
  | @dir _ _ _ k' _ x' _ _ _ _ _ _ hk' hkb' hrun' hstop' h1' h2' =>
   obtain ⟨R', hR', hs'⟩ := hrun' a (Xaf _) (by omega)
   have := Xca (hs.symm.trans hs')
   simp only [Xb4] at this
   obtain ⟨rfl, _⟩ := this
   have hkk : k = k' := by
    rcases Xbv k k' with h | h | h
    ·exact absurd (hrun' (a + k) (by omega) (by omega)) (hstop (by omega))
    ·exact h
    ·exact absurd (hrun (a + k') (by omega) (by omega)) (hstop' (by omega))
   subst hkk
   obtain ⟨e1, e2, e3⟩ := ih1 h1'
   subst e1 e2 e3
   obtain ⟨f1, f2, f3⟩ := ih2 h2'
   exact ⟨f1, by rw [f2], by rw [f3]⟩
def relS (S : List Fi) (D : List Bytes) (a b : Nat) : List (List Bytes × Bytes) := (List.range' a (b - a)).map fun i => ((pS S i).drop D.length, (S.getD i ([], [])).2)
theorem Zq0 (S : List Fi) (D : List Bytes) (a : Nat) : relS S D a a = [] := by simp [relS]
theorem Zqr {S : List Fi} {D : List Bytes} {a b : Nat} (h : a < b) : relS S D a b = ((pS S a).drop D.length, (S.getD a ([], [])).2) :: relS S D (a + 1) b := by
 unfold relS
 rw [show b - a = (b - (a + 1)) + 1 by omega, Xen]; rfl
theorem Zt0 {S : List Fi} {D : List Bytes} {a m b : Nat} (h1 : a <= m) (h2 : m <= b) : relS S D a b = relS S D a m ++ relS S D m b := by
 unfold relS
 rw [<- Xc0]
 have := List.range'_append_1 (s := a) (m := m - a) (n := b - m)
 rw [show a + (m - a) = m by omega, show m - a + (b - m) = b - a by omega] at this
 rw [this]
theorem Zqg {S : List Fi} {D : List Bytes} {x : Bytes} {a b : Nat} (h : ∀ i, a <= i -> i < b -> ∃ R, R ≠ [] /\ pS S i = D ++ x :: R) : relS S D a b = (relS S (D ++ [x]) a b).map fun p => (x :: p.1, p.2) := by
 unfold relS
 rw [Xdf]
 refine Xd3 fun i hi => ?_
 rw [List.mem_range'_1] at hi
 obtain ⟨R, _, hs⟩ := h i hi.1 (by omega)
 simp only [Function.comp, hs, Xc5, and_true]
 rw [Xc6]
 have : (D ++ x :: R).drop (D ++ [x]).length = R := by rw [show D ++ x :: R = (D ++ [x]) ++ R by simp, Xc6]
 rw [this]
theorem Tr.ok {S : List Fi} (hS : SoOK S) {D : List Bytes} {a b : Nat} {ls : List En} {id : Bytes} {p1 p2 : MB} (h : Tr S D a b ls id p1 p2) : id.length = 32 := by
 obtain ⟨es, h1, _⟩ := h.fin
 rw [h1]; exact Zaj _ _
theorem Tr.inj {S S' : List Fi} {P1 P2 : MB} (c1 : Cons P1) (c2 : Cons P2) (okP : ∀ es, (Zaz Za7 (Zar es), Zar es) ∈ P2 -> EnOK es)
  {D : List Bytes} {a b : Nat} {ls : List En} {id : Bytes} {p1 p2 : MB} (h : Tr S D a b ls id p1 p2) : (∀ p ∈ p1, p ∈ P1) -> (∀ p ∈ p2, p ∈ P2) ->
  ∀ {D' : List Bytes} {a' b' : Nat} {ls' : List En} {q1 q2 : MB}, Tr S' D' a' b' ls' id q1 q2 -> (∀ p ∈ q1, p ∈ P1) -> (∀ p ∈ q2, p ∈ P2) -> ls.length = ls'.length -> relS S D a b = relS S' D' a' b' := by
 -- the whole lists are the same
 have whole : ∀ {X Y : List En}, Zaz Za7 (Zar X) = Zaz Za7 (Zar Y) -> (Zaz Za7 (Zar X), Zar X) ∈ P2 -> (Zaz Za7 (Zar Y), Zar Y) ∈ P2 -> X = Y := by
  intro X Y he h1 h2
  exact Zs5 (okP _ h1) (okP _ h2) (c2 _ h1 _ h2 he)
 induction h with
 | @done D a ls hok =>
  intro s1 s2 D' a' b' ls' q1 q2 h' t1 t2 hl
  have hin : (Zaz Za7 (Zar ls), Zar ls) ∈ P2 := s2 _ (Xa4.2 rfl)
  have no : ∀ {e : En} {es : List En}, Zaz Za7 (Zar ls) = Zaz Za7 (Zar ((ls' ++ [e]) ++ es)) -> (Zaz Za7 (Zar ((ls' ++ [e]) ++ es)), Zar ((ls' ++ [e]) ++ es)) ∈ P2 -> False := by
   intro e es he hin'
   have := whole he hin hin'
   have := congrArg List.length this
   simp at this; omega
  rw [Zq0]
  generalize hid : Zaz Za7 (Zar ls) = idd at h'
  cases h' with
  | done => rw [Zq0]
  | blob hab hx h2 =>
   obtain ⟨es, e1, e2⟩ := h2.fin
   exact (no (hid.trans e1) (t2 _ e2)).elim
  | dir hk hkb hrun hstop h1 h2 =>
   obtain ⟨es, e1, e2⟩ := h2.fin
   exact (no (hid.trans e1) (t2 _ (Xa9 _ e2))).elim
 | @blob D a b ls x id p1 p2 hab hx h ih =>
  intro s1 s2 D' a' b' ls' q1 q2 h' t1 t2 hl
  obtain ⟨es, e1, e2⟩ := h.fin
  rw [Zqr hab, hx, Xc6]
  generalize hid : id = idd at h'
  cases h' with
  | done =>
   have := whole (e1.symm.trans hid) (s2 _ e2) (t2 _ (Xa4.2 rfl))
   have := congrArg List.length this
   simp at this; omega
  | @blob _ _ _ _ x' _ _ _ hab' hx' h2 =>
   subst hid
   obtain ⟨es', f1, f2⟩ := h2.fin
   have hw := whole (e1.symm.trans f1) (s2 _ e2) (t2 _ f2)
   rw [Xaj, Xaj] at hw
   obtain ⟨g1, g2⟩ := Xc1 hw hl
   simp only [Xct, Xb4, En.mk.injEq, true_and] at g2
   obtain ⟨⟨rfl, hd⟩, _⟩ := g2
   have hdd := c1 (Zaz Zc6 (S.getD a ([], [])).2, (S.getD a ([], [])).2) (s1 _ (by simp)) (Zaz Zc6 (S'.getD a' ([], [])).2, (S'.getD a' ([], [])).2) (t1 _ (by simp)) hd
   simp only at hdd
   rw [Zqr hab', hx', Xc6, hdd, ih (fun p hp => s1 p (by simp [hp])) s2 h2 (fun p hp => t1 p (by simp [hp])) t2 (by simp [hl])]
  | @dir _ _ _ _ _ x' _ _ _ _ _ _ hk hkb hrun hstop h1 h2 =>
   subst hid
   obtain ⟨es', f1, f2⟩ := h2.fin
   have hw := whole (e1.symm.trans f1) (s2 _ e2) (t2 _ (Xa9 _ f2))
   rw [Xaj, Xaj] at hw
   obtain ⟨g1, g2⟩ := Xc1 hw hl
   simp at g2
 | @dir D a b k ls x id id1 p1 p2 r1 r2 hk hkb hrun hstop h1 h2 ih1 ih2 =>
  intro s1 s2 D' a' b' ls' q1 q2 h' t1 t2 hl
  obtain ⟨es, e1, e2⟩ := h2.fin
  have e2' := s2 _ (Xa9 _ e2)
  rw [Zt0 (show a <= a + k by omega) hkb, Zqg hrun]
  generalize hid : id = idd at h'
  cases h' with
  | done =>
   have := whole (e1.symm.trans hid) e2' (t2 _ (Xa4.2 rfl))
   have := congrArg List.length this
   simp at this; omega
  | @blob _ _ _ _ x' _ _ _ hab' hx' h2' =>
   subst hid
   obtain ⟨es', f1, f2⟩ := h2'.fin
   have hw := whole (e1.symm.trans f1) e2' (t2 _ f2)
   rw [Xaj, Xaj] at hw
   obtain ⟨g1, g2⟩ := Xc1 hw hl
   simp at g2
  | @dir _ _ _ k' _ x' _ id1' _ _ _ _ hk' hkb' hrun' hstop' h1' h2' =>
   subst hid
   obtain ⟨es', f1, f2⟩ := h2'.fin
   have hw := whole (e1.symm.trans f1) e2' (t2 _ (Xa9 _ f2))
   rw [Xaj, Xaj] at hw
   obtain ⟨g1, g2⟩ := Xc1 hw hl
   simp only [Xct, Xb4, En.mk.injEq, true_and] at g2
   obtain ⟨⟨rfl, hd⟩, _⟩ := g2
   subst hd
   rw [Zt0 (show a' <= a' + k' by omega) hkb', Zqg hrun',
    ih1 (fun p hp => s1 p (Xbh _ hp)) (fun p hp => s2 p (Xbh _ hp)) h1' (fun p hp => t1 p (Xbh _ hp)) (fun p hp => t2 p (Xbh _ hp)) rfl,
    ih2 (fun p hp => s1 p (Xa9 _ hp)) (fun p hp => s2 p (Xa9 _ hp)) h2' (fun p hp => t1 p (Xa9 _ hp)) (fun p hp => t2 p (Xa9 _ hp)) (by simp [hl])]
theorem Tr.oks {S : List Fi} {D : List Bytes} {a b : Nat} {ls : List En} {id : Bytes} {p1 p2 : MB} (h : Tr S D a b ls id p1 p2) : ∀ p ∈ p2, ∃ es, EnOK es /\ p = (Zaz Za7 (Zar es), Zar es) := by
 induction h with
 | done hok => exact fun p hp => ⟨_, hok, Xa4.1 hp⟩
 | blob _ _ _ ih => exact ih
 | dir _ _ _ _ _ _ ih1 ih2 => exact fun p hp => (Xay.1 hp).elim (ih1 p) (ih2 p)
theorem Tr.finOK {S : List Fi} {D : List Bytes} {a b : Nat} {ls : List En} {id : Bytes} {p1 p2 : MB} (h : Tr S D a b ls id p1 p2) : ∃ es, EnOK (ls ++ es) := by
 induction h with
 | done hok => exact ⟨[], by rw [Xat]; exact hok⟩
 | blob _ _ _ ih =>
  obtain ⟨es, h1⟩ := ih
  exact ⟨_ :: es, by rw [Xaj] at h1; exact h1⟩
 | dir _ _ _ _ _ _ _ ih =>
  obtain ⟨es, h1⟩ := ih
  exact ⟨_ :: es, by rw [Xaj] at h1; exact h1⟩
theorem Z1o {S S' : List Fi} (hS : SoOK S) (hS' : SoOK S') (h : relS S [] 0 S.length = relS S' [] 0 S'.length) : S = S' := by
 have key : ∀ S : List Fi, relS S [] 0 S.length = S.map fun f => (Zae 47 f.1, f.2) := by
  intro S
  unfold relS
  refine Xd2 (by simp) fun i h1 h2 => ?_
  simp only [Xcj] at h2
  simp only [List.getElem_map, List.getElem_range', Xan, Nat.one_mul, Xa5, Xa7, pS]
  rw [Zay h2]
 rw [key, key] at h
 refine Xd2 (by simpa using congrArg List.length h) fun i h1 h2 => ?_
 have := congrArg (fun l => l[i]?) h
 simp only [Xbp, Xad h1, Xad h2, Xau, Xac, Xc5] at this
 have e1 : S[i].1 = S'[i].1 := by rw [<- Zbe 47 S[i].1, <- Zbe 47 S'[i].1, this.1]
 exact Prod.ext e1 this.2
theorem Tr.one {S S' : List Fi} (hS : SoOK S) (hS' : SoOK S') {id id' : Bytes} {p1 p2 q1 q2 : MB} (h : Tr S [] 0 S.length [] id p1 p2) (h' : Tr S' [] 0 S'.length [] id' q1 q2) (c1 : Cons (p1 ++ q1)) (c2 : Cons (p2 ++ q2)) : id = id' <-> S = S' := by
 constructor
 ·intro he
  subst he
  refine Z1o hS hS' (h.inj c1 c2 (fun es hes => ?_) (fun p hp => Xbh _ hp) (fun p hp => Xbh _ hp) h' (fun p hp => Xa9 _ hp) (fun p hp => Xa9 _ hp) rfl)
  have : ∃ es', EnOK es' /\ (Zaz Za7 (Zar es), Zar es) = (Zaz Za7 (Zar es'), Zar es') := (Xay.1 hes).elim (h.oks _) (h'.oks _)
  obtain ⟨es', o, hq⟩ := this
  rw [Zw7 o (congrArg Prod.snd hq)]; exact o
 ·rintro rfl
  exact (h.det h').1
end Go.Proofs.YtpmgdngjbdkdfaaGreatDoor
namespace Go.Proofs.YtpmgdngjbdkdfaaGreatDoor
open Go.Abs
set_option maxRecDepth 10000
variable {e : Ev}
theorem v.rSplit (p : Bytes) (hp : p.length <= 1000000) : vl e 52 0 [.str p] = some (strs (Zb2 p)) := by
 rw [w.zq54]; unfold y.zq54 Zb2
 by_cases h : p = []
 ·simp only [yy, if_pos h]; rfl
 ·simp only [yy, if_neg h, v.rParts p (by omega)]
theorem Zy3 (a b : Bytes) : evp (.bin .gtr .no) [.str a, .str b] = some (.bool (Op.bytesLess b a)) := by
 show some (V.bool (!(Op.bytesLess a b || decide (a = b)))) = _
 rw [Zk2]
theorem v.rCmp10 (a b : List Bytes) (ha : a.length <= 1000000000) (hb : b.length <= 1000000000) : ∀ (n i : Nat), i + n = a.length -> i <= b.length -> vl e 32 10 [strs a, strs b, I i] = some (I (cmpL (a.drop i) (b.drop i))) := by
 intro n
 induction n with
 | zero =>
  intro i hi hib
  rw [w.zq49_10]; unfold y.zq49_10
  have e1 : a.drop i = [] := Xap (by omega)
  rw [e1]
  by_cases h : a.length < b.length
  ·simp only [yy, Zf3, if_neg (show ¬((i : Int) < (a.length : Int)) by omega), if_pos (show (a.length : Int) < (b.length : Int) by omega)]
   rw [Xal (show i < b.length by omega)]; rfl
  ·simp only [yy, Zf3, if_neg (show ¬((i : Int) < (a.length : Int)) by omega), if_neg (show ¬(a.length : Int) < (b.length : Int) by omega), if_neg (show ¬(b.length : Int) < (a.length : Int) by omega)]
   rw [Xap (show b.length <= i by omega)]; rfl
 | succ n ih =>
  intro i hi hib
  have ha' : i < a.length := by omega
  rw [w.zq49_10]; unfold y.zq49_10
  by_cases hb' : i < b.length
  ·have := ih (i + 1) (by omega) (by omega)
   rw [Xal ha', Xal hb', cmpL]
   unfold cmpB
   cases hl : Op.bytesLess a[i] b[i] with
   | true =>
    simp only [yy, Zf3, if_pos (show (i : Int) < (a.length : Int) by omega), if_pos (show (i : Int) < (b.length : Int) by omega), Zd7 ha', Zd7 hb', Zdz, hl]
    simp
   | false =>
    cases hg : Op.bytesLess b[i] a[i] with
    | true =>
     simp only [yy, Zf3, if_pos (show (i : Int) < (a.length : Int) by omega), if_pos (show (i : Int) < (b.length : Int) by omega), Zd7 ha', Zd7 hb', Zdz, Zy3, hl, hg]
     simp
    | false =>
     simp only [yy, Zf3, if_pos (show (i : Int) < (a.length : Int) by omega), if_pos (show (i : Int) < (b.length : Int) by omega), Zd7 ha', Zd7 hb', Zdz, Zy3, hl, hg, Zam ha' (show a.length <= 1152921504606846976 by omega)]
     rw [this]
     simp
  ·rw [Xal ha', Xap (show b.length <= i by omega)]
   simp only [yy, Zf3, if_pos (show (i : Int) < (a.length : Int) by omega), if_neg (show ¬(i : Int) < (b.length : Int) by omega), if_neg (show ¬(a.length : Int) < (b.length : Int) by omega), if_pos (show (b.length : Int) < (a.length : Int) by omega)]
   rfl
theorem v.rCompare (a b : Bytes) (ha : a.length <= 1000000) (hb : b.length <= 1000000) : vl e 32 0 [.str a, .str b] = some (I (pcmp a b)) := by
 have h1 := Zdb a
 have h2 := Zdb b
 rw [w.zq49]; unfold y.zq49
 simp only [yy, v.rSplit a ha, v.rSplit b hb]
 exact v.rCmp10 (Zb2 a) (Zb2 b) (by omega) (by omega) (Zb2 a).length 0 (Xan _) (Xby _)
theorem Zyl {sz : Nat} {l : List V} {i : Nat} (h : i <= l.length) : evp (.slc sz false true false) [.sl false sz l, .int .i64 (i : Int)] = some (.sl false sz (l.take i)) := by
 simp only [evp, Zt2, vSlc, vOpt]
 simp [cut3, h]
theorem Zuy {l : List Fi} {i : Nat} (h : i <= l.length) : evp (.slc 2 false true false) [Zad l, I i] = some (Zad (l.take i)) := by
 rw [Zad, Zyl (by simpa using h), Zad, Xdm]
theorem Zup {l : List Fi} {i : Nat} (h : i <= l.length) : evp (.slc 2 true false false) [Zad l, I i] = some (Zad (l.drop i)) := by
 rw [Zad, Z5h (by simpa using h), Zad, Xe6]
theorem Zjy {l m : List Fi} (h : l.length + m.length <= Lim) : evp (.app 2) [Zad l, Zad m] = some (Zad (l ++ m)) := by
 rw [Zad, Zad, Znk (by simpa using h), Zad, Xc0]
theorem Zy2 {x : Fi} : evp (.bsl 2) [fv x] = some (Zad [x]) := rfl
theorem Zsx : evp (.bsl 2) [] = some (Zad []) := rfl
theorem v.sorted25 (he : EnvT e) (l : List Fi) (i : Nat) (hi : i < l.length) (hl : l.length <= 1000000) (out : List Fi) (ho : out.length <= 1000000) (hb : ∀ f ∈ out, f.1.length <= 1000000) (hf : l[i].1.length <= 1000000) (hs : So pc out) :
  ∀ k, k <= out.length -> (∀ j (h : j < out.length), k <= j -> pc l[i] out[j] < 0) ->
  ∃ R : List Fi, R.Perm (out ++ [l[i]]) /\ So pc R /\ vl e 11 25 [Zad out, I k, Zad l, I l.length, I i, fv l[i]] = vl e 11 10 [Zad R, Zad l, I l.length, I (i + 1 : Nat)] := by
 have hor := v.ord (e := e) he
 intro k
 -- the place is found
 have put : ∀ k, k <= out.length -> (∀ j (h : j < out.length), k <= j -> pc l[i] out[j] < 0) -> (∀ j (h : j < out.length), j < k -> ¬ pc l[i] out[j] < 0) -> (out.take k ++ l[i] :: out.drop k).Perm (out ++ [l[i]]) /\ So pc (out.take k ++ l[i] :: out.drop k) := by
  intro k hk h1 h2
  constructor
  ·refine Xe7.trans ?_
   rw [Xbj]
   exact (Xem (l₁ := [l[i]]))
  ·refine Xb5.2 ⟨hs.sublist (Xe4 _ _), Xcg.2 ⟨fun t ht => hor.asy _ _ (Zfx (P := fun t => pc l[i] t < 0) h1 t ht), hs.sublist (Xeg _ _)⟩, fun s hs' t ht => ?_⟩
   have q := Zh9 (P := fun t => ¬ pc l[i] t < 0) h2 s hs'
   rcases Xa0.1 ht with rfl | ht
   ·exact q
   ·exact hor.tr _ _ _ q (hor.asy _ _ (Zfx (P := fun t => pc l[i] t < 0) h1 t ht))
 induction k with
 | zero =>
  intro hk h1
  obtain ⟨p1, p2⟩ := put 0 hk h1 (fun j _ h => by omega)
  refine ⟨_, p1, p2, ?_⟩
  have t0 : evp (.slc 2 false true false) [Zad out, I (0 : Nat)] = some (Zad []) := Zuy (l := out) (i := 0) (Xby _)
  have d0 : evp (.slc 2 true false false) [Zad out, I (0 : Nat)] = some (Zad out) := Zup (l := out) (i := 0) (Xby _)
  have a0 : evp (.app 2) [Zad [], Zad []] = some (Zad []) := Zjy (l := []) (m := []) (by simp [Lim])
  have a1 : evp (.app 2) [Zad [], Zad [l[i]]] = some (Zad [l[i]]) := Zjy (l := []) (m := [l[i]]) (by simp [Lim])
  have a2 : evp (.app 2) [Zad [l[i]], Zad out] = some (Zad (l[i] :: out)) := Zjy (l := [l[i]]) (m := out) (by simp [Lim]; omega)
  rw [w.zq60_25]; unfold y.zq60_25
  simp only [yy, if_neg (show ¬(0 : Int) < ((0 : Nat) : Int) by omega), Zsx, t0, a0, Zy2, a1, d0, a2, Zam hi (show l.length <= 1152921504606846976 by omega)]
  rfl
 | succ k ih =>
  intro hk h1
  have hlt : k < out.length := by omega
  have hc := v.rCompare (e := e) out[k].1 l[i].1 (hb _ (Xas hlt)) hf
  have sw := Zfn out[k].1 l[i].1
  have g1 : evp (.elem 2) [Zad out, I k] = some (fv out[k]) := Zcm hlt
  have p1 : IntKind.i64.wrap (((k + 1 : Nat) : Int) - 1) = (k : Int) := by rw [Zkn (by omega) (by omega)]; rfl
  by_cases hgt : 0 < pcmp out[k].1 l[i].1
  ·obtain ⟨R, r1, r2, r3⟩ := ih (by omega) (fun j hj hkj => by
    rcases Xbi hkj with h | rfl
    ·exact h1 j hj h
    ·show pcmp l[i].1 out[k].1 < 0
     omega)
   refine ⟨R, r1, r2, ?_⟩
   rw [w.zq60_25]; unfold y.zq60_25
   simp only [yy, if_pos (show (0 : Int) < ((k + 1 : Nat) : Int) by omega), p1, g1, Zet, hc, if_pos hgt]
   exact r3
  ·have hno : ∀ j (h : j < out.length), j < k + 1 -> ¬ pc l[i] out[j] < 0 := by
    intro j hj hjk
    have q : ¬ pc l[i] out[k] < 0 := by
     show ¬ pcmp l[i].1 out[k].1 < 0
     omega
    exact hor.tr _ _ _ (Ze5 hor hs (show j <= k by omega) hlt) q
   obtain ⟨q1, q2⟩ := put (k + 1) hk h1 hno
   refine ⟨_, q1, q2, ?_⟩
   have t0 := Zuy (l := out) (i := k + 1) hk
   have d0 := Zup (l := out) (i := k + 1) hk
   have a0 : evp (.app 2) [Zad [], Zad (out.take (k + 1))] = some (Zad (out.take (k + 1))) := Zjy (l := []) (by simp [Lim]; omega)
   have a1 : evp (.app 2) [Zad (out.take (k + 1)), Zad [l[i]]] = some (Zad (out.take (k + 1) ++ [l[i]])) := Zjy (by simp [Lim]; omega)
   have a2 : evp (.app 2) [Zad (out.take (k + 1) ++ [l[i]]), Zad (out.drop (k + 1))] = some (Zad ((out.take (k + 1) ++ [l[i]]) ++ out.drop (k + 1))) := Zjy (by simp [Lim]; omega)
   rw [w.zq60_25]; unfold y.zq60_25
   simp only [yy, if_pos (show (0 : Int) < ((k + 1 : Nat) : Int) by omega), p1, g1, Zet, hc, if_neg hgt, Zsx, t0, a0, Zy2, a1, d0, a2, Zam hi (show l.length <= 1152921504606846976 by omega)]
   rw [Xaj]; rfl
theorem v.rSorted (he : EnvT e) (l : List Fi) (hl : l.length <= 1000000) (hb : ∀ f ∈ l, f.1.length <= 1000000) :
  ∃ R : List Fi, R.Perm l /\ So pc R /\ vl e 11 0 [Zad l] = some (Zad R) := by
 have key : ∀ (n i : Nat) (out : List Fi), i + n = l.length -> out.Perm (l.take i) -> So pc out -> ∃ R : List Fi, R.Perm l /\ So pc R /\ vl e 11 10 [Zad out, Zad l, I l.length, I i] = some (Zad R) := by
  intro n
  induction n with
  | zero =>
   intro i out hi hp hs
   refine ⟨out, by rw [Xax (by omega)] at hp; exact hp, hs, ?_⟩
   rw [w.zq60_10]; unfold y.zq60_10
   simp only [yy, if_neg (show ¬((i : Int) < (l.length : Int)) by omega)]
  | succ n ih =>
   intro i out hi hp hs
   have hlt : i < l.length := by omega
   have hol : out.length = i := by rw [hp.length_eq, Xbl]; omega
   obtain ⟨R, r1, r2, r3⟩ := v.sorted25 he l i hlt hl out (by omega) (fun f hf => hb f (Xbg (hp.mem_iff.1 hf))) (hb _ (Xas hlt)) hs out.length (Xaf _) (fun j h1 h2 => by omega)
   obtain ⟨R', q1, q2, q3⟩ := ih (i + 1) R (by omega) (by
    rw [Xch hlt]
    exact r1.trans (hp.append_right _)) r2
   refine ⟨R', q1, q2, ?_⟩
   rw [w.zq60_10]; unfold y.zq60_10
   simp only [yy, if_pos (show (i : Int) < (l.length : Int) by omega), Zcm hlt, Zf2, Zb3, Zc8]
   exact r3.trans q3
 rw [w.zq60]; unfold y.zq60
 simp only [yy, Zc8]
 exact key l.length 0 [] (Xan _) (by simp) .nil
theorem Zvn {α : Type} {r : α -> α -> Prop} (has : ∀ a b, r a b -> ¬ r b a) : ∀ {l m : List α}, l.Perm m -> l.Pairwise r -> m.Pairwise r -> l = m
 | [], m, hp, _, _ => (List.nil_perm.1 hp).symm
 | a :: l, [], hp, _, _ => absurd (List.perm_nil.1 hp) (by simp)
 | a :: l, b :: m, hp, h1, h2 => by
  have h1' := Xcg.1 h1
  have h2' := Xcg.1 h2
  have hab : a = b := by
   rcases Xa0.1 (hp.mem_iff.1 (Xc3 (a := a) (l := l))) with h | ha
   ·exact h
   ·rcases Xa0.1 (hp.mem_iff.2 (Xc3 (a := b) (l := m))) with h | hb
    ·exact h.symm
    ·exact absurd (h1'.1 b hb) (has b a (h2'.1 a ha))
  subst hab
  rw [Zvn has (List.perm_cons a |>.1 hp) h1'.2 h2'.2]
theorem Ztm {S R : List Fi} (hS : SoOK S) (hR : SoOK R) (h : S.Perm R) : S = R := by
 have pw : ∀ {S : List Fi}, SoOK S -> S.Pairwise fun a b => cmpL (Zae 47 a.1) (Zae 47 b.1) < 0 := by
  intro S hS
  refine Xbc.2 fun i j hi hj hij => ?_
  have := hS.up i j hij hj
  unfold pS at this
  rwa [Zay hi, Zay hj] at this
 exact Zvn (fun a b h1 h2 => by rw [Zgt] at h2; omega) h (pw hS) (pw hR)
theorem Z1d {a : List Bytes} {x : Bytes} (h : a.length + 1 <= Lim) : evp (.app 1) [strs a, .sl false 1 [.str x]] = some (strs (a ++ [x])) := Zps h
theorem Zzl {a : List Bytes} {x u : Bytes} (h : a.length + 2 <= Lim) : evp (.app 1) [strs a, strs [x, u]] = some (strs (a ++ [x, u])) := by
 rw [strs, strs, Znk (by simpa using h)]; simp
theorem v.rTree10 (l : List En) (h : EnOK l) : ∀ (n i : Nat), i + n = l.length -> vl e 17 10 [strs (Zb4 (l.take i)), entV l, I l.length, I i] = some (.str (Zar l)) := by
 intro n
 induction n with
 | zero =>
  intro i hi
  have hlen := h.len
  have hs := Zeh (fun x hx => (h.nm x hx).2) h.id
  have hj := v.refJoin (e := e) (Zb4 l) (by omega)
  rw [w.zq57_10]; unfold y.zq57_10
  rw [Xax (show l.length <= i by omega)]
  simp only [yy, if_neg (show ¬((i : Int) < (l.length : Int)) by omega), hj]
  rfl
 | succ n ih =>
  intro i hi
  have hlen := h.len
  have hlt : i < l.length := by omega
  have hid := h.id _ (Xas hlt)
  have hal : (Zb4 (l.take i)).length + 3 <= Lim := by rw [Zdk, Xbl]; unfold Lim; omega
  have hto : Zb4 (l.take (i + 1)) = Zb4 (l.take i) ++ enP l[i] := by
   rw [Xch hlt, Zb4, List.flatMap_append]; simp [Zb4]
  have := ih (i + 1) (by omega)
  rw [hto] at this
  have p1 : ∀ x : Bytes, evp (.app 1) [strs (Zb4 (l.take i)), .sl false 1 [.str x]] = some (strs (Zb4 (l.take i) ++ [x])) := fun x => Z1d (by omega)
  have p2 : ∀ x a b : Bytes, evp (.app 1) [strs (Zb4 (l.take i) ++ [x]), strs [a, b]] = some (strs ((Zb4 (l.take i) ++ [x]) ++ [a, b])) := fun x a b => Zzl (by simp; omega)
  rw [w.zq57_10]; unfold y.zq57_10
  cases ht : l[i].tr with
  | false =>
   rw [enP, ht] at this
   simp only [yy, if_pos (show (i : Int) < (l.length : Int) by omega), Zhp hlt, Zrq hid, Zjx hid, Zui, ht, Zo6, Zv6 hid, Zh7, Znx, p1, p2, Zam hlt (by omega)]
   rw [Xaj]; exact this
  | true =>
   rw [enP, ht] at this
   simp only [yy, if_pos (show (i : Int) < (l.length : Int) by omega), Zhp hlt, Zrq hid, Zjx hid, Zui, ht, Zo6, Zv6 hid, Zh7, Znx, p1, p2, Zam hlt (by omega)]
   rw [Xaj]; exact this
theorem v.rTree (l : List En) (h : EnOK l) : vl e 17 0 [entV l] = some (.str (Zar l)) := by
 rw [w.zq57]; unfold y.zq57
 simp only [yy, Zm7]
 exact v.rTree10 l h l.length 0 (Xan _)
structure Obj where
 kind : Bytes
 id : Bytes
 data : Bytes
def ov (o : Obj) : V := .agg (.str o.kind :: (o.id.map byteV ++ [.str o.data]))
abbrev objV (l : List Obj) : V := .sl false 34 (l.map ov)
def idL (l : List Obj) : Prop := ∀ o ∈ l, o.id.length = 32
theorem Zno {l : List Obj} {i : Nat} (h : i < l.length) : evp (.elem 34) [objV l, I i] = some (ov l[i]) := Zkm (by simp [h])
theorem Zth {l : List Obj} : evp (.len false) [objV l] = some (I l.length) := by rw [objV, Zuf, Xcj]
theorem Zne {o : Obj} (h : o.id.length = 32) : (ov o).cells.length = 34 := by simp [ov, V.cells, h]
theorem Z38 (o : Obj) : (ov o).cells.all V.sc = true := by
 show (V.str o.kind :: (o.id.map byteV ++ [.str o.data])).all V.sc = true
 rw [Xcv, Xd9, Zuv]; rfl
theorem Zmd {o : Obj} (h : o.id.length = 32) : evp (.ld (some 34) 0) [ov o] = some (ov o) := by
 show Zal (some 34) (ov o).cells 0 = _
 simp only [Zal]
 rw [if_pos (by rw [Zne h]; omega), Xa7, Xax (by rw [Zne h]; omega)]; rfl
theorem Zhm {o : Obj} (h : o.id.length = 32) : evp (.cat [some 34]) [ov o] = some (ov o) := by
 show (catV [some 34] [ov o]).map V.agg = _
 simp only [catV]
 rw [if_pos ⟨Zne h, Z38 o⟩]
 simp only [Xau, Xat]; rfl
theorem Zpb {o : Obj} : evp (.ld none 0) [ov o] = some (.str o.kind) := rfl
theorem Zhi {o : Obj} (h : o.id.length = 32) : evp (.ld (some 32) 1) [ov o] = some (bl o.id) := by
 show Zal (some 32) (ov o).cells 1 = _
 simp only [Zal]
 rw [if_pos (by rw [Zne h]; omega)]
 show some (V.agg ((o.id.map byteV ++ [V.str o.data]).take 32)) = _
 rw [Xcd (by simp [h]), Xax (by simp [h])]
theorem Zpm {o : Obj} (h : o.id.length = 32) : evp (.ld none 33) [ov o] = some (.str o.data) := by
 show (ov o).cells[33]? = _
 show (V.str o.kind :: (o.id.map byteV ++ [V.str o.data]))[33]? = _
 rw [Xd5, Xa1 (by simp [h])]
 simp [h]
theorem Zyb {k id d : Bytes} (h : id.length = 32) : evp (.cat [none, some 32, none]) [.str k, bl id, .str d] = some (ov ⟨k, id, d⟩) := by
 show (catV [none, some 32, none] [.str k, bl id, .str d]).map V.agg = _
 simp only [catV]
 rw [if_pos (show (V.str k).sc = true from rfl), if_pos (Zzi h), if_pos (show (V.str d).sc = true from rfl)]
 simp only [Xau]; rfl
theorem Zzb {o : Obj} (h : o.id.length = 32) : evp (.bsl 34) [ov o] = some (objV [o]) := by
 have : fits 34 [ov o] = true := by simp [fits, Zne h]; exact Xao.1 (Z38 o)
 show (if fits 34 [ov o] then some (V.sl false 34 [ov o]) else none) = _
 rw [this]; rfl
theorem Zyv {l : List Obj} {o : Obj} (h : l.length + 1 <= Lim) : evp (.app 34) [objV l, objV [o]] = some (objV (l ++ [o])) := by
 rw [objV, objV, Znk (by simpa using h)]; simp
theorem v.rPut12 (kind data : Bytes) (L A : List Obj) (hL : idL L) (hLl : L.length + 1 <= 1000000) (z : V) : ∀ (n i : Nat), i + n = L.length ->
  ∃ L' : List Obj, idL L' /\ L'.length <= L.length + 1 /\ vl e 10240 12 [.str kind, .str data, objV L, I L.length, I i, objV L, objV A, z, bl (Zaz kind data)] = some (.tup [bl (Zaz kind data), objV L', objV A]) := by
 intro n
 induction n with
 | zero =>
  intro i hi
  refine ⟨L ++ [⟨kind, Zaz kind data, data⟩], fun o ho => (Xay.1 ho).elim (hL o) (fun h => by rw [Xa4.1 h]; exact Zaj _ _), by simp, ?_⟩
  rw [w.zq26_h0_12]; unfold y.zq26_h0_12
  simp only [yy, if_neg (show ¬((i : Int) < (L.length : Int)) by omega), Zyb (Zaj _ _), Zzb (o := ⟨kind, Zaz kind data, data⟩) (Zaj _ _), Zyv (show L.length + 1 <= Lim by unfold Lim; omega), Zbc (Zaj _ _)]
 | succ n ih =>
  intro i hi
  have hlt : i < L.length := by omega
  have hid := hL _ (Xas hlt)
  obtain ⟨L', r1, r2, r3⟩ := ih (i + 1) (by omega)
  rw [w.zq26_h0_12]; unfold y.zq26_h0_12
  by_cases hk : L[i].kind = kind
  ·by_cases he : L[i].id = Zaz kind data
   ·refine ⟨L, hL, by omega, ?_⟩
    simp only [yy, if_pos (show (i : Int) < (L.length : Int) by omega), Zno hlt, Zmd hid, Zhm hid, Zpb, if_pos hk, Zhi hid, Zmv hid (Zaj _ _), if_pos he, Zbc (Zaj _ _)]
   ·refine ⟨L', r1, r2, ?_⟩
    simp only [yy, if_pos (show (i : Int) < (L.length : Int) by omega), Zno hlt, Zmd hid, Zhm hid, Zpb, if_pos hk, Zhi hid, Zmv hid (Zaj _ _), if_neg he, Zam hlt (by omega)]
    exact r3
  ·refine ⟨L', r1, r2, ?_⟩
   simp only [yy, if_pos (show (i : Int) < (L.length : Int) by omega), Zno hlt, Zmd hid, Zhm hid, Zpb, if_neg hk, Zam hlt (by omega)]
   exact r3
theorem v.rPut (kind data : Bytes) (hk : kind.length <= 100) (hd : data.length <= 100000000) (L A : List Obj) (hL : idL L) (hLl : L.length + 1 <= 1000000) (hA : A.length + 1 <= 1000000) :
  ∃ L' : List Obj, idL L' /\ L'.length <= L.length + 1 /\ vl e 10240 1 [.str kind, .str data, objV L, objV A] = some (.tup [bl (Zaz kind data), objV L', objV (A ++ [⟨kind, Zaz kind data, data⟩])]) := by
 obtain ⟨L', r1, r2, r3⟩ := v.rPut12 (e := e) kind data L (A ++ [⟨kind, Zaz kind data, data⟩]) hL hLl z32 L.length 0 (Xan _)
 refine ⟨L', r1, r2, ?_⟩
 rw [w.zq26_h0]; unfold y.zq26_h0
 simp only [yy, v.refSum kind data hk hd, Zbc (Zaj _ _), Zyb (Zaj _ _), Zzb (o := ⟨kind, Zaz kind data, data⟩) (Zaj _ _), Zyv (show A.length + 1 <= Lim by unfold Lim; omega), Zth]
 exact r3
end Go.Proofs.YtpmgdngjbdkdfaaGreatDoor
namespace Go.Proofs.YtpmgdngjbdkdfaaGreatDoor
open Go.Abs
set_option maxRecDepth 10000
variable {e : Ev}
theorem v.rUnderS {d p r : Bytes} (hd : d.length <= 1000000) (h : Zb7 d p = some r) : vl e 30 0 [.str d, .str p] = some (.tup [.str r, .bool true]) := by
 unfold Zb7 at h
 rw [w.zq55]; unfold y.zq55
 by_cases h0 : d = []
 ·rw [if_pos h0] at h
  by_cases h2 : p = []
  ·rw [if_pos h2] at h; cases h
  ·rw [if_neg h2] at h
   simp only [Xac] at h
   subst h
   simp only [yy, if_pos h0]
   simp [h2]
 ·rw [if_neg h0] at h
  split at h
  ·rename_i hc
   obtain ⟨h1, h2⟩ := hc
   simp only [Xac] at h
   subst h
   have hl : d.length + 1 < p.length := by
    refine Xd0 fun hn => h2 (Xap hn)
   have hlt : d.length < p.length := by omega
   have ht : p.take (d.length + 1) = p.take d.length ++ [p[d.length]] := Xch hlt
   rw [ht] at h1
   have e0 := Xc1 h1 (by simp; omega)
   have h3 : p[d.length] = 47 := by simpa using e0.2
   have e1 : IntKind.i64.wrap ((d.length : Int) + 1) = ((d.length + 1 : Nat) : Int) := Zam (show d.length < d.length + 1 by omega) (by omega)
   have h3' : ((p[d.length].toNat : Nat) : Int) = 47 := by rw [h3]; rfl
   simp only [yy, if_neg h0, e1, if_neg (show ¬(p.length : Int) <= ((d.length + 1 : Nat) : Int) by omega), Zke (show d.length <= p.length by omega), if_pos e0.1, Zjg (Xad hlt), byteV, if_pos h3', Zra (show d.length + 1 <= p.length by omega)]
  ·cases h
theorem v.rJoin2 (d n : Bytes) (hn : n ≠ []) (hd : d.length <= 1000000) (hl : n.length <= 1000000) : vl e 69 0 [strs [d, n]] = some (.str (if d = [] then n else d ++ 47 :: n)) := by
 have hn' : ¬ n = [] := hn
 have g0 : evp (.elem 1) [strs [d, n], .int .i64 0] = some (.str d) := Zd7 (l := [d, n]) (i := 0) (by simp)
 have g1 : evp (.elem 1) [strs [d, n], .int .i64 1] = some (.str n) := Zd7 (l := [d, n]) (i := 1) (by simp)
 have j2 : ∀ s : Bytes, vl e 69 10 [.str s, strs [d, n], .int .i64 2, .int .i64 2] = some (.str s) := fun s => by
  rw [w.zq51_10]; rfl
 have k0 : ∀ s : Bytes, s.length <= 1000000 -> evp (.bin .add .no) [.str [], .str s] = some (.str s) := fun s h => Zja (s := []) (by simp; omega)
 have j1 : ∀ s : Bytes, s.length <= 1000000 -> vl e 69 10 [.str s, strs [d, n], .int .i64 2, .int .i64 1] = some (.str (if s = [] then n else s ++ 47 :: n)) := fun s hsl => by
  have l1 : evp (.bin .lss .no) [.int .i64 1, .int .i64 2] = some (.bool true) := rfl
  have l2 : evp (.bin .add .no) [.int .i64 1, .int .i64 1] = some (.int .i64 2) := rfl
  rw [w.zq51_10]; unfold y.zq51_10
  simp only [pr, l1, l2, g1, Xak]
  by_cases hs : s = []
  ·subst hs
   simp only [yy, Zdz, if_neg hn', k0 n hl, j2]
   simp
  ·have a1 : evp (.bin .add .no) [.str s, .str [47]] = some (.str (s ++ [47])) := Zja (by simp; omega)
   have a2 : evp (.bin .add .no) [.str (s ++ [47]), .str n] = some (.str ((s ++ [47]) ++ n)) := Zja (by simp; omega)
   simp only [yy, Zdz, if_neg hn', if_neg hs, a1, a2, j2]
   simp
 have l1 : evp (.bin .lss .no) [.int .i64 0, .int .i64 2] = some (.bool true) := rfl
 have l2 : evp (.bin .add .no) [.int .i64 0, .int .i64 1] = some (.int .i64 1) := rfl
 have j0 : vl e 69 10 [.str [], strs [d, n], .int .i64 2, .int .i64 0] = some (.str (if d = [] then n else d ++ 47 :: n)) := by
  rw [w.zq51_10]; unfold y.zq51_10
  simp only [pr, l1, l2, g0, Xak]
  simp only [yy, Zdz, k0 d hd, j1 d hd]
  by_cases hs : d = [] <;> simp [hs]
 rw [w.zq51]; unfold y.zq51
 exact j0
def Zmt (ls : List En) : Bytes := (ls.getLast?.map En.nm).getD []
theorem Zin (ls : List En) (x : En) : Zmt (ls ++ [x]) = x.nm := by simp [Zmt]
theorem Zzh {S : List Fi} (hS : SoOK S) {D : List Bytes} {a b k : Nat} {x : Bytes} (hb : b <= S.length) (hin : ∀ i, a <= i -> i < b -> ∃ R, R ≠ [] /\ pS S i = D ++ R) (hk : 0 < k) (hrun : ∀ i, a <= i -> i < a + k -> ∃ R, R ≠ [] /\ pS S i = D ++ x :: R) (hstop : a + k < b -> ¬ ∃ R, R ≠ [] /\ pS S (a + k) = D ++ x :: R) :
  ∀ j, a + k <= j -> j < b -> ∀ R', pS S j = D ++ x :: R' -> False := by
 intro j hj hjb R' hR'
 obtain ⟨R0, hR0, hs0⟩ := hrun a (Xaf _) (by omega)
 have free : ∀ i, i < S.length -> i ≠ a -> pS S i ≠ D ++ [x] := fun i hi hia he => hS.free a i (by omega) hi (Ne.symm hia) R0 (by rw [he, hs0]; simp)
 obtain ⟨R2, hR2, hs2⟩ := hin (a + k) (by omega) (by omega)
 obtain ⟨x2, R3, rfl⟩ : ∃ x2 R3, R2 = x2 :: R3 := by cases R2 with
  | nil => exact absurd rfl hR2
  | cons x R => exact ⟨x, R, rfl⟩
 have hup := hS.up a (a + k) (by omega) (by omega)
 rw [hs0, hs2, Zfs] at hup
 have hxx2 : Op.bytesLess x x2 = true := by
  rcases Zfc hup with rfl | h
  ·by_cases hR3 : R3 = []
   ·subst hR3
    exact absurd hs2 (free (a + k) (by omega) (by omega))
   ·exact absurd ⟨R3, hR3, hs2⟩ (hstop (by omega))
  ·exact h
 rcases Xbi hj with h | rfl
 ·have hup2 := hS.up (a + k) j h (by omega)
  rw [hs2, hR', Zfs] at hup2
  rcases Zfc hup2 with rfl | h
  ·rw [Zbo] at hxx2; cases hxx2
  ·have := Zd5 hxx2 h
   rw [Zbo] at this; cases this
 ·rw [hs2] at hR'
  have := Xca hR'
  simp only [Xb4] at this
  rw [this.1, Zbo] at hxx2; cases hxx2
section
variable (S : List Fi) (hS : SoOK S)
include hS
theorem v.rskip (D : List Bytes) (hD : ∀ u ∈ D, Zbl u = true) (hjl : (Zah 47 D).length <= 1000) (ls last L A z : V) : ∀ (n i : Nat), i + n <= S.length -> (∀ k, i <= k -> k < i + n -> ¬ ∃ R, R ≠ [] /\ pS S k = D ++ R) ->
  vl e 10768 12 [.str (Zah 47 D), Zad S, ls, last, Zad S, I S.length, I i, L, A, z] = vl e 10768 12 [.str (Zah 47 D), Zad S, ls, last, Zad S, I S.length, I (i + n : Nat), L, A, z] := by
 have hlen := hS.len
 intro n
 induction n with
 | zero => intro i _ _; rfl
 | succ n ih =>
  intro i hi hno
  have hlt : i < S.length := by omega
  obtain ⟨u, hu⟩ := v.rUnder (e := e) (Zah 47 D) S[i].1 (by omega) (by have := Zkp (hS.good _ (Xas hlt)); omega)
  have h0 : (Zb7 (Zah 47 D) S[i].1).isSome = false := by
   cases h : Zb7 (Zah 47 D) S[i].1 with
   | none => rfl
   | some r =>
    obtain ⟨R, hR, hs⟩ := Zg2 hD h
    exact absurd ⟨R, hR, by rw [pS, Zay hlt]; exact hs⟩ (hno i (Xaf _) (by omega))
  rw [h0] at hu
  have := ih (i + 1) (by omega) (fun k h1 h2 => hno k (by omega) (by omega))
  rw [show i + 1 + n = i + (n + 1) by omega] at this
  rw [w.zq28_h0_12]; unfold y.zq28_h0_12
  simp only [yy, if_pos (show (i : Int) < (S.length : Int) by omega), Zcm hlt, Zf2, Zb3, Zet, hu, Zam hlt (by omega)]
  exact this
theorem Zk5 {D R : List Bytes} {x : Bytes} {i : Nat} (hlt : i < S.length) (hD : ∀ u ∈ D, Zbl u = true) (hjl : (Zah 47 D).length <= 1000) (hs : pS S i = D ++ x :: R) :
  vl e 30 0 [.str (Zah 47 D), .str S[i].1] = some (.tup [.str (Zah 47 (x :: R)), .bool true]) /\ vl e 50 0 [.str (Zah 47 (x :: R))] = some (strs (x :: R)) /\ Zbl x = true /\ x.length <= 128 := by
 have hpp := Zk8 S hS hlt
 rw [hs] at hpp
 have hl := Zkp (hS.good _ (Xas hlt))
 have hxR : ∀ u ∈ x :: R, Zbl u = true := fun u hu => hpp u (Xay.2 (.inr hu))
 have hu := Zlr (p := S[i].1) hD hxR (by simp) (by rw [<- Zay hlt]; exact hs)
 have hrl := Zmw hu
 refine ⟨v.rUnderS (by omega) hu, ?_, hxR x (by simp), ?_⟩
 ·rw [v.rParts _ (by omega), Zg5 (by simp) hxR]
 ·have := Zbu 47 (show x ∈ Zae 47 S[i].1 by rw [<- Zay hlt]; show x ∈ pS S i; rw [hs]; simp)
  omega
theorem v.rrun (D : List Bytes) (hD : ∀ u ∈ D, Zbl u = true) (hjl : (Zah 47 D).length <= 1000) (ls : List En) (hls : ls.length <= 600) (x id1 : Bytes) (L A z : V) : ∀ (n i : Nat), i + n <= S.length -> (∀ k, i <= k -> k < i + n -> ∃ R, R ≠ [] /\ pS S k = D ++ x :: R) ->
  vl e 10768 12 [.str (Zah 47 D), Zad S, entV (ls ++ [⟨x, true, id1⟩]), .str x, Zad S, I S.length, I i, L, A, z] = vl e 10768 12 [.str (Zah 47 D), Zad S, entV (ls ++ [⟨x, true, id1⟩]), .str x, Zad S, I S.length, I (i + n : Nat), L, A, z] := by
 have hlen := hS.len
 intro n
 induction n with
 | zero => intro i _ _; rfl
 | succ n ih =>
  intro i hi hyes
  have hlt : i < S.length := by omega
  obtain ⟨R, hR, hs⟩ := hyes i (Xaf _) (by omega)
  obtain ⟨u1, u2, u3, _⟩ := Zk5 (e := e) S hS hlt hD hjl hs
  have hne : ¬ x = Zah 47 (x :: R) := fun h => by
   have := Zga u3
   rw [h, Zcu _ _ _ hR] at this
   exact this (by simp)
  have := ih (i + 1) (by omega) (fun k h1 h2 => hyes k (by omega) (by omega))
  rw [show i + 1 + n = i + (n + 1) by omega] at this
  have h40 : vl e 10768 40 [.str (Zah 47 D), Zad S, entV (ls ++ [⟨x, true, id1⟩]), .str x, Zad S, I S.length, I i, .bool false, L, A, z] = vl e 10768 12 [.str (Zah 47 D), Zad S, entV (ls ++ [⟨x, true, id1⟩]), .str x, Zad S, I S.length, I (i + 1 : Nat), L, A, z] := by
   rw [w.zq28_h0_40]; unfold y.zq28_h0_40
   simp only [yy, Zam hlt (by omega)]
  have hlast : ls.length < (ls ++ [(⟨x, true, id1⟩ : En)]).length := by simp
  have hg := Zhp hlast
  have hge : (ls ++ [(⟨x, true, id1⟩ : En)])[ls.length] = ⟨x, true, id1⟩ := by simp
  rw [hge] at hg
  have p1 : IntKind.i64.wrap (((ls ++ [(⟨x, true, id1⟩ : En)]).length : Int) - 1) = (ls.length : Int) := by
   rw [Xag, Xel]
   exact Zkn (show 1 <= ls.length + 1 by omega) (by omega)
  rw [w.zq28_h0_12]; unfold y.zq28_h0_12
  simp only [yy, if_pos (show (i : Int) < (S.length : Int) by omega), Zcm hlt, Zf2, Zb3, Zet, u1, u2, Zna, Zdz, if_neg hne, if_neg (show ¬((ls ++ [(⟨x, true, id1⟩ : En)]).length : Int) = 0 by simp), p1, hg, Zui, Zo6]
  exact h40.trans this
theorem v.rbelow {D : List Bytes} {a b : Nat} {ls : List En} {id : Bytes} {p1 p2 : MB} (h : Tr S D a b ls id p1 p2) : b <= S.length -> (∀ u ∈ D, Zbl u = true) -> (Zah 47 D).length <= 128 -> (∀ i, a <= i -> i < b -> ∃ R, R ≠ [] /\ pS S i = D ++ R) -> (∀ i, b <= i -> i < S.length -> ¬ ∃ R, R ≠ [] /\ pS S i = D ++ R) ->
  (∀ i, i < a -> ∀ j, a <= j -> j < b -> ∀ x R R', pS S i = D ++ x :: R -> pS S j = D ++ x :: R' -> False) -> ∀ (L A : List Obj) (z : V), idL L -> L.length + (p1.length + p2.length) <= 100000 -> A.length + (p1.length + p2.length) <= 100000 ->
  ∃ L' N : List Obj, idL L' /\ idL N /\ N.length = p1.length + p2.length /\ L'.length <= L.length + N.length /\ (∀ p ∈ p1, (⟨Zc6, p.1, p.2⟩ : Obj) ∈ N) /\ (∀ p ∈ p2, (⟨Za7, p.1, p.2⟩ : Obj) ∈ N) /\
   vl e 10768 12 [.str (Zah 47 D), Zad S, entV ls, .str (Zmt ls), Zad S, I S.length, I a, objV L, objV A, z] = some (.tup [bl id, objV L', objV (A ++ N)]) := by
 have hlen := hS.len
 induction h with
 | @done D a ls hok =>
  intro hb hD hjl hin hout hinv L A z hL hl1 hl2
  simp only [Xa5, Xaw] at hl1 hl2
  have h0 := hok.len
  have hs := Zeh (fun x hx => (hok.nm x hx).2) hok.id
  obtain ⟨L', r1, r2, r3⟩ := v.rPut (e := e) Za7 (Zar ls) (by simp [Za7]) (by rw [Zar, Zfd]; omega) L A hL (by omega) (by omega)
  refine ⟨L', [⟨Za7, Zaz Za7 (Zar ls), Zar ls⟩], r1, fun o ho => by rw [Xa4.1 ho]; exact Zaj _ _, rfl, r2, (fun p hp => by cases hp), (fun p hp => by rw [Xa4.1 hp]; simp), ?_⟩
  have hsk := v.rskip (e := e) S hS D hD (by omega) (entV ls) (.str (Zmt ls)) (objV L) (objV A) z (S.length - a) a (by omega) (fun k h1 h2 => hout k h1 (by omega))
  rw [hsk, show a + (S.length - a) = S.length by omega]
  rw [w.zq28_h0_12]; unfold y.zq28_h0_12
  simp only [yy, if_neg (show ¬((S.length : Int) < (S.length : Int)) by omega), v.rTree ls hok]
  rw [show (V.str [116, 114, 101, 101]) = .str Za7 from rfl, r3]
  simp only [yy, Zbc (Zaj _ _)]
 | @blob D a b ls x id p1 p2 hab hx h ih =>
  intro hb hD hjl hin hout hinv L A z hL hl1 hl2
  simp only [Xaw] at hl1 hl2
  have hlt : a < S.length := by omega
  obtain ⟨u1, u2, u3, u4⟩ := Zk5 (e := e) S hS hlt hD (by omega) hx
  have hd : S[a].2.length <= 32768 := hS.data _ (Xas hlt)
  obtain ⟨L1, r1, r2, r3⟩ := v.rPut (e := e) Zc6 S[a].2 (by simp [Zc6]) (by omega) L A hL (by omega) (by omega)
  have hfin := h.finOK
  obtain ⟨es, hes⟩ := hfin
  have hll := hes.len
  simp only [Xag, Xaw] at hll
  have hga : S.getD a ([], []) = S[a] := Zay hlt
  rw [hga] at ih ⊢
  obtain ⟨L', N, q1, q1', q2, q3, q4, q5, q6⟩ := ih hb hD hjl (fun i h1 h2 => hin i (by omega) h2) hout (fun i h1 j h2 h3 x' R R' e1 e2 => by
   rcases Xbi (Nat.le_of_lt_succ h1) with h4 | rfl
   ·exact hinv i h4 j (by omega) h3 x' R R' e1 e2
   ·rw [hx] at e1
    have := Xca e1
    simp only [Xb4] at this
    obtain ⟨rfl, rfl⟩ := this
    exact hS.free j i (by omega) hlt (by omega) R' (by rw [e2, hx]; simp)) L1 (A ++ [⟨Zc6, Zaz Zc6 S[a].2, S[a].2⟩]) z r1 (by omega) (by simp; omega)
  refine ⟨L', ⟨Zc6, Zaz Zc6 S[a].2, S[a].2⟩ :: N, q1, fun o ho => (Xa0.1 ho).elim (fun h => by rw [h]; exact Zaj _ _) (q1' o), by simp [q2]; omega, by simp; omega, fun p hp => (Xa0.1 hp).elim (fun h => by rw [h]; simp) (fun h => Xbn _ (q4 p h)), fun p hp => Xbn _ (q5 p hp), ?_⟩
  have hjx : Zah 47 [x] = x := rfl
  rw [hjx] at u1 u2
  rw [Zin, Xaj] at q6
  rw [w.zq28_h0_12]; unfold y.zq28_h0_12
  simp only [yy, if_pos (show (a : Int) < (S.length : Int) by omega), Zcm hlt, Zf2, Zb3, Zet, u1, u2, Zna, Zdz, Zop]
  rw [show (V.str [98, 108, 111, 98]) = .str Zc6 from rfl, r3]
  simp only [yy, if_true, Zzc (Zaj _ _), Zm9 (Zaj _ _), Znq (x := ⟨x, false, Zaz Zc6 S[a].2⟩) (Zaj _ _), Zlt (show ls.length + 1 <= Lim by unfold Lim; omega), Zam hlt (by omega)]
  exact q6
 | @dir D a b k ls x id id1 p1 p2 q1 q2 hk hkb hrun hstop h1 h2 ih1 ih2 =>
  intro hb hD hjl hin hout hinv L A z hL hl1 hl2
  simp only [Xag] at hl1 hl2
  have hlt : a < S.length := by omega
  obtain ⟨R, hR, hs⟩ := hrun a (Xaf _) (by omega)
  obtain ⟨u1, u2, u3, u4⟩ := Zk5 (e := e) S hS hlt hD (by omega) hs
  have hid1 : id1.length = 32 := h1.ok hS
  obtain ⟨es, hes⟩ := h2.finOK
  have hll := hes.len
  simp only [Xag, Xaw] at hll
  have hrout := Zzh hS hb hin hk hrun hstop
  have hD' : ∀ u ∈ D ++ [x], Zbl u = true := fun u hu => (Xay.1 hu).elim (hD u) (fun h => by rw [Xa4.1 h]; exact u3)
  have hjl' : (Zah 47 (D ++ [x])).length <= 128 := by
   have hpl := Zgz S hS hlt
   have hj := Zbe 47 (S.getD a ([], [])).1
   rw [<- pS, hs, show D ++ x :: R = (D ++ [x]) ++ R by simp, Zd9 47 (D ++ [x]) R (by simp) hR] at hj
   have := congrArg List.length hj
   simp only [Xag, Xaw] at this
   omega
  -- the directory's own tree
  obtain ⟨L1, N1, a1, a1', a2, a3, a4, a5, a6⟩ := ih1 (by omega) hD' hjl' (fun i g1 g2 => by
   obtain ⟨R', hR', hs'⟩ := hrun i g1 g2
   exact ⟨R', hR', by rw [hs']; simp⟩) (fun i g1 g2 => by
   rintro ⟨R', hR', hs'⟩
   have hs'' : pS S i = D ++ x :: R' := by rw [hs']; simp
   by_cases hib : i < b
   ·exact hrout i g1 hib R' hs''
   ·exact hout i (by omega) g2 ⟨x :: R', by simp, hs''⟩) (fun i g1 j g2 g3 x' R1 R2 e1 e2 => hinv i g1 j g2 (by omega) x (x' :: R1) (x' :: R2) (by rw [e1]; simp) (by rw [e2]; simp)) L A z32 hL (by omega) (by omega)
  obtain ⟨L2, N2, b1, b1', b2, b3, b4, b5, b6⟩ := ih2 hb hD hjl (fun i g1 g2 => hin i (by omega) g2) hout (fun i g1 j g2 g3 x' R1 R2 e1 e2 => by
   rcases Xa6 i a with h4 | h4
   ·exact hinv i h4 j (by omega) g3 x' R1 R2 e1 e2
   ·obtain ⟨R', hR', hs'⟩ := hrun i h4 g1
    rw [hs'] at e1
    have := Xca e1
    simp only [Xb4] at this
    obtain ⟨rfl, _⟩ := this
    exact hrout j g2 g3 R2 e2) L1 (A ++ N1) z a1 (by omega) (by rw [Xag]; omega)
  refine ⟨L2, N1 ++ N2, b1, fun o ho => (Xay.1 ho).elim (a1' o) (b1' o), by simp [a2, b2]; omega, by rw [Xag]; omega, fun p hp => (Xay.1 hp).elim (fun h => Xbh _ (a4 p h)) (fun h => Xa9 _ (b4 p h)), fun p hp => (Xay.1 hp).elim (fun h => Xbh _ (a5 p h)) (fun h => Xa9 _ (b5 p h)), ?_⟩
  rw [Zin, Xaj] at b6
  have hrec : vl e 10768 1 [.str (Zah 47 (D ++ [x])), Zad S, objV L, objV A] = some (.tup [bl id1, objV L1, objV (A ++ N1)]) := by
   have hsk := v.rskip (e := e) S hS (D ++ [x]) hD' (by omega) (entV []) (.str []) (objV L) (objV A) z32 a 0 (by omega) (fun i g1 g2 => by
    rintro ⟨R', hR', hs'⟩
    exact hinv i (by omega) a (Xaf _) (by omega) x R' R (by rw [hs']; simp) hs)
   rw [Xan] at hsk
   rw [w.zq28_h0]; unfold y.zq28_h0
   simp only [yy, Zc8]
   exact hsk.trans a6
  have hnl : ¬ x = Zmt ls := by
   intro hx
   rcases List.eq_nil_or_concat ls with rfl | ⟨l0, y0, rfl⟩
   ·exact Zlk u3 hx
   ·rw [List.concat_eq_append, Zin] at hx
    have hup := hes.up
    rw [List.concat_eq_append, Xaj, Xaj] at hup
    have := Xb5.1 hup
    have := (Xcg.1 this.2.1).1 ⟨x, true, id1⟩ (by simp)
    simp only at this
    rw [hx, Zbo] at this; cases this
  have hne : ¬ x = Zah 47 (x :: R) := fun h => by
   have := Zga u3
   rw [h, Zcu _ _ _ hR] at this
   exact this (by simp)
  have hjn := v.rJoin2 (e := e) (Zah 47 D) x (Zlk u3) (by omega) (by omega)
  rw [Zm0 hD] at hjn
  have hrr := v.rrun (e := e) S hS D hD (by omega) ls (by omega) x id1 (objV L1) (objV (A ++ N1)) z (k - 1) (a + 1) (by omega) (fun i g1 g2 => hrun i (by omega) (by omega))
  rw [show a + 1 + (k - 1) = a + k by omega] at hrr
  have h40 : vl e 10768 40 [.str (Zah 47 D), Zad S, entV ls, .str x, Zad S, I S.length, I a, .bool true, objV L, objV A, z] = some (.tup [bl id, objV L2, objV (A ++ (N1 ++ N2))]) := by
   rw [w.zq28_h0_40]; unfold y.zq28_h0_40
   simp only [yy, Znx, hjn, hrec, Zm9 hid1, Znq (x := ⟨x, true, id1⟩) hid1, Zlt (show ls.length + 1 <= Lim by unfold Lim; omega), Zam hlt (by omega)]
   exact hrr.trans b6
  rw [w.zq28_h0_12]; unfold y.zq28_h0_12
  simp only [yy, if_pos (show (a : Int) < (S.length : Int) by omega), Zcm hlt, Zf2, Zb3, Zet, u1, u2, Zna, Zdz, if_neg hne, if_neg hnl]
  exact h40
end
end Go.Proofs.YtpmgdngjbdkdfaaGreatDoor
namespace Go.Proofs.YtpmgdngjbdkdfaaGreatDoor
open Go.Abs
set_option maxRecDepth 10000
variable {e : Ev}
theorem Z4b {l : List Fi} (h : whyB l = 0) : l.length <= 512 /\ Zmu l /\ ∀ f ∈ l, f.2.length <= 32768 := by
 unfold whyB at h
 split at h
 ·cases h
 ·rename_i h1
  split at h
  ·rename_i h2
   split at h
   ·rename_i h3
    exact ⟨by omega, (Zyu l).1 h2, h3⟩
   ·cases h
  ·cases h
theorem v.rSortedOK (he : EnvT e) {l S : List Fi} (hl : l.length <= 1000000) (hb : ∀ f ∈ l, f.1.length <= 1000000) (h0 : whyB l = 0) (hp : S.Perm l) (hS : SoOK S) : vl e 11 0 [Zad l] = some (Zad S) := by
 obtain ⟨R, r1, r2, r3⟩ := v.rSorted he l hl hb
 obtain ⟨k1, k2, k3⟩ := Z4b h0
 have hR : SoOK R := Z40 r2 ((Zpy r1).2 k2) (fun f hf => k3 f (r1.mem_iff.1 hf)) (by rw [r1.length_eq]; exact k1)
 rw [r3, Ztm hR hS (r1.trans hp.symm)]
theorem v.rBuild (he : EnvT e) {l S : List Fi} (hl : l.length <= 1000000) (hb : ∀ f ∈ l, f.1.length <= 1000000 /\ f.2.length <= 1000000000) (h0 : whyB l = 0) (hp : S.Perm l) (hS : SoOK S) {id : Bytes} {p1 p2 : MB} (ht : Tr S [] 0 S.length [] id p1 p2) (L A : List Obj) (hL : idL L) (h1 : L.length + (p1.length + p2.length) <= 100000) (h2 : A.length + (p1.length + p2.length) <= 100000) :
  ∃ L' N : List Obj, idL L' /\ idL N /\ N.length = p1.length + p2.length /\ L'.length <= L.length + N.length /\ (∀ p ∈ p1, (⟨Zc6, p.1, p.2⟩ : Obj) ∈ N) /\ (∀ p ∈ p2, (⟨Za7, p.1, p.2⟩ : Obj) ∈ N) /\
   vl e 10384 1 [Zad l, objV L, objV A] = some (.tup [bl id, I 0, objV L', objV (A ++ N)]) := by
 obtain ⟨L', N, q1, q2, q3, q4, q5, q6, q7⟩ := v.rbelow (e := e) S hS ht (Xaf _) (fun u hu => by cases hu) (by simp [Zah]) (fun i _ hi => ⟨pS S i, Zbb _ _, rfl⟩) (fun i g1 g2 => by omega) (fun i g1 => by omega) L A z32 hL h1 h2
 have hw := v.why (e := e) l hl hb
 rw [h0] at hw
 have hid : id.length = 32 := ht.ok hS
 have hbel : vl e 10768 1 [.str [], Zad S, objV L, objV A] = some (.tup [bl id, objV L', objV (A ++ N)]) := by
  rw [w.zq28_h0]; unfold y.zq28_h0
  simp only [yy, Zc8]
  exact q7
 refine ⟨L', N, q1, q2, q3, q4, q5, q6, ?_⟩
 rw [w.zq25_h0]; unfold y.zq25_h0
 simp only [yy, hw, v.rSortedOK he hl (fun f hf => (hb f hf).1) h0 hp hS, hbel, Zbc hid]
 rfl
theorem Z0p {l : List Obj} {i : Nat} (h : i <= l.length) : evp (.slc 34 false true false) [objV l, I i] = some (objV (l.take i)) := by
 rw [objV, Zyl (by simpa using h), objV, Xdm]
section
variable (A : List Obj) (hA : idL A) (hAl : A.length <= 1000000)
include hA hAl
theorem v.twice22 (i : Nat) (hi : i < A.length) (L : V) : ∀ (n j : Nat), j + n = i ->
  vl e 10496 22 [objV A, I A.length, I i, objV (A.take i), I i, I j, L, objV A, ov A[i]] = vl e 10496 8 [objV A, I A.length, I (i + 1 : Nat), L, objV A] /\ (∀ k (h : k < A.length), j <= k -> k < i -> A[i].kind = A[k].kind -> A[i].id = A[k].id -> A[i].data = A[k].data) \/
  vl e 10496 22 [objV A, I A.length, I i, objV (A.take i), I i, I j, L, objV A, ov A[i]] = some (.tup [.bool true, L, objV A]) := by
 intro n
 have hidi := hA _ (Xas hi)
 induction n with
 | zero =>
  intro j hj
  have : j = i := by omega
  subst this
  refine .inl ⟨?_, fun k _ h1 h2 => by omega⟩
  rw [w.zq27_h0_22]; unfold y.zq27_h0_22
  simp only [yy, if_neg (show ¬((j : Int) < (j : Int)) by omega), Zam hi (by omega)]
 | succ n ih =>
  intro j hj
  have hlt : j < A.length := by omega
  have hjt : j < (A.take i).length := by rw [Xbl]; omega
  have hidj := hA _ (Xas hlt)
  have hg := Zno hjt
  rw [List.getElem_take] at hg
  have hnx := Zam (show j < i by omega) (by omega)
  have hih := ih (j + 1) (by omega)
  have ext : (A[i].kind = A[j].kind -> A[i].id = A[j].id -> A[i].data = A[j].data) -> (∀ k (h : k < A.length), j + 1 <= k -> k < i -> A[i].kind = A[k].kind -> A[i].id = A[k].id -> A[i].data = A[k].data) -> (∀ k (h : k < A.length), j <= k -> k < i -> A[i].kind = A[k].kind -> A[i].id = A[k].id -> A[i].data = A[k].data) := by
   intro h0 h1 k hk h2 h3
   rcases Xbi h2 with h | rfl
   ·exact h1 k hk h h3
   ·exact h0
  rw [w.zq27_h0_22]; unfold y.zq27_h0_22
  by_cases hk : A[i].kind = A[j].kind
  ·by_cases hd : A[i].id = A[j].id
   ·by_cases hx : A[i].data = A[j].data
    ·simp only [yy, if_pos (show (j : Int) < (i : Int) by omega), hg, Zmd hidj, Zhm hidj, Zpb, if_pos hk, Zhi hidi, Zhi hidj, Zmv hidi hidj, if_pos hd, Zpm hidi, Zpm hidj, if_pos hx, hnx]
     exact hih.imp (fun h => ⟨h.1, ext (fun _ _ => hx) h.2⟩) id
    ·right
     simp only [yy, if_pos (show (j : Int) < (i : Int) by omega), hg, Zmd hidj, Zhm hidj, Zpb, if_pos hk, Zhi hidi, Zhi hidj, Zmv hidi hidj, if_pos hd, Zpm hidi, Zpm hidj, if_neg hx]
   ·simp only [yy, if_pos (show (j : Int) < (i : Int) by omega), hg, Zmd hidj, Zhm hidj, Zpb, if_pos hk, Zhi hidi, Zhi hidj, Zmv hidi hidj, if_neg hd, hnx]
    exact hih.imp (fun h => ⟨h.1, ext (fun _ h => absurd h hd) h.2⟩) id
  ·simp only [yy, if_pos (show (j : Int) < (i : Int) by omega), hg, Zmd hidj, Zhm hidj, Zpb, if_neg hk, hnx]
   exact hih.imp (fun h => ⟨h.1, ext (fun h => absurd h hk) h.2⟩) id
theorem v.twice8 (L : V) : ∀ (n i : Nat), i + n = A.length -> ∃ t : Bool, vl e 10496 8 [objV A, I A.length, I i, L, objV A] = some (.tup [.bool t, L, objV A]) /\ (t = false -> ∀ j (h : j < A.length), i <= j -> ∀ k (h' : k < A.length), k < j -> A[j].kind = A[k].kind -> A[j].id = A[k].id -> A[j].data = A[k].data) := by
 intro n
 induction n with
 | zero =>
  intro i hi
  refine ⟨false, ?_, fun _ j h1 h2 => by omega⟩
  rw [w.zq27_h0_8]; unfold y.zq27_h0_8
  simp only [yy, if_neg (show ¬((i : Int) < (A.length : Int)) by omega)]
 | succ n ih =>
  intro i hi
  have hlt : i < A.length := by omega
  have hid := hA _ (Xas hlt)
  have hl : evp (.len false) [objV (A.take i)] = some (I i) := by rw [Zth, Xbl, Nat.min_eq_left (by omega)]
  rw [w.zq27_h0_8]; unfold y.zq27_h0_8
  simp only [yy, if_pos (show (i : Int) < (A.length : Int) by omega), Zno hlt, Zmd hid, Zhm hid, Z0p (show i <= A.length by omega), hl]
  rcases v.twice22 (e := e) A hA hAl i hlt L i 0 (Xan _) with ⟨h1, h2⟩ | h1
  ·obtain ⟨t, t1, t2⟩ := ih (i + 1) (by omega)
   refine ⟨t, h1.trans t1, fun ht j hj hij k hk hkj => ?_⟩
   rcases Xbi hij with h | rfl
   ·exact t2 ht j hj h k hk hkj
   ·exact h2 k hk (Xby _) hkj
  ·exact ⟨true, h1, fun h => by cases h⟩
end
theorem Zsl {A : List Obj} (h : ∀ j (h : j < A.length), ∀ k (h' : k < A.length), k < j -> A[j].kind = A[k].kind -> A[j].id = A[k].id -> A[j].data = A[k].data) (K : Bytes) (P : MB) (hP : ∀ p ∈ P, (⟨K, p.1, p.2⟩ : Obj) ∈ A) : Cons P := by
 intro p hp q hq hpq
 obtain ⟨i, hi, h1⟩ := Xb0.1 (hP p hp)
 obtain ⟨j, hj, h2⟩ := Xb0.1 (hP q hq)
 rcases Xbv i j with hij | rfl | hij
 ·have := h j hj i hi hij (by rw [h1, h2]) (by rw [h1, h2]; exact hpq.symm)
  rw [h1, h2] at this; exact this.symm
 ·rw [h1] at h2
  simp only [Obj.mk.injEq] at h2
  exact h2.2.2
 ·have := h i hi j hj hij (by rw [h1, h2]) (by rw [h1, h2]; exact hpq)
  rw [h1, h2] at this; exact this
theorem v.clash2 (he : EnvT e) {a b Sa Sb : List Fi} (ha : a.length <= 1000000 /\ ∀ f ∈ a, f.1.length <= 1000000 /\ f.2.length <= 1000000000) (hb : b.length <= 1000000 /\ ∀ f ∈ b, f.1.length <= 1000000 /\ f.2.length <= 1000000000) (wa : whyB a = 0) (wb : whyB b = 0) (hpa : Sa.Perm a) (hSa : SoOK Sa) (hpb : Sb.Perm b) (hSb : SoOK Sb)
  {id id' : Bytes} {p1 p2 q1 q2 : MB} (ta : Tr Sa [] 0 Sa.length [] id p1 p2) (tb : Tr Sb [] 0 Sb.length [] id' q1 q2) (hla : p1.length + p2.length <= 20000) (hlb : q1.length + q2.length <= 20000) :
  ∃ t : Bool, vl e 10 0 [.sl false 1 [Zad a, Zad b]] = some (.bool t) /\ (t = false -> Cons (p1 ++ q1) /\ Cons (p2 ++ q2)) := by
 obtain ⟨L1, N1, a1, a2, a3, a4, a5, a6, a7⟩ := v.rBuild he ha.1 ha.2 wa hpa hSa ta [] [] (fun _ h => by cases h) (by simp; omega) (by simp; omega)
 obtain ⟨L2, N2, b1, b2, b3, b4, b5, b6, b7⟩ := v.rBuild he hb.1 hb.2 wb hpb hSb tb L1 ([] ++ N1) a1 (by simp at a4; omega) (by simp; omega)
 rw [Xbf] at b7 a7
 obtain ⟨t, t1, t2⟩ := v.twice8 (e := e) (N1 ++ N2) (fun o ho => (Xay.1 ho).elim (a2 o) (b2 o)) (by simp; omega) (objV L2) (N1 ++ N2).length 0 (Xan _)
 have g0 : evp (.elem 1) [.sl false 1 [Zad a, Zad b], .int .i64 0] = some (Zad a) := rfl
 have g1 : evp (.elem 1) [.sl false 1 [Zad a, Zad b], .int .i64 1] = some (Zad b) := rfl
 have gl : ∀ l : List Fi, evp (.ld none 0) [Zad l] = some (Zad l) := fun _ => rfl
 have c2 : vl e 10 10 [.sl false 1 [Zad a, Zad b], .int .i64 2, .int .i64 2, objV L2, objV (N1 ++ N2)] = some (.bool t) := by
  have hT : vl e 10496 1 [objV L2, objV (N1 ++ N2)] = some (.tup [.bool t, objV L2, objV (N1 ++ N2)]) := by
   rw [w.zq27_h0]; unfold y.zq27_h0
   simp only [yy, Zth]
   exact t1
  rw [w.zq58_10]; unfold y.zq58_10
  have l1 : evp (.bin .lss .no) [.int .i64 2, .int .i64 2] = some (.bool false) := rfl
  simp only [pr, l1, Xak]
  simp only [yy, hT]
 have c1 : vl e 10 10 [.sl false 1 [Zad a, Zad b], .int .i64 2, .int .i64 1, objV L1, objV N1] = some (.bool t) := by
  have l1 : evp (.bin .lss .no) [.int .i64 1, .int .i64 2] = some (.bool true) := rfl
  have l2 : evp (.bin .add .no) [.int .i64 1, .int .i64 1] = some (.int .i64 2) := rfl
  rw [w.zq58_10]; unfold y.zq58_10
  simp only [pr, l1, l2, Xak]
  simp only [yy, g1, gl, b7]
  exact c2
 have c0 : vl e 10 10 [.sl false 1 [Zad a, Zad b], .int .i64 2, .int .i64 0, objV [], objV []] = some (.bool t) := by
  have l1 : evp (.bin .lss .no) [.int .i64 0, .int .i64 2] = some (.bool true) := rfl
  have l2 : evp (.bin .add .no) [.int .i64 0, .int .i64 1] = some (.int .i64 1) := rfl
  rw [w.zq58_10]; unfold y.zq58_10
  simp only [pr, l1, l2, Xak]
  simp only [yy, g0, gl, a7]
  exact c1
 refine ⟨t, ?_, fun ht => ?_⟩
 ·rw [w.zq58]; unfold y.zq58
  exact c0
 ·have hall := fun j hj k hk => t2 ht j hj (Xby _) k hk
  exact ⟨Zsl hall Zc6 _ fun p hp => (Xay.1 hp).elim (fun h => Xbh _ (a5 p h)) (fun h => Xa9 _ (b5 p h)),
   Zsl hall Za7 _ fun p hp => (Xay.1 hp).elim (fun h => Xbh _ (a6 p h)) (fun h => Xa9 _ (b6 p h))⟩
end Go.Proofs.YtpmgdngjbdkdfaaGreatDoor
namespace Go.Proofs.YtpmgdngjbdkdfaaGreatDoor
open Go.Abs
set_option maxRecDepth 10000
variable {e : Ev}
theorem Z3f {x y : Fi} : evp (.bin .eql (.flat [(none, true), (none, true)])) [fv x, fv y] = some (.bool (decide (x = y))) := by
 have : decide (x = y) = (decide (x.1 = y.1) && (decide (x.2 = y.2) && true)) := by
  rw [Xcf, Xfh]
  simp [Prod.ext_iff]
 rw [this]
 simp [evp, abin, vEq, aeq, Zau, kdEq, fv]
theorem v.one36 {a b Sa Sb : List Fi} (hla : Sa.length <= 1000) {id id' : Bytes} (hid : id.length = 32) (hid' : id'.length = 32) {m1 m2 m3 n1 n2 n3 : V}
  (x1 : vl e 10208 1 [Zad a, mv [], mv [], mv []] = some (.tup [bl id, I 0, m1, m2, m3])) (x2 : vl e 10208 1 [Zad b, m1, m2, m3] = some (.tup [bl id', I 0, n1, n2, n3])) :
  ∀ (n i : Nat) (same : Bool), i + n = Sa.length -> (same = true -> Sa.length = Sb.length) -> vl e 3 36 [Zad a, Zad b, Zad Sa, Zad Sb, .bool same, I i] = some (.bool (decide (id = id') == (same && decide (Sa.drop i = Sb.drop i)))) := by
 intro n
 induction n with
 | zero =>
  intro i same hi hs
  have hd : (same && decide (Sa.drop i = Sb.drop i)) = same := by
   cases same with
   | false => rfl
   | true =>
    rw [Xeb, Xap (by omega), Xap (by have := hs rfl; omega)]; rfl
  rw [hd, w.zq39_36]; unfold y.zq39_36
  simp only [yy, Zc8, if_neg (show ¬((i : Int) < (Sa.length : Int)) by omega), v.New, x1, Zbc hid, x2, Zbc hid', Zmv hid hid']
  simp
 | succ n ih =>
  intro i same hi hs
  have hlt : i < Sa.length := by omega
  rw [w.zq39_36]; unfold y.zq39_36
  cases same with
  | false =>
   simp only [yy, Zc8, if_pos (show (i : Int) < (Sa.length : Int) by omega), v.New, x1, Zbc hid, x2, Zbc hid', Zmv hid hid']
   simp
  | true =>
   have hlb : i < Sb.length := by have := hs rfl; omega
   simp only [yy, Zc8, if_pos (show (i : Int) < (Sa.length : Int) by omega), Zcm hlt, Zcm hlb, Zf2, Z3f, Zam hlt (by omega)]
   rw [ih (i + 1) _ (by omega) (fun _ => hs rfl)]
   congr 3
   rw [Xeb, Xfh]
   simp only [Xai, decide_eq_true_eq]
   rw [Xal hlt, Xal hlb, Xb4]
theorem q.treeOne (he : EnvT e) (a b : List Fi) (ha : a.length <= 1000000000 /\ ∀ f ∈ a, f.1.length <= 1000000000 /\ f.2.length <= 1000000000) (hb : b.length <= 1000000000 /\ ∀ f ∈ b, f.1.length <= 1000000000 /\ f.2.length <= 1000000000) :
  vl e 3 0 [Zad a, Zad b] = some (.bool true) := by
 have t15 : vl e 3 15 [Zad a, Zad b, .bool true] = some (.bool true) := by
  rw [w.zq39_15]; rfl
 obtain ⟨g1, hg1, hs1⟩ := v.great (e := e) a ha.1 ha.2 40 4096 (by omega)
 obtain ⟨g2, hg2, hs2⟩ := v.great (e := e) b hb.1 hb.2 40 4096 (by omega)
 rw [w.zq39]; unfold y.zq39
 cases g1 with
 | true => simp only [yy, v.alive08 he]; simp only [show V.int .i64 40 = I (40 : Nat) from rfl, show V.int .i64 4096 = I (4096 : Nat) from rfl, hg1, yy]; exact t15
 | false =>
 cases g2 with
 | true => simp only [yy, v.alive08 he]; simp only [show V.int .i64 40 = I (40 : Nat) from rfl, show V.int .i64 4096 = I (4096 : Nat) from rfl, hg1, hg2, yy]; exact t15
 | false =>
 have na := (hs1 rfl).1
 have nb := (hs2 rfl).1
 obtain ⟨la, ba⟩ := Z5f (hs1 rfl).1 (by omega) (hs1 rfl).2
 obtain ⟨lb, bb⟩ := Z5f (hs2 rfl).1 (by omega) (hs2 rfl).2
 have wa := v.why (e := e) a la ba
 have wb := v.why (e := e) b lb bb
 simp only [yy, v.alive08 he]
 simp only [show V.int .i64 40 = I (40 : Nat) from rfl, show V.int .i64 4096 = I (4096 : Nat) from rfl, hg1, hg2, wa, wb, yy]
 by_cases h1 : whyB a = 0
 rotate_left
 ·rw [if_neg h1]; exact t15
 rw [if_pos h1]
 by_cases h2 : whyB b = 0
 rotate_left
 ·simp only [decide_eq_false h2, yy]; exact t15
 simp only [decide_eq_true h2, yy]
 obtain ⟨id, p1, p2, a1, a2, a3, a4, a5, a6⟩ := v.Build he a la ba
 obtain ⟨id', q1, q2, b1, b2, b3, b4, b5, b6⟩ := v.Build he b lb bb
 obtain ⟨Sa, pa, oa, ta⟩ := a5 h1
 obtain ⟨Sb, pb, ob, tb⟩ := b5 h2
 have size : ∀ {S l : List Fi} {id : Bytes} {p1 p2 : MB}, S.Perm l -> l.length <= 40 -> SoOK S -> Tr S [] 0 S.length [] id p1 p2 -> p1.length + p2.length <= 20000 := by
  intro S l id p1 p2 hp hl hS ht
  have k0 := hp.length_eq
  have k1 := (Z43 ht).2
  have k2 := Zzp (fun i hi => by
   have := hS.good _ (Xas hi)
   simp only [Zc5, Xai, decide_eq_true_eq] at this
   unfold pS; rw [Zay hi]; exact this.1.2) ht (Xaf _) (fun i _ hi => by
    have := Xaz.2 (Zbb 47 (S.getD i ([], [])).1)
    simpa [pS] using this)
  simp only [Xa5] at k2
  omega
 obtain ⟨t, c1, c2⟩ := v.clash2 he ⟨la, ba⟩ ⟨lb, bb⟩ h1 h2 pa oa pb ob ta tb (size pa na oa ta) (size pb nb ob tb)
 have sa := v.rSortedOK he la (fun f hf => (ba f hf).1) h1 pa oa
 have sb := v.rSortedOK he lb (fun f hf => (bb f hf).1) h2 pb ob
 have k0 : keyL [] := fun _ h => by cases h
 have x1 := a6 [] [] (mv []) k0 k0
 have x2 := b6 _ _ (mv []) (Zd8 a2 k0) (Zd8 a3 k0)
 rw [h1] at x1
 rw [h2] at x2
 have hbs : evp (.bsl 1) [Zad a, Zad b] = some (.sl false 1 [Zad a, Zad b]) := rfl
 rw [w.zq39_15]; unfold y.zq39_15
 simp only [yy, hbs, c1]
 cases t with
 | true => rfl
 | false =>
  obtain ⟨d1, d2⟩ := c2 rfl
  simp only [yy, sa, sb, Zc8]
  have h36 := v.one36 (a := a) (b := b) (Sa := Sa) (Sb := Sb) (by have := pa.length_eq; omega) a1 b1 x1 x2 Sa.length 0 (decide ((Sa.length : Int) = (Sb.length : Int))) (Xan _) (fun h => by have := of_decide_eq_true h; omega)
  refine h36.trans ?_
  have hone := ta.one oa ob tb d1 d2
  have hq : (decide ((Sa.length : Int) = (Sb.length : Int)) && decide (Sa.drop 0 = Sb.drop 0)) = decide (Sa = Sb) := by
   rw [Xa7, Xa7, Xfh]
   simp only [Xai, decide_eq_true_eq]
   exact ⟨fun h => h.2, fun h => ⟨by rw [h], h⟩⟩
  have hd : decide (id = id') = decide (Sa = Sb) := decide_eq_decide.2 hone
  rw [hq, hd]
  simp
end Go.Proofs.YtpmgdngjbdkdfaaGreatDoor
namespace Go.Proofs.YtpmgdngjbdkdfaaGreatDoor
open Go.Abs
structure T.File where
 Path : Bytes
 Data : Bytes
 deriving DecidableEq
def C.File (x : T.File) : List V := [(V.str x.Path)] ++ [(V.str x.Data)]
def E.File (x : T.File) : V := .agg (C.File x)
theorem E.File_clean (x : T.File) : (E.File x).clean = true := (Zbd (Zfh rfl rfl) (Zfh rfl rfl))
def E.LFile (l : (List T.File)) : V := .sl false 2 (l.map E.File)
end Go.Proofs.YtpmgdngjbdkdfaaGreatDoor
namespace Go.Proofs.YtpmgdngjbdkdfaaGreatDoor
open Go.ChangeShapes Go.WideShapes Go.RowKit Go.Abs
theorem ownK : ownKnob Tryz.prog.godebug = none := by kernel_rfl
theorem kids : Kids Tryz.prog (· < Tryz.prog.types.size) := kids_rows (by kernel_rfl) (by kernel_rfl)
theorem full : ∀ t e, t < Tryz.prog.types.size -> Tryz.prog.underlying t = some (.slice e) -> 0 < Tryz.prog.cellsOf e := slices_full_of Tryz.prog (by kernel_rfl)
section
variable {P : Program} {m : Nat} {t e : TypeId} {vs : List V}
theorem Z2d (hu : P.underlying t = some .string) (h : HasT P (m + 1) t vs) : ∃ x : Bytes, nfL vs = [V.str x] := by
 simp only [HasT, hu] at h
 obtain ⟨b, rfl⟩ := h; exact ⟨b, rfl⟩
theorem Z82 {α : Type} {E : α -> V} {c : Nat} (hu : P.underlying t = some (.slice e)) (hc : P.cellsOf e = c) (he : ∀ ws, HasT P m e ws -> ∃ x, (elV P e ws).nf = E x) (h : HasT P (m + 1) t vs) : ∃ l : List α, nfL vs = [V.sl false c (l.map E)] := by
 simp only [HasT, hu, hc] at h
 rcases h with rfl | ⟨xs, rfl, hx⟩
 ·exact ⟨[], rfl⟩
 ·have : ∃ l : List α, nfL xs = l.map E := by
   clear hc
   induction xs with
   | nil => exact ⟨[], rfl⟩
   | cons x r ih =>
    obtain ⟨l, hl⟩ := ih fun y hy => hx y (by simp [hy])
    obtain ⟨ws, hw, rfl⟩ := hx x (by simp)
    obtain ⟨a, ha⟩ := he ws hw
    exact ⟨a :: l, by rw [nfL, ha, hl]; rfl⟩
  obtain ⟨l, hl⟩ := this
  exact ⟨l, by show [V.sl false c (nfL xs)] = _; rw [hl]⟩
theorem Z2a (ha : Zd3 P t = true) {l : List V} (h : nfL vs = l) : (elV P t vs).nf = .agg l := by
 unfold elV; rw [if_pos ha]; show V.agg (nfL vs) = _; rw [h]
theorem Zye (ha : Zd3 P t = false) {v : V} (h : nfL vs = [v]) : (elV P t vs).nf = v := by
 unfold elV; rw [if_neg (by simp [ha])]
 cases vs with
 | nil => cases h
 | cons x r => rw [nfL] at h; exact (List.cons.inj h).1
theorem nfL_flat : ∀ {wss : List (List V)}, nfL wss.flatten = (wss.map nfL).flatten
 | [] => rfl
 | w :: r => by rw [Xcn, Zbr, nfL_flat]; rfl
end
mutual
theorem Z3q : ∀ v : V, v.nf.wt <= v.wt
 | .agg cs => by simp only [V.nf, V.wt]; have := Zt5 cs; omega
 | .sl true sz [] => by simp [V.nf, V.wt]
 | .sl true _ (x :: xs) => by simp [V.nf, V.wt]
 | .sl false sz xs => by simp only [V.nf, V.wt]; have := Zt5 xs; omega
 | .el cs off => by simp [V.nf, V.wt]
 | .tup cs => by simp [V.nf, V.wt]
 | .fn f cs => by simp [V.nf, V.wt]
 | .mfn f cs => by simp [V.nf, V.wt]
 | .iface t v => by simp [V.nf, V.wt]
 | .bool b => Xaf _
 | .int k n => Xaf _
 | .str s => Xaf _
 | .osl a b c d e => Xaf _
 | .gp g o => Xaf _
 | .ptr i o => Xaf _
 | .nilptr => Xaf _
 | .map i => Xaf _
 | .nilmap => Xaf _
 | .nilfn => Xaf _
 | .nilif => Xaf _
theorem Zt5 : ∀ l : List V, wtL (nfL l) <= wtL l
 | [] => Xaf _
 | v :: r => by simp only [nfL, wtL]; have := Z3q v; have := Zt5 r; omega
end
theorem Z36 {v w : V} {n : Nat} (h : v.nf = w) (hn : v.wt <= n) : w.wt <= n := by rw [<- h]; exact Xbo (Z3q v) hn
theorem Z8w {α : Type} {E : α -> V} {c : Nat} {l : List α} {n : Nat} (h : (V.sl false c (l.map E)).wt <= n) : l.length <= n /\ ∀ a ∈ l, (E a).wt <= n := by
 simp only [V.wt] at h
 refine ⟨by have := Zrv (l.map E); simp at this; omega, fun a ha => ?_⟩
 have := Zva (Xc8 (f := E) ha)
 omega
theorem Zy0 {s : Bytes} {n : Nat} (h : (V.str s).wt <= n) : s.length <= n := by simp only [V.wt] at h; omega
theorem Zzd {cs : List V} {v : V} {n : Nat} (h : (V.agg cs).wt <= n) (hv : v ∈ cs) : v.wt <= n := by
 simp only [V.wt] at h
 have := Zva hv; omega
end Go.Proofs.YtpmgdngjbdkdfaaGreatDoor
namespace Go.Proofs.YtpmgdngjbdkdfaaGreatDoor
open Go.Abs
variable {e : Ev}
def fiOf (x : T.File) : Fi := (x.Path, x.Data)
theorem Zq6 (l : List T.File) : E.LFile l = Zad (l.map fiOf) := by
 unfold E.LFile Zad
 rw [Xdf]; rfl
theorem Zqi {l : List T.File} (h : (E.LFile l).wt <= 1048576) : (l.map fiOf).length <= 1000000000 /\ ∀ f ∈ l.map fiOf, f.1.length <= 1000000000 /\ f.2.length <= 1000000000 := by
 obtain ⟨h1, h2⟩ := Z8w (E := E.File) h
 refine ⟨by rw [Xcj]; omega, fun f hf => ?_⟩
 obtain ⟨x, hx, rfl⟩ := Xba.1 hf
 have h3 := h2 x hx
 have a1 := Zy0 (Zzd h3 (v := .str x.Path) (by simp [C.File]))
 have a2 := Zy0 (Zzd h3 (v := .str x.Data) (by simp [C.File]))
 exact ⟨by show x.Path.length <= _; omega, by show x.Data.length <= _; omega⟩
theorem Ztz (he : EnvT e) (a b : List T.File) (ha : (E.LFile a).wt <= 1048576) (hb : (E.LFile b).wt <= 1048576) : vl e 3 0 [E.LFile a, E.LFile b] = some (.bool true) := by
 rw [Zq6, Zq6]
 exact q.treeOne he _ _ (Zqi ha) (Zqi hb)
end Go.Proofs.YtpmgdngjbdkdfaaGreatDoor
namespace Go.Proofs.YtpmgdngjbdkdfaaGreatDoor
open Go.Abs Go.RowKit
def exts : List FC := [K.strings_Split, K.strings_Contains, K.strings_Join]
theorem Zz9 (w : World) (hw : EnvOK w) : ∀ c ∈ exts, c.Holds (cxD w) := by
 intro c hc
 simp only [exts, Xa0, Xdc, or_false] at hc
 rcases hc with rfl | rfl | rfl
 ·exact H.strings_Split w hw
 ·exact H.strings_Contains w hw
 ·exact H.strings_Join w hw
theorem Zxu : ∀ c ∈ exts, cfg.ow c.f = true -> c.own = true := by
 intro c hc h
 simp only [exts, Xa0, Xdc, or_false] at hc
 rcases hc with rfl | rfl | rfl
 ·rfl
 ·exact absurd h (by rw [show cfg.ow K.strings_Contains.f = false by kernel_rfl]; decide)
 ·exact absurd h (by rw [show cfg.ow K.strings_Join.f = false by kernel_rfl]; decide)
theorem envX : EnvT (Zsf exts) where
 split s c hs := Zkq (cs := exts) (c := K.strings_Split) rfl ⟨(s, [c]), Zae c s, rfl, by simp [g.strings_Split, hs], rfl⟩
 contains s c hs := Zkq (cs := exts) (c := K.strings_Contains) rfl ⟨(s, [c]), decide (c ∈ s), rfl, by simp [g.strings_Contains, hs], rfl⟩
 join l s hl hj := Zkq (cs := exts) (c := K.strings_Join) rfl ⟨(l, s), Zhb s l, rfl, by simp only [g.strings_Join, Zn9]; rw [if_pos ⟨hl, hj⟩], rfl⟩
end Go.Proofs.YtpmgdngjbdkdfaaGreatDoor
namespace Go.Proofs.YtpmgdngjbdkdfaaGreatDoor
open Go.Abs Go.RowKit Go.ChangeShapes Go.WideShapes
section
variable {P : Program} {w : World}
theorem Zrj {n : String} {d : DataW Unit} : ∀ {l : List (String × DataW Unit)} {ps : List MemPlace}, DataW.LaidVars P w l ps -> (n, d) ∈ l ->
  ∃ g t cs fuel p, P.globalNamed n = some g /\ (P.globals[g]?).map (·.type) = some t /\ w.var? P n = some cs /\ DataW.trod (fun _ => ()) P w 0 (fun _ => true) false fuel t cs.toList = some (d, p)
 | [], _, _, h => by cases h
 | (m, c) :: r, ps, hl, h => by
  obtain ⟨g, t, cs, fuel, p, q, h1, h2, h3, h4, h5, _⟩ := hl
  rcases Xa0.1 h with e | h
  ·cases e; exact ⟨g, t, cs, fuel, p, h1, h2, h3, h4⟩
  ·exact Zrj h5 h
theorem Zti {n : String} {g : Nat} {cs : Array Value} (hg : P.globalNamed n = some g) (h : w.var? P n = some cs) : ∃ t x, w.heap[g]? = some (.cells cs t x) := by
 unfold World.var? at h
 rw [hg, Xak] at h
 split at h
 ·rename_i c t x hx; cases h; exact ⟨t, x, hx⟩
 ·cases h
theorem trod_int {enc : TypeId × Value -> Unit} {held : Bool} {fuel : Nat} {e : TypeId} {k k' : IntKind} {cs : List Value} {n : Int} {p : List MemPlace} (he : P.underlying e = some (.int k)) (h : DataW.trod enc P w 0 (fun _ => true) held fuel e cs = some (.lit (.int k' n), p)) : cs = [.int k n] /\ k' = k := by
 cases fuel with
 | zero => simp [DataW.trod] at h
 | succ m =>
  unfold DataW.trod at h
  rw [he] at h
  split at h <;> simp_all
theorem Zzq {laid : List (String × DataW Unit)} {n : String} {d : DataW Unit} {g : Nat} {t e : TypeId} {k : IntKind} {m : Nat} (ns : List Int) (h : laidMet P laid w) (hm : (n, d) ∈ laid) (hg : P.globalNamed n = some g) (ht : (P.globals[g]?).map (·.type) = some t)
  (hu : P.underlying t = some (.array m e)) (he : P.underlying e = some (.int k)) (hc : P.cellsOf e = 1) (hct : P.cellsOf t = ns.length) (hd : d = .agg (ns.map fun i => .lit (.int k i))) : Row w (G0 w) (fun _ => none) (ns.map (V.int k)) g 0 /\ (ns.map (V.int k)).length <= G0 w g := by
 obtain ⟨ps, hl, _, _⟩ := h
 obtain ⟨g', t', cs, fuel, p, h1, h2, h3, h4⟩ := Zrj hl hm
 rw [hg] at h1; cases h1
 rw [ht] at h2; cases h2
 obtain ⟨t1, x1, hh⟩ := Zti hg h3
 obtain ⟨xs, fu, _, hx, hlen, hxl, hel⟩ := DataW.trod_array hu h4
 have hxs : xs.map (·.1) = ns.map fun i => (DataW.lit (.int k i) : DataW Unit) := by
  have := (Prod.mk.inj hx).1
  rw [hd] at this
  exact (DataW.agg.inj this).symm
 have hnl : xs.length = ns.length := by have := congrArg List.length hxs; simpa using this
 have hsz : cs.size = ns.length := by rw [<- hct, <- hlen]; simp
 have hcell : ∀ i, (hi : i < ns.length) -> cs[i]? = some (.int k ns[i]) := by
  intro i hi
  have h5 := hel i (by omega)
  rw [hc, Xcu, Xad (by omega)] at h5
  have h6 : xs[i].1 = DataW.lit (.int k ns[i]) := by
   have h7 : (xs.map (·.1))[i]? = (ns.map fun i => (DataW.lit (.int k i) : DataW Unit))[i]? := by rw [hxs]
   rw [Xbp, Xbp, Xad (by omega), Xad hi] at h7
   simpa using h7
  obtain ⟨h8, _⟩ := trod_int (n := ns[i]) (p := xs[i].2) (k' := k) he (by rw [h5]; exact congrArg some (Prod.ext h6 rfl))
  have hi' : i < cs.toList.length := by simp; omega
  rw [Xal hi', Xc9, Xcm] at h8
  have h9 := (List.cons.inj h8).1
  rw [Xav (by omega)]
  simpa using h9
 refine ⟨⟨fun c hc => ?_, fun i c hc => ?_⟩, ?_⟩
 ·obtain ⟨j, _, rfl⟩ := Xba.1 hc; rfl
 ·rw [Xbp] at hc
  obtain ⟨j, hj, rfl⟩ := Xaa.1 hc
  obtain ⟨hi, hj⟩ := Xae.1 hj
  refine ⟨.int k j, ?_, .int k j⟩
  rw [Xan]
  simp only [World.cell?, hh]
  rw [<- hj]; exact hcell i hi
 ·simp only [Xcj, G0, hh]; omega
end
noncomputable def cxG (gls : Nat -> Option (List V)) (w : World) : Cx := ⟨Tryz.prog, w, gls⟩
theorem Z4p {gls : Nat -> Option (List V)} {w W : World} {G : Nat -> Nat} (h : OKW (cxG gls w) W G) : OKW (cxD w) W G := ⟨h.below, h.Glo, h.Gz⟩
theorem Z7p {gls : Nat -> Option (List V)} {w : World} {f : FuncId} {args : List V} {r : V × Bool} (h : PC (cxD w) f args r) : PC (cxG gls w) f args r := ⟨h.1, fun W G φ xs ho hr => h.2 W G φ xs (Z4p ho) hr⟩
theorem Zzy {gls : Nat -> Option (List V)} {w : World} {c : FC} (h : c.Holds (cxD w)) : c.Holds (cxG gls w) := fun args y hr => by
 obtain ⟨v, o, h1, h2⟩ := h args y hr
 exact ⟨v, o, Z7p h1, h2⟩
theorem Z3d {laid : List (String × DataW Unit)} {w : World} (h : laidMetH Tryz.prog laid w) (hn : (laid.filter fun x => x.2.handleName?.isSome) = []) : laidMet Tryz.prog laid w := by
 unfold laidMetH at h
 rw [hn] at h; exact h
end Go.Proofs.YtpmgdngjbdkdfaaGreatDoor
