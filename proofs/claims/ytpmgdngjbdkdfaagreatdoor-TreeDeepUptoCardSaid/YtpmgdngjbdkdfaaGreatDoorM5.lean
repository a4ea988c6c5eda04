/-
  Parts of the proof, one behind the other. Own work of this seat; some printed by its programs.
-/
import Derived.Test.YtpmgdngjbdkdfaaGreatDoorM4
namespace Go.Proofs.YtpmgdngjbdkdfaaGreatDoor
open Go.Abs
set_option maxRecDepth 10000
theorem Z1y (n : Nat) : (UInt8.ofNat n).toNat = n % 256 := by simp
def valB (b : Bytes) : Nat := b.foldl (fun v c => v * 256 + c.toNat) 0
theorem Zpx {n : Nat} (h : n < 18446744073709551616) : valB (numB n) = n := by
 have e : numB n = [UInt8.ofNat (n / 2 ^ 56), UInt8.ofNat (n / 2 ^ 48), UInt8.ofNat (n / 2 ^ 40), UInt8.ofNat (n / 2 ^ 32), UInt8.ofNat (n / 2 ^ 24), UInt8.ofNat (n / 2 ^ 16), UInt8.ofNat (n / 2 ^ 8), UInt8.ofNat (n / 2 ^ 0)] := rfl
 rw [e]
 simp only [valB, List.foldl, Z1y, Nat.reducePow]
 omega
theorem Zpi {n m : Nat} (hn : n < 18446744073709551616) (hm : m < 18446744073709551616) (h : numB n = numB m) : n = m := by
 rw [<- Zpx hn, <- Zpx hm, h]
theorem Zi7 : ∀ {l m : List Bytes}, l.length = m.length -> (∀ x ∈ l, x.length < 18446744073709551616) -> (∀ x ∈ m, x.length < 18446744073709551616) -> Zaw l = Zaw m -> l = m
 | [], [], _, _, _, _ => rfl
 | x :: l, z :: m, hl, h1, h2, h => by
  rw [Za7, Za7, Xai, Xai] at h
  obtain ⟨e1, e2⟩ := Xcz h (by rw [Za4, Za4])
  have hx := Zpi (h1 x (by simp)) (h2 z (by simp)) e1
  obtain ⟨e3, e4⟩ := Xcz e2 hx
  rw [e3, Zi7 (by simpa using hl) (fun a ha => h1 a (by simp [ha])) (fun a ha => h2 a (by simp [ha])) e4]
theorem Zme {l m : List Bytes} (hl : l.length < 18446744073709551616) (hm : m.length < 18446744073709551616) (h1 : ∀ x ∈ l, x.length < 18446744073709551616) (h2 : ∀ x ∈ m, x.length < 18446744073709551616) (h : Zbh l = Zbh m) : l = m := by
 unfold Zbh at h
 obtain ⟨e1, e2⟩ := Xcz h (by rw [Za4, Za4])
 exact Zi7 (Zpi hl hm e1) h1 h2 e2
theorem Zy3 {x z : En} (h : enP x = enP z) : x = z := by
 obtain ⟨a, b, c⟩ := x
 obtain ⟨a', b', c'⟩ := z
 simp only [enP, Xcx, and_true] at h
 obtain ⟨h1, rfl, rfl⟩ := h
 have : b = b' := by
  cases b <;> cases b' <;> first | rfl | (simp [treeK, Zb2] at h1)
 subst this; rfl
theorem Zho : ∀ {l m : List En}, Zat l = Zat m -> l = m
 | [], [], _ => rfl
 | [], x :: m, h => by have := congrArg List.length h; rw [Zbr, Zbr] at this; simp at this
 | x :: l, [], h => by have := congrArg List.length h; rw [Zbr, Zbr] at this; simp at this
 | x :: l, z :: m, h => by
  unfold Zat at h
  rw [Xbd, Xbd] at h
  obtain ⟨e1, e2⟩ := Xcz h rfl
  rw [Zy3 e1, Zho (l := l) (m := m) e2]
theorem Zsn {l m : List En} (hl : EnOK l) (hm : EnOK m) (h : Zah l = Zah m) : l = m := by
 have len : ∀ {l : List En}, EnOK l -> (Zat l).length < 18446744073709551616 /\ ∀ x ∈ Zat l, x.length < 18446744073709551616 := by
  intro l hl
  have h0 := hl.len
  have hs := Zcu (fun x hx => (hl.nm x hx).2) hl.id
  refine ⟨by rw [Zbr]; omega, fun x hx => ?_⟩
  have := Ze7 hx
  omega
 exact Zho (Zme (len hl).1 (len hm).1 (len hl).2 (len hm).2 h)
theorem Zuz {X es : List En} (h : EnOK es) (he : Zah X = Zah es) : X = es := by
 have h0 := h.len
 have hs := Zcu (fun x hx => (h.nm x hx).2) h.id
 have l1 : sumL (Zat X) = sumL (Zat es) := by
  have := congrArg List.length he
  simp only [Zah, Zcf] at this; omega
 have s1 := Zch (Zat X)
 have s2 := Zch (Zat es)
 exact Zho (Zme (by omega) (by omega) (fun x hx => by have := Ze7 hx; omega) (fun x hx => by have := Ze7 hx; omega) he)
def Cons (P : MB) : Prop := ∀ p ∈ P, ∀ q ∈ P, p.1 = q.1 -> p.2 = q.2
theorem Cons.sub {P Q : MB} (h : Cons P) (hs : ∀ p ∈ Q, p ∈ P) : Cons Q := fun p hp q hq => h p (hs p hp) q (hs q hq)
theorem Tr.fin {S : List Fi} {D : List Bytes} {a b : Nat} {ls : List En} {id : Bytes} {p1 p2 : MB} (h : Tr S D a b ls id p1 p2) : ∃ es, id = Zao treeK (Zah (ls ++ es)) /\ (Zao treeK (Zah (ls ++ es)), Zah (ls ++ es)) ∈ p2 := by
 induction h with
 | done => exact ⟨[], by rw [Xau], by rw [Xau]; simp⟩
 | blob _ _ _ ih =>
  obtain ⟨es, h1, h2⟩ := ih
  exact ⟨_ :: es, by rw [h1, Xai]; rfl, by rw [Xai] at h2; exact h2⟩
 | dir _ _ _ _ _ _ _ ih =>
  obtain ⟨es, h1, h2⟩ := ih
  exact ⟨_ :: es, by rw [h1, Xai]; rfl, by rw [Xai] at h2; exact Xa8 _ h2⟩
theorem Tr.det {S : List Fi} {D : List Bytes} {a b : Nat} {ls : List En} {id : Bytes} {p1 p2 : MB} (h : Tr S D a b ls id p1 p2) : ∀ {id' : Bytes} {q1 q2 : MB}, Tr S D a b ls id' q1 q2 -> id = id' /\ p1 = q1 /\ p2 = q2 := by
 induction h with
 | done =>
  intro id' q1 q2 h'
  cases h' with
  | done => exact ⟨rfl, rfl, rfl⟩
  | blob hab _ _ => omega
  | dir hk hkb _ _ _ _ => omega
 | @blob D a b ls x id p1 p2 hab hx h ih =>
  intro id' q1 q2 h'
  cases h' with
  | done => omega
  | blob hab' hx' h' =>
   have := Xdf (hx.symm.trans hx')
   simp only [Xcx, and_true] at this
   subst this
   obtain ⟨e1, e2, e3⟩ := ih h'
   exact ⟨e1, by rw [e2], e3⟩
  | dir hk hkb hrun hstop h1 h2 =>
   obtain ⟨R, hR, hs⟩ := hrun a (Xaj _) (by omega)
   have := Xdf (hx.symm.trans hs)
   simp only [Xcx] at this
   exact absurd this.2.symm hR
 | @dir D a b k ls x id id1 p1 p2 q1 q2 hk hkb hrun hstop h1 h2 ih1 ih2 =>
  intro id' r1 r2 h'
  obtain ⟨R, hR, hs⟩ := hrun a (Xaj _) (by omega)
  cases h' with
  | done => omega
  | blob hab' hx' h' =>
   have := Xdf (hx'.symm.trans hs)
   simp only [Xcx] at this
   exact absurd this.2.symm hR
  | @dir _ _ _ k' _ x' _ _ _ _ _ _ hk' hkb' hrun' hstop' h1' h2' =>
   obtain ⟨R', hR', hs'⟩ := hrun' a (Xaj _) (by omega)
   have := Xdf (hs.symm.trans hs')
   simp only [Xcx] at this
   obtain ⟨rfl, _⟩ := this
   have hkk : k = k' := by
    rcases Xbp k k' with h | h | h
    ·exact absurd (hrun' (a + k) (by omega) (by omega)) (hstop (by omega))
    ·exact h
    ·exact absurd (hrun (a + k') (by omega) (by omega)) (hstop' (by omega))
   subst hkk
   obtain ⟨e1, e2, e3⟩ := ih1 h1'
   subst e1 e2 e3
   obtain ⟨f1, f2, f3⟩ := ih2 h2'
   exact ⟨f1, by rw [f2], by rw [f3]⟩
def relS (S : List Fi) (D : List Bytes) (a b : Nat) : List (List Bytes × Bytes) := (List.range' a (b - a)).map fun i => ((pS S i).drop D.length, (S.getD i ([], [])).2)
theorem Zpq (S : List Fi) (D : List Bytes) (a : Nat) : relS S D a a = [] := by simp [relS]
theorem Zps {S : List Fi} {D : List Bytes} {a b : Nat} (h : a < b) : relS S D a b = ((pS S a).drop D.length, (S.getD a ([], [])).2) :: relS S D (a + 1) b := by
 unfold relS
 rw [show b - a = (b - (a + 1)) + 1 by omega, Xds]; rfl
theorem Zsp {S : List Fi} {D : List Bytes} {a m b : Nat} (h1 : a <= m) (h2 : m <= b) : relS S D a b = relS S D a m ++ relS S D m b := by
 unfold relS
 rw [<- Xb1]
 have := List.range'_append_1 (s := a) (m := m - a) (n := b - m)
 rw [show a + (m - a) = m by omega, show m - a + (b - m) = b - a by omega] at this
 rw [this]
theorem Zol {S : List Fi} {D : List Bytes} {x : Bytes} {a b : Nat} (h : ∀ i, a <= i -> i < b -> ∃ R, R ≠ [] /\ pS S i = D ++ x :: R) : relS S D a b = (relS S (D ++ [x]) a b).map fun p => (x :: p.1, p.2) := by
 unfold relS
 rw [Xdd]
 refine Xdx fun i hi => ?_
 rw [List.mem_range'_1] at hi
 obtain ⟨R, _, hs⟩ := h i hi.1 (by omega)
 simp only [Function.comp, hs, Xcr, and_true]
 rw [Xct]
 have : (D ++ x :: R).drop (D ++ [x]).length = R := by rw [show D ++ x :: R = (D ++ [x]) ++ R by simp, Xct]
 rw [this]
theorem Tr.ok {S : List Fi} (hS : SoOK S) {D : List Bytes} {a b : Nat} {ls : List En} {id : Bytes} {p1 p2 : MB} (h : Tr S D a b ls id p1 p2) : id.length = 32 := by
 obtain ⟨es, h1, _⟩ := h.fin
 rw [h1]; exact Zay _ _
theorem Tr.inj {S S' : List Fi} {P1 P2 : MB} (c1 : Cons P1) (c2 : Cons P2) (okP : ∀ es, (Zao treeK (Zah es), Zah es) ∈ P2 -> EnOK es)
  {D : List Bytes} {a b : Nat} {ls : List En} {id : Bytes} {p1 p2 : MB} (h : Tr S D a b ls id p1 p2) : (∀ p ∈ p1, p ∈ P1) -> (∀ p ∈ p2, p ∈ P2) ->
  ∀ {D' : List Bytes} {a' b' : Nat} {ls' : List En} {q1 q2 : MB}, Tr S' D' a' b' ls' id q1 q2 -> (∀ p ∈ q1, p ∈ P1) -> (∀ p ∈ q2, p ∈ P2) -> ls.length = ls'.length -> relS S D a b = relS S' D' a' b' := by
 -- the whole lists are the same
 have whole : ∀ {X Y : List En}, Zao treeK (Zah X) = Zao treeK (Zah Y) -> (Zao treeK (Zah X), Zah X) ∈ P2 -> (Zao treeK (Zah Y), Zah Y) ∈ P2 -> X = Y := by
  intro X Y he h1 h2
  exact Zsn (okP _ h1) (okP _ h2) (c2 _ h1 _ h2 he)
 induction h with
 | @done D a ls hok =>
  intro s1 s2 D' a' b' ls' q1 q2 h' t1 t2 hl
  have hin : (Zao treeK (Zah ls), Zah ls) ∈ P2 := s2 _ (Xa9.2 rfl)
  have no : ∀ {e : En} {es : List En}, Zao treeK (Zah ls) = Zao treeK (Zah ((ls' ++ [e]) ++ es)) -> (Zao treeK (Zah ((ls' ++ [e]) ++ es)), Zah ((ls' ++ [e]) ++ es)) ∈ P2 -> False := by
   intro e es he hin'
   have := whole he hin hin'
   have := congrArg List.length this
   simp at this; omega
  rw [Zpq]
  generalize hid : Zao treeK (Zah ls) = idd at h'
  cases h' with
  | done => rw [Zpq]
  | blob hab hx h2 =>
   obtain ⟨es, e1, e2⟩ := h2.fin
   exact (no (hid.trans e1) (t2 _ e2)).elim
  | dir hk hkb hrun hstop h1 h2 =>
   obtain ⟨es, e1, e2⟩ := h2.fin
   exact (no (hid.trans e1) (t2 _ (Xa8 _ e2))).elim
 | @blob D a b ls x id p1 p2 hab hx h ih =>
  intro s1 s2 D' a' b' ls' q1 q2 h' t1 t2 hl
  obtain ⟨es, e1, e2⟩ := h.fin
  rw [Zps hab, hx, Xct]
  generalize hid : id = idd at h'
  cases h' with
  | done =>
   have := whole (e1.symm.trans hid) (s2 _ e2) (t2 _ (Xa9.2 rfl))
   have := congrArg List.length this
   simp at this; omega
  | @blob _ _ _ _ x' _ _ _ hab' hx' h2 =>
   subst hid
   obtain ⟨es', f1, f2⟩ := h2.fin
   have hw := whole (e1.symm.trans f1) (s2 _ e2) (t2 _ f2)
   rw [Xai, Xai] at hw
   obtain ⟨g1, g2⟩ := Xcz hw hl
   simp only [Xcn, Xcx, En.mk.injEq, true_and] at g2
   obtain ⟨⟨rfl, hd⟩, _⟩ := g2
   have hdd := c1 (Zao Zb2 (S.getD a ([], [])).2, (S.getD a ([], [])).2) (s1 _ (by simp)) (Zao Zb2 (S'.getD a' ([], [])).2, (S'.getD a' ([], [])).2) (t1 _ (by simp)) hd
   simp only at hdd
   rw [Zps hab', hx', Xct, hdd, ih (fun p hp => s1 p (by simp [hp])) s2 h2 (fun p hp => t1 p (by simp [hp])) t2 (by simp [hl])]
  | @dir _ _ _ _ _ x' _ _ _ _ _ _ hk hkb hrun hstop h1 h2 =>
   subst hid
   obtain ⟨es', f1, f2⟩ := h2.fin
   have hw := whole (e1.symm.trans f1) (s2 _ e2) (t2 _ (Xa8 _ f2))
   rw [Xai, Xai] at hw
   obtain ⟨g1, g2⟩ := Xcz hw hl
   simp at g2
 | @dir D a b k ls x id id1 p1 p2 r1 r2 hk hkb hrun hstop h1 h2 ih1 ih2 =>
  intro s1 s2 D' a' b' ls' q1 q2 h' t1 t2 hl
  obtain ⟨es, e1, e2⟩ := h2.fin
  have e2' := s2 _ (Xa8 _ e2)
  rw [Zsp (show a <= a + k by omega) hkb, Zol hrun]
  generalize hid : id = idd at h'
  cases h' with
  | done =>
   have := whole (e1.symm.trans hid) e2' (t2 _ (Xa9.2 rfl))
   have := congrArg List.length this
   simp at this; omega
  | @blob _ _ _ _ x' _ _ _ hab' hx' h2' =>
   subst hid
   obtain ⟨es', f1, f2⟩ := h2'.fin
   have hw := whole (e1.symm.trans f1) e2' (t2 _ f2)
   rw [Xai, Xai] at hw
   obtain ⟨g1, g2⟩ := Xcz hw hl
   simp at g2
  | @dir _ _ _ k' _ x' _ id1' _ _ _ _ hk' hkb' hrun' hstop' h1' h2' =>
   subst hid
   obtain ⟨es', f1, f2⟩ := h2'.fin
   have hw := whole (e1.symm.trans f1) e2' (t2 _ (Xa8 _ f2))
   rw [Xai, Xai] at hw
   obtain ⟨g1, g2⟩ := Xcz hw hl
   simp only [Xcn, Xcx, En.mk.injEq, true_and] at g2
   obtain ⟨⟨rfl, hd⟩, _⟩ := g2
   subst hd
   rw [Zsp (show a' <= a' + k' by omega) hkb', Zol hrun',
    ih1 (fun p hp => s1 p (Xbj _ hp)) (fun p hp => s2 p (Xbj _ hp)) h1' (fun p hp => t1 p (Xbj _ hp)) (fun p hp => t2 p (Xbj _ hp)) rfl,
    ih2 (fun p hp => s1 p (Xa8 _ hp)) (fun p hp => s2 p (Xa8 _ hp)) h2' (fun p hp => t1 p (Xa8 _ hp)) (fun p hp => t2 p (Xa8 _ hp)) (by simp [hl])]
theorem Tr.oks {S : List Fi} {D : List Bytes} {a b : Nat} {ls : List En} {id : Bytes} {p1 p2 : MB} (h : Tr S D a b ls id p1 p2) : ∀ p ∈ p2, ∃ es, EnOK es /\ p = (Zao treeK (Zah es), Zah es) := by
 induction h with
 | done hok => exact fun p hp => ⟨_, hok, Xa9.1 hp⟩
 | blob _ _ _ ih => exact ih
 | dir _ _ _ _ _ _ ih1 ih2 => exact fun p hp => (Xa2.1 hp).elim (ih1 p) (ih2 p)
theorem Zy6 {S S' : List Fi} (hS : SoOK S) (hS' : SoOK S') (h : relS S [] 0 S.length = relS S' [] 0 S'.length) : S = S' := by
 have key : ∀ S : List Fi, relS S [] 0 S.length = S.map fun f => (Zal 47 f.1, f.2) := by
  intro S
  unfold relS
  refine Xdu (by simp) fun i h1 h2 => ?_
  simp only [Xb4] at h2
  simp only [List.getElem_map, List.getElem_range', Xan, Nat.one_mul, Xbb, Xa7, pS]
  rw [Z3c h2]
 rw [key, key] at h
 refine Xdu (by simpa using congrArg List.length h) fun i h1 h2 => ?_
 have := congrArg (fun l => l[i]?) h
 simp only [Xbe, Xad h1, Xad h2, Xar, Xac, Xcr] at this
 have e1 : S[i].1 = S'[i].1 := by rw [<- Zeu 47 S[i].1, <- Zeu 47 S'[i].1, this.1]
 exact Prod.ext e1 this.2
theorem Tr.one {S S' : List Fi} (hS : SoOK S) (hS' : SoOK S') {id id' : Bytes} {p1 p2 q1 q2 : MB} (h : Tr S [] 0 S.length [] id p1 p2) (h' : Tr S' [] 0 S'.length [] id' q1 q2) (c1 : Cons (p1 ++ q1)) (c2 : Cons (p2 ++ q2)) : id = id' <-> S = S' := by
 constructor
 ·intro he
  subst he
  refine Zy6 hS hS' (h.inj c1 c2 (fun es hes => ?_) (fun p hp => Xbj _ hp) (fun p hp => Xbj _ hp) h' (fun p hp => Xa8 _ hp) (fun p hp => Xa8 _ hp) rfl)
  have : ∃ es', EnOK es' /\ (Zao treeK (Zah es), Zah es) = (Zao treeK (Zah es'), Zah es') := (Xa2.1 hes).elim (h.oks _) (h'.oks _)
  obtain ⟨es', o, hq⟩ := this
  rw [Zuz o (congrArg Prod.snd hq)]; exact o
 ·rintro rfl
  exact (h.det h').1
end Go.Proofs.YtpmgdngjbdkdfaaGreatDoor
namespace Go.Proofs.YtpmgdngjbdkdfaaGreatDoor
open Go.Abs
set_option maxRecDepth 10000
variable {e : Ev}
theorem Zyj {a : List Bytes} {x : Bytes} (h : a.length + 1 <= Lim) : evp (.app 1) [strs a, .sl false 1 [.str x]] = some (strs (a ++ [x])) := Zi4 h
theorem Zyi {a : List Bytes} {x u : Bytes} (h : a.length + 2 <= Lim) : evp (.app 1) [strs a, strs [x, u]] = some (strs (a ++ [x, u])) := by
 rw [strs, strs, Zk2 (by simpa using h)]; simp
theorem v.rTree10 (l : List En) (h : EnOK l) : ∀ (n i : Nat), i + n = l.length -> vl e 17 10 [strs (Zat (l.take i)), entV l, I l.length, I i] = some (.str (Zah l)) := by
 intro n
 induction n with
 | zero =>
  intro i hi
  have hlen := h.len
  have hs := Zcu (fun x hx => (h.nm x hx).2) h.id
  have hj := v.refJoin (e := e) (Zat l) (by omega)
  rw [w.zq58_10]; unfold y.zq58_10
  rw [Xao (show l.length <= i by omega)]
  simp only [yy, if_neg (show ¬((i : Int) < (l.length : Int)) by omega), hj]
  rfl
 | succ n ih =>
  intro i hi
  have hlen := h.len
  have hlt : i < l.length := by omega
  have hid := h.id _ (Xba hlt)
  have hal : (Zat (l.take i)).length + 3 <= Lim := by rw [Zbr, Xbs]; unfold Lim; omega
  have hto : Zat (l.take (i + 1)) = Zat (l.take i) ++ enP l[i] := by
   rw [Xec hlt, Zat, List.flatMap_append]; simp [Zat]
  have := ih (i + 1) (by omega)
  rw [hto] at this
  have p1 : ∀ x : Bytes, evp (.app 1) [strs (Zat (l.take i)), .sl false 1 [.str x]] = some (strs (Zat (l.take i) ++ [x])) := fun x => Zyj (by omega)
  have p2 : ∀ x a b : Bytes, evp (.app 1) [strs (Zat (l.take i) ++ [x]), strs [a, b]] = some (strs ((Zat (l.take i) ++ [x]) ++ [a, b])) := fun x a b => Zyi (by simp; omega)
  rw [w.zq58_10]; unfold y.zq58_10
  cases ht : l[i].tr with
  | false =>
   rw [enP, ht] at this
   simp only [yy, if_pos (show (i : Int) < (l.length : Int) by omega), Zet hlt, Zjy hid, Zga hid, Ziy, ht, Zgb, Zvn hid, Zge, Zfs, p1, p2, Zas hlt (by omega)]
   rw [Xai]; exact this
  | true =>
   rw [enP, ht] at this
   simp only [yy, if_pos (show (i : Int) < (l.length : Int) by omega), Zet hlt, Zjy hid, Zga hid, Ziy, ht, Zgb, Zvn hid, Zge, Zfs, p1, p2, Zas hlt (by omega)]
   rw [Xai]; exact this
theorem v.rTree (l : List En) (h : EnOK l) : vl e 17 0 [entV l] = some (.str (Zah l)) := by
 rw [w.zq58]; unfold y.zq58
 simp only [yy, Zg0]
 exact v.rTree10 l h l.length 0 (Xan _)
structure Obj where
 kind : Bytes
 id : Bytes
 data : Bytes
def ov (o : Obj) : V := .agg (.str o.kind :: (o.id.map byteV ++ [.str o.data]))
abbrev objV (l : List Obj) : V := .sl false 34 (l.map ov)
def idL (l : List Obj) : Prop := ∀ o ∈ l, o.id.length = 32
theorem Zjm {l : List Obj} {i : Nat} (h : i < l.length) : evp (.elem 34) [objV l, I i] = some (ov l[i]) := Zfu (by simp [h])
theorem Zya {l : List Obj} : evp (.len false) [objV l] = some (I l.length) := by rw [objV, Zqc, Xb4]
theorem Zma {o : Obj} (h : o.id.length = 32) : (ov o).cells.length = 34 := by simp [ov, V.cells, h]
theorem Z37 (o : Obj) : (ov o).cells.all V.sc = true := by
 show (V.str o.kind :: (o.id.map byteV ++ [.str o.data])).all V.sc = true
 rw [Xcc, Xd8, Zo8]; rfl
theorem Zql {o : Obj} (h : o.id.length = 32) : evp (.ld (some 34) 0) [ov o] = some (ov o) := by
 show Zaf (some 34) (ov o).cells 0 = _
 simp only [Zaf]
 rw [if_pos (by rw [Zma h]; omega), Xa7, Xao (by rw [Zma h]; omega)]; rfl
theorem Zjc {o : Obj} (h : o.id.length = 32) : evp (.cat [some 34]) [ov o] = some (ov o) := by
 show (catV [some 34] [ov o]).map V.agg = _
 simp only [catV]
 rw [if_pos ⟨Zma h, Z37 o⟩]
 simp only [Xar, Xau]; rfl
theorem Zq2 {o : Obj} : evp (.ld none 0) [ov o] = some (.str o.kind) := rfl
theorem Zpr {o : Obj} (h : o.id.length = 32) : evp (.ld (some 32) 1) [ov o] = some (bl o.id) := by
 show Zaf (some 32) (ov o).cells 1 = _
 simp only [Zaf]
 rw [if_pos (by rw [Zma h]; omega)]
 show some (V.agg ((o.id.map byteV ++ [V.str o.data]).take 32)) = _
 rw [Xbv (by simp [h]), Xao (by simp [h])]
theorem Zx5 {o : Obj} (h : o.id.length = 32) : evp (.ld none 33) [ov o] = some (.str o.data) := by
 show (ov o).cells[33]? = _
 show (V.str o.kind :: (o.id.map byteV ++ [V.str o.data]))[33]? = _
 rw [Xd1, Xat (by simp [h])]
 simp [h]
theorem Zx3 {k id d : Bytes} (h : id.length = 32) : evp (.cat [none, some 32, none]) [.str k, bl id, .str d] = some (ov ⟨k, id, d⟩) := by
 show (catV [none, some 32, none] [.str k, bl id, .str d]).map V.agg = _
 simp only [catV]
 rw [if_pos (show (V.str k).sc = true from rfl), if_pos (Z0c h), if_pos (show (V.str d).sc = true from rfl)]
 simp only [Xar]; rfl
theorem Zyd {o : Obj} (h : o.id.length = 32) : evp (.bsl 34) [ov o] = some (objV [o]) := by
 have : fits 34 [ov o] = true := by simp [fits, Zma h]; exact Xal.1 (Z37 o)
 show (if fits 34 [ov o] then some (V.sl false 34 [ov o]) else none) = _
 rw [this]; rfl
theorem Zw5 {l : List Obj} {o : Obj} (h : l.length + 1 <= Lim) : evp (.app 34) [objV l, objV [o]] = some (objV (l ++ [o])) := by
 rw [objV, objV, Zk2 (by simpa using h)]; simp
theorem v.rJoin2 (d n : Bytes) (hn : n ≠ []) (hd : d.length <= 1000000) (hl : n.length <= 1000000) : vl e 69 0 [strs [d, n]] = some (.str (if d = [] then n else d ++ 47 :: n)) := by
 have hn' : ¬ n = [] := hn
 have g0 : evp (.elem 1) [strs [d, n], .int .i64 0] = some (.str d) := Zkm (l := [d, n]) (i := 0) (by simp)
 have g1 : evp (.elem 1) [strs [d, n], .int .i64 1] = some (.str n) := Zkm (l := [d, n]) (i := 1) (by simp)
 have j2 : ∀ s : Bytes, vl e 69 10 [.str s, strs [d, n], .int .i64 2, .int .i64 2] = some (.str s) := fun s => by
  rw [w.zq52_10]; rfl
 have k0 : ∀ s : Bytes, s.length <= 1000000 -> evp (.bin .add .no) [.str [], .str s] = some (.str s) := fun s h => Zjt (s := []) (by simp; omega)
 have j1 : ∀ s : Bytes, s.length <= 1000000 -> vl e 69 10 [.str s, strs [d, n], .int .i64 2, .int .i64 1] = some (.str (if s = [] then n else s ++ 47 :: n)) := fun s hsl => by
  have l1 : evp (.bin .lss .no) [.int .i64 1, .int .i64 2] = some (.bool true) := rfl
  have l2 : evp (.bin .add .no) [.int .i64 1, .int .i64 1] = some (.int .i64 2) := rfl
  rw [w.zq52_10]; unfold y.zq52_10
  simp only [pr, l1, l2, g1, Xah]
  by_cases hs : s = []
  ·subst hs
   simp only [yy, Zft, if_neg hn', k0 n hl, j2]
   simp
  ·have a1 : evp (.bin .add .no) [.str s, .str [47]] = some (.str (s ++ [47])) := Zjt (by simp; omega)
   have a2 : evp (.bin .add .no) [.str (s ++ [47]), .str n] = some (.str ((s ++ [47]) ++ n)) := Zjt (by simp; omega)
   simp only [yy, Zft, if_neg hn', if_neg hs, a1, a2, j2]
   simp
 have l1 : evp (.bin .lss .no) [.int .i64 0, .int .i64 2] = some (.bool true) := rfl
 have l2 : evp (.bin .add .no) [.int .i64 0, .int .i64 1] = some (.int .i64 1) := rfl
 have j0 : vl e 69 10 [.str [], strs [d, n], .int .i64 2, .int .i64 0] = some (.str (if d = [] then n else d ++ 47 :: n)) := by
  rw [w.zq52_10]; unfold y.zq52_10
  simp only [pr, l1, l2, g0, Xah]
  simp only [yy, Zft, k0 d hd, j1 d hd]
  by_cases hs : d = [] <;> simp [hs]
 rw [w.zq52]; unfold y.zq52
 exact j0
end Go.Proofs.YtpmgdngjbdkdfaaGreatDoor
namespace Go.Proofs.YtpmgdngjbdkdfaaGreatDoor
open Go.Abs
set_option maxRecDepth 10000
variable {e : Ev}
def pv (n i : Nat) : Nat := n / 2 ^ (64 - 8 * i)
def byn (n i : Nat) : Nat := n / 2 ^ (56 - 8 * i) % 256
theorem Zsc (n : Nat) {i : Nat} (h : i < 8) : pv n i * 256 + byn n i = pv n (i + 1) := by
 have e1 : 64 - 8 * i = (56 - 8 * i) + 8 := by omega
 have e2 : 64 - 8 * (i + 1) = 56 - 8 * i := by omega
 unfold pv byn
 rw [e1, e2, Nat.pow_add, <- Xee]
 have := Xfe (n / 2 ^ (56 - 8 * i)) 256
 omega
theorem Z3h (n i : Nat) : pv n i <= n := Xev _ _
theorem pv0 {n : Nat} (h : n < 18446744073709551616) : pv n 0 = 0 := Nat.div_eq_of_lt h
theorem pv8 (n : Nat) : pv n 8 = n := by simp [pv]
theorem Ztz (n : Nat) (r : Bytes) {i : Nat} (h : i < 8) : (numB n ++ r)[i]? = some (UInt8.ofNat (n / 2 ^ (56 - 8 * i))) := by
 have hl : i < (numB n).length := by rw [Za4]; exact h
 rw [Xaw hl, Xad hl, Zp6]
theorem Zj0 (n i : Nat) : (UInt8.ofNat (n / 2 ^ (56 - 8 * i))).toNat = byn n i := by simp [byn]
theorem Zxp (n i : Nat) : byn n i < 256 := Nat.mod_lt _ (by decide)
theorem Z7a {a : Nat} (h : a < 1152921504606846) : evp (.bin .shl .no) [.int .u64 (a : Int), .int .u64 8] = some (.int .u64 ((a * 256 : Nat) : Int)) := by
 show (if (8 : Int) < 0 then none else some (V.int .u64 (IntKind.u64.wrap ((a : Int) * 2 ^ (min (8 : Int).toNat IntKind.u64.bits))))) = _
 rw [if_neg (by decide), Zdi]
 have : (2 : Int) ^ (min (8 : Int).toNat IntKind.u64.bits) = 256 := rfl
 rw [this]
 congr 2
 omega
theorem or64 {a b : Nat} (ha : a < 1152921504606846) (hb : b < 256) : evp (.bin .or .no) [.int .u64 ((a * 256 : Nat) : Int), .int .u64 (b : Int)] = some (.int .u64 ((a * 256 + b : Nat) : Int)) := by
 show some (V.int .u64 (IntKind.u64.wrap ((BitVec.ofInt 64 ((a * 256 : Nat) : Int) ||| BitVec.ofInt 64 (b : Int)).toNat : Int))) = _
 have hor : (a * 256 ||| b) = a * 256 + b := by
  have := Xen (show b < 2 ^ 8 by omega) a
  rw [Xc4] at this
  exact this.symm
 rw [BitVec.ofInt_natCast, BitVec.ofInt_natCast, BitVec.toNat_or, BitVec.toNat_ofNat, BitVec.toNat_ofNat, Xdv (by omega), Xdv (by omega), hor, Zdi]
 congr 2
 omega
theorem b64 (c : UInt8) : evp (.i2i .u64) [byteV c] = some (.int .u64 (c.toNat : Int)) := by
 show some (V.int .u64 (IntKind.u64.wrap (c.toNat : Int))) = _
 have := c.toNat_lt
 rw [Zdi, Xcv (by omega) (by omega)]
theorem bi64 (c : UInt8) : evp (.i2i .i64) [byteV c] = some (.int .i64 (c.toNat : Int)) := by
 show some (V.int .i64 (IntKind.i64.wrap (c.toNat : Int))) = _
 have := c.toNat_lt
 rw [w64 _ (by omega)]
theorem v.readNum18 (n : Nat) (hn : n <= 1000000000) (r : Bytes) : ∀ (m i : Nat), i + m = 8 -> vl e 117 18 [.str (numB n ++ r), .int .u64 (pv n i : Nat), I i] = some (.tup [I n, .bool true]) := by
 intro m
 induction m with
 | zero =>
  intro i hi
  have : i = 8 := by omega
  subst this
  have e1 : evp (.i2i .i64) [.int .u64 ((pv n 8 : Nat) : Int)] = some (I n) := by
   rw [pv8]
   show some (V.int .i64 (IntKind.i64.wrap (n : Int))) = _
   rw [w64 _ (by omega)]
  rw [w.zq4_18]; unfold y.zq4_18
  simp only [yy, if_neg (show ¬(((8 : Nat) : Int) < 8) by omega), e1]
 | succ m ih =>
  intro i hi
  have hpl := Z3h n i
  have := ih (i + 1) (by omega)
  rw [<- Zsc n (show i < 8 by omega), <- Zj0] at this
  rw [w.zq4_18]; unfold y.zq4_18
  simp only [yy, if_pos (show (i : Int) < 8 by omega), Z7a (a := pv n i) (by omega), Ziv (Ztz n r (show i < 8 by omega)), b64, or64 (a := pv n i) (by omega) (show (UInt8.ofNat (n / 2 ^ (56 - 8 * i))).toNat < 256 by rw [Zj0]; exact Zxp n i), Zas (show i < 8 by omega) (by omega)]
  exact this
theorem v.readNum (n : Nat) (hn : n <= 1000000000) (r : Bytes) : vl e 117 0 [.str (numB n ++ r)] = some (.tup [I n, .bool true]) := by
 have := v.readNum18 (e := e) n hn r 8 0 rfl
 rw [pv0 (by omega)] at this
 rw [w.zq4]; unfold y.zq4
 simp only [yy, if_neg (show ¬(((numB n ++ r).length : Nat) : Int) < 8 by rw [Xaq, Za4]; omega)]
 exact this
theorem v.number18 (n : Nat) (hn : n <= 1000000000) (r : Bytes) : ∀ (m i : Nat), i + m = 8 -> vl e 106 18 [.str (numB n ++ r), I (pv n i : Nat), I i] = some (.tup [I n, .bool true]) := by
 intro m
 induction m with
 | zero =>
  intro i hi
  have : i = 8 := by omega
  subst this
  rw [pv8, w.zq44_18]; unfold y.zq44_18
  simp only [yy, if_neg (show ¬(((8 : Nat) : Int) < 8) by omega), show decide ((n : Int) <= 1099511627776) = true from decide_eq_true (by omega)]
 | succ m ih =>
  intro i hi
  have hpl := Z3h n i
  have := ih (i + 1) (by omega)
  rw [<- Zsc n (show i < 8 by omega), <- Zj0] at this
  have hlt := Zxp n i
  rw [<- Zj0] at hlt
  have e1 : IntKind.i64.wrap (256 * ((pv n i : Nat) : Int)) = ((pv n i * 256 : Nat) : Int) := by rw [w64 _ (by omega)]; omega
  have e2 : IntKind.i64.wrap (((pv n i * 256 : Nat) : Int) + ((UInt8.ofNat (n / 2 ^ (56 - 8 * i))).toNat : Int)) = ((pv n i * 256 + (UInt8.ofNat (n / 2 ^ (56 - 8 * i))).toNat : Nat) : Int) := by rw [w64 _ (by omega)]; omega
  rw [w.zq44_18]; unfold y.zq44_18
  simp only [yy, if_pos (show (i : Int) < 8 by omega), if_neg (show ¬(1099511627776 : Int) < ((pv n i : Nat) : Int) by omega), Zk8, e1, Ziv (Ztz n r (show i < 8 by omega)), bi64, e2, Zas (show i < 8 by omega) (by omega)]
  exact this
theorem v.number (n : Nat) (hn : n <= 1000000000) (r : Bytes) : vl e 106 0 [.str (numB n ++ r)] = some (.tup [I n, .bool true]) := by
 have := v.number18 (e := e) n hn r 8 0 rfl
 rw [pv0 (by omega)] at this
 rw [w.zq44]; unfold y.zq44
 simp only [yy, if_neg (show ¬(((numB n ++ r).length : Nat) : Int) < 8 by rw [Xaq, Za4]; omega)]
 exact this
theorem Z09 (x r : Bytes) : (((numB x.length ++ x ++ r).take (8 + x.length)).drop 8) = x /\ (numB x.length ++ x ++ r).drop (8 + x.length) = r := by
 have hl : (numB x.length ++ x).length = 8 + x.length := by rw [Xaq, Za4]
 constructor
 ·rw [Xbv (by omega), Xao (by omega), Xbf (by rw [Za4]; omega), Xef (by rw [Za4]; omega)]; rfl
 ·rw [<- hl, Xct]
theorem v.split30 (l : List Bytes) (hl : sumL l <= 1000000) : ∀ (r out : List Bytes), out ++ r = l -> vl e 104 30 [strs out, .str (Zaw r), I l.length, I out.length] = some (.tup [strs l, I 0]) := by
 intro r
 induction r with
 | nil =>
  intro out ho
  rw [Xau] at ho
  subst ho
  have hp : Zaw [] = [] := rfl
  rw [hp, w.zq5_30]; unfold y.zq5_30
  simp only [yy, if_neg (show ¬((out.length : Int) < (out.length : Int)) by omega)]
  simp
 | cons x r ih =>
  intro out ho
  have hll := Zch l
  have hx := Ze7 (show x ∈ l by rw [<- ho]; simp)
  have hol : out.length < l.length := by rw [<- ho]; simp
  have hlen : (Zaw (x :: r)).length = sumL (x :: r) := Ze9 _
  rw [Zbc] at hlen
  have hsl : sumL l = sumL out + (8 + x.length + sumL r) := by rw [<- ho, Zh4, Zbc]
  have := ih (out ++ [x]) (by rw [<- ho]; simp)
  rw [Xaq, Xcm] at this
  obtain ⟨c1, c2⟩ := Z09 x (Zaw r)
  have hN := v.readNum (e := e) x.length (by omega) (x ++ Zaw r)
  rw [<- Xai, <- Za7] at hN
  rw [<- Za7] at c1 c2
  have e1 : IntKind.i64.wrap ((((Zaw (x :: r)).length : Nat) : Int) - 8) = (((Zaw (x :: r)).length - 8 : Nat) : Int) := by rw [w64 _ (by omega)]; omega
  have e2 : IntKind.i64.wrap (8 + (x.length : Int)) = ((8 + x.length : Nat) : Int) := by rw [w64 _ (by omega)]; omega
  have s1 : evp (.sls true true) [.str (Zaw (x :: r)), .int .i64 8, I (8 + x.length : Nat)] = some (.str x) := by
   have := Zp0 (s := Zaw (x :: r)) (l := 8) (h := 8 + x.length) (by omega) (by omega)
   rw [c1] at this; exact this
  have s2 : evp (.sls true false) [.str (Zaw (x :: r)), I (8 + x.length : Nat)] = some (.str (Zaw r)) := by
   rw [Zk9 (by omega), c2]
  rw [w.zq5_30]; unfold y.zq5_30
  simp only [yy, if_pos (show (out.length : Int) < (l.length : Int) by omega), hN, if_neg (show ¬((x.length : Int) < 0) by omega), e1, if_neg (show ¬(((Zaw (x :: r)).length - 8 : Nat) : Int) < (x.length : Int) by omega), e2, s1, Zge, Zi4 (show out.length + 1 <= Lim by unfold Lim; omega), s2, Zas hol (by omega)]
  exact this
theorem v.codeSplit (l : List Bytes) (hl : sumL l <= 1000000) : vl e 104 0 [.str (Zbh l)] = some (.tup [strs l, I 0]) := by
 have hll := Zch l
 have hlen := Zcf l
 have hN := v.readNum (e := e) l.length (by omega) (Zaw l)
 rw [<- show Zbh l = numB l.length ++ Zaw l from rfl] at hN
 have s2 : evp (.sls true false) [.str (Zbh l), .int .i64 8] = some (.str (Zaw l)) := by
  have := Zk9 (s := Zbh l) (l := 8) (by omega)
  rw [show (Zbh l).drop 8 = Zaw l by unfold Zbh; rw [Xbf (by rw [Za4]; omega), Xef (by rw [Za4]; omega)]; rfl] at this
  exact this
 have hmx : evp (.mnx false) [I l.length, .int .i64 4096] = some (I (min l.length 4096 : Nat)) := by
  show vMnx false (I l.length) (.int .i64 4096) = _
  simp only [vMnx]
  by_cases h : l.length <= 4096
  ·rw [Nat.min_eq_left h]; simp; omega
  ·rw [Nat.min_eq_right (by omega)]; simp; omega
 have hmk : evp (.mks 1) [.int .i64 0, I (min l.length 4096 : Nat)] = some (strs []) := by
  show (vMks 1 (.int .i64 0) (I (min l.length 4096 : Nat))).map Res.v = _
  simp only [vMks]
  rw [if_pos ⟨trivial, by omega, by unfold Lim; omega⟩]; rfl
 have h17 : vl e 104 17 [.str (Zbh l), I l.length, .bool false] = some (.tup [strs l, I 0]) := by
  rw [w.zq5_17]; unfold y.zq5_17
  simp only [yy, hmx, hmk, s2]
  exact v.split30 l hl l [] rfl
 have q : evp (.bin .quo .no) [I (Zbh l).length, .int .i64 8] = some (I ((Zbh l).length / 8 : Nat)) := Zv0 (k := 8) (by decide) (by omega)
 rw [w.zq5]; unfold y.zq5
 simp only [yy, if_neg (show ¬(1048576 : Int) < ((Zbh l).length : Int) by omega), hN, if_neg (show ¬((l.length : Int) < 0) by omega), q, show decide ((((Zbh l).length / 8 : Nat) : Int) < (l.length : Int)) = false from decide_eq_false (by omega)]
 exact h17
theorem v.rSplit20 (l : List Bytes) (hl : sumL l <= 1000000) : ∀ (r out : List Bytes), out ++ r = l -> vl e 88 20 [.str (Zaw r), I r.length, strs out] = some (.tup [strs l, .bool true]) := by
 intro r
 induction r with
 | nil =>
  intro out ho
  rw [Xau] at ho
  subst ho
  have hp : Zaw [] = [] := rfl
  rw [hp, w.zq43_20]; unfold y.zq43_20
  simp only [yy, Xbb, if_neg (show ¬(0 : Int) < ((0 : Nat) : Int) by omega)]
  simp
 | cons x r ih =>
  intro out ho
  have hll := Zch l
  have hx := Ze7 (show x ∈ l by rw [<- ho]; simp)
  have hol : out.length + (r.length + 1) = l.length := by rw [<- ho]; simp
  have hlen : (Zaw (x :: r)).length = sumL (x :: r) := Ze9 _
  rw [Zbc] at hlen
  have hsl : sumL l = sumL out + (8 + x.length + sumL r) := by rw [<- ho, Zh4, Zbc]
  have := ih (out ++ [x]) (by rw [<- ho]; simp)
  obtain ⟨c1, c2⟩ := Z09 x (Zaw r)
  have hN := v.number (e := e) x.length (by omega) (x ++ Zaw r)
  rw [<- Xai, <- Za7] at hN
  rw [<- Za7] at c1 c2
  have e1 : IntKind.i64.wrap ((((Zaw (x :: r)).length : Nat) : Int) - 8) = (((Zaw (x :: r)).length - 8 : Nat) : Int) := by rw [w64 _ (by omega)]; omega
  have e2 : IntKind.i64.wrap (8 + (x.length : Int)) = ((8 + x.length : Nat) : Int) := by rw [w64 _ (by omega)]; omega
  have s1 : evp (.sls true true) [.str (Zaw (x :: r)), .int .i64 8, I (8 + x.length : Nat)] = some (.str x) := by
   have := Zp0 (s := Zaw (x :: r)) (l := 8) (h := 8 + x.length) (by omega) (by omega)
   rw [c1] at this; exact this
  have s2 : evp (.sls true false) [.str (Zaw (x :: r)), I (8 + x.length : Nat)] = some (.str (Zaw r)) := by
   rw [Zk9 (by omega), c2]
  have e3 : IntKind.i64.wrap (((r.length + 1 : Nat) : Int) - 1) = (r.length : Int) := Zs9 (a := r.length + 1) (by omega) (by omega)
  rw [w.zq43_20]; unfold y.zq43_20
  simp only [yy, Xa1, if_pos (show (0 : Int) < ((r.length + 1 : Nat) : Int) by omega), hN, e1, if_neg (show ¬(((Zaw (x :: r)).length - 8 : Nat) : Int) < (x.length : Int) by omega), e2, s1, Zge, Zi4 (show out.length + 1 <= Lim by unfold Lim; omega), s2, e3]
  exact this
theorem v.rSplitC (l : List Bytes) (hl : sumL l <= 1000000) : vl e 88 0 [.str (Zbh l)] = some (.tup [strs l, .bool true]) := by
 have hll := Zch l
 have hlen := Zcf l
 have hN := v.number (e := e) l.length (by omega) (Zaw l)
 have s2 : evp (.sls true false) [.str (Zbh l), .int .i64 8] = some (.str (Zaw l)) := by
  have := Zk9 (s := Zbh l) (l := 8) (by omega)
  rw [show (Zbh l).drop 8 = Zaw l by unfold Zbh; rw [Xbf (by rw [Za4]; omega), Xef (by rw [Za4]; omega)]; rfl] at this
  exact this
 rw [<- show Zbh l = numB l.length ++ Zaw l from rfl] at hN
 rw [w.zq43]; unfold y.zq43
 simp only [yy, hN, s2]
 exact v.rSplit20 l hl l [] rfl
end Go.Proofs.YtpmgdngjbdkdfaaGreatDoor
namespace Go.Proofs.YtpmgdngjbdkdfaaGreatDoor
open Go.Abs
set_option maxRecDepth 10000
variable {e : Ev}
theorem v.New : vl e 10192 1 [] = some (.tup [mv [], mv [], mv []]) := by
 rw [w.zq81_h0]; rfl
theorem v.Size (M1 M2 M3 : MB) (h : M1.length + M2.length + M3.length <= 1000000000) : vl e 10448 1 [mv M1, mv M2, mv M3] = some (.tup [I (M1.length + M2.length + M3.length : Nat), mv M1, mv M2, mv M3]) := by
 rw [w.zq35_h0]; unfold y.zq35_h0
 simp only [yy, Z7c, Zr6 (show M1.length + M2.length <= _ by omega), Zr6 (show M1.length + M2.length + M3.length <= _ by omega)]
theorem Zei (x : Bytes) : evp .scs [bl x] = some (bl x) := if_pos (Zo8 x)
theorem Zgp {x : Bytes} (h : x.length = 32) : evp (.ld (some 32) 0) [bl x] = some (bl x) := by
 show Zaf (some 32) (bl x).cells 0 = _
 have : (bl x).cells.length = 32 := by simp [V.cells, h]
 simp only [Zaf]
 rw [if_pos (by omega), Xa7, Xao (by omega)]; rfl
theorem Z71 : Zah [] = [0, 0, 0, 0, 0, 0, 0, 0] := by decide
theorem v.Read0 : ∀ (n i : Nat), i + n = 8 -> vl e 117 18 [.str [0, 0, 0, 0, 0, 0, 0, 0], .int .u64 0, I i] = some (.tup [I 0, .bool true]) := by
 intro n
 induction n with
 | zero =>
  intro i hi
  rw [w.zq4_18]; unfold y.zq4_18
  simp only [yy, if_neg (show ¬((i : Int) < 8) by omega)]
  rfl
 | succ n ih =>
  intro i hi
  have hx : ([0, 0, 0, 0, 0, 0, 0, 0] : Bytes)[i]? = some 0 := by
   have : i = 0 \/ i = 1 \/ i = 2 \/ i = 3 \/ i = 4 \/ i = 5 \/ i = 6 \/ i = 7 := by omega
   rcases this with rfl | rfl | rfl | rfl | rfl | rfl | rfl | rfl <;> rfl
  have h1 : evp (.bin .shl .no) [.int .u64 0, .int .u64 8] = some (.int .u64 0) := rfl
  have h2 : evp (.i2i .u64) [byteV 0] = some (.int .u64 0) := rfl
  have h3 : evp (.bin .or .no) [.int .u64 0, .int .u64 0] = some (.int .u64 0) := rfl
  rw [w.zq4_18]; unfold y.zq4_18
  simp only [yy, if_pos (show (i : Int) < 8 by omega), h1, Ziv hx, h2, h3, Zas (show i < 8 by omega) (by omega)]
  exact ih (i + 1) (by omega)
theorem v.Get0 (he : EnvT e) : vl e 87 0 [.str (Zah [])] = some (.tup [entV [], I 0]) := by
 rw [Z71]
 have hr : vl e 117 0 [.str [0, 0, 0, 0, 0, 0, 0, 0]] = some (.tup [I 0, .bool true]) := by
  rw [w.zq4]; unfold y.zq4
  simp only [yy, Xa1, Xbb]
  exact v.Read0 8 0 rfl
 have hs : vl e 104 0 [.str [0, 0, 0, 0, 0, 0, 0, 0]] = some (.tup [strs [], I 0]) := by
  rw [w.zq5]; unfold y.zq5
  have q0 : evp (.len true) [.str [0, 0, 0, 0, 0, 0, 0, 0]] = some (.int .i64 8) := rfl
  have q1 : evp (.bin .quo .no) [.int .i64 8, .int .i64 8] = some (.int .i64 1) := rfl
  have q3 : evp (.mnx false) [I 0, .int .i64 4096] = some (I 0) := rfl
  have q4 : evp (.mks 1) [.int .i64 0, I 0] = some (strs []) := rfl
  have q5 : evp (.sls true false) [.str [0, 0, 0, 0, 0, 0, 0, 0], .int .i64 8] = some (.str []) := rfl
  have h17 : vl e 104 17 [.str [0, 0, 0, 0, 0, 0, 0, 0], I 0, .bool false] = some (.tup [strs [], I 0]) := by
   rw [w.zq5_17]; unfold y.zq5_17
   simp only [vif, pr, q3, q4, q5, Xah]
   rw [w.zq5_30]; rfl
  simp only [pr, ca, q0, q1, hr, Xah]
  exact h17
 have h9 : vl e 87 9 [strs [], .bool false] = some (.tup [entV [], I 0]) := by
  rw [w.zq11_9]
  show vl e 87 18 [strs [], entV []] = _
  have h42 := v.GoodTree he [] { nm := (fun _ h => by cases h), id := (fun _ h => by cases h), up := .nil, len := by simp }
  rw [w.zq11_18]; unfold y.zq11_18
  simp only [yy, Zd0, Xbb, h42]
  rfl
 rw [w.zq11]; unfold y.zq11
 simp only [pr, ca, hs, Xah]
 exact h9
theorem v.sortE (c : V) : vl e 10544 1 [I 0, c, .agg []] = some (.agg []) := by
 have ins : ∀ x : V, vl e 11137 1 [I 0, .int .i64 0, I 0, c, x] = some x := fun x => by
  rw [w.zq71_h1]
  show vl e 11137 5 [I 0, .int .i64 0, I 0, c, .int .i64 1, x] = _
  rw [w.zq71_h1_5]; rfl
 have s24 : vl e 10849 24 [I 0, I 0, c, .int .i64 20, .agg []] = some (.agg []) := by
  rw [w.zq73_h1_24]; rfl
 have s8 : vl e 10849 8 [I 0, I 0, c, .int .i64 20, .int .i64 0, .int .i64 20, .agg []] = some (.agg []) := by
  rw [w.zq73_h1_8]; unfold y.zq73_h1_8
  have l1 : evp (.bin .leq .no) [.int .i64 20, I 0] = some (.bool false) := rfl
  simp only [pr, ch, l1, ins, Xah]
  exact s24
 have s1 : vl e 10849 1 [I 0, I 0, c, .agg []] = some (.agg []) := by
  rw [w.zq73_h1]; exact s8
 rw [w.zq70_h0]; unfold y.zq70_h0
 simp only [ch, s1, Xah]
theorem v.BuildE (he : EnvT e) : vl e 10208 1 [Zfg [], mv [], mv [], mv []] = some (.tup [bl (Zao treeK (Zah [])), I 0, mv [], mv [(Zao treeK (Zah []), Zah [])], mv []]) := by
 have hok : EnOK [] := { nm := (fun _ h => by cases h), id := (fun _ h => by cases h), up := .nil, len := by simp }
 have hpt := v.PutTree he [] hok (mv []) (mv []) [] (fun _ h => by cases h)
 have b8 : ∀ z : V, vl e 10624 8 [.str [], .int .i64 0, I 0, entV [], .agg [], mv [], mv [], mv [], z] = some (.tup [bl (Zao treeK (Zah [])), I 0, .agg [], mv [], mv [(Zao treeK (Zah []), Zah [])], mv []]) := fun z => by
  have l1 : evp .vlen [.int .i64 0, I 0] = some (I 0) := rfl
  have l2 : evp (.bin .gtr .no) [I 0, .int .i64 0] = some (.bool false) := rfl
  rw [w.zq37_h0_8]; unfold y.zq37_h0_8
  simp only [pr, ch, l1, l2, Xah]
  simp only [yy, hpt, Zbn (Zay _ _)]
  rfl
 have b1 : vl e 10624 1 [.str [], .int .i64 0, I 0, .agg [], mv [], mv [], mv []] = some (.tup [bl (Zao treeK (Zah [])), I 0, .agg [], mv [], mv [(Zao treeK (Zah []), Zah [])], mv []]) := by
  rw [w.zq37_h0]; exact b8 _
 have h65 : ∀ z : V, vl e 10208 65 [I 0, I 0, I 0, .int .i64 0, mv [], mv [], mv [], z, .agg []] = some (.tup [bl (Zao treeK (Zah [])), I 0, mv [], mv [(Zao treeK (Zah []), Zah [])], mv []]) := fun z => by
  have l2 : evp (.bin .lss .no) [.int .i64 0, I 0] = some (.bool false) := rfl
  rw [w.zq30_h0_65]; unfold y.zq30_h0_65
  simp only [pr, ch, l2, b1, Xah]
  simp only [yy, Zbn (Zay _ _)]
 have h28 : ∀ z : V, vl e 10208 28 [I 0, I 0, I 0, .int .i64 0, mv [], mv [], mv [], z, .agg []] = some (.tup [bl (Zao treeK (Zah [])), I 0, mv [], mv [(Zao treeK (Zah []), Zah [])], mv []]) := fun z => by
  have l2 : evp (.bin .lss .no) [.int .i64 0, I 0] = some (.bool false) := rfl
  rw [w.zq30_h0_28]; unfold y.zq30_h0_28
  simp only [pr, l2, Xah]
  exact h65 z
 have hcl : vl e 10528 1 [Zfg []] = some (.tup [I 0, .agg []]) := v.CloneF [] (by simp)
 rw [w.zq30_h0]; unfold y.zq30_h0
 simp only [yy, Z36, hcl, v.sortE]
 exact h28 _
theorem v.alive08 (he : EnvT e) : vl e 7 0 [] = some (.bool true) := by
 have t1 : (Zao treeK (Zah [])).length = 32 := Zay _ _
 have t3 : keyL [(Zao treeK (Zah []), Zah [])] := fun p hp => by rw [Xa9.1 hp]; exact t1
 have x1 := v.BuildE he
 have x2 := v.PutTree he [] { nm := (fun _ h => by cases h), id := (fun _ h => by cases h), up := .nil, len := by simp } (mv []) (mv []) [(Zao treeK (Zah []), Zah [])] t3
 have e3 : putM [(Zao treeK (Zah []), Zah [])] (Zao treeK (Zah [])) (Zah []) = [(Zao treeK (Zah []), Zah [])] := by simp [putM]
 rw [e3] at x2
 have hg := Z4e (M := [(Zao treeK (Zah []), Zah [])]) (k := Zao treeK (Zah [])) t3 t1
 have e4 : getM [(Zao treeK (Zah []), Zah [])] (Zao treeK (Zah [])) = some (Zah []) := by simp [getM]
 rw [e4] at hg
 simp only [Xbz, Xd2] at hg
 have ht : vl e 11056 1 [bl (Zao treeK (Zah [])), mv [], mv [(Zao treeK (Zah []), Zah [])], mv []] = some (.tup [entV [], I 0, mv [], mv [(Zao treeK (Zah []), Zah [])], mv []]) := by
  rw [w.zq36_h0]; unfold y.zq36_h0
  simp only [yy, Zei, Zgp t1, hg, v.Get0 he]
 have hd : vl e 10704 1 [.str [], bl (Zao treeK (Zah [])), I 1, .sl false 33 [], I 4096, mv [], mv [(Zao treeK (Zah []), Zah [])], mv []] = some (.tup [I 0, .sl false 33 [], I 4096, mv [], mv [(Zao treeK (Zah []), Zah [])], mv []]) := by
  rw [w.zq38_h0]; unfold y.zq38_h0
  simp only [yy, Zei, Zgp t1, if_neg (show ¬(16 : Int) < 1 by omega), ht, Zg0]
  rw [w.zq38_h0_26]; unfold y.zq38_h0_26
  simp only [yy, Xbb]
  rfl
 have hf : vl e 10288 1 [bl (Zao treeK (Zah [])), mv [], mv [(Zao treeK (Zah []), Zah [])], mv []] = some (.tup [.sl false 33 [], I 0, mv [], mv [(Zao treeK (Zah []), Zah [])], mv []]) := by
  rw [w.zq32_h0]; unfold y.zq32_h0
  simp only [yy, Zei, Zgp t1, hd]
  rfl
 have hz := v.Size (e := e) [] [(Zao treeK (Zah []), Zah [])] [] (by simp)
 have n0 : V.sl false 2 [] = Zfg [] := rfl
 have n1 : V.sl false 34 [] = entV [] := rfl
 rw [w.zq40]; unfold y.zq40
 rw [n0, n1]
 simp only [yy, v.New, x1, Zbn t1, x2, hf, Zs8 t1 t1]
 simp only [if_true, Xbb, Int.natCast_zero, Int.cast_ofNat_Int]
 rw [hz]
 rfl
end Go.Proofs.YtpmgdngjbdkdfaaGreatDoor
namespace Go.Proofs.YtpmgdngjbdkdfaaGreatDoor
open Go.Abs
set_option maxRecDepth 10000
variable {e : Ev}
theorem v.oid (id : Bytes) (h : id.length = 32) : vl e 105 0 [.str id] = some (.tup [bl id, .bool true]) := by
 have hw : ∀ l : Bytes, (encB l).flatMap V.cells = l.map byteV := by
  intro l
  induction l with
  | nil => rfl
  | cons a r ih =>
   show (byteV a).cells ++ (encB r).flatMap V.cells = _
   rw [ih]; rfl
 have hf : fits 1 (encB id) = true := by
  unfold fits encB
  rw [Xal]; intro c hc
  obtain ⟨x, _, rfl⟩ := Xa3.1 hc
  rfl
 have hne : encB id ≠ [] := fun hn => by
  rw [encB, Xeu] at hn
  rw [hn] at h; cases h
 have h1 : evp (.s2a 32) [.sl false 1 (encB id)] = some (bl id) := by
  show Zwt 32 (.sl false 1 (encB id)) = _
  simp only [Zwt]
  rw [if_pos ⟨Nat.le_of_eq (by rw [Zm4, h]), hne, hf⟩, hw]
 have h2 := Zgp h
 rw [w.zq15]; unfold y.zq15
 simp only [yy, h, Z5p, h1, h2, Zbn h]
 rfl
theorem v.rDigest10 (id : Bytes) (h : id.length = 32) (z : V) : ∀ (m i : Nat), i + m = 32 -> vl e 89 10 [.str id, I i, z, bl (id.take i ++ (List.replicate 32 0).drop i)] = some (bl id) := by
 intro m
 induction m with
 | zero =>
  intro i hi
  rw [Xao (by omega), Xav (by simp; omega), Xau]
  rw [w.zq59_10]; unfold y.zq59_10
  simp only [yy, if_neg (show ¬((i : Int) < 32) by omega), Zbn h]
 | succ m ih =>
  intro i hi
  have hlt : i < id.length := by omega
  have hset : (id.take i ++ (List.replicate 32 0).drop i).set i id[i] = id.take (i + 1) ++ (List.replicate 32 0).drop (i + 1) := fill hlt (by simpa using h)
  have hst := Zhl (k := .i64) (l := id.take i ++ (List.replicate 32 0).drop i) (i := i) (x := id[i]) (by rw [Zgc (by omega) (by simpa using h)]; omega)
  rw [hset] at hst
  rw [w.zq59_10]; unfold y.zq59_10
  simp only [yy, if_pos (show (i : Int) < 32 by omega), Ziv (Xad hlt), Zek (m := 32) (k := .i64) (i := (i : Int)) (by omega) (by omega), hst, Zas (show i < 64 by omega) (by decide)]
  exact ih (i + 1) (by omega)
theorem v.rDigest (id : Bytes) (h : id.length = 32) : vl e 89 0 [.str id] = some (bl id) := by
 rw [w.zq59]; unfold y.zq59
 exact v.rDigest10 id h _ 32 0 rfl
theorem Zw1 {l : List Bytes} {x : En} : evp (.slc 1 true false false) [strs (enP x ++ l), .int .i64 3] = some (strs l) := by
 have := Z2h (sz := 1) (l := (enP x ++ l).map V.str) (i := 3) (by simp [enP])
 rw [<- Xe7] at this
 exact this
theorem v.getTree18 (he : EnvT e) (l : List En) (h : EnOK l) : ∀ (r acc : List En), acc ++ r = l -> vl e 87 18 [strs (Zat r), entV acc] = some (.tup [entV l, I 0]) := by
 have hlen := h.len
 intro r
 induction r with
 | nil =>
  intro acc ha
  rw [Xau] at ha
  subst ha
  have ht : Zat [] = [] := rfl
  rw [ht, w.zq11_18]; unfold y.zq11_18
  simp only [yy, Zd0, Xbb, if_neg (show ¬(0 : Int) < ((0 : Nat) : Int) by omega), v.GoodTree he acc h]
 | cons x r ih =>
  intro acc ha
  have hid := h.id x (by rw [<- ha]; simp)
  have hal : acc.length < l.length := by rw [<- ha]; simp
  have := ih (acc ++ [x]) (by rw [<- ha]; simp)
  have ht : Zat (x :: r) = enP x ++ Zat r := rfl
  have hl3 : (strs (enP x ++ Zat r)) = strs ((if x.tr then treeK else Zb2) :: x.nm :: x.id :: Zat r) := rfl
  have g0 : evp (.elem 1) [strs (enP x ++ Zat r), .int .i64 0] = some (.str (if x.tr then treeK else Zb2)) := Zfu (i := 0) rfl
  have g1 : evp (.elem 1) [strs (enP x ++ Zat r), .int .i64 1] = some (.str x.nm) := Zfu (i := 1) rfl
  have g2 : evp (.elem 1) [strs (enP x ++ Zat r), .int .i64 2] = some (.str x.id) := Zfu (i := 2) rfl
  have hpos : (0 : Int) < ((enP x ++ Zat r).length : Int) := by simp [enP]; omega
  have hap := Zrp (l := acc) (x := x) (by unfold Lim; omega)
  rw [ht, w.zq11_18]; unfold y.zq11_18
  obtain ⟨nm, tr, id⟩ := x
  cases tr with
  | false =>
   have k1 : ¬(¬(Zb2 = [98, 108, 111, 98])) := fun h => h rfl
   have k2 : ¬(Zb2 = [116, 114, 101, 101]) := by decide
   simp only [yy, Zd0, if_pos hpos, g2, Zft, v.oid id hid, Zbn hid, g0, g1, if_neg (show ¬(false = true) by decide), show (Zb2 = [98, 108, 111, 98]) = True from eq_true rfl, if_true, show decide (Zb2 = [116, 114, 101, 101]) = false from rfl, Zlj hid, Zk1 (x := ⟨nm, false, id⟩) hid, hap, Zw1]
   exact this
  | true =>
   simp only [yy, Zd0, if_pos hpos, g2, Zft, v.oid id hid, Zbn hid, g0, g1, if_true, show (treeK = [98, 108, 111, 98]) = False from eq_false (by decide), if_false, show (treeK = [116, 114, 101, 101]) = True from eq_true rfl, decide_true, Zlj hid, Zk1 (x := ⟨nm, true, id⟩) hid, hap, Zw1]
   exact this
theorem v.getTree (he : EnvT e) (l : List En) (h : EnOK l) : vl e 87 0 [.str (Zah l)] = some (.tup [entV l, I 0]) := by
 have hlen := h.len
 have hs := Zcu (fun x hx => (h.nm x hx).2) h.id
 have h9 : vl e 87 9 [strs (Zat l), .bool false] = some (.tup [entV l, I 0]) := by
  rw [w.zq11_9]; unfold y.zq11_9
  exact v.getTree18 he l h l [] rfl
 have hr : evp (.bin .rem .no) [I (Zat l).length, .int .i64 3] = some (I 0) := by
  have := Zqo (n := (Zat l).length) (k := 3) (by decide)
  rw [show (Zat l).length % 3 = 0 by rw [Zbr, Nat.mul_mod_right]] at this
  exact this
 rw [w.zq11]; unfold y.zq11
 simp only [yy, show Zah l = Zbh (Zat l) from rfl, v.codeSplit (Zat l) (by omega), Zd0, hr]
 exact h9
theorem v.rGoodTree8 (l : List En) (h : EnOK l) : ∀ (n i : Nat), i + n = l.length -> vl e 90 8 [entV l, entV l, I l.length, I i] = some (.bool true) := by
 intro n
 have hlen := h.len
 induction n with
 | zero =>
  intro i hi
  rw [w.zq56_8]; unfold y.zq56_8
  simp only [yy, if_neg (show ¬((i : Int) < (l.length : Int)) by omega), Zg0]
  rw [decide_eq_true (show (l.length : Int) <= 512 by omega)]
 | succ n ih =>
  intro i hi
  have hlt : i < l.length := by omega
  have hid := h.id _ (Xba hlt)
  obtain ⟨hp, hpl⟩ := h.nm _ (Xba hlt)
  have hg := v.rGood (e := e) l[i].nm (by omega)
  rw [Zlw hp hpl] at hg
  have hps := v.rParts (e := e) l[i].nm (by omega)
  rw [Zep (Zm6 hp)] at hps
  have := ih (i + 1) (by omega)
  rw [w.zq56_8]; unfold y.zq56_8
  by_cases h0 : 0 < i
  ·have hlt' : i - 1 < l.length := by omega
   have hup : Op.bytesLess l[i - 1].nm l[i].nm = true := Xc9.1 h.up (i - 1) i hlt' hlt (by omega)
   have hge : evp (.bin .geq .no) [.str l[i - 1].nm, .str l[i].nm] = some (.bool false) := by
    show some (V.bool (!Op.bytesLess l[i - 1].nm l[i].nm)) = _
    rw [hup]; rfl
   simp only [yy, if_pos (show (i : Int) < (l.length : Int) by omega), Zet hlt, Zjy hid, Zga hid, Zgb, hg, hps, Zd0, Xcm, show ((1 : Nat) : Int) = 1 from rfl, if_true, if_pos (show (0 : Int) < (i : Int) by omega), Zs9 (show 1 <= i by omega) (by omega), Zet hlt', hge, Zas hlt (by omega)]
   exact this
  ·simp only [yy, if_pos (show (i : Int) < (l.length : Int) by omega), Zet hlt, Zjy hid, Zga hid, Zgb, hg, hps, Zd0, Xcm, show ((1 : Nat) : Int) = 1 from rfl, if_true, if_neg (show ¬(0 : Int) < (i : Int) by omega), Zas hlt (by omega)]
   exact this
theorem v.rGoodTree (l : List En) (h : EnOK l) : vl e 90 0 [entV l] = some (.bool true) := by
 rw [w.zq56]; unfold y.zq56
 simp only [yy, Zg0]
 exact v.rGoodTree8 l h l.length 0 (Xan _)
theorem v.rGetTree20 (l : List En) (h : EnOK l) : ∀ (r acc : List En), acc ++ r = l -> vl e 68 20 [strs (Zat l), entV acc, I (3 * acc.length : Nat)] = some (.tup [entV l, .bool true]) := by
 have hlen := h.len
 have hpl := Zbr l
 intro r
 induction r with
 | nil =>
  intro acc ha
  rw [Xau] at ha
  subst ha
  rw [w.zq55_20]; unfold y.zq55_20
  simp only [yy, Zd0, if_neg (show ¬((3 * acc.length : Nat) : Int) < ((Zat acc).length : Int) by omega), v.rGoodTree acc h]
 | cons x r ih =>
  intro acc ha
  have hid := h.id x (by rw [<- ha]; simp)
  have hal : acc.length < l.length := by rw [<- ha]; simp
  have := ih (acc ++ [x]) (by rw [<- ha]; simp)
  rw [Xaq, Xcm] at this
  have ht : Zat l = Zat acc ++ (enP x ++ Zat r) := by rw [<- ha]; simp [Zat]
  have hta := Zbr acc
  have gk : ∀ k (v : Bytes), (enP x ++ Zat r)[k]? = some v -> evp (.elem 1) [strs (Zat l), I (3 * acc.length + k : Nat)] = some (.str v) := by
   intro k v hv
   refine Zfu ?_
   rw [Xbe, ht, Xat (by omega), show 3 * acc.length + k - (Zat acc).length = k by omega, hv]; rfl
  have g0 : evp (.elem 1) [strs (Zat l), I (3 * acc.length : Nat)] = some (.str (if x.tr then treeK else Zb2)) := gk 0 _ rfl
  have g1 := gk 1 x.nm rfl
  have g2 := gk 2 x.id rfl
  have a1 : IntKind.i64.wrap (((3 * acc.length : Nat) : Int) + 1) = ((3 * acc.length + 1 : Nat) : Int) := Zr6 (b := 1) (by omega)
  have a2 : IntKind.i64.wrap (((3 * acc.length : Nat) : Int) + 2) = ((3 * acc.length + 2 : Nat) : Int) := Zr6 (b := 2) (by omega)
  have a3 : IntKind.i64.wrap (((3 * acc.length : Nat) : Int) + 3) = ((3 * (acc.length + 1) : Nat) : Int) := Zr6 (b := 3) (by omega)
  have hap := Zrp (l := acc) (x := x) (by unfold Lim; omega)
  rw [w.zq55_20]; unfold y.zq55_20
  obtain ⟨nm, tr, id⟩ := x
  have hid' : (id.length : Int) = 32 := by rw [show id.length = 32 from hid]; rfl
  cases tr with
  | false =>
   simp only [yy, Zd0, if_pos (show ((3 * acc.length : Nat) : Int) < ((Zat l).length : Int) by omega), g0, g1, g2, a1, a2, a3, Zft, if_neg (show ¬(false = true) by decide), show (Zb2 = [98, 108, 111, 98]) = True from eq_true rfl, if_true, if_pos hid', show decide (Zb2 = [116, 114, 101, 101]) = false from rfl, v.rDigest id hid, Zlj hid, Zk1 (x := ⟨nm, false, id⟩) hid, hap]
   exact this
  | true =>
   simp only [yy, Zd0, if_pos (show ((3 * acc.length : Nat) : Int) < ((Zat l).length : Int) by omega), g0, g1, g2, a1, a2, a3, Zft, if_true, show (treeK = [98, 108, 111, 98]) = False from eq_false (by decide), if_false, show (treeK = [116, 114, 101, 101]) = True from eq_true rfl, decide_true, if_pos hid', v.rDigest id hid, Zlj hid, Zk1 (x := ⟨nm, true, id⟩) hid, hap]
   exact this
theorem v.rGetTree (l : List En) (h : EnOK l) : vl e 68 0 [.str (Zah l)] = some (.tup [entV l, .bool true]) := by
 have hlen := h.len
 have hs := Zcu (fun x hx => (h.nm x hx).2) h.id
 have h9 : vl e 68 9 [strs (Zat l), .bool false] = some (.tup [entV l, .bool true]) := by
  rw [w.zq55_9]; unfold y.zq55_9
  exact v.rGetTree20 l h l [] rfl
 have hr : evp (.bin .rem .no) [I (Zat l).length, .int .i64 3] = some (I 0) := by
  have := Zqo (n := (Zat l).length) (k := 3) (by decide)
  rw [show (Zat l).length % 3 = 0 by rw [Zbr, Nat.mul_mod_right]] at this
  exact this
 rw [w.zq55]; unfold y.zq55
 simp only [yy, show Zah l = Zbh (Zat l) from rfl, v.rSplitC (Zat l) (by omega), Zd0, hr]
 exact h9
end Go.Proofs.YtpmgdngjbdkdfaaGreatDoor
namespace Go.Proofs.YtpmgdngjbdkdfaaGreatDoor
open Go.Abs
set_option maxRecDepth 10000
variable {e : Ev}
def nmK (k : Nat) : Bytes := [UInt8.ofNat (65 + k)]
def lsC (w : Nat) (tr : Bool) (id : Bytes) : List En := (List.range w).map fun k => ⟨nmK k, tr, id⟩
def idC (w : Nat) : Nat -> Bytes
 | 0 => Zao Zb2 [120]
 | i + 1 => Zao treeK (Zah (lsC w (decide (0 < i)) (idC w i)))
def txC (w i : Nat) : Bytes := Zah (lsC w (decide (0 < i)) (idC w i))
theorem Zvi (w i : Nat) : idC w (i + 1) = Zao treeK (txC w i) := rfl
theorem Zdt (w : Nat) : ∀ i, (idC w i).length = 32
 | 0 => Zay _ _
 | _ + 1 => Zay _ _
theorem Zo7 {k : Nat} (h : k < 40) : (UInt8.ofNat (65 + k)).toNat = 65 + k := by simp; omega
theorem Z0f {k : Nat} (h : k < 40) : Zex (nmK k) = true := by
 have hn := Zo7 h
 have n1 : UInt8.ofNat (65 + k) ≠ 0 := fun e => by rw [e] at hn; simp at hn; omega
 have n2 : UInt8.ofNat (65 + k) ≠ 47 := fun e => by rw [e] at hn; simp at hn; omega
 have n3 : UInt8.ofNat (65 + k) ≠ 46 := fun e => by rw [e] at hn; simp at hn; omega
 unfold nmK
 generalize UInt8.ofNat (65 + k) = c at n1 n2 n3
 simp [Zex, Ne.symm n1, Ne.symm n2, n3]
theorem Zyx {a b : Nat} (h : a < b) (hb : b < 40) : Op.bytesLess (nmK a) (nmK b) = true := by
 have h1 := Zo7 (k := a) (by omega)
 have h2 := Zo7 hb
 have : UInt8.ofNat (65 + a) < UInt8.ofNat (65 + b) := by
  rw [UInt8.lt_iff_toNat_lt, h1, h2]; omega
 unfold nmK
 generalize UInt8.ofNat (65 + a) = c at this
 generalize UInt8.ofNat (65 + b) = d at this
 simp [Op.bytesLess, this]
theorem Zgk (w : Nat) (tr : Bool) (id : Bytes) : (lsC w tr id).length = w := by simp [lsC]
theorem Zn6 {w : Nat} {tr : Bool} {id : Bytes} {k : Nat} (h : k < (lsC w tr id).length) : (lsC w tr id)[k] = ⟨nmK k, tr, id⟩ := by simp [lsC]
theorem Zq9 {w : Nat} (hw : w <= 40) (tr : Bool) {id : Bytes} (hid : id.length = 32) : EnOK (lsC w tr id) where
 nm := fun x hx => by
  obtain ⟨k, hk, rfl⟩ := Xa3.1 hx
  have := Xbg.1 hk
  exact ⟨Z0f (by omega), by simp [nmK]⟩
 id := fun x hx => by
  obtain ⟨k, hk, rfl⟩ := Xa3.1 hx
  exact hid
 up := by
  refine Xc9.2 fun i j hi hj hij => ?_
  rw [Zn6, Zn6]
  rw [Zgk] at hj
  exact Zyx hij (by omega)
 len := by rw [Zgk]; omega
def Dif (w n : Nat) : Prop := ∀ i j, i < j -> j < n -> idC w (i + 1) ≠ idC w (j + 1)
def PO (w n : Nat) (M : MB) : Prop := keyL M /\ (∀ p ∈ M, ∃ i, i < n /\ p = (idC w (i + 1), txC w i)) /\ ∀ i, i < n -> (idC w (i + 1), txC w i) ∈ M
def LO (w n : Nat) (L : List Obj) : Prop := idL L /\ (∀ o ∈ L, o.kind = treeK -> ∃ i, i < n /\ o = ⟨treeK, idC w (i + 1), txC w i⟩) /\ ∀ i, i < n -> (⟨treeK, idC w (i + 1), txC w i⟩ : Obj) ∈ L
theorem Zpm : ∀ {M : MB} {k x : Bytes}, (∀ p ∈ M, k ≠ p.1) -> putM M k x = M ++ [(k, x)]
 | [], _, _, _ => rfl
 | p :: r, k, x, h => by rw [putM, if_neg (h p (by simp)), Zpm fun q hq => h q (by simp [hq])]; rfl
theorem Zsl : ∀ {M : MB} {k x : Bytes}, (k, x) ∈ M -> (∀ p ∈ M, p.1 = k -> p.2 = x) -> getM M k = some x
 | p :: r, k, x, h, hc => by
  rw [getM]
  by_cases hk : k = p.1
  ·rw [if_pos hk, hc p (by simp) hk.symm]
  ·rw [if_neg hk]
   refine Zsl ?_ fun q hq => hc q (by simp [hq])
   rcases Xay.1 h with h | h
   ·exact absurd (by rw [<- h]) hk
   ·exact h
theorem Dif.eq {w n : Nat} (h : Dif w n) {i j : Nat} (hi : i < n) (hj : j < n) (he : idC w (i + 1) = idC w (j + 1)) : i = j := by
 rcases Xbp i j with h1 | h1 | h1
 ·exact absurd he (h i j h1 hj)
 ·exact h1
 ·exact absurd he.symm (h j i h1 hi)
theorem PO.next {w n : Nat} {M : MB} (hd : Dif w (n + 1)) (h : PO w n M) : PO w (n + 1) (putM M (idC w (n + 1)) (txC w n)) := by
 obtain ⟨h1, h2, h3⟩ := h
 have hn : ∀ p ∈ M, idC w (n + 1) ≠ p.1 := fun p hp he => by
  obtain ⟨i, hi, rfl⟩ := h2 p hp
  have := hd.eq (show n < n + 1 by omega) (show i < n + 1 by omega) he
  omega
 rw [Zpm hn]
 refine ⟨fun p hp => (Xa2.1 hp).elim (h1 p) (fun h => by rw [Xa9.1 h]; exact Zdt _ _), fun p hp => (Xa2.1 hp).elim (fun h => ?_) (fun h => ⟨n, by omega, Xa9.1 h⟩), fun i hi => ?_⟩
 ·obtain ⟨i, hi, e⟩ := h2 p h
  exact ⟨i, by omega, e⟩
 ·rcases Xez (Nat.le_of_lt_succ hi) with h | rfl
  ·exact Xbj _ (h3 i h)
  ·exact Xa8 _ (by simp)
theorem PO.get {w n : Nat} {M : MB} (hd : Dif w n) (h : PO w n M) {i : Nat} (hi : i < n) : getM M (idC w (i + 1)) = some (txC w i) :=
 Zsl (h.2.2 i hi) fun p hp he => by
  obtain ⟨j, hj, rfl⟩ := h.2.1 p hp
  rw [hd.eq hj hi he]
theorem v.rPutN12 (kind data : Bytes) (L A : List Obj) (hL : idL L) (hLl : L.length + 1 <= 1000000) (hn : ∀ o ∈ L, o.kind = kind -> o.id = Zao kind data -> False) (z : V) : ∀ (n i : Nat), i + n = L.length ->
  vl e 10240 12 [.str kind, .str data, objV L, I L.length, I i, objV L, objV A, z, bl (Zao kind data)] = some (.tup [bl (Zao kind data), objV (L ++ [⟨kind, Zao kind data, data⟩]), objV A]) := by
 intro n
 induction n with
 | zero =>
  intro i hi
  rw [w.zq27_h0_12]; unfold y.zq27_h0_12
  simp only [yy, if_neg (show ¬((i : Int) < (L.length : Int)) by omega), Zx3 (Zay _ _), Zyd (o := ⟨kind, Zao kind data, data⟩) (Zay _ _), Zw5 (show L.length + 1 <= Lim by unfold Lim; omega), Zbn (Zay _ _)]
 | succ n ih =>
  intro i hi
  have hlt : i < L.length := by omega
  have hid := hL _ (Xba hlt)
  have := ih (i + 1) (by omega)
  rw [w.zq27_h0_12]; unfold y.zq27_h0_12
  by_cases hk : L[i].kind = kind
  ·have he : ¬ L[i].id = Zao kind data := fun he => hn _ (Xba hlt) hk he
   simp only [yy, if_pos (show (i : Int) < (L.length : Int) by omega), Zjm hlt, Zql hid, Zjc hid, Zq2, if_pos hk, Zpr hid, Zs8 hid (Zay _ _), if_neg he, Zas hlt (by omega)]
   exact this
  ·simp only [yy, if_pos (show (i : Int) < (L.length : Int) by omega), Zjm hlt, Zql hid, Zjc hid, Zq2, if_neg hk, Zas hlt (by omega)]
   exact this
theorem v.rPutN (kind data : Bytes) (hk : kind.length <= 100) (hd : data.length <= 100000000) (L A : List Obj) (hL : idL L) (hLl : L.length + 1 <= 1000000) (hA : A.length + 1 <= 1000000) (hn : ∀ o ∈ L, o.kind = kind -> o.id = Zao kind data -> False) :
  vl e 10240 1 [.str kind, .str data, objV L, objV A] = some (.tup [bl (Zao kind data), objV (L ++ [⟨kind, Zao kind data, data⟩]), objV (A ++ [⟨kind, Zao kind data, data⟩])]) := by
 have r3 := v.rPutN12 (e := e) kind data L (A ++ [⟨kind, Zao kind data, data⟩]) hL hLl hn z32 L.length 0 (Xan _)
 rw [w.zq27_h0]; unfold y.zq27_h0
 simp only [yy, v.refSum kind data hk hd, Zbn (Zay _ _), Zx3 (Zay _ _), Zyd (o := ⟨kind, Zao kind data, data⟩) (Zay _ _), Zw5 (show A.length + 1 <= Lim by unfold Lim; omega), Zya]
 exact r3
theorem LO.new {w n : Nat} {L : List Obj} (hd : Dif w (n + 1)) (h : LO w n L) : ∀ o ∈ L, o.kind = treeK -> o.id = Zao treeK (txC w n) -> False := by
 intro o ho hk he
 obtain ⟨i, hi, rfl⟩ := h.2.1 o ho hk
 have := hd.eq (show i < n + 1 by omega) (show n < n + 1 by omega) he
 omega
theorem LO.next {w n : Nat} {L : List Obj} (h : LO w n L) : LO w (n + 1) (L ++ [⟨treeK, Zao treeK (txC w n), txC w n⟩]) := by
 obtain ⟨h1, h2, h3⟩ := h
 refine ⟨fun p hp => (Xa2.1 hp).elim (h1 p) (fun h => by rw [Xa9.1 h]; exact Zay _ _), fun p hp hk => (Xa2.1 hp).elim (fun h => ?_) (fun h => ⟨n, by omega, Xa9.1 h⟩), fun i hi => ?_⟩
 ·obtain ⟨i, hi, e⟩ := h2 p h hk
  exact ⟨i, by omega, e⟩
 ·rcases Xez (Nat.le_of_lt_succ hi) with h | rfl
  ·exact Xbj _ (h3 i h)
  ·exact Xa8 _ (by simp [Zvi])
theorem v.rGet (L : List Obj) (hL : idL L) (hLl : L.length <= 1000000) (kind id data : Bytes) (hid : id.length = 32) (A : V) (hm : (⟨kind, id, data⟩ : Obj) ∈ L) (hc : ∀ o ∈ L, o.kind = kind -> o.id = id -> o.data = data) :
  vl e 11072 1 [.str kind, bl id, objV L, A] = some (.tup [.str data, .bool true, objV L, A]) := by
 obtain ⟨q, hq, hqe⟩ := List.mem_iff_getElem.1 hm
 have key : ∀ (n i : Nat), i + n = q -> vl e 11072 8 [.str kind, objV L, I L.length, I i, objV L, A, bl id] = some (.tup [.str data, .bool true, objV L, A]) := by
  intro n
  induction n with
  | zero =>
   intro i hi
   have : i = q := by omega
   subst this
   have hidq := hL _ (Xba hq)
   rw [w.zq26_h0_8]; unfold y.zq26_h0_8
   have k1 : L[i].kind = kind := by rw [hqe]
   have k2 : L[i].id = id := by rw [hqe]
   have k3 : L[i].data = data := by rw [hqe]
   simp only [yy, if_pos (show (i : Int) < (L.length : Int) by omega), Zjm hq, Zql hidq, Zjc hidq, Zq2, if_pos k1, Zpr hidq, Zgp hid, Zs8 hidq hid, if_pos k2, Zx5 hidq]
   rw [k3]
  | succ n ih =>
   intro i hi
   have hlt : i < L.length := by omega
   have hidi := hL _ (Xba hlt)
   have := ih (i + 1) (by omega)
   rw [w.zq26_h0_8]; unfold y.zq26_h0_8
   by_cases hk : L[i].kind = kind
   ·by_cases he : L[i].id = id
    ·have k3 := hc _ (Xba hlt) hk he
     simp only [yy, if_pos (show (i : Int) < (L.length : Int) by omega), Zjm hlt, Zql hidi, Zjc hidi, Zq2, if_pos hk, Zpr hidi, Zgp hid, Zs8 hidi hid, if_pos he, Zx5 hidi]
     rw [k3]
    ·simp only [yy, if_pos (show (i : Int) < (L.length : Int) by omega), Zjm hlt, Zql hidi, Zjc hidi, Zq2, if_pos hk, Zpr hidi, Zgp hid, Zs8 hidi hid, if_neg he, Zas hlt (by omega)]
     exact this
   ·simp only [yy, if_pos (show (i : Int) < (L.length : Int) by omega), Zjm hlt, Zql hidi, Zjc hidi, Zq2, if_neg hk, Zas hlt (by omega)]
    exact this
 rw [w.zq26_h0]; unfold y.zq26_h0
 simp only [yy, Zei, Zya]
 exact key q 0 (Xan _)
theorem LO.get {w n : Nat} {L : List Obj} (hd : Dif w n) (h : LO w n L) (hl : L.length <= 1000000) (A : V) {i : Nat} (hi : i < n) :
  vl e 11072 1 [.str treeK, bl (idC w (i + 1)), objV L, A] = some (.tup [.str (txC w i), .bool true, objV L, A]) :=
 v.rGet L h.1 hl treeK _ _ (Zdt _ _) A (h.2.2 i hi) fun o ho hk he => by
  obtain ⟨j, hj, rfl⟩ := h.2.1 o ho hk
  have : j = i := hd.eq hj hi he
  rw [this]
end Go.Proofs.YtpmgdngjbdkdfaaGreatDoor
namespace Go.Proofs.YtpmgdngjbdkdfaaGreatDoor
open Go.Abs
set_option maxRecDepth 10000
variable {e : Ev}
abbrev Inp := Bytes × Bytes
def iv (x : Inp) : V := .agg (.str x.1 :: x.2.map byteV)
abbrev inpV (l : List Inp) : V := .sl false 33 (l.map iv)
theorem Zyc {x : Inp} (h : x.2.length = 32) : evp (.bsl 33) [iv x] = some (inpV [x]) := by
 have hl : (iv x).cells.length = 33 := by simp [iv, V.cells, h]
 have hs : (iv x).cells.all V.sc = true := by
  show (V.str x.1 :: x.2.map byteV).all V.sc = true
  rw [Xcc, Zo8]; rfl
 have : fits 33 [iv x] = true := by simp [fits, hl]; exact Xal.1 hs
 show (if fits 33 [iv x] then some (V.sl false 33 [iv x]) else none) = _
 rw [this]; rfl
theorem Zrd {l m : List Inp} (h : l.length + m.length <= Lim) : evp (.app 33) [inpV l, inpV m] = some (inpV (l ++ m)) := by
 rw [inpV, inpV, Zk2 (by simpa using h), inpV, Xb1]
theorem Z3y {x : En} (h : x.id.length = 32) : evp (.ld (some 32) 2) [ev x] = some (bl x.id) := by
 show Zaf (some 32) (ev x).cells 2 = _
 simp only [Zaf]
 rw [if_pos (by rw [Zji h]; omega)]
 show some (V.agg ((x.id.map byteV).take 32)) = _
 rw [Xao (by simp [h])]
theorem v.TreeC (he : EnvT e) {wd n : Nat} (hw : wd <= 40) (hd : Dif wd n) {M2 : MB} (hM : PO wd n M2) (m1 m3 : V) {i : Nat} (hi : i < n) : vl e 11056 1 [bl (idC wd (i + 1)), m1, mv M2, m3] = some (.tup [entV (lsC wd (decide (0 < i)) (idC wd i)), I 0, m1, mv M2, m3]) := by
 have hid := Zdt wd (i + 1)
 have hg := Z4e (M := M2) (k := idC wd (i + 1)) hM.1 hid
 rw [hM.get hd hi] at hg
 simp only [Xbz, Xd2] at hg
 have ht := v.getTree he _ (Zq9 hw (decide (0 < i)) (Zdt wd i))
 rw [w.zq36_h0]; unfold y.zq36_h0
 simp only [yy, Zei, Zgp hid, hg, txC, ht]
section
variable (wd : Nat) (M2 : MB) (L : List Obj) (m1 m3 A : V)
def Way (i : Nat) (at_ : Bytes) (lvl left : Nat) : Prop := ∃ (er : Int) (outs : List Inp) (lf : Nat), outs.length + lf <= left /\ (∀ x ∈ outs, x.2.length = 32) /\
  (∀ out0 : List Inp, out0.length + left <= 5000 -> ∃ x1 x2, vl e 10704 1 [.str at_, bl (idC wd (i + 1)), I lvl, inpV out0, I left, m1, mv M2, m3] = some (.tup [I er, x1, x2, m1, mv M2, m3]) /\ (er = 0 -> x1 = inpV (out0 ++ outs) /\ x2 = I lf)) /\
  (∃ y1 y2, vl e 10720 1 [.str at_, bl (idC wd (i + 1)), I lvl, I left, objV L, A] = some (.tup [y1, I er, y2, objV L, A]) /\ (er = 0 -> y1 = inpV outs /\ y2 = I lf) /\ (er ≠ 0 -> y1 = inpV []))
theorem Z2k (he : EnvT e) (hw : wd <= 40) (i : Nat) (at_ : Bytes) (lvl : Nat) (hlv : lvl <= 16) (hat : at_.length <= 2 * lvl)
  (hch : 0 < i -> ∀ (at_ : Bytes) (lvl left : Nat), lvl <= 17 -> at_.length <= 2 * lvl -> left <= 4096 -> Way (e := e) wd M2 L m1 m3 A (i - 1) at_ lvl left) : ∀ (m k left : Nat), k + m = wd -> left <= 4096 ->
  ∃ (er : Int) (outs : List Inp) (lf : Nat), outs.length + lf <= left /\ (∀ x ∈ outs, x.2.length = 32) /\
  (∀ out0 : List Inp, out0.length + left <= 5000 -> ∃ x1 x2, vl e 10704 26 [.str at_, I lvl, entV (lsC wd (decide (0 < i)) (idC wd i)), I wd, I k, inpV out0, I left, m1, mv M2, m3] = some (.tup [I er, x1, x2, m1, mv M2, m3]) /\ (er = 0 -> x1 = inpV (out0 ++ outs) /\ x2 = I lf)) /\
  (∀ acc : List Inp, acc.length + left <= 5000 -> ∃ y1 y2, vl e 10720 30 [.str at_, I lvl, I left, inpV acc, entV (lsC wd (decide (0 < i)) (idC wd i)), I wd, I k, objV L, A] = some (.tup [y1, I er, y2, objV L, A]) /\ (er = 0 -> y1 = inpV (acc ++ outs) /\ y2 = I lf) /\ (er ≠ 0 -> y1 = inpV [])) := by
 intro m
 induction m with
 | zero =>
  intro k left hk hl
  have : k = wd := by omega
  subst this
  refine ⟨0, [], left, by simp, (fun x hx => by cases hx), fun out0 ho => ⟨inpV out0, I left, ?_, fun _ => by rw [Xau]; exact ⟨rfl, rfl⟩⟩, fun acc ha => ⟨inpV acc, I left, ?_, fun _ => by rw [Xau]; exact ⟨rfl, rfl⟩, fun h => absurd rfl h⟩⟩
  ·rw [w.zq38_h0_26]; unfold y.zq38_h0_26
   simp only [yy, if_neg (show ¬((k : Int) < (k : Int)) by omega)]
  ·rw [w.zq28_h0_30]; unfold y.zq28_h0_30
   simp only [yy, if_neg (show ¬((k : Int) < (k : Int)) by omega)]
 | succ m ih =>
  intro k left hk hl
  have hcid := Zdt wd i
  have hlt : k < (lsC wd (decide (0 < i)) (idC wd i)).length := by rw [Zgk]; omega
  have hg := Zet hlt
  rw [Zn6 hlt] at hg
  have hkw : (k : Int) < (wd : Int) := by omega
  have hle : ∀ tr, evp (.ld (some 34) 0) [ev ⟨nmK k, tr, idC wd i⟩] = some (ev ⟨nmK k, tr, idC wd i⟩) := fun tr => Zjy (x := ⟨nmK k, tr, idC wd i⟩) hcid
  have hce : ∀ tr, evp (.cat [some 34]) [ev ⟨nmK k, tr, idC wd i⟩] = some (ev ⟨nmK k, tr, idC wd i⟩) := fun tr => Zga (x := ⟨nmK k, tr, idC wd i⟩) hcid
  have hie : ∀ tr, evp (.ld (some 32) 2) [ev ⟨nmK k, tr, idC wd i⟩] = some (bl (idC wd i)) := fun tr => Z3y (x := ⟨nmK k, tr, idC wd i⟩) hcid
  by_cases h0 : left = 0
  ·subst h0
   refine ⟨3, [], 0, by simp, (fun x hx => by cases hx), fun out0 ho => ⟨inpV out0, I (0 : Nat), ?_, fun h => by cases h⟩, fun acc ha => ⟨inpV [], I (0 : Nat), ?_, (fun h => by cases h), fun _ => rfl⟩⟩
   ·rw [w.zq38_h0_26]; unfold y.zq38_h0_26
    simp only [yy, if_pos hkw, hg, hle, hce, if_pos (show ((0 : Nat) : Int) = 0 from rfl)]
   ·rw [w.zq28_h0_30]; unfold y.zq28_h0_30
    simp only [yy, if_pos hkw, hg, hle, hce, if_pos (show ((0 : Nat) : Int) = 0 from rfl)]
    rfl
  have hl0 : ¬((left : Int) = 0) := by omega
  have hp1 : IntKind.i64.wrap ((left : Int) - 1) = ((left - 1 : Nat) : Int) := Zs9 (by omega) (by omega)
  have hnx := Zas (show k < wd by omega) (by omega)
  have hnm : (nmK k).length = 1 := rfl
  have hnn : nmK k ≠ [] := by simp [nmK]
  have j1 := v.Join2 he at_ (nmK k) hnn (by omega) (by omega)
  have j2 := v.rJoin2 (e := e) at_ (nmK k) hnn (by omega) (by omega)
  generalize hp : (if at_ = [] then nmK k else at_ ++ 47 :: nmK k) = p at j1 j2
  have hpl : p.length <= at_.length + 2 := by
   rw [<- hp]; split
   ·simp [nmK]
   ·simp [nmK]
  by_cases hi : 0 < i
  ·-- trees
   have hdi : decide (0 < i) = true := decide_eq_true hi
   rw [hdi] at hg ih ⊢
   obtain ⟨er1, outs1, lf1, c1, c2, c3, c4⟩ := hch hi p (lvl + 1) (left - 1) (by omega) (by omega) (by omega)
   have hii : i - 1 + 1 = i := by omega
   rw [hii] at c3 c4
   have hlv1 : IntKind.i64.wrap ((lvl : Int) + 1) = ((lvl + 1 : Nat) : Int) := Zas (show lvl < 64 by omega) (by decide)
   by_cases he1 : er1 = 0
   ·subst he1
    obtain ⟨er, outs, lf, d1, d2, d3, d4⟩ := ih (k + 1) lf1 (by omega) (by omega)
    refine ⟨er, outs1 ++ outs, lf, by rw [Xaq]; omega, fun x hx => (Xa2.1 hx).elim (c2 x) (d2 x), fun out0 ho => ?_, fun acc ha => ?_⟩
    ·obtain ⟨x1, x2, q1, q2⟩ := c3 out0 (by omega)
     obtain ⟨rfl, rfl⟩ := q2 rfl
     obtain ⟨z1, z2, r1, r2⟩ := d3 (out0 ++ outs1) (by rw [Xaq]; omega)
     refine ⟨z1, z2, ?_, fun h => by rw [<- Xai]; exact r2 h⟩
     rw [w.zq38_h0_26]; unfold y.zq38_h0_26
     simp only [yy, if_pos hkw, hg, hle, hce, if_neg hl0, hp1, Zgb, Zfs, j1, Ziy, hie, hlv1, q1, hnx]
     exact r1
    ·obtain ⟨y1, y2, q1, q2, _⟩ := c4
     obtain ⟨rfl, rfl⟩ := q2 rfl
     obtain ⟨z1, z2, r1, r2, r3⟩ := d4 (acc ++ outs1) (by rw [Xaq]; omega)
     refine ⟨z1, z2, ?_, fun h => by rw [<- Xai]; exact r2 h, r3⟩
     rw [w.zq28_h0_30]; unfold y.zq28_h0_30
     simp only [yy, if_pos hkw, hg, hle, hce, if_neg hl0, hp1, Zgb, Zfs, j2, Ziy, hie, hlv1, q1, Zrd (show acc.length + outs1.length <= Lim by unfold Lim; omega), hnx]
     exact r1
   ·refine ⟨er1, [], 0, by simp, (fun x hx => by cases hx), fun out0 ho => ?_, fun acc ha => ?_⟩
    ·obtain ⟨x1, x2, q1, _⟩ := c3 out0 (by omega)
     refine ⟨x1, x2, ?_, fun h => absurd h he1⟩
     rw [w.zq38_h0_26]; unfold y.zq38_h0_26
     simp only [yy, if_pos hkw, hg, hle, hce, if_neg hl0, hp1, Zgb, Zfs, j1, Ziy, hie, hlv1, q1, if_neg he1]
    ·obtain ⟨y1, y2, q1, _⟩ := c4
     refine ⟨inpV [], y2, ?_, fun h => absurd h he1, fun _ => rfl⟩
     rw [w.zq28_h0_30]; unfold y.zq28_h0_30
     simp only [yy, if_pos hkw, hg, hle, hce, if_neg hl0, hp1, Zgb, Zfs, j2, Ziy, hie, hlv1, q1, if_neg he1]
     rfl
  ·-- blobs
   have hdi : decide (0 < i) = false := decide_eq_false hi
   rw [hdi] at hg ih ⊢
   obtain ⟨er, outs, lf, d1, d2, d3, d4⟩ := ih (k + 1) (left - 1) (by omega) (by omega)
   refine ⟨er, (p, idC wd i) :: outs, lf, by rw [Xa1]; omega, fun x hx => (Xay.1 hx).elim (fun h => by rw [h]; exact hcid) (d2 x), fun out0 ho => ?_, fun acc ha => ?_⟩
   ·obtain ⟨z1, z2, r1, r2⟩ := d3 (out0 ++ [(p, idC wd i)]) (by simp; omega)
    refine ⟨z1, z2, ?_, fun h => by have := r2 h; rw [Xai] at this; exact this⟩
    rw [w.zq38_h0_26]; unfold y.zq38_h0_26
    simp only [yy, if_pos hkw, hg, hle, hce, if_neg hl0, hp1, Zgb, Zfs, j1, Ziy, hie, Zxt hcid, hnx]
    rw [show V.agg (.str p :: (idC wd i).map byteV) = iv (p, idC wd i) from rfl]
    simp only [yy, Zyc (x := (p, idC wd i)) hcid, Zrd (l := out0) (m := [(p, idC wd i)]) (by unfold Lim; simp; omega)]
    exact r1
   ·obtain ⟨z1, z2, r1, r2, r3⟩ := d4 (acc ++ [(p, idC wd i)]) (by simp; omega)
    refine ⟨z1, z2, ?_, fun h => by have := r2 h; rw [Xai] at this; exact this, r3⟩
    rw [w.zq28_h0_30]; unfold y.zq28_h0_30
    simp only [yy, if_pos hkw, hg, hle, hce, if_neg hl0, hp1, Zgb, Zfs, j2, Ziy, hie, Zxt hcid, hnx]
    rw [show V.agg (.str p :: (idC wd i).map byteV) = iv (p, idC wd i) from rfl]
    simp only [yy, Zyc (x := (p, idC wd i)) hcid, Zrd (l := acc) (m := [(p, idC wd i)]) (by unfold Lim; simp; omega)]
    exact r1
theorem way (he : EnvT e) {n : Nat} (hw : wd <= 40) (hd : Dif wd n) (hM : PO wd n M2) (hL : LO wd n L) (hLl : L.length <= 1000000) : ∀ (i : Nat), i < n -> ∀ (at_ : Bytes) (lvl left : Nat), lvl <= 17 -> at_.length <= 2 * lvl -> left <= 4096 -> Way (e := e) wd M2 L m1 m3 A i at_ lvl left := by
 have main : ∀ i, i < n -> (0 < i -> ∀ (at_ : Bytes) (lvl left : Nat), lvl <= 17 -> at_.length <= 2 * lvl -> left <= 4096 -> Way (e := e) wd M2 L m1 m3 A (i - 1) at_ lvl left) -> ∀ (at_ : Bytes) (lvl left : Nat), lvl <= 17 -> at_.length <= 2 * lvl -> left <= 4096 -> Way (e := e) wd M2 L m1 m3 A i at_ lvl left := by
  intro i hi hch at_ lvl left hlv hat hl
  have hid := Zdt wd (i + 1)
  by_cases h16 : 16 < lvl
  ·refine ⟨8, [], 0, by simp, (fun x hx => by cases hx), fun out0 _ => ⟨inpV out0, I left, ?_, fun h => by cases h⟩, inpV [], I left, ?_, (fun h => by cases h), fun _ => rfl⟩
   ·rw [w.zq38_h0]; unfold y.zq38_h0
    simp only [yy, Zei, if_pos (show (16 : Int) < (lvl : Int) by omega)]
   ·rw [w.zq28_h0]; unfold y.zq28_h0
    simp only [yy, Zei, if_pos (show (16 : Int) < (lvl : Int) by omega)]
    rfl
  ·obtain ⟨er, outs, lf, d1, d2, d3, d4⟩ := Z2k wd M2 L m1 m3 A he hw i at_ lvl (by omega) hat hch wd 0 left (Xan _) hl
   have ht := v.TreeC he hw hd hM m1 m3 hi
   have hg := hL.get hd hLl A hi (e := e)
   have hr := v.rGetTree (e := e) _ (Zq9 hw (decide (0 < i)) (Zdt wd i))
   have hlen : evp (.len false) [entV (lsC wd (decide (0 < i)) (idC wd i))] = some (I wd) := by rw [Zg0, Zgk]
   refine ⟨er, outs, lf, d1, d2, fun out0 ho => ?_, ?_⟩
   ·obtain ⟨x1, x2, q1, q2⟩ := d3 out0 ho
    refine ⟨x1, x2, ?_, q2⟩
    rw [w.zq38_h0]; unfold y.zq38_h0
    simp only [yy, Zei, if_neg (show ¬(16 : Int) < (lvl : Int) by omega), Zgp hid, ht, hlen]
    exact q1
   ·obtain ⟨y1, y2, q1, q2⟩ := d4 [] (by simp; omega)
    refine ⟨y1, y2, ?_, q2⟩
    rw [w.zq28_h0]; unfold y.zq28_h0
    simp only [yy, Zei, if_neg (show ¬(16 : Int) < (lvl : Int) by omega), Zgp hid]
    rw [show (V.str [116, 114, 101, 101]) = .str treeK from rfl, hg]
    simp only [yy, txC, hr, hlen]
    exact q1
 intro i
 induction i with
 | zero => exact fun hi => main 0 hi fun h => absurd h (Nat.lt_irrefl 0)
 | succ i ih => exact fun hi => main (i + 1) hi fun _ => ih (by omega)
end
end Go.Proofs.YtpmgdngjbdkdfaaGreatDoor
namespace Go.Proofs.YtpmgdngjbdkdfaaGreatDoor
open Go.Abs
set_option maxRecDepth 10000
variable {e : Ev}
theorem Z4c {x : Inp} (h : x.2.length = 32) : evp (.bin .neq (.flat [(none, true), (some .u8, true), (some .u8, true), (some .u8, true), (some .u8, true), (some .u8, true), (some .u8, true), (some .u8, true), (some .u8, true), (some .u8, true), (some .u8, true), (some .u8, true), (some .u8, true), (some .u8, true), (some .u8, true), (some .u8, true), (some .u8, true), (some .u8, true), (some .u8, true), (some .u8, true), (some .u8, true), (some .u8, true), (some .u8, true), (some .u8, true), (some .u8, true), (some .u8, true), (some .u8, true), (some .u8, true), (some .u8, true), (some .u8, true), (some .u8, true), (some .u8, true), (some .u8, true)])) [iv x, iv x] = some (.bool false) := by
 show vEq .neq ((kdEq (none, true) (.str x.1) (.str x.1)).bind fun b => (Zar (List.replicate 32 (some .u8, true)) (x.2.map byteV) (x.2.map byteV)).map (b && ·)) = _
 rw [Zj6 h h]
 simp [kdEq, vEq]
theorem v.same (l : List Inp) (h : ∀ x ∈ l, x.2.length = 32) (hl : l.length <= 1000000) : vl e 20 0 [inpV l, inpV l] = some (.bool true) := by
 have hlen : evp (.len false) [inpV l] = some (I l.length) := by rw [inpV, Zqc, Xb4]
 have key : ∀ (n i : Nat), i + n = l.length -> vl e 20 16 [inpV l, inpV l, I l.length, I i] = some (.bool true) := by
  intro n
  induction n with
  | zero =>
   intro i hi
   rw [w.zq60_16]; unfold y.zq60_16
   simp only [yy, if_neg (show ¬((i : Int) < (l.length : Int)) by omega)]
  | succ n ih =>
   intro i hi
   have hlt : i < l.length := by omega
   have h32 := h _ (Xba hlt)
   have hg : evp (.elem 33) [inpV l, I i] = some (iv l[i]) := Zfu (by simp [hlt])
   have hd : evp (.ld (some 33) 0) [iv l[i]] = some (iv l[i]) := by
    show Zaf (some 33) (iv l[i]).cells 0 = _
    have hc : (iv l[i]).cells.length = 33 := by simp [iv, V.cells, h32]
    simp only [Zaf]
    rw [if_pos (by omega), Xa7, Xao (by omega)]; rfl
   rw [w.zq60_16]; unfold y.zq60_16
   simp only [yy, if_pos (show (i : Int) < (l.length : Int) by omega), hg, hd, Z4c h32, Zas hlt (by omega)]
   exact ih (i + 1) (by omega)
 rw [w.zq60]; unfold y.zq60
 simp only [yy, hlen, if_true]
 exact key l.length 0 (Xan _)
theorem Dif.le {wd n m : Nat} (h : Dif wd n) (hm : m <= n) : Dif wd m := fun i j hi hj => h i j hi (by omega)
theorem v.wayEnd (he : EnvT e) {wd n : Nat} (hw : wd <= 40) (hd : Dif wd (n + 1)) {M2 : MB} {L : List Obj} (m1 m3 A : V) (hM : PO wd (n + 1) M2) (hL : LO wd (n + 1) L) (hLl : L.length <= 1000000) (wv b : V) (k : Nat) :
  vl e 4 32 [I k, wv, b, I k, objV L, A, bl (idC wd (n + 1)), m1, mv M2, m3] = some (.bool true) := by
 have hid := Zdt wd (n + 1)
 obtain ⟨er, outs, lf, d1, d2, d3, y1, y2, d4, d5, d6⟩ := way (e := e) wd M2 L m1 m3 A he hw hd hM hL hLl n (by omega) [] 1 4096 (by omega) (by simp) (by omega)
 obtain ⟨x1, x2, q1, q2⟩ := d3 [] (by simp)
 have k0 : inpV [] = .sl false 33 [] := rfl
 have q1' : vl e 10704 1 [.str [], bl (idC wd (n + 1)), .int .i64 1, inpV [], .int .i64 4096, m1, mv M2, m3] = some (.tup [I er, x1, x2, m1, mv M2, m3]) := q1
 have d4' : vl e 10720 1 [.str [], bl (idC wd (n + 1)), .int .i64 1, .int .i64 4096, objV L, A] = some (.tup [y1, I er, y2, objV L, A]) := d4
 have hP : ∃ res, vl e 10288 1 [bl (idC wd (n + 1)), m1, mv M2, m3] = some (.tup [res, I er, m1, mv M2, m3]) /\ (er = 0 -> res = inpV outs) /\ (er ≠ 0 -> res = inpV []) := by
  by_cases h0 : er = 0
  ·obtain ⟨rfl, rfl⟩ := q2 h0
   subst h0
   refine ⟨inpV outs, ?_, fun _ => rfl, fun h => absurd rfl h⟩
   rw [w.zq32_h0]; unfold y.zq32_h0
   rw [<- k0]
   simp only [yy, Zei, Zgp hid, q1']
   rfl
  ·refine ⟨inpV [], ?_, fun h => absurd h h0, fun _ => rfl⟩
   rw [w.zq32_h0]; unfold y.zq32_h0
   rw [<- k0]
   simp only [yy, Zei, Zgp hid, q1', if_neg h0]
 have hD : vl e 10304 1 [bl (idC wd (n + 1)), objV L, A] = some (.tup [y1, I er, objV L, A]) := by
  rw [w.zq25_h0]; unfold y.zq25_h0
  simp only [yy, Zei, Zgp hid, d4']
 obtain ⟨res, p1, p2, p3⟩ := hP
 have hs : vl e 20 0 [res, y1] = some (.bool true) := by
  by_cases h0 : er = 0
  ·rw [p2 h0, (d5 h0).1]
   exact v.same outs d2 (by omega)
  ·rw [p3 h0, d6 h0]
   exact v.same [] (fun x hx => by cases hx) (by simp)
 rw [w.zq39_32]; unfold y.zq39_32
 simp only [yy, if_neg (show ¬((k : Int) < (k : Int)) by omega), p1, hD, if_true, hs]
theorem Zwm (k : Nat) (tr : Bool) (id : Bytes) : lsC (k + 1) tr id = lsC k tr id ++ [⟨nmK k, tr, id⟩] := by
 unfold lsC
 rw [Xd6, Xb1]; rfl
theorem v_nm {k : Nat} (h : k < 40) : evp (.bin .add .no) [.int .i64 65, I k] = some (I (65 + k : Nat)) /\ evp (.i2i .u8) [I (65 + k : Nat)] = some (byteV (UInt8.ofNat (65 + k))) /\ evp (.bsl 1) [byteV (UInt8.ofNat (65 + k))] = some (.sl false 1 [byteV (UInt8.ofNat (65 + k))]) /\ evp .b2s [.sl false 1 [byteV (UInt8.ofNat (65 + k))]] = some (.str (nmK k)) := by
 refine ⟨?_, congrArg some (Zda _), rfl, ?_⟩
 ·show some (V.int .i64 (IntKind.i64.wrap (65 + (k : Int)))) = _
  rw [w64 _ (by omega)]; rfl
 ·show (Zbq ([UInt8.ofNat (65 + k)].map byteV)).map V.str = _
  rw [Zdk]; rfl
theorem v.deep47 (he : EnvT e) {wd : Nat} (hw : wd <= 40) {i : Nat} {M2 : MB} {L A : List Obj} (hd : Dif wd (i + 1)) (hM : PO wd i M2) (hL : LO wd i L) (hLl : L.length + 1 <= 1000000) (hAl : A.length + 1 <= 1000000) (hi : i <= 100) (lv m1 m3 : V) : ∀ (m k : Nat), k + m = wd ->
  vl e 4 47 [lv, I wd, .bool (!decide (0 < i)), I i, entV (lsC k (decide (0 < i)) (idC wd i)), I k, objV L, objV A, bl (idC wd i), m1, mv M2, m3] =
   vl e 4 32 [lv, I wd, .bool false, I (i + 1 : Nat), objV (L ++ [⟨treeK, Zao treeK (txC wd i), txC wd i⟩]), objV (A ++ [⟨treeK, Zao treeK (txC wd i), txC wd i⟩]), bl (idC wd (i + 1)), m1, mv (putM M2 (idC wd (i + 1)) (txC wd i)), m3] := by
 intro m
 have hid := Zdt wd i
 induction m with
 | zero =>
  intro k hk
  have : k = wd := by omega
  subst this
  have hok := Zq9 hw (decide (0 < i)) hid
  have h0 := hok.len
  have hs := Zcu (fun x hx => (hok.nm x hx).2) hok.id
  have hpt := v.PutTree he _ hok m1 m3 M2 hM.1
  have hrt := v.rTree (e := e) _ hok
  have hpn := v.rPutN (e := e) treeK (txC k i) (by simp [treeK]) (by rw [txC, Zah, Zcf]; omega) L A hL.1 hLl hAl (hL.new hd)
  rw [w.zq39_47]; unfold y.zq39_47
  simp only [yy, if_neg (show ¬((k : Int) < (k : Int)) by omega), hpt, Zbn (Zay _ _), if_true, hrt]
  rw [show (V.str [116, 114, 101, 101]) = .str treeK from rfl, show Zah (lsC k (decide (0 < i)) (idC k i)) = txC k i from rfl, hpn]
  simp only [yy, Zas (show i < 101 by omega) (by omega)]
  rfl
 | succ m ih =>
  intro k hk
  obtain ⟨n1, n2, n3, n4⟩ := v_nm (show k < 40 by omega)
  have := ih (k + 1) (by omega)
  rw [Zwm] at this
  have hap := Zrp (l := lsC k (decide (0 < i)) (idC wd i)) (x := ⟨nmK k, decide (0 < i), idC wd i⟩) (by rw [Zgk]; unfold Lim; omega)
  have hnot : (!(!decide (0 < i))) = decide (0 < i) := Bool.not_not _
  rw [w.zq39_47]; unfold y.zq39_47
  simp only [yy, if_pos (show (k : Int) < (wd : Int) by omega), n1, n2, n3, n4, hnot, Zlj hid, Zk1 (x := ⟨nmK k, decide (0 < i), idC wd i⟩) hid, hap, Zas (show k < wd by omega) (by omega)]
  exact this
theorem v.deep32 (he : EnvT e) {wd lv : Nat} (hw : wd <= 40) (hlv : 1 <= lv) (hlv2 : lv <= 30) (hd : Dif wd 30) (m1 m3 : V) : ∀ (m i : Nat) (M2 : MB) (L A : List Obj), i + m = lv -> PO wd i M2 -> LO wd i L -> L.length <= i + 1 -> A.length <= i + 1 ->
  vl e 4 32 [I lv, I wd, .bool (!decide (0 < i)), I i, objV L, objV A, bl (idC wd i), m1, mv M2, m3] = some (.bool true) := by
 intro m
 induction m with
 | zero =>
  intro i M2 L A hi hM hL hLl hAl
  obtain ⟨n, rfl⟩ : ∃ n, i = n + 1 := ⟨i - 1, by omega⟩
  have hlv' : lv = n + 1 := by omega
  subst hlv'
  exact v.wayEnd he hw (hd.le (by omega)) m1 m3 (objV A) hM hL (by omega) (I wd) _ (n + 1)
 | succ m ih =>
  intro i M2 L A hi hM hL hLl hAl
  have h47 := v.deep47 he hw (hd.le (show i + 1 <= 30 by omega)) hM hL (by omega) (by omega) (by omega) (I lv) m1 m3 wd 0 (Xan _) (A := A)
  have := ih (i + 1) _ _ (A ++ [⟨treeK, Zao treeK (txC wd i), txC wd i⟩]) (by omega) (hM.next (hd.le (by omega))) hL.next (by simp; omega) (by simp; omega)
  rw [show (!decide (0 < i + 1)) = false by simp] at this
  rw [w.zq39_32]; unfold y.zq39_32
  simp only [yy, if_pos (show (i : Int) < (lv : Int) by omega)]
  exact h47.trans this
theorem q.treeDeep (he : EnvT e) (hdif : ∀ wd, 1 <= wd -> wd <= 40 -> Dif wd 30) (lv wd : Int) : vl e 4 0 [.int .i64 lv, .int .i64 wd] = some (.bool true) := by
 have t15 : vl e 4 15 [.int .i64 lv, .int .i64 wd, .bool true] = some (.bool true) := by
  rw [w.zq39_15]; rfl
 rw [w.zq39]; unfold y.zq39
 by_cases h1 : lv < 1
 ·simp only [yy, v.alive08 he, if_pos h1]; exact t15
 by_cases h2 : 30 < lv
 ·simp only [yy, v.alive08 he, if_neg h1, if_pos h2]; exact t15
 by_cases h3 : wd < 1
 ·simp only [yy, v.alive08 he, if_neg h1, if_neg h2, if_pos h3]; exact t15
 by_cases h4 : 40 < wd
 ·simp only [yy, v.alive08 he, if_neg h1, if_neg h2, if_neg h3, decide_eq_true h4]; exact t15
 obtain ⟨a, rfl⟩ : ∃ a : Nat, lv = a := ⟨lv.toNat, by omega⟩
 obtain ⟨b, rfl⟩ : ∃ b : Nat, wd = b := ⟨wd.toNat, by omega⟩
 simp only [yy, v.alive08 he, if_neg h1, if_neg h2, if_neg h3, decide_eq_false h4]
 have k0 : keyL [] := fun _ h => by cases h
 have hpb := v.PutBlob (e := e) [120] (by simp) [] k0 (mv []) (mv [])
 have hpn := v.rPutN (e := e) Zb2 [120] (by simp [Zb2]) (by simp) [] [] (fun _ h => by cases h) (by simp) (by simp) (fun _ h => by cases h)
 have hpn' : vl e 10240 1 [.str [98, 108, 111, 98], .str [120], .sl false 34 [], .sl false 34 []] = some (.tup [bl (Zao Zb2 [120]), objV [⟨Zb2, Zao Zb2 [120], [120]⟩], objV [⟨Zb2, Zao Zb2 [120], [120]⟩]]) := hpn
 rw [w.zq39_15]; unfold y.zq39_15
 simp only [yy, v.New, hpb, Zbn (Zay _ _), hpn']
 refine v.deep32 he (by omega) (by omega) (by omega) (hdif b (by omega) (by omega)) _ _ a 0 [] _ _ (Xan _) ⟨k0, (fun _ h => by cases h), fun i h => by omega⟩ ⟨fun o ho => by rw [Xa9.1 ho]; exact Zay _ _, fun o ho hk => ?_, fun i h => by omega⟩ (by simp) (by simp)
 rw [Xa9.1 ho] at hk
 exact absurd hk (by decide)
end Go.Proofs.YtpmgdngjbdkdfaaGreatDoor
namespace Go.Proofs.YtpmgdngjbdkdfaaGreatDoor
open Go.Abs
set_option maxRecDepth 10000
noncomputable def kF {α : Type} (x : Nat) (k : Nat -> α) : α := Nat.rec (motive := fun _ => α) (k 0) (fun n _ => k (Nat.succ n)) x
theorem Zix {α : Type} (x : Nat) (k : Nat -> α) : kF x k = k x := by cases x <;> rfl
noncomputable def kS1 (x : Nat) : Nat := kF (Nat.mul x 4294967297) fun X => Nat.mod (Nat.xor (Nat.xor (Nat.shiftRight X 6) (Nat.shiftRight X 11)) (Nat.shiftRight X 25)) 4294967296
noncomputable def kS0 (x : Nat) : Nat := kF (Nat.mul x 4294967297) fun X => Nat.mod (Nat.xor (Nat.xor (Nat.shiftRight X 2) (Nat.shiftRight X 13)) (Nat.shiftRight X 22)) 4294967296
noncomputable def ks0 (x : Nat) : Nat := kF (Nat.mul x 4294967297) fun X => Nat.xor (Nat.mod (Nat.xor (Nat.shiftRight X 7) (Nat.shiftRight X 18)) 4294967296) (Nat.shiftRight x 3)
noncomputable def ks1 (x : Nat) : Nat := kF (Nat.mul x 4294967297) fun X => Nat.xor (Nat.mod (Nat.xor (Nat.shiftRight X 17) (Nat.shiftRight X 19)) 4294967296) (Nat.shiftRight x 10)
def kch (e f g : Nat) : Nat := Nat.xor (Nat.land (Nat.xor f g) e) g
def kmj (a b c : Nat) : Nat := Nat.lor (Nat.land a b) (Nat.land c (Nat.lor a b))
abbrev T8 (α : Type) : Type := Nat -> Nat -> Nat -> Nat -> Nat -> Nat -> Nat -> Nat -> α
abbrev T24 : Type := T8 (T8 (T8 (List Nat)))
noncomputable def kZ (ks : List Nat) : T24 := List.rec (motive := fun _ => T24)
 (fun a b c d e f g h _ _ _ _ _ _ _ _ _ _ _ _ _ _ _ _ => [a, b, c, d, e, f, g, h])
 (fun k _ ih a b c d e f g h w0 w1 w2 w3 w4 w5 w6 w7 w8 w9 wa wb wc wd we wf =>
  kF (Nat.add (Nat.add (Nat.add (Nat.add h (kS1 e)) (kch e f g)) k) w0) fun t1 =>
  kF (Nat.mod (Nat.add d t1) 4294967296) fun e' =>
  kF (Nat.mod (Nat.add (Nat.add t1 (kS0 a)) (kmj a b c)) 4294967296) fun a' =>
  ih a' a b c e' e f g w1 w2 w3 w4 w5 w6 w7 w8 w9 wa wb wc wd we wf 0) ks
noncomputable def kA (K2 ks : List Nat) : T24 := List.rec (motive := fun _ => T24) (kZ K2)
 (fun k _ ih a b c d e f g h w0 w1 w2 w3 w4 w5 w6 w7 w8 w9 wa wb wc wd we wf =>
  kF (Nat.add (Nat.add (Nat.add (Nat.add h (kS1 e)) (kch e f g)) k) w0) fun t1 =>
  kF (Nat.mod (Nat.add d t1) 4294967296) fun e' =>
  kF (Nat.mod (Nat.add (Nat.add t1 (kS0 a)) (kmj a b c)) 4294967296) fun a' =>
  kF (Nat.mod (Nat.add (Nat.add (Nat.add w0 (ks0 w1)) w9) (ks1 we)) 4294967296) fun wn =>
  ih a' a b c e' e f g w1 w2 w3 w4 w5 w6 w7 w8 w9 wa wb wc wd we wf wn) ks
theorem Zyg (k : Nat) (ks : List Nat) (a b c d e f g h w0 w1 w2 w3 w4 w5 w6 w7 w8 w9 wa wb wc wd we wf : Nat) : kZ (k :: ks) a b c d e f g h w0 w1 w2 w3 w4 w5 w6 w7 w8 w9 wa wb wc wd we wf = kZ ks (((((((h + kS1 e) + kch e f g) + k) + w0) + kS0 a) + kmj a b c) % 4294967296) a b c ((d + ((((h + kS1 e) + kch e f g) + k) + w0)) % 4294967296) e f g w1 w2 w3 w4 w5 w6 w7 w8 w9 wa wb wc wd we wf 0 := by
 show kF (Nat.add (Nat.add (Nat.add (Nat.add h (kS1 e)) (kch e f g)) k) w0) (fun t1 => kF (Nat.mod (Nat.add d t1) 4294967296) fun e' => kF (Nat.mod (Nat.add (Nat.add t1 (kS0 a)) (kmj a b c)) 4294967296) fun a' => kZ ks a' a b c e' e f g w1 w2 w3 w4 w5 w6 w7 w8 w9 wa wb wc wd we wf 0) = _
 simp only [Zix]; rfl
theorem Z0h (K2 : List Nat) (k : Nat) (ks : List Nat) (a b c d e f g h w0 w1 w2 w3 w4 w5 w6 w7 w8 w9 wa wb wc wd we wf : Nat) : kA K2 (k :: ks) a b c d e f g h w0 w1 w2 w3 w4 w5 w6 w7 w8 w9 wa wb wc wd we wf = kA K2 ks (((((((h + kS1 e) + kch e f g) + k) + w0) + kS0 a) + kmj a b c) % 4294967296) a b c ((d + ((((h + kS1 e) + kch e f g) + k) + w0)) % 4294967296) e f g w1 w2 w3 w4 w5 w6 w7 w8 w9 wa wb wc wd we wf ((((w0 + ks0 w1) + w9) + ks1 we) % 4294967296) := by
 show kF (Nat.add (Nat.add (Nat.add (Nat.add h (kS1 e)) (kch e f g)) k) w0) (fun t1 => kF (Nat.mod (Nat.add d t1) 4294967296) fun e' => kF (Nat.mod (Nat.add (Nat.add t1 (kS0 a)) (kmj a b c)) 4294967296) fun a' => kF (Nat.mod (Nat.add (Nat.add (Nat.add w0 (ks0 w1)) w9) (ks1 we)) 4294967296) fun wn => kA K2 ks a' a b c e' e f g w1 w2 w3 w4 w5 w6 w7 w8 w9 wa wb wc wd we wf wn) = _
 simp only [Zix]; rfl
theorem rotN (x : W32) {k : Nat} (h0 : 0 < k) (h : k < 32) : ((x.toNat * 4294967297) >>> k) % 2 ^ 32 = (Zcs x k).toNat := by
 have hx := x.isLt
 have hm : x.toNat * 4294967297 = x.toNat <<< 32 ||| x.toNat := by
  rw [<- Xen hx, Xc4]; omega
 unfold Zcs
 rw [BitVec.toNat_or, BitVec.toNat_ushiftRight, BitVec.toNat_shiftLeft, hm]
 apply Nat.eq_of_testBit_eq
 intro i
 rw [Xe9, Nat.testBit_shiftRight, Nat.testBit_or, Nat.testBit_shiftLeft, Nat.testBit_or, Nat.testBit_shiftRight, Xe9, Nat.testBit_shiftLeft]
 have big : ∀ j, 32 <= j -> x.toNat.testBit j = false := fun j hj => Nat.testBit_lt_two_pow (Xbr hx (Nat.pow_le_pow_right (by decide) hj))
 by_cases hi : i < 32
 ·by_cases hk : 32 <= k + i
  ·rw [big (k + i) hk, decide_eq_true hi, decide_eq_true hk, decide_eq_true (show 32 - k <= i by omega), show k + i - 32 = i - (32 - k) by omega]
   simp
  ·rw [decide_eq_true hi, decide_eq_false (show ¬ k + i ≥ 32 by omega), decide_eq_false (show ¬ i ≥ 32 - k by omega)]
   simp
 ·rw [decide_eq_false hi, big (k + i) (by omega)]
  simp
theorem Zxa (x : W32) : kS1 x.toNat = (Zde x 6 11 25).toNat := by
 unfold kS1 Zde
 rw [Zix, BitVec.toNat_xor, BitVec.toNat_xor, <- rotN x (by decide) (by decide), <- rotN x (by decide) (by decide), <- rotN x (by decide) (by decide), <- Xc0, <- Xc0]; rfl
theorem Zwx (x : W32) : kS0 x.toNat = (Zde x 2 13 22).toNat := by
 unfold kS0 Zde
 rw [Zix, BitVec.toNat_xor, BitVec.toNat_xor, <- rotN x (by decide) (by decide), <- rotN x (by decide) (by decide), <- rotN x (by decide) (by decide), <- Xc0, <- Xc0]; rfl
theorem Z4m (x : W32) : ks0 x.toNat = (sig0 x).toNat := by
 unfold ks0 sig0
 rw [Zix, BitVec.toNat_xor, BitVec.toNat_xor, <- rotN x (by decide) (by decide), <- rotN x (by decide) (by decide), <- Xc0, BitVec.toNat_ushiftRight]; rfl
theorem Z1s (x : W32) : ks1 x.toNat = (sig1 x).toNat := by
 unfold ks1 sig1
 rw [Zix, BitVec.toNat_xor, BitVec.toNat_xor, <- rotN x (by decide) (by decide), <- rotN x (by decide) (by decide), <- Xc0, BitVec.toNat_ushiftRight]; rfl
theorem Zww (e f g : W32) : kch e.toNat f.toNat g.toNat = ((e &&& f) ^^^ (~~~e &&& g)).toNat := by
 have : (e &&& f) ^^^ (~~~e &&& g) = ((f ^^^ g) &&& e) ^^^ g := by
  ext i hi
  simp only [BitVec.getElem_xor, BitVec.getElem_and, BitVec.getElem_not]
  cases e[i] <;> cases f[i] <;> cases g[i] <;> rfl
 rw [this, BitVec.toNat_xor, BitVec.toNat_and, BitVec.toNat_xor]; rfl
theorem Zxg (a b c : W32) : kmj a.toNat b.toNat c.toNat = (((a &&& b) ^^^ (a &&& c)) ^^^ (b &&& c)).toNat := by
 have : ((a &&& b) ^^^ (a &&& c)) ^^^ (b &&& c) = (a &&& b) ||| (c &&& (a ||| b)) := by
  ext i hi
  simp only [BitVec.getElem_xor, BitVec.getElem_and, BitVec.getElem_or]
  cases a[i] <;> cases b[i] <;> cases c[i] <;> rfl
 rw [this, BitVec.toNat_or, BitVec.toNat_and, BitVec.toNat_and, BitVec.toNat_or]; rfl
theorem Z1i (d h s c k w : W32) : (d.toNat + ((((h.toNat + s.toNat) + c.toNat) + k.toNat) + w.toNat)) % 4294967296 = (d + ((((h + s) + c) + k) + w)).toNat := by
 simp only [BitVec.toNat_add, Nat.reducePow]; omega
theorem Z3a (h s c k w x y : W32) : ((((((h.toNat + s.toNat) + c.toNat) + k.toNat) + w.toNat) + x.toNat) + y.toNat) % 4294967296 = (((((h + s) + c) + k) + w) + (x + y)).toNat := by
 simp only [BitVec.toNat_add, Nat.reducePow]; omega
theorem Z5q (x y z u : W32) : (((x.toNat + y.toNat) + z.toNat) + u.toNat) % 4294967296 = (((x + y) + z) + u).toNat := by
 simp only [BitVec.toNat_add, Nat.reducePow]; omega
abbrev tN (l : List W32) : List Nat := l.map BitVec.toNat
theorem Zrx (W : List W32) (hW : W.length = 64) : ∀ (ks : List W32) (j : Nat), j + ks.length = 64 -> 48 <= j -> (∀ t, t < ks.length -> KT.getD (j + t) 0 = ks.getD t 0) -> ∀ a b c d e f g h : W32,
  kZ (tN ks) a.toNat b.toNat c.toNat d.toNat e.toNat f.toNat g.toNat h.toNat (W.getD j 0).toNat (W.getD (j + 1) 0).toNat (W.getD (j + 2) 0).toNat (W.getD (j + 3) 0).toNat (W.getD (j + 4) 0).toNat (W.getD (j + 5) 0).toNat (W.getD (j + 6) 0).toNat (W.getD (j + 7) 0).toNat (W.getD (j + 8) 0).toNat (W.getD (j + 9) 0).toNat (W.getD (j + 10) 0).toNat (W.getD (j + 11) 0).toNat (W.getD (j + 12) 0).toNat (W.getD (j + 13) 0).toNat (W.getD (j + 14) 0).toNat (W.getD (j + 15) 0).toNat = tN (rndW KT W ks.length j a b c d e f g h)
 | [], j, _, _, _, a, b, c, d, e, f, g, h => rfl
 | k :: ks, j, hj, h48, hk, a, b, c, d, e, f, g, h => by
  have k0 := hk 0 (by simp)
  rw [Xce, List.getD_cons_zero] at k0
  simp only [Xa1] at hj
  have ih := Zrx W hW ks (j + 1) (by omega) (by omega) (fun t ht => by
   have := hk (t + 1) (by simp; omega)
   rw [List.getD_cons_succ] at this
   rw [<- this]; congr 1; omega)
  have hz : W.getD (j + 16) 0 = 0 := by rw [Xbn, Xc5 (by omega)]; rfl
  have hstep : rndW KT W (k :: ks).length j a b c d e f g h = rndW KT W ks.length (j + 1) (((((h + Zde e 6 11 25) + ((e &&& f) ^^^ (~~~e &&& g))) + KT.getD j 0) + W.getD j 0) + (Zde a 2 13 22 + (((a &&& b) ^^^ (a &&& c)) ^^^ (b &&& c)))) a b c (d + ((((h + Zde e 6 11 25) + ((e &&& f) ^^^ (~~~e &&& g))) + KT.getD j 0) + W.getD j 0)) e f g := rfl
  rw [hstep, <- ih, k0]
  show kZ (k.toNat :: tN ks) _ _ _ _ _ _ _ _ _ _ _ _ _ _ _ _ _ _ _ _ _ _ _ _  = _
  rw [Zyg, Zxa, Zwx, Zww, Zxg, Z1i, Z3a]
  rw [show W.getD (j + 1 + 15) 0 = 0 from hz]; rfl
theorem Zrg (W : List W32) (hW : W.length = 64) (hr : ∀ j, j < 48 -> W.getD (j + 16) 0 = ((W.getD j 0 + sig0 (W.getD (j + 1) 0)) + W.getD (j + 9) 0) + sig1 (W.getD (j + 14) 0)) (K2 : List W32) (hK2 : K2.length = 16) (hk2 : ∀ t, t < 16 -> KT.getD (48 + t) 0 = K2.getD t 0) : ∀ (ks : List W32) (j : Nat), j + ks.length = 48 -> (∀ t, t < ks.length -> KT.getD (j + t) 0 = ks.getD t 0) -> ∀ a b c d e f g h : W32,
  kA (tN K2) (tN ks) a.toNat b.toNat c.toNat d.toNat e.toNat f.toNat g.toNat h.toNat (W.getD j 0).toNat (W.getD (j + 1) 0).toNat (W.getD (j + 2) 0).toNat (W.getD (j + 3) 0).toNat (W.getD (j + 4) 0).toNat (W.getD (j + 5) 0).toNat (W.getD (j + 6) 0).toNat (W.getD (j + 7) 0).toNat (W.getD (j + 8) 0).toNat (W.getD (j + 9) 0).toNat (W.getD (j + 10) 0).toNat (W.getD (j + 11) 0).toNat (W.getD (j + 12) 0).toNat (W.getD (j + 13) 0).toNat (W.getD (j + 14) 0).toNat (W.getD (j + 15) 0).toNat = tN (rndW KT W (ks.length + 16) j a b c d e f g h)
 | [], j, hj, _, a, b, c, d, e, f, g, h => by
  have : j = 48 := by simpa using hj
  subst this
  have := Zrx W hW K2 48 (by omega) (Xaj _) (fun t ht => hk2 t (by omega)) a b c d e f g h
  rw [hK2] at this
  exact this
 | k :: ks, j, hj, hk, a, b, c, d, e, f, g, h => by
  have k0 := hk 0 (by simp)
  rw [Xce, List.getD_cons_zero] at k0
  simp only [Xa1] at hj
  have ih := Zrg W hW hr K2 hK2 hk2 ks (j + 1) (by omega) (fun t ht => by
   have := hk (t + 1) (by simp; omega)
   rw [List.getD_cons_succ] at this
   rw [<- this]; congr 1; omega)
  have hz := hr j (by omega)
  have hstep : rndW KT W ((k :: ks).length + 16) j a b c d e f g h = rndW KT W (ks.length + 16) (j + 1) (((((h + Zde e 6 11 25) + ((e &&& f) ^^^ (~~~e &&& g))) + KT.getD j 0) + W.getD j 0) + (Zde a 2 13 22 + (((a &&& b) ^^^ (a &&& c)) ^^^ (b &&& c)))) a b c (d + ((((h + Zde e 6 11 25) + ((e &&& f) ^^^ (~~~e &&& g))) + KT.getD j 0) + W.getD j 0)) e f g := by
   rw [Xa1, show ks.length + 1 + 16 = (ks.length + 16) + 1 by omega]; rfl
  rw [hstep, <- ih, k0]
  show kA (tN K2) (k.toNat :: tN ks) _ _ _ _ _ _ _ _ _ _ _ _ _ _ _ _ _ _ _ _ _ _ _ _  = _
  rw [Z0h, Zxa, Zwx, Zww, Zxg, Z1i, Z3a, Z4m, Z1s, Z5q, <- hz]
theorem Zeh {l : List W32} {i j : Nat} {x : W32} (hi : i < l.length) : (l.set i x).getD j 0 = if i = j then x else l.getD j 0 := by
 rw [Xbn, Xdm, Xbn]
 by_cases h : i = j
 ·subst h; rw [if_pos rfl, if_pos hi, if_pos rfl]; rfl
 ·rw [if_neg h, if_neg h]
theorem Zoy (b : Bytes) : ∀ (n i : Nat) (ws : List W32), i + n <= ws.length -> ∀ j, (Zg6 b n i ws).getD j 0 = if i <= j /\ j < i + n then Zcj b (4 * j) else ws.getD j 0
 | 0, i, ws, _, j => by rw [Zg6, if_neg (by omega)]
 | n + 1, i, ws, h, j => by
  rw [Zg6, Zoy b n (i + 1) _ (by rw [Xea]; omega) j, Zeh (by omega)]
  by_cases h1 : i = j
  ·subst h1; rw [if_neg (by omega), if_pos rfl, if_pos (by omega)]
  ·rw [if_neg h1]
   by_cases h2 : i + 1 <= j /\ j < i + 1 + n
   ·rw [if_pos h2, if_pos (by omega)]
   ·rw [if_neg h2, if_neg (by omega)]
theorem Zm7 : ∀ (n i : Nat) (ws : List W32), i + n <= ws.length -> ∀ j, j < i -> (schW n i ws).getD j 0 = ws.getD j 0
 | 0, _, _, _, _, _ => rfl
 | n + 1, i, ws, h, j, hj => by rw [schW, Zm7 n (i + 1) _ (by rw [Xea]; omega) j (by omega), Zeh (by omega), if_neg (by omega)]
theorem Ztv : ∀ (n i : Nat) (ws : List W32), i + n <= ws.length -> 16 <= i -> ∀ j, i <= j -> j < i + n -> (schW n i ws).getD j 0 = (((schW n i ws).getD (j - 16) 0 + sig0 ((schW n i ws).getD (j - 15) 0)) + (schW n i ws).getD (j - 7) 0) + sig1 ((schW n i ws).getD (j - 2) 0)
 | 0, i, ws, _, _, j, h1, h2 => by omega
 | n + 1, i, ws, h, h16, j, h1, h2 => by
  rw [schW]
  rcases Xez h1 with hlt | rfl
  ·exact Ztv n (i + 1) _ (by rw [Xea]; omega) (by omega) j hlt (by omega)
  ·have low := Zm7 n (i + 1) (ws.set i (((ws.getD (i - 16) 0 + sig0 (ws.getD (i - 15) 0)) + ws.getD (i - 7) 0) + sig1 (ws.getD (i - 2) 0))) (by rw [Xea]; omega)
   rw [low i (by omega), low (i - 16) (by omega), low (i - 15) (by omega), low (i - 7) (by omega), low (i - 2) (by omega)]
   rw [Zeh (by omega), Zeh (by omega), Zeh (by omega), Zeh (by omega), Zeh (by omega)]
   rw [if_pos rfl, if_neg (by omega), if_neg (by omega), if_neg (by omega), if_neg (by omega)]
theorem Z0j (b : Bytes) (j : Nat) (hj : j < 48) : (allW b).getD (j + 16) 0 = (((allW b).getD j 0 + sig0 ((allW b).getD (j + 1) 0)) + (allW b).getD (j + 9) 0) + sig1 ((allW b).getD (j + 14) 0) := by
 have := Ztv 48 16 (Zg6 b 16 0 (List.replicate 64 0)) (by rw [Zdx]; simp) (by omega) (j + 16) (by omega) (by omega)
 rw [show j + 16 - 16 = j by omega, show j + 16 - 15 = j + 1 by omega, show j + 16 - 7 = j + 9 by omega, show j + 16 - 2 = j + 14 by omega] at this
 exact this
theorem Zb3 (b : Bytes) {j : Nat} (hj : j < 16) : (allW b).getD j 0 = Zcj b (4 * j) := by
 unfold allW
 rw [Zm7 48 16 _ (by rw [Zdx]; simp) j hj, Zoy b 16 0 _ (by simp) j, if_pos (by omega)]
noncomputable def kfin (a b c d e f g h : Nat) (r : List Nat) : List Nat := match r with
 | [a', b', c', d', e', f', g', h'] => kF (Nat.mod (Nat.add a a') 4294967296) fun a => kF (Nat.mod (Nat.add b b') 4294967296) fun b => kF (Nat.mod (Nat.add c c') 4294967296) fun c => kF (Nat.mod (Nat.add d d') 4294967296) fun d => kF (Nat.mod (Nat.add e e') 4294967296) fun e => kF (Nat.mod (Nat.add f f') 4294967296) fun f => kF (Nat.mod (Nat.add g g') 4294967296) fun g => kF (Nat.mod (Nat.add h h') 4294967296) fun h => [a, b, c, d, e, f, g, h]
 | _ => []
theorem Zzz (a b c d e f g h a' b' c' d' e' f' g' h' : W32) : kfin a.toNat b.toNat c.toNat d.toNat e.toNat f.toNat g.toNat h.toNat (tN [a', b', c', d', e', f', g', h']) = tN [a + a', b + b', c + c', d + d', e + e', f + f', g + g', h + h'] := by
 show (kF (Nat.mod (Nat.add a.toNat a'.toNat) 4294967296) fun aa => kF (Nat.mod (Nat.add b.toNat b'.toNat) 4294967296) fun bb => kF (Nat.mod (Nat.add c.toNat c'.toNat) 4294967296) fun cc => kF (Nat.mod (Nat.add d.toNat d'.toNat) 4294967296) fun dd => kF (Nat.mod (Nat.add e.toNat e'.toNat) 4294967296) fun ee => kF (Nat.mod (Nat.add f.toNat f'.toNat) 4294967296) fun ff => kF (Nat.mod (Nat.add g.toNat g'.toNat) 4294967296) fun gg => kF (Nat.mod (Nat.add h.toNat h'.toNat) 4294967296) fun hh => [aa, bb, cc, dd, ee, ff, gg, hh]) = _
 simp only [Zix, Xam, Xa4, BitVec.toNat_add]
 rfl
noncomputable def kcmp (K1 K2 s : List Nat) : T8 (T8 (List Nat)) := fun w0 w1 w2 w3 w4 w5 w6 w7 w8 w9 wa wb wc wd we wf =>
 match s with
 | [a, b, c, d, e, f, g, h] => kfin a b c d e f g h (kA K2 K1 a b c d e f g h w0 w1 w2 w3 w4 w5 w6 w7 w8 w9 wa wb wc wd we wf)
 | _ => []
theorem Ztu (st : List W32) (hs : st.length = 8) (bs : Bytes) : kcmp (tN (KT.take 48)) (tN (KT.drop 48)) (tN st) (Zcj bs 0).toNat (Zcj bs 4).toNat (Zcj bs 8).toNat (Zcj bs 12).toNat (Zcj bs 16).toNat (Zcj bs 20).toNat (Zcj bs 24).toNat (Zcj bs 28).toNat (Zcj bs 32).toNat (Zcj bs 36).toNat (Zcj bs 40).toNat (Zcj bs 44).toNat (Zcj bs 48).toNat (Zcj bs 52).toNat (Zcj bs 56).toNat (Zcj bs 60).toNat = tN (Zcl KT st bs) := by
 obtain ⟨a, b, c, d, e, f, g, h, rfl⟩ := Zqs hs
 have hA := Zrg (allW bs) (Zkz bs) (Z0j bs) (KT.drop 48) rfl (fun t ht => by
  rw [Xbn, Xbn, Xcb]) (KT.take 48) 0 rfl (fun t ht => by
  have : t < 48 := by simpa [Zju] using ht
  rw [Xbn, Xbn, Xch, if_pos this, Xan]) a b c d e f g h
 simp only [Xan] at hA
 rw [Zb3 bs (show 0 < 16 by decide), Zb3 bs (show 1 < 16 by decide), Zb3 bs (show 2 < 16 by decide), Zb3 bs (show 3 < 16 by decide), Zb3 bs (show 4 < 16 by decide), Zb3 bs (show 5 < 16 by decide), Zb3 bs (show 6 < 16 by decide), Zb3 bs (show 7 < 16 by decide), Zb3 bs (show 8 < 16 by decide), Zb3 bs (show 9 < 16 by decide), Zb3 bs (show 10 < 16 by decide), Zb3 bs (show 11 < 16 by decide), Zb3 bs (show 12 < 16 by decide), Zb3 bs (show 13 < 16 by decide), Zb3 bs (show 14 < 16 by decide), Zb3 bs (show 15 < 16 by decide)] at hA
 have h48 : (KT.take 48).length + 16 = 64 := rfl
 rw [h48] at hA
 obtain ⟨x0, x1, x2, x3, x4, x5, x6, x7, hx⟩ := Zqs (Zjz KT (allW bs) 64 0 a b c d e f g h)
 rw [hx] at hA
 have hb : Zcl KT [a, b, c, d, e, f, g, h] bs = [a + x0, b + x1, c + x2, d + x3, e + x4, f + x5, g + x6, h + x7] := by
  show addW (rndW KT (allW bs) 64 0 a b c d e f g h) 8 0 [a, b, c, d, e, f, g, h] = _
  rw [hx]; rfl
 rw [hb]
 show kfin a.toNat b.toNat c.toNat d.toNat e.toNat f.toNat g.toNat h.toNat (kA _ _ a.toNat b.toNat c.toNat d.toNat e.toNat f.toNat g.toNat h.toNat _ _ _ _ _ _ _ _ _ _ _ _ _ _ _ _) = _
 rw [hA]
 exact Zzz a b c d e f g h x0 x1 x2 x3 x4 x5 x6 x7
end Go.Proofs.YtpmgdngjbdkdfaaGreatDoor
namespace Go.Proofs.YtpmgdngjbdkdfaaGreatDoor
open Go.Abs
set_option maxRecDepth 10000
abbrev tB (l : Bytes) : List Nat := l.map UInt8.toNat
noncomputable def Zjd (n : Nat) : List Nat -> List Nat := Nat.rec (motive := fun _ => List Nat -> List Nat) (fun _ => []) (fun _ ih l =>
 match l with
 | a :: b :: c :: d :: r => Nat.add (Nat.add (Nat.add (Nat.mul a 16777216) (Nat.mul b 65536)) (Nat.mul c 256)) d :: ih r
 | _ => []) n
theorem Z6t (a b c d : UInt8) (r : Bytes) : ((a.toNat * 16777216 + b.toNat * 65536) + c.toNat * 256) + d.toNat = (Zcj (a :: b :: c :: d :: r) 0).toNat := by
 have ha := a.toNat_lt; have hb := b.toNat_lt; have hc := c.toNat_lt; have hd := d.toNat_lt
 show _ = ((((bw a <<< 24) ||| (bw b <<< 16)) ||| (bw c <<< 8)) ||| bw d).toNat
 rw [<- Zok]
 simp only [BitVec.toNat_add, BitVec.toNat_shiftLeft, Xc4, bw, BitVec.toNat_ofNat, Nat.reducePow]
 omega
theorem Ztk (m : Nat) {l : Bytes} (h : 4 <= l.length) : Zjd (m + 1) (tB l) = (Zcj l 0).toNat :: Zjd m (tB (l.drop 4)) := by
 match l, h with
 | a :: b :: c :: d :: r, _ =>
  rw [<- Z6t]; rfl
theorem Za1 {l : Bytes} {i : Nat} (h : i + 3 < 64) : Zcj (l.take 64) i = Zcj l i := by
 have g : ∀ j, j < 64 -> (l.take 64).getD j 0 = l.getD j 0 := fun j hj => by
  rw [Xbn, Xch, if_pos hj, <- Xbn]
 unfold Zcj
 rw [g i (by omega), g (i + 1) (by omega), g (i + 2) (by omega), g (i + 3) (by omega)]
theorem Zo0 (l : Bytes) : ∀ (n i m : Nat), 4 * (i + n) <= l.length -> Zjd (m + n) (tB (l.drop (4 * i))) = (List.range' i n).map (fun j => (Zcj l (4 * j)).toNat) ++ Zjd m (tB (l.drop (4 * (i + n))))
 | 0, i, m, _ => rfl
 | n + 1, i, m, h => by
  have ih := Zo0 l n (i + 1) m (by omega)
  rw [show m + (n + 1) = (m + n) + 1 by omega, Ztk _ (by rw [Xb5]; omega), Xcs, show 4 * i + 4 = 4 * (i + 1) by omega, ih, Zjh, show i + 1 + n = i + (n + 1) by omega]
  rfl
noncomputable def kblk (K1 K2 : List Nat) (n : Nat) : List Nat -> List Nat -> List Nat := Nat.rec (motive := fun _ => List Nat -> List Nat -> List Nat) (fun _ s => s) (fun _ ih ws s =>
 match ws with
 | w0 :: w1 :: w2 :: w3 :: w4 :: w5 :: w6 :: w7 :: w8 :: w9 :: wa :: wb :: wc :: wd :: we :: wf :: r =>
  kF w0 fun w0 => kF w1 fun w1 => kF w2 fun w2 => kF w3 fun w3 => kF w4 fun w4 => kF w5 fun w5 => kF w6 fun w6 => kF w7 fun w7 => kF w8 fun w8 => kF w9 fun w9 => kF wa fun wa => kF wb fun wb => kF wc fun wc => kF wd fun wd => kF we fun we => kF wf fun wf =>
  ih r (kcmp K1 K2 s w0 w1 w2 w3 w4 w5 w6 w7 w8 w9 wa wb wc wd we wf)
 | _ => []) n
theorem Ztg (K1 K2 : List Nat) (n w0 w1 w2 w3 w4 w5 w6 w7 w8 w9 wa wb wc wd we wf : Nat) (r s : List Nat) : kblk K1 K2 (n + 1) (w0 :: w1 :: w2 :: w3 :: w4 :: w5 :: w6 :: w7 :: w8 :: w9 :: wa :: wb :: wc :: wd :: we :: wf :: r) s = kblk K1 K2 n r (kcmp K1 K2 s w0 w1 w2 w3 w4 w5 w6 w7 w8 w9 wa wb wc wd we wf) := by
 show (kF w0 fun w0 => kF w1 fun w1 => kF w2 fun w2 => kF w3 fun w3 => kF w4 fun w4 => kF w5 fun w5 => kF w6 fun w6 => kF w7 fun w7 => kF w8 fun w8 => kF w9 fun w9 => kF wa fun wa => kF wb fun wb => kF wc fun wc => kF wd fun wd => kF we fun we => kF wf fun wf =>
  kblk K1 K2 n r (kcmp K1 K2 s w0 w1 w2 w3 w4 w5 w6 w7 w8 w9 wa wb wc wd we wf)) = _
 simp only [Zix]
theorem Zns : ∀ (n : Nat) (l : Bytes) (st : List W32), l.length = 64 * n -> st.length = 8 -> kblk (tN (KT.take 48)) (tN (KT.drop 48)) n (Zjd (16 * n) (tB l)) (tN st) = tN (Zfl KT n l st)
 | 0, _, _, _, _ => rfl
 | n + 1, l, st, hl, hs => by
  have hk := Zo0 l 16 0 (16 * n) (by omega)
  rw [Xfg, Xa7, show 16 * n + 16 = 16 * (n + 1) by omega, show 4 * (0 + 16) = 64 from rfl] at hk
  rw [hk]
  have ih := Zns n (l.drop 64) (Zcl KT st (l.take 64)) (by rw [Xb5]; omega) (by rw [Zdb]; exact hs)
  have hc := Ztu st hs (l.take 64)
  rw [Za1 (i := 0) (by decide), Za1 (i := 4) (by decide), Za1 (i := 8) (by decide), Za1 (i := 12) (by decide), Za1 (i := 16) (by decide), Za1 (i := 20) (by decide), Za1 (i := 24) (by decide), Za1 (i := 28) (by decide), Za1 (i := 32) (by decide), Za1 (i := 36) (by decide), Za1 (i := 40) (by decide), Za1 (i := 44) (by decide), Za1 (i := 48) (by decide), Za1 (i := 52) (by decide), Za1 (i := 56) (by decide), Za1 (i := 60) (by decide)] at hc
  rw [Zfl, <- ih, <- hc]
  exact Ztg _ _ n _ _ _ _ _ _ _ _ _ _ _ _ _ _ _ _ _ _
def kout (s : List Nat) : List Nat := match s with
 | [a, b, c, d, e, f, g, h] => [Nat.mod (Nat.shiftRight a 24) 256, Nat.mod (Nat.shiftRight a 16) 256, Nat.mod (Nat.shiftRight a 8) 256, Nat.mod a 256, Nat.mod (Nat.shiftRight b 24) 256, Nat.mod (Nat.shiftRight b 16) 256, Nat.mod (Nat.shiftRight b 8) 256, Nat.mod b 256, Nat.mod (Nat.shiftRight c 24) 256, Nat.mod (Nat.shiftRight c 16) 256, Nat.mod (Nat.shiftRight c 8) 256, Nat.mod c 256, Nat.mod (Nat.shiftRight d 24) 256, Nat.mod (Nat.shiftRight d 16) 256, Nat.mod (Nat.shiftRight d 8) 256, Nat.mod d 256, Nat.mod (Nat.shiftRight e 24) 256, Nat.mod (Nat.shiftRight e 16) 256, Nat.mod (Nat.shiftRight e 8) 256, Nat.mod e 256, Nat.mod (Nat.shiftRight f 24) 256, Nat.mod (Nat.shiftRight f 16) 256, Nat.mod (Nat.shiftRight f 8) 256, Nat.mod f 256, Nat.mod (Nat.shiftRight g 24) 256, Nat.mod (Nat.shiftRight g 16) 256, Nat.mod (Nat.shiftRight g 8) 256, Nat.mod g 256, Nat.mod (Nat.shiftRight h 24) 256, Nat.mod (Nat.shiftRight h 16) 256, Nat.mod (Nat.shiftRight h 8) 256, Nat.mod h 256]
 | _ => []
theorem Zoj (x : W32) (k : Nat) : (wb (x >>> k)).toNat = Nat.mod (Nat.shiftRight x.toNat k) 256 := by
 unfold wb
 rw [Xey, BitVec.toNat_ushiftRight]; rfl
theorem Zry {st : List W32} (hs : st.length = 8) : kout (tN st) = tB (outB st) := by
 obtain ⟨a, b, c, d, e, f, g, h, rfl⟩ := Zqs hs
 have z : ∀ x : W32, (wb (x >>> 0)).toNat = Nat.mod x.toNat 256 := fun x => Zoj x 0
 have hr : List.range 32 = [0, 1, 2, 3, 4, 5, 6, 7, 8, 9, 10, 11, 12, 13, 14, 15, 16, 17, 18, 19, 20, 21, 22, 23, 24, 25, 26, 27, 28, 29, 30, 31] := by decide
 have hl : outB [a, b, c, d, e, f, g, h] = [wb (a >>> 24), wb (a >>> 16), wb (a >>> 8), wb (a >>> 0), wb (b >>> 24), wb (b >>> 16), wb (b >>> 8), wb (b >>> 0), wb (c >>> 24), wb (c >>> 16), wb (c >>> 8), wb (c >>> 0), wb (d >>> 24), wb (d >>> 16), wb (d >>> 8), wb (d >>> 0), wb (e >>> 24), wb (e >>> 16), wb (e >>> 8), wb (e >>> 0), wb (f >>> 24), wb (f >>> 16), wb (f >>> 8), wb (f >>> 0), wb (g >>> 24), wb (g >>> 16), wb (g >>> 8), wb (g >>> 0), wb (h >>> 24), wb (h >>> 16), wb (h >>> 8), wb (h >>> 0)] := by
  unfold outB
  rw [hr]; rfl
 rw [hl]
 simp only [tB, Xam, Xa4, Zoj, z]
 rfl
theorem Zup {st st' : List W32} (h : outB st = outB st') : (st.getD 0 0).toNat = (st'.getD 0 0).toNat := by
 have key : ∀ i, i < 4 -> (wb ((st.getD 0 0) >>> (24 - 8 * i))).toNat = (wb ((st'.getD 0 0) >>> (24 - 8 * i))).toNat := fun i hi => by
  have e1 := Zg8 st (i := i) (by rw [Zd6]; omega)
  have e2 := Zg8 st' (i := i) (by rw [Zd6]; omega)
  rw [show i / 4 = 0 by omega, show i % 4 = i by omega] at e1 e2
  rw [<- e1, <- e2]
  simp only [h]
 have h0 := key 0 (by decide); have h1 := key 1 (by decide); have h2 := key 2 (by decide); have h3 := key 3 (by decide)
 rw [Zoj, Zoj] at h0 h1 h2 h3
 have a := (st.getD 0 0).isLt
 have b := (st'.getD 0 0).isLt
 generalize (st.getD 0 0).toNat = x at *
 generalize (st'.getD 0 0).toNat = z at *
 have d : ∀ (x k : Nat), Nat.mod (Nat.shiftRight x k) 256 = x / 2 ^ k % 256 := fun x k => by
  show (x >>> k) % 256 = _
  rw [Xe2]
 rw [d, d] at h0 h1 h2 h3
 simp only [Xfg, Nat.sub_zero, Xb9, Nat.reduceMul, Nat.reduceSub, Nat.reducePow, Nat.div_one] at h0 h1 h2 h3 a b
 omega
def knum (n : Nat) : List Nat := [0, 0, 0, 0, 0, 0, Nat.mod (Nat.div n 256) 256, Nat.mod n 256]
theorem Zeq {n : Nat} (h : n < 65536) : tB (numB n) = knum n := by
 have hr : List.range 8 = [0, 1, 2, 3, 4, 5, 6, 7] := by decide
 have hn : ∀ m, (UInt8.ofNat m).toNat = m % 256 := fun m => Xey
 unfold numB tB
 rw [hr]
 simp only [Xam, Xa4, hn, Xfg, Nat.sub_zero, Nat.reduceMul, Nat.reduceSub, Nat.reducePow, Xb9, Nat.div_one]
 have e : ∀ k, 65536 <= k -> n / k % 256 = 0 := fun k hk => by rw [Nat.div_eq_of_lt (by omega)]
 rw [e 72057594037927936 (by decide), e 281474976710656 (by decide), e 1099511627776 (by decide), e 4294967296 (by decide), e 16777216 (by decide), e 65536 (by decide)]
 rfl
noncomputable def kapp (l m : List Nat) : List Nat := List.rec (motive := fun _ => List Nat) m (fun a _ ih => a :: ih) l
theorem Zfi : ∀ l m : List Nat, kapp l m = l ++ m
 | [], _ => rfl
 | a :: l, m => congrArg (a :: ·) (Zfi l m)
noncomputable def kent (kind idl tail : List Nat) (m : Nat) : Nat -> List Nat := Nat.rec (motive := fun _ => Nat -> List Nat) (fun _ => tail) (fun _ ih k =>
 kapp [0, 0, 0, 0, 0, 0, 0, 4] (kapp kind (0 :: 0 :: 0 :: 0 :: 0 :: 0 :: 0 :: 1 :: Nat.add 65 k :: 0 :: 0 :: 0 :: 0 :: 0 :: 0 :: 0 :: 32 :: kapp idl (kF (Nat.succ k) ih)))) m
noncomputable def kzer (n : Nat) (t : List Nat) : List Nat := Nat.rec (motive := fun _ => List Nat) t (fun _ ih => 0 :: ih) n
theorem Zuc (t : List Nat) : ∀ n, kzer n t = tB (List.replicate n 0) ++ t
 | 0 => rfl
 | n + 1 => by
  show 0 :: kzer n t = _
  rw [Zuc t n, Xcw]; rfl
def Zg4 (tr : Bool) : Bytes := if tr then treeK else Zb2
theorem Ztx (tr : Bool) (id : Bytes) (hid : id.length = 32) (tail : List Nat) : ∀ m k, k + m <= 40 -> kent (tB (Zg4 tr)) (tB id) tail m k = tB (Zaw (Zat ((List.range' k m).map fun k => ⟨nmK k, tr, id⟩))) ++ tail
 | 0, _, _ => rfl
 | m + 1, k, hk => by
  have ih := Ztx tr id hid tail m (k + 1) (by omega)
  show kapp [0, 0, 0, 0, 0, 0, 0, 4] (kapp (tB (Zg4 tr)) (0 :: 0 :: 0 :: 0 :: 0 :: 0 :: 0 :: 1 :: Nat.add 65 k :: 0 :: 0 :: 0 :: 0 :: 0 :: 0 :: 0 :: 32 :: kapp (tB id) (kF (Nat.succ k) (kent (tB (Zg4 tr)) (tB id) tail m)))) = _
  rw [Zix, Zfi, Zfi, Zfi, ih, Xds, Xam]
  show _ = tB (Zaw (Zg4 tr :: nmK k :: id :: Zat _)) ++ tail
  rw [Za7, Za7, Za7]
  have h4 : (Zg4 tr).length = 4 := by cases tr <;> rfl
  rw [h4, show (nmK k).length = 1 from rfl, hid]
  simp only [tB, Xb1, Xai]
  rw [show (numB 4).map UInt8.toNat = [0, 0, 0, 0, 0, 0, 0, 4] from Zeq (by decide), show (numB 1).map UInt8.toNat = [0, 0, 0, 0, 0, 0, 0, 1] from Zeq (by decide), show (numB 32).map UInt8.toNat = [0, 0, 0, 0, 0, 0, 0, 32] from Zeq (by decide), show (nmK k).map UInt8.toNat = [65 + k] from congrArg (fun x => [x]) (Zo7 (by omega))]
  rfl
def klen (w : Nat) : Nat := Nat.add 36 (Nat.mul 61 w)
def knb (n : Nat) : Nat := (n + 9 + padN n) / 64
noncomputable def kmsg (w : Nat) (kind idl : List Nat) : List Nat :=
 kapp [0, 0, 0, 0, 0, 0, 0, 2, 0, 0, 0, 0, 0, 0, 0, 4, 116, 114, 101, 101] (kapp (knum (Nat.add 8 (Nat.mul 61 w))) (kapp (knum (Nat.mul 3 w)) (kent kind idl (128 :: kzer (padN (klen w)) (knum (Nat.mul 8 (klen w)))) w 0)))
def msgB (w : Nat) (tr : Bool) (id : Bytes) : Bytes := Zbh [treeK, Zah (lsC w tr id)]
theorem sumP (tr : Bool) (id : Bytes) (hid : id.length = 32) : ∀ l : List Nat, sumL (Zat (l.map fun k => (⟨nmK k, tr, id⟩ : En))) = 61 * l.length
 | [] => rfl
 | k :: l => by
  have ih := sumP tr id hid l
  show sumL (Zg4 tr :: nmK k :: id :: Zat _) = _
  rw [Zbc, Zbc, Zbc, ih, hid, show (nmK k).length = 1 from rfl, Xa1]
  have h4 : (Zg4 tr).length = 4 := by cases tr <;> rfl
  omega
theorem Zmp (w : Nat) (tr : Bool) (id : Bytes) (hid : id.length = 32) : (Zah (lsC w tr id)).length = 8 + 61 * w := by
 rw [Zah, Zcf, lsC, sumP tr id hid, List.length_range]
theorem Zrz (w : Nat) (tr : Bool) (id : Bytes) (hid : id.length = 32) : (msgB w tr id).length = klen w := by
 rw [msgB, Zcf, Zbc, Zbc, Zmp w tr id hid]
 show 8 + (8 + 4 + (8 + (8 + 61 * w) + 0)) = 36 + 61 * w
 omega
theorem Zzq {w : Nat} (hw : w <= 40) (tr : Bool) {id : Bytes} (hid : id.length = 32) : kmsg w (tB (Zg4 tr)) (tB id) = tB (padB (msgB w tr id).length (msgB w tr id)) := by
 have hl := Zrz w tr id hid
 have hk : klen w = 36 + 61 * w := rfl
 have hent := Ztx tr id hid (128 :: kzer (padN (klen w)) (knum (Nat.mul 8 (klen w)))) w 0 (by omega)
 have hlen : lenB (klen w) = numB (8 * klen w) := rfl
 unfold padB
 rw [hl, hlen]
 unfold msgB Zbh
 rw [Za7, Za7, show Zaw [] = [] from rfl, Zmp w tr id hid]
 unfold kmsg
 rw [Zfi, Zfi, Zfi, hent, Zuc]
 simp only [tB, Xb1, Xai, Xam, Xau]
 have hT : (Zah (lsC w tr id)).map UInt8.toNat = knum (3 * w) ++ (Zaw (Zat (lsC w tr id))).map UInt8.toNat := by
  unfold Zah Zbh
  rw [Zbr, Zgk, Xb1, show (numB (3 * w)).map UInt8.toNat = knum (3 * w) from Zeq (by omega)]
 rw [hT, show (numB [treeK, Zah (lsC w tr id)].length).map UInt8.toNat = [0, 0, 0, 0, 0, 0, 0, 2] from Zeq (n := 2) (by decide), show (numB treeK.length).map UInt8.toNat = [0, 0, 0, 0, 0, 0, 0, 4] from Zeq (by decide), show (numB (8 + 61 * w)).map UInt8.toNat = knum (8 + 61 * w) from Zeq (by omega), show (numB (8 * klen w)).map UInt8.toNat = knum (8 * klen w) from Zeq (by omega)]
 have hls : lsC w tr id = (List.range' 0 w).map fun k => ⟨nmK k, tr, id⟩ := by
  unfold lsC
  rw [Xeo]
 rw [<- hls, Xai]
 rfl
end Go.Proofs.YtpmgdngjbdkdfaaGreatDoor
namespace Go.Proofs.YtpmgdngjbdkdfaaGreatDoor
open Go.Abs
set_option maxRecDepth 10000
def kL1 : List Nat := [1116352408, 1899447441, 3049323471, 3921009573, 961987163, 1508970993, 2453635748, 2870763221, 3624381080, 310598401, 607225278, 1426881987, 1925078388, 2162078206, 2614888103, 3248222580, 3835390401, 4022224774, 264347078, 604807628, 770255983, 1249150122, 1555081692, 1996064986, 2554220882, 2821834349, 2952996808, 3210313671, 3336571891, 3584528711, 113926993, 338241895, 666307205, 773529912, 1294757372, 1396182291, 1695183700, 1986661051, 2177026350, 2456956037, 2730485921, 2820302411, 3259730800, 3345764771, 3516065817, 3600352804, 4094571909, 275423344]
def kL2 : List Nat := [430227734, 506948616, 659060556, 883997877, 958139571, 1322822218, 1537002063, 1747873779, 1955562222, 2024104815, 2227730452, 2361852424, 2428436474, 2756734187, 3204031479, 3329325298]
def kH0 : List Nat := [1779033703, 3144134277, 1013904242, 2773480762, 1359893119, 2600822924, 528734635, 1541459225]
theorem Zxm : kL1 = tN (KT.take 48) := by decide
theorem Zxl : kL2 = tN (KT.drop 48) := by decide
theorem Zxz : kH0 = tN H0 := by decide
noncomputable def kdig (w : Nat) (kind idl : List Nat) : List Nat := kF (knb (klen w)) fun n => kblk kL1 kL2 n (Zjd (Nat.mul 16 n) (kmsg w kind idl)) kH0
noncomputable def khas (a : Nat) (l : List Nat) : Bool := List.rec (motive := fun _ => Bool) false (fun x _ ih => match Nat.beq a x with | true => true | false => ih) l
noncomputable def Z4g (ih : List Nat -> List Nat -> List Nat -> Bool) (r seen : List Nat) : Bool := match r with
 | [a, b, c, d, e, f, g, h] => match khas a seen with
  | true => false
  | false => ih [116, 114, 101, 101] (kout [a, b, c, d, e, f, g, h]) (a :: seen)
 | _ => false
noncomputable def kchk (w m : Nat) : List Nat -> List Nat -> List Nat -> Bool := Nat.rec (motive := fun _ => List Nat -> List Nat -> List Nat -> Bool) (fun _ _ _ => true) (fun _ ih kind idl seen => Z4g ih (kdig w kind idl) seen) m
def kblob : List Nat := [50, 189, 210, 183, 51, 245, 147, 241, 211, 25, 79, 26, 69, 134, 40, 51, 213, 7, 178, 97, 38, 102, 154, 64, 57, 179, 84, 3, 44, 154, 25, 145]
def stC (w i : Nat) : List W32 := Zg3 (msgB w (decide (0 < i)) (idC w i)).length (msgB w (decide (0 < i)) (idC w i)) H0
theorem Zm0 (w i : Nat) : idC w (i + 1) = outB (stC w i) := rfl
theorem Ztj (w i : Nat) : (stC w i).length = 8 := by
 unfold stC Zg3
 rw [Ziq]; rfl
theorem Z0b {w : Nat} (hw : w <= 40) (i : Nat) : kdig w (tB (Zg4 (decide (0 < i)))) (tB (idC w i)) = tN (stC w i) := by
 have hid := Zdt w i
 have hl := Zrz w (decide (0 < i)) (idC w i) hid
 have hs := (Zhw (klen w)).1
 unfold kdig
 rw [Zix, Zzq hw (decide (0 < i)) hid, Zxm, Zxl, Zxz]
 have hb := Zns (knb (klen w)) (padB (msgB w (decide (0 < i)) (idC w i)).length (msgB w (decide (0 < i)) (idC w i))) H0 (by rw [Zkl, hl]; unfold knb; omega) rfl
 refine hb.trans ?_
 unfold stC Zg3 knb
 rw [hl]
theorem Zot {a : Nat} : ∀ {l : List Nat}, khas a l = true <-> a ∈ l
 | [] => by simp [khas]
 | x :: l => by
  have ih := Zot (a := a) (l := l)
  show (match Nat.beq a x with | true => true | false => khas a l) = true <-> _
  cases hx : Nat.beq a x with
  | true => simp [Xaf hx]
  | false =>
   have : a ≠ x := fun h => by rw [h, Xdz] at hx; cases hx
   rw [Xay, <- ih]
   simp [this]
def hdC (w j : Nat) : Nat := ((stC w j).getD 0 0).toNat
theorem Zmj {w : Nat} (hw : w <= 40) : ∀ (m i : Nat) (seen : List Nat), kchk w m (tB (Zg4 (decide (0 < i)))) (tB (idC w i)) seen = true -> (∀ t, t < m -> hdC w (i + t) ∉ seen) /\ ∀ t u, t < u -> u < m -> hdC w (i + t) ≠ hdC w (i + u)
 | 0, _, _, _ => ⟨fun t h => by omega, fun t u h1 h2 => by omega⟩
 | m + 1, i, seen, hc => by
  have hc' : Z4g (kchk w m) (kdig w (tB (Zg4 (decide (0 < i)))) (tB (idC w i))) seen = true := hc
  rw [Z0b hw i] at hc'
  obtain ⟨a, b, c, d, e, f, g, h, hst⟩ := Zqs (Ztj w i)
  have hout : kout (tN (stC w i)) = tB (idC w (i + 1)) := by rw [Zry (Ztj w i), Zm0]
  have hd : hdC w i = a.toNat := by unfold hdC; rw [hst]; rfl
  rw [hst] at hc' hout
  have hc2 : (match khas a.toNat seen with
   | true => false
   | false => kchk w m [116, 114, 101, 101] (kout (tN [a, b, c, d, e, f, g, h])) (a.toNat :: seen)) = true := hc'
  cases hs : khas a.toNat seen with
  | true => rw [hs] at hc2; cases hc2
  | false =>
   rw [hs, hout] at hc2
   have hc3 : kchk w m (tB (Zg4 (decide (0 < i + 1)))) (tB (idC w (i + 1))) (a.toNat :: seen) = true := by
    rw [decide_eq_true (show 0 < i + 1 by omega)]; exact hc2
   obtain ⟨h1, h2⟩ := Zmj hw m (i + 1) _ hc3
   have hns : hdC w i ∉ seen := fun hm => by
    rw [hd] at hm
    rw [Zot.2 hm] at hs; cases hs
   have hnx : ∀ t, t < m -> hdC w (i + (t + 1)) ∉ a.toNat :: seen := fun t ht => by
    have := h1 t ht
    rwa [show i + 1 + t = i + (t + 1) by omega] at this
   refine ⟨fun t ht => ?_, fun t u htu hu => ?_⟩
   ·cases t with
    | zero => exact hns
    | succ t => exact fun hm => hnx t (by omega) (Xbu _ hm)
   ·cases u with
    | zero => omega
    | succ u =>
     cases t with
     | zero =>
      intro he
      refine hnx u (by omega) ?_
      rw [<- he, Xce, hd]
      exact Xex
     | succ t =>
      have := h2 t u (by omega) (by omega)
      rwa [show i + 1 + t = i + (t + 1) by omega, show i + 1 + u = i + (u + 1) by omega] at this
theorem Zu7 (w : Nat) : tB (idC w 0) = kblob := by
 have hp : tB (padB 29 (Zbh [Zb2, [120]])) = [0, 0, 0, 0, 0, 0, 0, 2, 0, 0, 0, 0, 0, 0, 0, 4, 98, 108, 111, 98, 0, 0, 0, 0, 0, 0, 0, 1, 120, 128, 0, 0, 0, 0, 0, 0, 0, 0, 0, 0, 0, 0, 0, 0, 0, 0, 0, 0, 0, 0, 0, 0, 0, 0, 0, 0, 0, 0, 0, 0, 0, 0, 0, 232] := by decide
 have hb := Zns 1 (padB 29 (Zbh [Zb2, [120]])) H0 (by decide) rfl
 rw [hp] at hb
 have hd : idC w 0 = outB (Zfl KT 1 (padB 29 (Zbh [Zb2, [120]])) H0) := rfl
 rw [hd, <- Zry (by rw [Ziq]; rfl), <- hb, <- Zxm, <- Zxl, <- Zxz]
 decide +kernel
theorem Za0 {w : Nat} (hw : w <= 40) (h : kchk w 30 [98, 108, 111, 98] kblob [] = true) : Dif w 30 := by
 rw [<- Zu7 w] at h
 have := (Zmj hw 30 0 [] h).2
 intro i j hij hj he
 rw [Zm0, Zm0] at he
 have h1 := this i j hij hj
 rw [Xan, Xan] at h1
 exact h1 (Zup he)
end Go.Proofs.YtpmgdngjbdkdfaaGreatDoor
