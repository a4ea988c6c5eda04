/-
  Parts of the proof, one behind the other. Own work of this seat; some printed by its programs.
-/
import Derived.Test.YtpmgdngjbdkdfaaDoorM0
import Derived.WideKeyRuns
import Derived.IntWalk
import Derived.Test.YtpmgdngjbdkdfaaDoorRows
import Derived.Deep.Slices
import Derived.ReadAgain
import Derived.Carry
import Derived.OpenShut
namespace Go.Abs
open Go.RowKit
section
variable {P : Program} {W : World} {G : Nat -> Nat} {φ : Nat -> Option Nat}
theorem Zwt (em : Bool) : ∀ (n : Nat) (t : TypeId) (ks : List Kd), Zd9 P n t = some ks -> ∀ (d : Nat), n <= d -> ∀ (cs : List V) (X : Array Value) (off : Nat) (r : Bool),
  RepL W G φ cs X -> Zar ks ((cs.drop off).take ks.length) ((cs.drop off).take ks.length) = some r ->
  ∃ a, (part t X off).run P W = .ok a W /\ (Instr.checkKey em d t a).run P W = .ok () W := by
 intro n
 induction n with
 | zero => intro t ks h; simp [Zd9] at h
 | succ n ih =>
  intro t ks h d hd cs X off r hX hr
  obtain ⟨d, rfl⟩ : ∃ m, d = m + 1 := ⟨d - 1, by omega⟩
  have leaf : ∀ {u : TypeDesc} {k : Kd}, P.underlying t = some u -> (∀ fs, u ≠ .struct fs) -> (∀ m e, u ≠ .array m e) -> Zar [k] ((cs.drop off).take 1) ((cs.drop off).take 1) = some r ->
    ∃ v x, (part t X off).run P W = .ok x W /\ Rep W G φ v x := by
   intro u k hu h1 h2 hr
   obtain ⟨v, vs, w, ws, b, r', e1, e2, h3, h4, rfl⟩ := Zdf hr
   have hv' : cs[off]? = some v := by
    have := congrArg (·[0]?) e1
    simpa [Za6] using this
   have hlt : off < X.size := by rw [<- hX.1]; exact (Xae.1 hv').1
   refine ⟨v, X[off], ?_, hX.2 off v _ hv' (Xar hlt)⟩
   have ha : (isAgg t).run P W = .ok false W := by
    simp only [isAgg, Sem.run_bind, Zaa hu, Result.andThen_ok]
    cases u <;> first | rfl | exact (h1 _ rfl).elim | exact (h2 _ _ rfl).elim
   simp [part, ha, hlt]
  unfold Zd9 at h
  split at h
  ·rename_i k hu
   simp only [Xac] at h; subst h
   obtain ⟨v, x, p1, _⟩ := leaf hu (by simp) (by simp) hr
   exact ⟨x, p1, by simp [Instr.checkKey, Zaa hu]⟩
  ·rename_i hu
   simp only [Xac] at h; subst h
   obtain ⟨v, x, p1, _⟩ := leaf hu (by simp) (by simp) hr
   exact ⟨x, p1, by simp [Instr.checkKey, Zaa hu]⟩
  ·rename_i hu
   simp only [Xac] at h; subst h
   obtain ⟨v, x, p1, _⟩ := leaf hu (by simp) (by simp) hr
   exact ⟨x, p1, by simp [Instr.checkKey, Zaa hu]⟩
  ·rename_i fs hu
   split at h
   ·rename_i hc
    obtain ⟨hst, hit⟩ := hc
    simp only [Xab] at h
    obtain ⟨ks', hks', h⟩ := h
    split at h
    ·rename_i hct
     simp only [Xac] at h; subst h
     obtain ⟨i, hi, his⟩ := Za1 hit
     obtain ⟨hl1, _⟩ := Zal hr
     have ha : (isAgg t).run P W = .ok true W := by simp only [isAgg, Sem.run_bind, Zaa hu, Result.andThen_ok]; rfl
     refine ⟨.agg (X.extract off (off + i.size)), by simp [part, ha, Zaf hi], ?_⟩
     have hs0 : i.size = ks'.length := by rw [his, hct]
     have hcX : RepL W G φ ((cs.drop off).take ks'.length) (X.extract off (off + i.size)) := by
      rcases Xc4 ks'.length with h0 | h0
      ·rw [hs0, h0]; exact ⟨by simp; omega, fun i c x hc => by simp at hc⟩
      ·have := hX.cut off i.size (by simp at hl1; omega); rwa [hs0] at this ⊢
     simp only [Instr.checkKey, Sem.run_bind, Zaa hu, Result.andThen_ok]
     rw [<- Array.forIn_toList]
     have key : ∀ (fl : List Field) (o : Nat) (kl : List Kd) (r : Bool), Zcq (Zd9 P n) P.cellsOf o fl = some kl -> Zar kl (((cs.drop off).take ks'.length).drop o) (((cs.drop off).take ks'.length).drop o) = some r ->
       (forIn (m := Sem) fl PUnit.unit fun (f : Field) _ => do
        if f.name ≠ "_" then
         Instr.checkKey em d f.type (<- part f.type (X.extract off (off + i.size)) f.offset)
         pure (ForInStep.yield PUnit.unit)
        else pure (ForInStep.yield PUnit.unit)).run P W = .ok PUnit.unit W := by
      intro fl
      induction fl with
      | nil => intro o kl r _ _; simp
      | cons f fl ihf =>
       intro o kl r h1 h2
       simp only [Zcq, Xab] at h1
       obtain ⟨k0, hk0, h1⟩ := h1
       split at h1
       ·rename_i hcf
        obtain ⟨hn, ho, hcl⟩ := hcf
        simp only [Xaa] at h1
        obtain ⟨k1, hk1, rfl⟩ := h1
        obtain ⟨hL1, _⟩ := Zal h2
        simp only [Xai] at hL1
        have sp : ∀ (l : List V), l = l.take k0.length ++ l.drop k0.length := fun l => (Xbi _ _).symm
        rw [sp (((cs.drop off).take ks'.length).drop o)] at h2
        obtain ⟨r1, r2, h3, h4, rfl⟩ := Zc5 (by rw [Xbt, hL1]; omega) (by rw [Xbt, hL1]; omega) h2
        obtain ⟨a, p1, p2⟩ := ih f.type k0 hk0 d (by omega) _ _ o r1 hcX h3
        rw [Xdh] at h4
        have h5 := ihf (o + k0.length) k1 r2 hk1 h4
        subst ho
        simp only [List.forIn_cons, Sem.run_bind, hn, ne_eq, not_false_eq_true, if_true, Result.andThen_ok, p1, p2, Sem.run_pure]
        exact h5
       ·simp at h1
     exact (congrArg (fun z => Result.andThen z fun a w' => Sem.run P (pure ()) w') (key fs.toList 0 ks' r hks' (by simpa using hr))).trans rfl
    ·simp at h
   ·simp at h
  ·rename_i m e hu
   simp only [Xab] at h
   obtain ⟨k1, hk1, h⟩ := h
   split at h
   ·rename_i hc
    obtain ⟨hce, hie, hit, hct⟩ := hc
    simp only [Xac] at h; subst h
    obtain ⟨i, hi, his⟩ := Za1 hit
    obtain ⟨ie, hie', hies⟩ := Za1 hie
    have hkl : (List.replicate m k1).flatten.length = m * k1.length := by simp
    rw [hkl] at hr
    obtain ⟨hl1, _⟩ := Zal hr
    rw [hkl] at hl1
    have ha : (isAgg t).run P W = .ok true W := by simp only [isAgg, Sem.run_bind, Zaa hu, Result.andThen_ok]; rfl
    refine ⟨.agg (X.extract off (off + i.size)), by simp [part, ha, Zaf hi], ?_⟩
    have hs0 : i.size = m * k1.length := by rw [his, hct]
    have hcX : RepL W G φ ((cs.drop off).take (m * k1.length)) (X.extract off (off + i.size)) := by
     rcases Xc4 (m * k1.length) with h0 | h0
     ·rw [hs0, h0]; exact ⟨by simp; omega, fun i c x hc => by simp at hc⟩
     ·have := hX.cut off i.size (by simp at hl1; omega); rwa [hs0] at this ⊢
    simp only [Instr.checkKey, Sem.run_bind, Zaa hu, Result.andThen_ok]
    simp only [Std.Legacy.Range.forIn_eq_forIn_range', Std.Legacy.Range.size, Nat.sub_zero, Nat.add_one_sub_one, Nat.div_one]
    have key : ∀ (c j : Nat) (r : Bool), Zar (List.replicate c k1).flatten (((cs.drop off).take (m * k1.length)).drop (j * k1.length)) (((cs.drop off).take (m * k1.length)).drop (j * k1.length)) = some r ->
      (forIn (m := Sem) (List.range' j c) PUnit.unit fun (i' : Nat) _ => do
       Instr.checkKey em d e (<- part e (X.extract off (off + i.size)) (i' * (<- sizeOf e)))
       pure (ForInStep.yield PUnit.unit)).run P W = .ok PUnit.unit W := by
     intro c
     induction c with
     | zero => intro j r _; simp
     | succ c ihc =>
      intro j r h2
      rw [Xdd, Xce] at h2
      obtain ⟨hL1, _⟩ := Zal h2
      simp only [Xai] at hL1
      have sp : ∀ (l : List V), l = l.take k1.length ++ l.drop k1.length := fun l => (Xbi _ _).symm
      rw [sp (((cs.drop off).take (m * k1.length)).drop (j * k1.length))] at h2
      obtain ⟨r1, r2, h3, h4, rfl⟩ := Zc5 (by rw [Xbt, hL1]; omega) (by rw [Xbt, hL1]; omega) h2
      obtain ⟨a, p1, p2⟩ := ih e k1 hk1 d (by omega) _ _ (j * k1.length) r1 hcX h3
      rw [Xdh, <- Xcm] at h4
      have h5 := ihc (j + 1) r2 h4
      rw [Xe2]
      simp only [List.forIn_cons, Sem.run_bind, Zaf hie', hies, hce, Result.andThen_ok, p1, p2, Sem.run_pure]
      exact h5
    exact (congrArg (fun z => Result.andThen z fun a w' => Sem.run P (pure ()) w') (key m 0 r (by simpa using hr))).trans rfl
   ·simp at h
  ·simp at h
theorem Ziu {t : TypeId} {q : KK} (h : keyK P t = some q) : ∃ ks, Zd9 P 60 t = some ks /\ ((q = (true, ks) /\ ((∃ fs, P.underlying t = some (.struct fs)) \/ (∃ m e, P.underlying t = some (.array m e)))) \/
  (q = (false, ks) /\ ∃ u, P.underlying t = some u /\ (∀ fs, u ≠ .struct fs) /\ (∀ m e, u ≠ .array m e))) := by
 unfold keyK at h
 simp only [Xaa] at h
 obtain ⟨ks, hks, rfl⟩ := h
 refine ⟨ks, hks, ?_⟩
 cases hu : P.underlying t with
 | none => unfold Zd9 at hks; rw [hu] at hks; simp at hks
 | some u =>
  cases u with
  | struct fs => exact .inl ⟨rfl, .inl ⟨_, rfl⟩⟩
  | array m e => exact .inl ⟨rfl, .inr ⟨_, _, rfl⟩⟩
  | _ => exact .inr ⟨rfl, _, rfl, fun _ e => (by cases e), fun _ _ e => (by cases e)⟩
theorem Ztv {ks : List Kd} {k k' : V} {r : Bool} (h : Zdi (true, ks) k k' = some r) : ∃ x y, k = .agg x /\ k' = .agg y /\ Zar ks x y = some r := by
 cases k <;> cases k' <;> simp only [Zdi, reduceCtorEq] at h
 exact ⟨_, _, rfl, rfl, h⟩
theorem Znm {ks : List Kd} {k k' : V} {r : Bool} (h : Zdi (false, ks) k k' = some r) : k.sc = true /\ k'.sc = true /\ Zar ks [k] [k'] = some r := by
 simp only [Zdi] at h
 split at h
 ·rename_i hc; exact ⟨hc.1, hc.2, h⟩
 ·cases h
theorem Zkp {t : TypeId} {q : KK} {k : V} {x : Value} {r : Bool} (hq : keyK P t = some q) (hk : Rep W G φ k x) {k' : V} (he : Zdi q k k' = some r) :
  ∃ ks, Zd9 P 60 t = some ks /\ q.2 = ks /\ RepL W G φ k.cells x.cells /\ k.cells.length = ks.length /\ (part t x.cells 0).run P W = .ok x W /\ Zar ks k.cells k'.cells = some r /\ k'.cells.length = ks.length /\ (∀ x' : Value, Rep W G φ k' x' -> (part t x'.cells 0).run P W = .ok x' W) := by
 obtain ⟨ks, hks, hcase⟩ := Ziu hq
 rcases hcase with ⟨rfl, ht⟩ | ⟨rfl, u, hu, hn1, hn2⟩
 ·have ha : (isAgg t).run P W = .ok true W := by rcases ht with ⟨fs, ht⟩ | ⟨m, e, ht⟩ <;> (simp only [isAgg, Sem.run_bind, Zaa ht, Result.andThen_ok]; rfl)
  have hi : ∃ i, P.info? t = some i /\ i.size = ks.length := by
   have hk' := hks
   unfold Zd9 at hk'
   rcases ht with ⟨fs, ht⟩ | ⟨m, e, ht⟩
   ·rw [ht] at hk'
    simp only [] at hk'
    split at hk'
    ·rename_i hc
     simp only [Xab] at hk'
     obtain ⟨k', _, hk'⟩ := hk'
     split at hk'
     ·rename_i hc2
      simp only [Xac] at hk'; subst hk'
      obtain ⟨i, hi, his⟩ := Za1 hc.2
      exact ⟨i, hi, by rw [his, hc2]⟩
     ·simp at hk'
    ·simp at hk'
   ·rw [ht] at hk'
    simp only [Xab] at hk'
    obtain ⟨k', _, hk'⟩ := hk'
    split at hk'
    ·rename_i hc
     simp only [Xac] at hk'; subst hk'
     obtain ⟨i, hi, his⟩ := Za1 hc.2.2.1
     exact ⟨i, hi, by rw [his, hc.2.2.2]; simp⟩
    ·simp at hk'
  obtain ⟨i, hi, his⟩ := hi
  have wagg : ∀ {ds : List V} {y : Value}, ds.length = ks.length -> Rep W G φ (.agg ds) y -> (part t y.cells 0).run P W = .ok y W := by
   intro ds y hl hr
   cases hr with
   | agg _ Y hlY _ _ =>
    simp only [part, Sem.run_bind, ha, Result.andThen_ok, if_true, Zaf hi, Xan, Sem.run_pure, Value.cells]
    congr 2
    have : Y.size = i.size := by rw [<- hlY, hl, his]
    rw [<- this]; simp
  obtain ⟨a, b, rfl, rfl, he⟩ := Ztv he
  obtain ⟨l1, l2⟩ := Zal he
  exact ⟨ks, hks, rfl, hk.cells, l1, wagg l1 hk, he, l2, fun x' hx' => wagg l2 hx'⟩
 ·have ha : (isAgg t).run P W = .ok false W := by
   simp only [isAgg, Sem.run_bind, Zaa hu, Result.andThen_ok]
   cases u <;> first | rfl | exact (hn1 _ rfl).elim | exact (hn2 _ _ rfl).elim
  have wone : ∀ {v : V} {y : Value}, v.sc = true -> Rep W G φ v y -> (part t y.cells 0).run P W = .ok y W := by
   intro v y hs hr
   have hc : y.cells = #[y] := by
    have := hr.one hs
    cases y <;> first | rfl | (simp [Value.oneCell'] at this)
   simp [part, ha, hc]
  obtain ⟨h1, h2, he⟩ := Znm he
  obtain ⟨l1, l2⟩ := Zal he
  have hc1 : k.cells = [k] := Zgb h1
  have hc2 : k'.cells = [k'] := Zgb h2
  exact ⟨ks, hks, rfl, hk.cells, by rw [hc1]; exact l1, wone h1 hk, by rw [hc1, hc2]; exact he, by rw [hc2]; exact l2, fun x' hx' => wone h2 hx'⟩
theorem Zme {t : TypeId} {q : KK} {k : V} {x : Value} {r : Bool} (em : Bool) (hq : keyK P t = some q) (hk : Rep W G φ k x) (he : Zdi q k k = some r) : (Instr.checkKey em 10000 t x).run P W = .ok () W := by
 obtain ⟨ks, hks, _, hL, hl, hp, hf, _, _⟩ := Zkp hq hk he
 obtain ⟨a, p1, p2⟩ := Zwt (P := P) em 60 t ks hks 10000 (by omega) k.cells x.cells 0 r hL (by rw [Xbc, <- hl, Xee]; exact hf)
 rw [hp] at p1; cases p1; exact p2
theorem Zzj {t : TypeId} {q : KK} {k k' : V} {x x' : Value} {r : Bool} (hq : keyK P t = some q) (hk : Rep W G φ k x) (hk' : Rep W G φ k' x') (he : Zdi q k k' = some r) : (Op.equal t x x').run P W = .ok r W := by
 obtain ⟨ks, hks, _, hL, hl, hp, hf, hl', hp'⟩ := Zkp hq hk he
 obtain ⟨a, b, p1, p2, p3⟩ := Zt4 (P := P) 60 t ks hks 10000 (by omega) k.cells k'.cells x.cells x'.cells 0 r hL hk'.cells (by rw [Xbc, Xbc, <- hl, Xee, hl, <- hl', Xee]; exact hf)
 rw [hp] at p1; cases p1
 rw [hp' x' hk'] at p2; cases p2
 exact p3
def mIdx (q : KK) (k : V) : List (V × V) -> Option (Option Nat)
 | [] => some none
 | p :: r => (Zdi q k p.1).bind fun b => if b then some (some 0) else (mIdx q k r).map fun o => o.map (· + 1)
theorem Zl6 {q : KK} {k : V} : ∀ {l : List (V × V)} {r : Option V}, Zex q k l = some r -> ∃ o, mIdx q k l = some o /\ ((o = none /\ r = none) \/ ∃ j p, o = some j /\ l[j]? = some p /\ r = some p.2)
 | [], r, h => by simp only [Zex, Xac] at h; exact ⟨none, rfl, .inl ⟨rfl, h.symm⟩⟩
 | p :: l, r, h => by
  simp only [Zex, Xab] at h
  obtain ⟨b, hb, h⟩ := h
  cases b with
  | true =>
   simp only [if_true, Xac] at h
   exact ⟨some 0, by simp [mIdx, hb], .inr ⟨0, p, rfl, rfl, h.symm⟩⟩
  | false =>
   simp only [Xaq, if_false] at h
   obtain ⟨o, h1, h2⟩ := Zl6 h
   refine ⟨o.map (· + 1), by simp [mIdx, hb, h1], ?_⟩
   rcases h2 with ⟨rfl, h2⟩ | ⟨j, p', rfl, h2, h3⟩
   ·exact .inl ⟨rfl, h2⟩
   ·exact .inr ⟨j + 1, p', rfl, by simpa using h2, h3⟩
theorem Zp0 {q : KK} {k x : V} : ∀ {l l' : List (V × V)}, mPut q k x l = some l' -> ∃ o, mIdx q k l = some o /\ ((o = none /\ l' = l ++ [(k, x)]) \/ ∃ j p, o = some j /\ l[j]? = some p /\ Zdi q k p.1 = some true /\ l' = l.set j (k, x))
 | [], l', h => by simp only [mPut, Xac] at h; exact ⟨none, rfl, .inl ⟨rfl, h.symm⟩⟩
 | p :: l, l', h => by
  simp only [mPut, Xab] at h
  obtain ⟨b, hb, h⟩ := h
  cases b with
  | true =>
   simp only [if_true, Xac] at h
   exact ⟨some 0, by simp [mIdx, hb], .inr ⟨0, p, rfl, rfl, hb, h.symm⟩⟩
  | false =>
   simp only [Xaq, if_false, Xaa] at h
   obtain ⟨l1, h, rfl⟩ := h
   obtain ⟨o, h1, h2⟩ := Zp0 h
   refine ⟨o.map (· + 1), by simp [mIdx, hb, h1], ?_⟩
   rcases h2 with ⟨rfl, h2⟩ | ⟨j, p', rfl, h2, h3, h4⟩
   ·exact .inl ⟨rfl, by rw [h2]; rfl⟩
   ·exact .inr ⟨j + 1, p', rfl, by simpa using h2, h3, by rw [h4]; rfl⟩
def RepM (W : World) (G : Nat -> Nat) (φ : Nat -> Option Nat) (l : List (V × V)) (es : List MapEntry) : Prop :=
 l.length = es.length /\ ∀ (i : Nat) (p : V × V) (e : MapEntry), l[i]? = some p -> es[i]? = some e -> Rep W G φ p.1 e.key /\ Rep W G φ p.2 e.val
theorem RepM.cons {p : V × V} {l : List (V × V)} {e : MapEntry} {es : List MapEntry} (h : RepM W G φ (p :: l) (e :: es)) : (Rep W G φ p.1 e.key /\ Rep W G φ p.2 e.val) /\ RepM W G φ l es :=
 ⟨h.2 0 p e rfl rfl, by have := h.1; simpa using this, fun i p' e' hp he => h.2 (i + 1) p' e' (by simpa using hp) (by simpa using he)⟩
theorem Zs2 {t : TypeId} {q : KK} {k : V} {x : Value} (hq : keyK P t = some q) (hk : Rep W G φ k x) : ∀ {l : List (V × V)} {es : List MapEntry} {o : Option Nat} (i : Nat), RepM W G φ l es -> mIdx q k l = some o ->
  (Instr.findAsking t x es i).run P W = .ok (o.bind fun j => (es[j]?).map fun e => (i + j, e.val)) W
 | [], [], o, i, _, h => by simp only [mIdx, Xac] at h; subst h; rfl
 | [], e :: es, o, i, hM, _ => by have := hM.1; simp at this
 | p :: l, [], o, i, hM, _ => by have := hM.1; simp at this
 | p :: l, e :: es, o, i, hM, h => by
  obtain ⟨⟨h1, h2⟩, hM'⟩ := hM.cons
  simp only [mIdx, Xab] at h
  obtain ⟨b, hb, h⟩ := h
  have heq := Zzj hq hk h1 hb
  cases b with
  | true =>
   simp only [if_true, Xac] at h
   subst h
   simp [Instr.findAsking, heq]
  | false =>
   simp only [Xaq, if_false, Xaa] at h
   obtain ⟨o', ho, rfl⟩ := h
   have ih := Zs2 hq hk (i + 1) hM' ho
   simp only [Instr.findAsking, Sem.run_bind, heq, Result.andThen_ok, Xaq, if_false, ih]
   cases o' with
   | none => rfl
   | some j => simp [Xcx, Xd8 1 j]
theorem Zsd {t : TypeId} {q : KK} {k : V} {x : Value} {u : TypeDesc} (hu : P.underlying t = some u) (hq : keyK P t = some q) (h1 : ∀ fs, u ≠ .struct fs) (h2 : ∀ m e, u ≠ .array m e) (hk : Rep W G φ k x) : ∀ {l : List (V × V)} {es : List MapEntry} {o : Option Nat} (i : Nat), RepM W G φ l es -> mIdx q k l = some o ->
  Instr.findNow u x es i = some (o.bind fun j => (es[j]?).map fun e => (i + j, e.val))
 | [], [], o, i, _, h => by simp only [mIdx, Xac] at h; subst h; rfl
 | [], e :: es, o, i, hM, _ => by have := hM.1; simp at this
 | p :: l, [], o, i, hM, _ => by have := hM.1; simp at this
 | p :: l, e :: es, o, i, hM, h => by
  obtain ⟨⟨g1, g2⟩, hM'⟩ := hM.cons
  simp only [mIdx, Xab] at h
  obtain ⟨b, hb, h⟩ := h
  have hsame : Instr.sameNow u x e.key = some b := by
   obtain ⟨ks, hks, hcase⟩ := Ziu hq
   rcases hcase with ⟨_, ht⟩ | ⟨rfl, _⟩
   ·rw [hu] at ht
    rcases ht with ⟨fs, ht⟩ | ⟨m, e', ht⟩
    ·exact (h1 fs (Option.some.inj ht)).elim
    ·exact (h2 m e' (Option.some.inj ht)).elim
   obtain ⟨_, _, hb'⟩ := Znm hb
   clear hb h
   unfold Zd9 at hks
   rw [hu] at hks
   have fin : ∀ kd : Kd, ks = [kd] -> kdEq kd k p.1 = some b := by
    rintro kd rfl
    simp only [Zar, Xab, Xaa] at hb'
    obtain ⟨b', hb', c, hc, rfl⟩ := hb'
    simp only [Xac] at hc; subst hc
    simpa using hb'
   cases u with
   | bool =>
    simp only [Xac] at hks
    have hkd := fin _ hks.symm
    generalize p.1 = pk at hkd g1
    generalize e.key = ek at g1 ⊢
    cases hk <;> simp only [kdEq, reduceCtorEq] at hkd
    cases g1 <;> simp only [kdEq, reduceCtorEq] at hkd
    simp only [Instr.sameNow]
    exact hkd
   | int kk =>
    simp only [Xac] at hks
    have hkd := fin _ hks.symm
    generalize p.1 = pk at hkd g1
    generalize e.key = ek at g1 ⊢
    cases hk <;> simp only [kdEq, reduceCtorEq] at hkd
    cases g1 <;> simp only [kdEq, reduceCtorEq] at hkd
    split at hkd
    ·rename_i hc
     obtain ⟨rfl, rfl⟩ := hc
     simp only [Instr.sameNow, if_true]
     simp only [Xac] at hkd ⊢
     rw [<- hkd]; rfl
    ·cases hkd
   | string =>
    simp only [Xac] at hks
    have hkd := fin _ hks.symm
    generalize p.1 = pk at hkd g1
    generalize e.key = ek at g1 ⊢
    obtain ⟨c1, c2, rfl, rfl, rfl⟩ : ∃ c1 c2, k = .str c1 /\ pk = .str c2 /\ b = decide (c1 = c2) := by
     cases k <;> cases pk <;> simp only [kdEq, reduceCtorEq, Xac] at hkd
     exact ⟨_, _, rfl, rfl, hkd.symm⟩
    cases hk with
    | str _ s1 e1 =>
    cases g1 with
    | str _ s2 e2 =>
    simp only [Instr.sameNow, Xac]
    have hiff : (s1 = s2) <-> s1.data.toList = s2.data.toList := by
     constructor
     ·intro e; rw [e]
     ·intro e
      obtain ⟨⟨a⟩⟩ := s1; obtain ⟨⟨b⟩⟩ := s2
      simp at e; rw [e]
    rw [e1, e2] at hiff
    cases hbb : s1 == s2 with
    | true => exact (decide_eq_true (hiff.1 ((MapKept.bytes_beq _ _).1 hbb))).symm
    | false => exact (decide_eq_false fun e => by rw [(MapKept.bytes_beq _ _).2 (hiff.2 e)] at hbb; cases hbb).symm
   | struct fs => exact (h1 _ rfl).elim
   | array m e' => exact (h2 _ _ rfl).elim
   | _ => simp at hks
  cases b with
  | true =>
   simp only [if_true, Xac] at h
   subst h
   simp [Instr.findNow, hsame]
  | false =>
   simp only [Xaq, if_false, Xaa] at h
   obtain ⟨o', ho, rfl⟩ := h
   have ih := Zsd hu hq h1 h2 hk (i + 1) hM' ho
   simp only [Instr.findNow, hsame, ih]
   cases o' with
   | none => rfl
   | some j => simp [Xcx, Xd8 1 j]
theorem Zpp {t : TypeId} {q : KK} {k : V} {x : Value} (hq : keyK P t = some q) (hk : Rep W G φ k x) {l : List (V × V)} {es : List MapEntry} {o : Option Nat} (hM : RepM W G φ l es) (h : mIdx q k l = some o) :
  (Instr.findKey t x es).run P W = .ok (o.bind fun j => (es[j]?).map fun e => (j, e.val)) W := by
 obtain ⟨ks, hks, hcase⟩ := Ziu hq
 rcases hcase with ⟨_, ht⟩ | ⟨_, u, hu, h1, h2⟩
 ·have hw : (match P.underlying t with | some (.array _ _) | some (.struct _) => true | _ => false) = true := by rcases ht with ⟨fs, ht⟩ | ⟨m, e, ht⟩ <;> rw [ht]
  rw [run_findKey_eq W hw, Zs2 hq hk 0 hM h]; simp
 ·have := Zsd hu hq h1 h2 hk 0 hM h
  simp only [Xan] at this
  exact MapKept.run_findKey hu this
theorem Zsp {kd : Kd} {v w : V} {x y : Value} (hv : Rep W G φ v x) (hw : Rep W G φ w y) (h : kdEq kd v w = some true) (n : Nat) : Instr.sameBits n y x = true := by
 unfold kdEq at h
 split at h
 ·cases hv; cases hw
  split at h
  ·rename_i hc
   obtain ⟨rfl, rfl⟩ := hc
   simp only [Xac, decide_eq_true_eq] at h; subst h
   cases n <;> simp [Instr.sameBits]
  ·cases h
 ·cases hv; cases hw
  rename_i s1 e1 s2 e2
  simp only [Xac, decide_eq_true_eq] at h
  have : s2 = s1 := by
   rw [<- e1, <- e2] at h
   obtain ⟨⟨a⟩⟩ := s1; obtain ⟨⟨b⟩⟩ := s2
   simp at h; rw [h]
  subst this
  cases n <;> (simp only [Instr.sameBits]; exact (MapKept.bytes_beq _ _).2 rfl)
 ·cases hv; cases hw
  simp only [Xac, beq_iff_eq] at h; subst h
  cases n <;> simp [Instr.sameBits]
 ·cases h
theorem Zm6 (n : Nat) : ∀ {ks : List Kd} {cs ds : List V} {X Y : List Value}, Zar ks cs ds = some true -> cs.length = X.length -> ds.length = Y.length -> (∀ (i : Nat) (c : V) (x : Value), cs[i]? = some c -> X[i]? = some x -> Rep W G φ c x) -> (∀ (i : Nat) (c : V) (x : Value), ds[i]? = some c -> Y[i]? = some x -> Rep W G φ c x) ->
  ((Y.zip X).all fun (x, y) => Instr.sameBits n x y) = true
 | [], cs, ds, X, Y, h, l1, l2, _, _ => by
  obtain ⟨e1, e2⟩ := Zal h
  have : Y = [] := Xby.1 (by rw [<- l2, e2]; rfl)
  subst this; rfl
 | kd :: ks, cs, ds, X, Y, h, l1, l2, hX, hY => by
  obtain ⟨c, cs', d, ds', b, r', rfl, rfl, h1, h2, h3⟩ := Zdf h
  have hb : b = true /\ r' = true := by cases b <;> cases r' <;> simp at h3 <;> simp
  obtain ⟨rfl, rfl⟩ := hb
  cases X with
  | nil => simp at l1
  | cons x X =>
   cases Y with
   | nil => simp at l2
   | cons y Y =>
    have ih := Zm6 n h2 (by simpa using l1) (by simpa using l2) (fun i c x hc hx => hX (i + 1) c x (by simpa using hc) (by simpa using hx)) (fun i c x hc hx => hY (i + 1) c x (by simpa using hc) (by simpa using hx))
    simp only [List.zip_cons_cons, Xcu, ih, Xcf]
    exact Zsp (hX 0 c x rfl rfl) (hY 0 d y rfl rfl) h1 n
theorem Zs1 {t : TypeId} {q : KK} {k k' : V} {x x' : Value} (hq : keyK P t = some q) (hk : Rep W G φ k x) (hk' : Rep W G φ k' x') (he : Zdi q k k' = some true) : (Instr.keyThatStays x' x).run P W = .ok x W := by
 obtain ⟨ks, hks, _, hL, hl, hp, hf, hl', hp'⟩ := Zkp hq hk he
 have hb : Instr.sameBits 10000 x' x = true := by
  obtain ⟨b, ks'⟩ := q
  cases b with
  | true =>
   obtain ⟨c1, c2, rfl, rfl, he⟩ := Ztv he
   cases hk with
   | agg _ X hlX _ hrX =>
    cases hk' with
    | agg _ Y hlY _ hrY =>
     simp only [Instr.sameBits, Xah, beq_iff_eq]
     have hf' := Zal he
     refine ⟨by rw [<- hlX, <- hlY, hf'.1, hf'.2], ?_⟩
     exact Zm6 9999 he (by simpa using hlX) (by simpa using hlY) (fun i c x hc hx => hrX i c x hc (by simpa using hx)) (fun i c x hc hx => hrY i c x hc (by simpa using hx))
  | false =>
   obtain ⟨_, _, he⟩ := Znm he
   cases ks' with
   | nil => simp [Zar] at he
   | cons kd r =>
    simp only [Zar, Xab, Xaa] at he
    obtain ⟨b, hb, c, _, h3⟩ := he
    have : b = true := by cases b <;> simp at h3 <;> rfl
    subst this
    exact Zsp hk hk' hb 10000
 simp [Instr.keyThatStays, hb]
theorem Zvd {t : TypeId} {zv : V} (h : Zio P t = some zv) : ∃ z, (zeroValue t).run P W = .ok z W /\ Rep W G φ zv z := by
 unfold Zio at h
 split at h
 ·rename_i i hi
  split at h
  ·rename_i xs hz
   simp only [Xaa] at h
   obtain ⟨vs, hvs, rfl⟩ := h
   obtain ⟨z, h1, h2, h3⟩ := Zga (W := W) (G := G) (φ := φ) hvs
   have h1W := h1 W
   have e : z = .agg xs := by
    simp [zeroValue, Zcb hi, hz] at h1W
    exact h1W.symm
   subst e
   exact ⟨_, h1W, .agg vs xs h2.1 h3 h2.2⟩
  ·rename_i x hna hz
   split at h
   ·rename_i v hvs
    simp only [Xac] at h; subst h
    obtain ⟨z, h1, h2, h3⟩ := Zga (W := W) (G := G) (φ := φ) hvs
    have h1W := h1 W
    have e : z = x := by
     simp [zeroValue, Zcb hi, hz] at h1W
     exact h1W.symm
    subst e
    refine ⟨_, h1W, ?_⟩
    have hc : z.cells = #[z] := by
     cases z <;> first | rfl | exact (hna _ rfl).elim
    exact h2.2 0 v z rfl (by rw [hc]; rfl)
   ·cases h
  ·cases h
 ·cases h
end
variable {cx : Cx} {w : World} {B : Nat -> Prop} {GB : Gh} {g : Gh} {st : St} {a : Act} {W : World} {Γ : Spec}
theorem Zr1 {H : Hp} {id : Nat} {l : List (V × V)} (h : hMap H id = some l) : H id = some (.mp l) := by
 unfold hMap at h
 split at h
 ·rename_i e; cases h; exact e
 ·cases h
theorem Zsh (h : SR w B GB g st a W) {m : V} {x : Value} {l : List (V × V)} (hm : Rep W g.G g.φ m x) (hl : Zil st.H m = some l) :
  (x = .map none /\ l = [] /\ m = .nilmap) \/ ∃ id b es ck, m = .map id /\ x = .map (some b) /\ g.φ id = some b /\ st.H id = some (.mp l) /\ W.heap[b]? = some (.map es ck) /\ RepM W g.G g.φ l es.toList := by
 cases hm <;> simp only [Zil, reduceCtorEq, Xac] at hl
 ·rename_i id b hφ
  have hH := Zr1 hl
  obtain ⟨b', es, ck, h1, h2, h3, h4⟩ := h.ob id _ hH
  rw [hφ] at h1; cases h1
  exact .inr ⟨id, b, es, ck, rfl, rfl, hφ, hH, h2, by simpa using h3, fun i p e hp he => h4 i p e hp (by simpa using he)⟩
 ·exact .inl ⟨rfl, hl.symm, rfl⟩
theorem Zyx (h : SR w B GB g st a W) {P : Program} {t kt et : TypeId} {q : KK} {z m k v : V} {ok : Bool} {xm xk : Value} (ht : P.underlying t = some (.map kt et)) (hq : keyK P kt = some q) (hz : Zio P et = some z)
  (hm : Rep W g.G g.φ m xm) (hk : Rep W g.G g.φ k xk) (hv : vMlk st.H q z ok m k = some v) : ∃ y, (Instr.lookup t xm xk ok).run P W = .ok y W /\ Rep W g.G g.φ v y := by
 unfold vMlk at hv
 simp only [Xab] at hv
 obtain ⟨l, hl, hv⟩ := hv
 split at hv
 ·rename_i hkk
  simp only [Xaa] at hv
  obtain ⟨r, hr, rfl⟩ := hv
  obtain ⟨o, ho, hor⟩ := Zl6 hr
  obtain ⟨zx, hz1, hz2⟩ := Zvd (W := W) (G := g.G) (φ := g.φ) hz
  have pair : ∀ (v : V) (b : Bool) (y : Value), Rep W g.G g.φ v y -> Rep W g.G g.φ (.tup [v, .bool b]) (.tuple #[y, .bool b]) := fun v b y hv => .tup _ _ rfl fun i c x hc hx => by
   rcases i with _ | _ | i
   ·simp at hc hx; subst hc; subst hx; exact hv
   ·simp at hc hx; subst hc; subst hx; exact .bool _
   ·simp at hc
  have core : ∀ {es : Array MapEntry}, RepM W g.G g.φ l es.toList -> ∃ y, (do
    Instr.checkKey es.isEmpty 10000 kt xk
    let (v, ok') <- match <- Instr.findKey kt xk es.toList with
     | some (_, v) => pure (v, true)
     | none => pure (<- zeroValue et, false)
    pure (if ok then .tuple #[v, .bool ok'] else v) : Sem Value).run P W = .ok y W /\ Rep W g.G g.φ (if ok then .tup [r.getD z, .bool r.isSome] else r.getD z) y := by
   intro es hM
   have hfk := Zpp hq hk hM ho
   have hck := Zme (P := P) es.isEmpty hq hk hkk
   rcases hor with ⟨rfl, rfl⟩ | ⟨j, p, rfl, hp, rfl⟩
   ·refine ⟨if ok then .tuple #[zx, .bool false] else zx, by simp [hck, hfk, hz1], ?_⟩
    cases ok with
    | true => exact pair _ _ _ hz2
    | false => exact hz2
   ·have hlt := (Xae.1 hp).1
    have hlt' : j < es.toList.length := by rw [<- hM.1]; exact hlt
    obtain ⟨_, hv2⟩ := hM.2 j p _ hp (Xad hlt')
    simp only [Xaj, Xad hlt', Xas] at hfk
    refine ⟨if ok then .tuple #[(es.toList[j]).val, .bool true] else (es.toList[j]).val, by simp [hck, hfk], ?_⟩
    cases ok with
    | true => exact pair _ _ _ hv2
    | false => exact hv2
  unfold Instr.lookup
  rcases Zsh h hm hl with ⟨rfl, rfl, _⟩ | ⟨id, b, es, ck, _, rfl, _, _, hb, hM⟩
  ·obtain ⟨y, h1, h2⟩ := core (es := #[]) ⟨rfl, fun i p e hp => by simp at hp⟩
   refine ⟨y, ?_, h2⟩
   simp only [Sem.run_bind, Zaa ht, Result.andThen_ok, Sem.run_pure] at h1 ⊢
   exact h1
  ·obtain ⟨y, h1, h2⟩ := core hM
   refine ⟨y, ?_, h2⟩
   simp only [Sem.run_bind, Zaa ht, Result.andThen_ok, Sem.run_pure, MapKept.run_getObj_map hb] at h1 ⊢
   exact h1
 ·cases hv
theorem SR.newMpW (h : SR w B GB g st a W) : ∃ g', SR w B GB g' st.newMp a (W.alloc (.map #[] 0)) /\ g'.φ st.nH = some W.heap.size := by
 obtain ⟨W', hW'⟩ : ∃ W', W' = W.alloc (.map #[] 0) := ⟨_, rfl⟩
 have hb : Below W.heap.size W W' := by rw [hW']; exact Zb9 W _
 have hsz : W'.heap.size = W.heap.size + 1 := by rw [hW']; simp
 have hblk : W'.heap[W.heap.size]? = some (.map #[] 0) := by rw [hW']; exact heap_alloc_new _ _
 rw [<- hW']
 have hB : B W.heap.size := h.hB _ h.below.size
 have hfr : ∀ id, st.nH <= id -> g.φ id = none := by
  intro id hid
  cases hφ : g.φ id with
  | none => rfl
  | some b => have := (h.φ id b hφ).2.2; omega
 have hadv := Adv.new h 0 none none hb hsz
 have hG : (fun b => if b = W.heap.size then 0 else g.G b) = g.G := by
  funext b; split
  ·rename_i e; rw [e]; exact (h.Gz _ (Xag _)).symm
  ·rfl
 rw [hG] at hadv
 have h1 := h.adv hadv
 simp only [St.take] at h1
 have hk : Keeps W g.G g.φ W' g.G (upd g.φ st.nH (some W.heap.size)) := ⟨hadv.keeps.cell, fun _ => Xag _, fun id b hφ => by
  have : id ≠ st.nH := fun e => by rw [hfr id (by omega)] at hφ; cases hφ
  simp [upd, this, hφ], fun id b' hb' => Zfx (hb.block _ (h.φ id b' hb').2.1)⟩
 have hk2 : Keeps W' g.G g.φ W' g.G (upd g.φ st.nH (some W.heap.size)) := ⟨fun _ _ _ => rfl, fun _ => Xag _, hk.φ, fun _ _ _ => rfl⟩
 have hlt : ∀ id b, g.φ id = some b -> b ≠ W.heap.size := fun id b hφ e => by have := (h.φ id b hφ).2.1; omega
 refine ⟨⟨g.G, upd g.φ st.nH (some W.heap.size), fun b => if b = W.heap.size then none else g.ow b⟩, ⟨h1.defers, fun t x hx => (h1.tm t x hx).keep hk2, fun t x hx ho => h1.own t x hx ho, fun id o hH => ?_, fun id hid => ?_, fun id b hφ => ?_, fun id b hφ => ?_, fun id id' b e1 e2 l1 l2 => ?_, h1.Gz, h1.Glo, h1.kp, h1.kG, fun id b e => hk.φ id b (h.kφ id b e), h1.ksz, h1.below, h1.hB⟩, by simp [upd]⟩
 ·by_cases hid : id = st.nH
  ·subst hid
   simp only [St.newMp, upd, if_true, Xac] at hH
   subst hH
   exact ⟨W.heap.size, #[], 0, by simp [upd], hblk, rfl, fun i p e hp => by simp at hp⟩
  ·simp only [St.newMp, upd, hid, if_false] at hH
   refine ObOK.keep (h1.ob id o hH) hk2 (by simp [upd, hid]) (fun _ _ => rfl) (fun j v x hw => ⟨?_, fun hq => hq⟩)
   simpa [St.newMp, hid] using hw
 ·simp only [St.newMp] at hid ⊢
  have : id ≠ st.nH := by omega
  simp only [upd, this, if_false]
  exact h.obn id (by omega)
 ·simp only [St.newMp]
  by_cases hid : id = st.nH
  ·subst hid
   simp only [upd, if_true, Xac] at hφ
   subst hφ
   exact ⟨hB, by omega, by omega⟩
  ·simp only [upd, hid, if_false] at hφ
   obtain ⟨q1, q2, q5⟩ := h1.φ id b hφ
   exact ⟨q1, q2, by omega⟩
 ·by_cases hid : id = st.nH
  ·subst hid
   simp only [upd, if_true, Xac] at hφ
   subst hφ
   exact ⟨h.Gz _ (Xag _), by simp⟩
  ·simp only [upd, hid, if_false] at hφ
   exact h1.live id b hφ
 ·by_cases hid : id = st.nH <;> by_cases hid' : id' = st.nH
  ·rw [hid, hid']
  ·simp only [upd, hid, if_true, Xac] at e1
   simp only [upd, hid', if_false] at e2
   exact absurd e1.symm (hlt _ _ e2)
  ·simp only [upd, hid', if_true, Xac] at e2
   simp only [upd, hid, if_false] at e1
   exact absurd e2.symm (hlt _ _ e1)
  ·simp only [upd, hid, hid', if_false] at e1 e2
   simp only [St.newMp, upd, hid, hid', if_false] at l1 l2
   exact h.inj id id' b e1 e2 l1 l2
theorem SR.setMp (h : SR w B GB g st a W) {id b : Nat} {l l' : List (V × V)} {es es' : Array MapEntry} {ck ck' : Nat} (hH : st.H id = some (.mp l)) (hφ : g.φ id = some b) (hblk : W.heap[b]? = some (.map es ck)) (hM : RepM W g.G g.φ l' es'.toList) :
  SR w B GB g (st.setMp id l') a { W with heap := W.heap.setIfInBounds b (.map es' ck') } := by
 obtain ⟨W', hW'⟩ : ∃ W' : World, W' = { W with heap := W.heap.setIfInBounds b (.map es' ck') } := ⟨_, rfl⟩
 have hset := MapKept.heap_set (o' := .map es' ck') hblk
 have hb2 : W'.heap[b]? = some (.map es' ck') := by rw [hW']; exact hset.1
 have hfar : ∀ k, k ≠ b -> W'.heap[k]? = W.heap[k]? := fun k hk => by rw [hW']; exact hset.2 k hk
 have hsz : W'.heap.size = W.heap.size := by rw [hW']; simp
 have hos : W'.os = W.os /\ W'.tape = W.tape /\ W'.output = W.output := by rw [hW']; exact ⟨rfl, rfl, rfl⟩
 rw [<- hW']
 obtain ⟨q1, q2, q5⟩ := h.φ id b hφ
 obtain ⟨q3, q4⟩ := h.live id b hφ
 have hcz : ∀ k, Abs.csz W' k = Abs.csz W k := fun k => by
  by_cases hk : k = b
  ·subst hk; unfold Abs.csz; rw [hb2, hblk]
  ·exact Zfx (hfar k hk)
 have hk : Keeps W g.G g.φ W' g.G g.φ := ⟨fun k i hi => World.cell?_of_block (w := W) (hfar k fun e => by subst e; omega), fun _ => Xag _, fun _ _ h => h, fun _ k _ => hcz k⟩
 have hown : ∀ p v x, OwnAt W B g p v x -> OwnAt W' B g p v x := by
  intro p v x hp sz xs' b' off' len cap sp hv hx
  rcases hp sz xs' b' off' len cap sp hv hx with h1 | ⟨h1, h2, h3, cs', t', lo, hi, h4, h5, h6⟩
  ·exact .inl h1
  ·exact .inr ⟨h1, h2, h3, cs', t', lo, hi, by rw [hfar b' (fun e => by subst e; rw [q4] at h2; cases h2)]; exact h4, h5, h6⟩
 refine ⟨h.defers, fun t x hx => (h.tm t x hx).keep hk, fun t x hx hp => hown _ _ _ (h.own t x hx hp), fun id' o hH' => ?_, fun id' hid => ?_, fun id' b' hφ' => ?_, h.live, fun i i' c e1 e2 l1 l2 => ?_, fun k hk' => h.Gz k (by omega), h.Glo, fun k i hi => (hk.cell k i (Xb0 hi (h.kG k))).trans (h.kp k i hi), h.kG, h.kφ, fun i c e => (hk.sz i c (h.kφ i c e)).trans (h.ksz i c e), h.below.trans ⟨hos.1, hos.2.1, hos.2.2, by omega, fun k hk' => hfar k (fun e => hk' (by rw [e]; exact q1))⟩, h.hB⟩
 ·by_cases hid : id' = id
  ·subst hid
   simp only [St.setMp, upd, if_true, Xac] at hH'
   subst hH'
   exact ⟨b, es', ck', hφ, hb2, by simpa using hM.1, fun i p e hp he => ⟨((hM.2 i p e hp (by simpa using he)).1).keep hk, ((hM.2 i p e hp (by simpa using he)).2).keep hk⟩⟩
  ·simp only [St.setMp, upd, hid, if_false] at hH'
   refine ObOK.keep (h.ob id' o hH') hk rfl (fun c hc => hfar c fun e => ?_) (fun j v x hw => ⟨?_, fun hq => hown _ _ _ hq⟩)
   ·subst e
    exact hid (h.inj id' id c hc hφ (by rw [hH']; simp) (by rw [hH]; simp))
   ·simpa [St.setMp, hid] using hw
 ·simp only [St.setMp] at hid ⊢
  have : id' ≠ id := fun e => by rw [e] at hid; omega
  simp only [upd, this, if_false]
  exact h.obn id' hid
 ·obtain ⟨r1, r2, r5⟩ := h.φ id' b' hφ'
  exact ⟨r1, by omega, r5⟩
 ·have key : ∀ j, (st.setMp id l').H j ≠ none -> st.H j ≠ none := fun j hj => by
   by_cases e : j = id
   ·rw [e, hH]; simp
   ·simpa [St.setMp, upd, e] using hj
  exact h.inj i i' c e1 e2 (key i l1) (key i' l2)
theorem Zyu (h : SR w B GB g st a W) {P : Program} {t kt et : TypeId} {q : KK} {m k x : V} {xm xk xx : Value} {st' : St} (ht : P.underlying t = some (.map kt et)) (hq : keyK P kt = some q)
  (hm : Rep W g.G g.φ m xm) (hk : Rep W g.G g.φ k xk) (hx : Rep W g.G g.φ x xx) (hv : st.upMp q m k x = some st') : ∃ W', (Instr.mapUpdate t xm xk xx).run P W = .ok () W' /\ SR w B GB g st' a W' := by
 unfold St.upMp at hv
 split at hv
 rotate_left
 ·cases hv
 rename_i id
 simp only [Xab] at hv
 obtain ⟨l, hl, hv⟩ := hv
 split at hv
 rotate_left
 ·cases hv
 rename_i hkk
 simp only [Xaa] at hv
 obtain ⟨l', hl', rfl⟩ := hv
 obtain ⟨o, ho, hor⟩ := Zp0 hl'
 rcases Zsh h hm (m := .map id) (show Zil st.H (.map id) = some l from hl) with ⟨_, _, e⟩ | ⟨id', b, es, ck, e, rfl, hφ, hH, hblk, hM⟩
 ·cases e
 cases e
 have hfk := Zpp hq hk hM ho
 have hck := Zme (P := P) false hq hk hkk
 rcases hor with ⟨rfl, rfl⟩ | ⟨j, p, rfl, hp, hke, rfl⟩
 ·refine ⟨_, ?_, h.setMp (es' := es.push { key := xk, val := xx, born := ck }) (ck' := ck + 1) hH hφ hblk ?_⟩
  ·simp only [Option.bind_none] at hfk
   simp [Instr.mapUpdate, Zaa ht, MapKept.run_getObj_map hblk, hck, hfk, MapKept.run_setObj_map _ hblk]
  ·have hl0 : l.length = es.size := by simpa using hM.1
   refine ⟨by simp [hl0], fun i p e hp he => ?_⟩
   simp only [Array.toList_push] at he
   rcases Xa4 i l.length with hlt | hge
   ·rw [Xa1 hlt] at hp
    rw [Xa1 (by simpa [hl0] using hlt)] at he
    exact hM.2 i p e hp he
   ·rw [Xaz hge] at hp
    rw [Xaz (by simpa [hl0] using hge)] at he
    have hi : i - l.length = 0 := by
     have := (Xae.1 hp).1; simp at this; omega
    rw [hi] at hp
    rw [show i - es.toList.length = 0 by simpa [hl0] using hi] at he
    simp only [Xdx, Xac] at hp he
    subst hp; subst he
    exact ⟨hk, hx⟩
 ·have hlt := (Xae.1 hp).1
  have hlt' : j < es.toList.length := by rw [<- hM.1]; exact hlt
  have hlt2 : j < es.size := by simpa using hlt'
  obtain ⟨hr1, _⟩ := hM.2 j p _ hp (Xad hlt')
  have hst := Zs1 (P := P) hq hk hr1 hke
  simp only [Xaj, Xad hlt', Xas] at hfk
  refine ⟨_, ?_, h.setMp (es' := es.modify j fun e => { e with key := xk, val := xx }) (ck' := ck) hH hφ hblk ?_⟩
  ·have hkey : ((es[j]?).map (·.key)).getD xk = (es.toList[j]).key := by rw [Xar hlt2]; simp
   simp [Instr.mapUpdate, Zaa ht, MapKept.run_getObj_map hblk, hck, hfk, MapKept.run_setObj_map _ hblk]
   simp only [Array.getElem_toList] at hst
   simp [hst, hlt2, MapKept.run_setObj_map _ hblk]
  ·have hl0 : l.length = es.size := by simpa using hM.1
   refine ⟨by simp [hl0], fun i p' e hp' he => ?_⟩
   have he' : (es.modify j fun e => { e with key := xk, val := xx })[i]? = some e := by rw [<- Xdm]; exact he
   rw [Xd9] at he'
   by_cases hij : j = i
   ·subst hij
    rw [if_pos rfl, Xar hlt2] at he'
    rw [List.getElem?_set_self hlt] at hp'
    simp only [Xas, Xac] at hp' he'
    subst hp'; subst he'
    exact ⟨hk, hx⟩
   ·rw [if_neg hij] at he'
    rw [List.getElem?_set_ne hij] at hp'
    exact hM.2 i p' e hp' (by rw [Xdm]; exact he')
theorem Zyv (h : SR w B GB g st a W) {P : Program} {t kt et ty : TypeId} {m v : V} {xm : Value} (ht : P.underlying t = some (.map kt et)) (hm : Rep W g.G g.φ m xm) (hv : vMln st.H m = some v) :
  ∃ y, (Builtin.len_ #[t] ty #[xm]).run P W = .ok y W /\ Rep W g.G g.φ v y := by
 unfold vMln at hv
 simp only [Xaa] at hv
 obtain ⟨l, hl, rfl⟩ := hv
 rcases Zsh h hm hl with ⟨rfl, rfl, _⟩ | ⟨id, b, es, ck, _, rfl, _, _, hb, hM⟩
 ·exact ⟨.int .i64 0, by simp [Builtin.len_, Zaa ht, goInt], .int _ _⟩
 ·refine ⟨.int .i64 (es.size : Int), by simp [Builtin.len_, Zaa ht, goInt, MapKept.run_getObj_map hb], ?_⟩
  have : l.length = es.size := by simpa using hM.1
  rw [this]; exact .int _ _
end Go.Abs
namespace Go.Abs
open Go.RowKit
variable {cx : Cx} {w : World} {B : Nat -> Prop} {GB : Gh} {g : Gh} {st : St} {a : Act} {W : World} {Γ : Spec}
inductive RowOp (P : Program) (n : Nat) (op : Op) : AOp -> Prop
 | nro (sz : Nat) (h : op = .move (.const (.slice none 0 0)) \/ op = .assign (.const (.slice none 0 0))) : RowOp P n op (.nro sz)
 | clo (f : Nat) (args : Array Operand) (ts : Array TypeId) (xs : List Opd) (h : op = .call { callee := .value (.func f), args := args, argTypes := ts }) (hx : Zfc P n ts.toList args.toList = some xs) : RowOp P n op (.callh f xs)
 | nrb (sz : Nat) (t : TypeId) (hs : slE P t = some sz) (h : op = .buildSlice t 0 #[]) : RowOp P n op (.nro sz)
 | mko (t e : TypeId) (l c : Operand) (sz : Nat) (z : List V) (l' c' : Opd) (h : op = .makeSlice t l c) (hs : slE P t = some sz) (hu : P.underlying t = some (.slice e)) (hz : Zdp P e = some z) (h1 : cOpd P n 0 l = some l') (h2 : cOpd P n 0 c = some c') : RowOp P n op (.mko sz z l' c')
 | appo (s x : Operand) (t tx : TypeId) (sz : Nat) (s' x' : Opd) (cl : Call) (h : op = .call cl) (hcl : cl.callee = .builtin .append) (ha : cl.args = #[s, x]) (ht : cl.argTypes = #[t, tx]) (hs : slE P t = some sz)
   (hk : (isSl P tx || Zn2 P tx) = true) (h1 : cOpd P n t s = some s') (h2 : cOpd P n tx x = some x') : RowOp P n op (.appo sz s' x')
 | cpy (d s : Operand) (t ts : TypeId) (d' s' : Opd) (cl : Call) (h : op = .call cl) (hcl : cl.callee = .builtin .copy) (ha : cl.args = #[d, s]) (ht : cl.argTypes = #[t, ts]) (hs : slE P t = some 1) (hk : Zn2 P ts = true) (h1 : cOpd P n t d = some d') (h2 : cOpd P n ts s = some s') : RowOp P n op (.cpy d' s')
 | clr (d : Operand) (t e : TypeId) (z : List V) (d' : Opd) (cl : Call) (h : op = .call cl) (hcl : cl.callee = .builtin .clear) (ha : cl.args = #[d]) (ht : cl.argTypes = #[t]) (hu : P.underlying t = some (.slice e)) (hz : Zdp P e = some z) (hl : z.length = 1) (h1 : cOpd P n t d = some d') : RowOp P n op (.clr z d')
 | nmp (t : TypeId) (h : op = .makeMap t none) : RowOp P n op .nmp
 | mlk (t kt et : TypeId) (m k : Operand) (ok : Bool) (q : KK) (z : V) (m' k' : Opd) (h : op = .lookup t m k ok) (hu : P.underlying t = some (.map kt et)) (hq : keyK P kt = some q) (hz : Zio P et = some z) (h1 : cOpd P n 0 m = some m') (h2 : cOpd P n kt k = some k') : RowOp P n op (.mlk q z ok m' k')
 | mup (t kt et : TypeId) (m k x : Operand) (q : KK) (m' k' x' : Opd) (h : op = .mapUpdate t m k x \/ op = .insert t m k x) (hu : P.underlying t = some (.map kt et)) (hq : keyK P kt = some q) (h1 : cOpd P n 0 m = some m') (h2 : cOpd P n kt k = some k') (h3 : cOpd P n et x = some x') : RowOp P n op (.mup q m' k' x')
 | mln (t kt et : TypeId) (m : Operand) (m' : Opd) (cl : Call) (h : op = .call cl) (hcl : cl.callee = .builtin .len) (ha : cl.args = #[m]) (ht : cl.argTypes = #[t]) (hu : P.underlying t = some (.map kt et)) (h1 : cOpd P n t m = some m') : RowOp P n op (.mln m')
theorem Zww {α : Type} {xs : Array α} {a b : α} (h : xs.toList = [a, b]) : xs = #[a, b] := by cases xs; simp at h; rw [h]
theorem Zvu {α : Type} {xs : Array α} {a : α} (h : xs.toList = [a]) : xs = #[a] := by cases xs; simp at h; rw [h]
theorem Zrc {P : Program} {R : TypeId -> Bool} {n : Nat} {ops : Array Oper} {o : Oper} {x : AOp} (h : cOpR P R n ops o = some x) : cOp P n ops o = some x \/ RowOp P n o.op x := by
 unfold cOpR at h
 split at h
 ·rename_i y hop
  split at h
  ·split at h
   ·simp only [Xaa] at h
    obtain ⟨sz, _, rfl⟩ := h
    exact .inr (.nro sz (.inl hop))
   ·exact .inl h
  ·exact .inl h
 ·rename_i y hop
  split at h
  ·split at h
   ·simp only [Xaa] at h
    obtain ⟨sz, _, rfl⟩ := h
    exact .inr (.nro sz (.inr hop))
   ·exact .inl h
  ·exact .inl h
 ·rename_i f args ts hop
  split at h
  ·simp only [Xaa] at h
   obtain ⟨xs, hxs, rfl⟩ := h
   exact .inr (.clo f args ts xs hop hxs)
  ·exact .inl h
 ·rename_i t hop
  split at h
  ·simp only [Xaa] at h
   obtain ⟨sz, hsz, rfl⟩ := h
   exact .inr (.nrb sz t hsz hop)
  ·exact .inl h
 ·rename_i t l c hop
  split at h
  ·simp only [Xab] at h
   obtain ⟨sz, hsz, h⟩ := h
   split at h
   ·rename_i e hu
    simp only [Xab] at h
    obtain ⟨z, hz, h⟩ := h
    split at h
    ·simp only [Xab, Xaa] at h
     obtain ⟨l', h1, c', h2, rfl⟩ := h
     exact .inr (.mko t e l c sz z l' c' hop hsz hu hz h1 h2)
    ·cases h
   ·cases h
  ·exact .inl h
 ·rename_i args ts hop
  split at h
  ·rename_i s x t tx ha ht
   split at h
   ·simp only [Xab] at h
    obtain ⟨sz, hsz, h⟩ := h
    split at h
    ·rename_i hk
     simp only [Xab, Xaa] at h
     obtain ⟨s', h1, x', h2, rfl⟩ := h
     exact .inr (.appo s x t tx sz s' x' _ hop rfl (Zww ha) (Zww ht) hsz hk h1 h2)
    ·cases h
   ·exact .inl h
  ·cases h
 ·rename_i args ts hop
  split at h
  ·rename_i d s t tx ha ht
   simp only [Xab] at h
   obtain ⟨sz, hsz, h⟩ := h
   split at h
   ·rename_i hk
    obtain ⟨rfl, hk⟩ := hk
    simp only [Xab, Xaa] at h
    obtain ⟨d', h1, s', h2, rfl⟩ := h
    exact .inr (.cpy d s t tx d' s' _ hop rfl (Zww ha) (Zww ht) hsz hk h1 h2)
   ·cases h
  ·cases h
 ·rename_i args ts hop
  split at h
  ·rename_i d t ha ht
   split at h
   ·rename_i e hu
    simp only [Xab] at h
    obtain ⟨z, hz, h⟩ := h
    split at h
    ·rename_i hl
     simp only [Xaa] at h
     obtain ⟨d', h1, rfl⟩ := h
     exact .inr (.clr d t e z d' _ hop rfl (Zvu ha) (Zvu ht) hu hz hl h1)
    ·cases h
   ·cases h
  ·cases h
 ·rename_i t hop
  simp only [Xac] at h; subst h
  exact .inr (.nmp t hop)
 ·rename_i t m k ok hop
  split at h
  ·rename_i kt et hu
   simp only [Xab, Xaa] at h
   obtain ⟨q, hq, z, hz, m', h1, k', h2, rfl⟩ := h
   exact .inr (.mlk t kt et m k ok q z m' k' hop hu hq hz h1 h2)
  ·cases h
 ·rename_i t m k x hop
  split at h
  ·rename_i kt et hu
   simp only [Xab, Xaa] at h
   obtain ⟨q, hq, m', h1, k', h2, x', h3, rfl⟩ := h
   exact .inr (.mup t kt et m k x q m' k' x' (.inl hop) hu hq h1 h2 h3)
  ·cases h
 ·rename_i t m k x hop
  split at h
  ·rename_i kt et hu
   simp only [Xab, Xaa] at h
   obtain ⟨q, hq, m', h1, k', h2, x', h3, rfl⟩ := h
   exact .inr (.mup t kt et m k x q m' k' x' (.inr hop) hu hq h1 h2 h3)
  ·cases h
 ·rename_i args ts hop
  split at h
  ·rename_i x t ha ht
   split at h
   ·rename_i kt et hu
    simp only [Xaa] at h
    obtain ⟨m', h1, rfl⟩ := h
    exact .inr (.mln t kt et x m' _ hop rfl (Zvu ha) (Zvu ht) hu h1)
   ·exact .inl h
  ·cases h
 ·exact .inl h
theorem Zy1 {sz : Nat} {ys fs : List V} (h : Zh4 sz ys = some fs) : (∀ y ∈ ys, y.cells.length = sz /\ ∀ c ∈ y.cells, c.sc = true) /\ fs = flat ys := by
 unfold Zh4 at h
 split at h
 ·rename_i hf
  cases h
  refine ⟨fun y hy => ?_, rfl⟩
  have := Xam.1 hf y hy
  simp only [Xah, beq_iff_eq] at this
  exact ⟨this.1, fun c hc => Xam.1 this.2 c hc⟩
 ·cases h
theorem Zwx {sz : Nat} {ys : List V} (h : ∀ y ∈ ys, y.cells.length = sz /\ ∀ c ∈ y.cells, c.sc = true) : ∀ c ∈ flat ys, c.sc = true := by
 intro c hc
 obtain ⟨y, hy, hc⟩ := Xb4.1 hc
 exact (h y hy).2 c hc
theorem Zpw {W : World} {G : Nat -> Nat} {φ : Nat -> Option Nat} {cs fs : List V} {olds news : List Value} {more : Array Value} (ho : olds.length = cs.length) (hn : news.length = fs.length) (h1 : ∀ (j : Nat) (c : V), cs[j]? = some c -> ∃ y, olds[j]? = some y /\ Rep W G φ c y)
  (h2 : ∀ (j : Nat) (c : V), fs[j]? = some c -> ∃ y, news[j]? = some y /\ Rep W G φ c y) : RepP W G φ (cs ++ fs) ((olds ++ news).toArray ++ more) := by
 refine ⟨by simp; omega, fun i c x hc hx => ?_⟩
 have hx' : (olds ++ news ++ more.toList)[i]? = some x := by rw [<- Xdm] at hx; simpa using hx
 rw [Xap] at hx'
 rcases Xa4 i cs.length with hlt | hge
 ·rw [Xa1 hlt] at hc
  rw [Xa1 (by omega)] at hx'
  obtain ⟨y, h3, h4⟩ := h1 i c hc
  rw [h3] at hx'; cases hx'; exact h4
 ·rw [Xaz hge] at hc
  rw [Xaz (by omega), ho] at hx'
  obtain ⟨y, h3, h4⟩ := h2 _ c hc
  have hlt := (Xae.1 hc).1
  rw [Xa1 (by omega)] at hx'
  rw [h3] at hx'; cases hx'; exact h4
theorem Zqy (h : SR w B GB g st a W) {P : Program} {sz : Nat} {s u v : V} {xs xu : Value} {t tx ty e : TypeId} {ie : TypeInfo} {z : Value} {st' : St}
  (ht : P.underlying t = some (.slice e)) (he : P.info? e = some ie) (hz : ie.zero = some z) (hsz : ie.size = sz) (hzs : z.cells.size = sz) (hby : ie.bytes <= 4096) (hk : (∃ e', P.underlying tx = some (.slice e')) \/ P.underlying tx = some .string)
  (hs : Rep W g.G g.φ s xs) (hu : Rep W g.G g.φ u xu) (hv : st.appOb sz s u = some (st', v)) :
  ∃ y W' g', (Builtin.append_ #[t, tx] ty #[xs, xu]).run P W = .ok y W' /\ SR w B GB g' st' a W' /\ Rep W' g'.G g'.φ v y := by
 subst hsz
 unfold St.appOb at hv
 split at hv
 rotate_left
 ·cases hv
 rename_i id len cap s' ys htail
 split at hv
 rotate_left
 ·cases hv
 rename_i cs fs hcs hfs
 split at hv
 rotate_left
 ·cases hv
 rename_i hcond
 obtain ⟨rfl, hpos, hlen, hlim⟩ := hcond
 simp only [Xac, Xcy] at hv
 obtain ⟨rfl, rfl⟩ := hv
 obtain ⟨news, hsrc, hfit, hnl, hnr⟩ := Zsr (P := P) h hk hu htail
 obtain ⟨_, rfl⟩ := Zy1 hfs
 have hfl : (flat ys).length = ys.length * ie.size := Zb6 fun y hy => (hfit y hy).1
 have hH : st.H id = some (.cells cs) := Zba hcs
 have hk0 := h.kill id
 have hscs : ∀ c ∈ cs.take (len * ie.size) ++ flat ys, c.sc = true := fun c hc => by
  rcases Xa3.1 hc with hc | hc
  ·exact (h.ob id _ hH).sc c (Xbh hc)
  ·exact Zwx hfit c hc
 have htl : (cs.take (len * ie.size)).length = len * ie.size := by simp; omega
 have hfitsB : ∀ (l c : Nat), c < l + ys.length -> l = len -> Builtin.nextslicecap (l + ys.length) c * ie.bytes <= 281474976710656 := fun l c h1 h2 => growslice_fits h1 (by
  subst h2
  have : (l + ys.length) * ie.bytes <= 4294967296 * 4096 := Xdg (by unfold Lim at hlim; omega) hby
  omega)
 cases hs with
 | osln _ _ _ p =>
  by_cases hy : ys = []
  ·subst hy
   have hn0 : news = [] := by simpa using hnl
   subst hn0
   refine ⟨.slice p 0 0, W, g, ?_, ?_, ?_⟩
   ·simp only [Xa5] at hsrc
    have h1 := hsrc.len
    have h2 := hsrc.cells
    cases p <;> rcases hk with ⟨e', hk⟩ | hk <;> simp [Builtin.append_, Zaa ht, Zaa hk, Zaf he, h1, h2, storeCells]
   ·have e : cs.take (0 * ie.size) ++ flat [] = [] := by simp [flat]
    rw [e]; exact hk0.newNil
   ·exact .osln _ _ _ _
  ·have hpos : 0 < ys.length := Xax.2 hy
   have hrun := run_append_grow_src (P := P) W t tx ty e ie z ht he hz p 0 0 [] (by cases p with | none => exact run_firstCells_none W.drew _ _ _ _ | some a0 => exact Za5 W.drew _ a0) xu ys.length news hsrc (by omega) (by unfold Lim at hlim; omega) (hfitsB 0 0 (by omega) rfl)
   obtain ⟨g', h1, h2⟩ := hk0.newObW (cs := cs.take (0 * ie.size) ++ flat ys) (Zc1 W _) (by simp) (Ze1 W _) (by
    rw [Xeq, Xcd, Xbg]
    exact Zpw (W := W) (G := g.G) (φ := g.φ) (cs := []) (fs := flat ys) (olds := []) (news := news) (more := Builtin.zeroCells z.cells (grownCap W (0 + ys.length) 0 e - (0 + ys.length))) rfl (by rw [hnl, hfl]) (fun j c hj => by simp at hj) hnr) hscs
   have hcapG := grownCap_ge W (0 + ys.length) 0 e
   refine ⟨_, _, g', hrun, h1, .osl _ _ _ _ _ _ _ h2 (Xag _) (by omega) ?_⟩
   rw [Xan]
   unfold csz; rw [Ze1]
   simp only [Xew, Xc8, Xbg, hnl, size_zeroCells, hzs]
   rw [<- Xb9]
   exact Xbl _ (by omega)
 | osl _ _ _ _ _ b cap' hφ hlc hc' hcz =>
  obtain ⟨ys0, t0, hblk, hrep, hsc0, _⟩ := (h.ob id _ hH).cells hφ
  have hcb : csz W b = ys0.size := by unfold csz; rw [hblk]
  have hdead : ∀ id', g.φ id' = some b -> (st.kill id).H id' = none := fun id' h' => by
   simp only [St.kill, upd]
   split
   ·rfl
   ·rename_i hne
    cases hH' : st.H id' with
    | none => rfl
    | some o => exact absurd (h.inj id' id b h' hφ (by rw [hH']; simp) (by rw [hH]; simp)) hne
  obtain ⟨hG0, how0⟩ := h.live id b hφ
  have hoverall : len * ie.size <= ys0.size := Xbp hlen hrep.1
  by_cases hroom : len + ys.length <= cap'
  ·have hm1 : (len + ys.length) * ie.size <= cap' * ie.size := Xbl _ hroom
   have hm2 : (len + ys.length) * ie.size = len * ie.size + ys.length * ie.size := Xb9 _ _ _
   have hrun := run_append_room_src (P := P) W t tx ty e ie ht he b 0 len cap' xu ys.length news hsrc hroom
    (fun j hj => by rw [cell_of_row _ b _ ys0 t0 (0, 0) hblk]; simp; omega) (fun j hj => by simp [World.frozen?, hblk])
   obtain ⟨s1, s2, s3, s4⟩ := Zc9 b news (0 + len * ie.size) W
   have hrow := Zg2 (o := 0 + len * ie.size) (vs := news) hblk (by omega)
   obtain ⟨g', h1, h2⟩ := hk0.rebind hφ hdead hG0 how0 hblk hrow (by simp; rw [Zcp _ _ _ (by simp; omega)]; simp) (fun k hk => Zbi b _ _ _ _ hk) ⟨s1, s2, s3, s4⟩ (cs := cs.take (len * ie.size) ++ flat ys) (by
    refine ⟨by simp; rw [Zcp _ _ _ (by simp; omega)]; simp; omega, fun i c x hc hx => ?_⟩
    simp only [Xcv] at hx
    rw [Zce _ _ _ (by simp; omega), Xan] at hx
    rcases Xa4 i (len * ie.size) with hlt | hge
    ·rw [Xa1 (by omega), Xc9 hlt] at hc
     rw [if_neg (by omega)] at hx
     exact hrep.2 i c x hc (by simpa using hx)
    ·rw [Xaz (by omega), htl] at hc
     have hli := (Xae.1 hc).1
     rw [if_pos (by omega)] at hx
     obtain ⟨y, h3, h4⟩ := hnr _ c hc
     rw [h3] at hx; cases hx; exact h4) hscs
   refine ⟨_, _, g', hrun, h1, .osl _ _ _ _ _ _ _ h2 (Xag _) hroom ?_⟩
   rw [Zep hblk]; exact hcz
  ·have holds : ∃ olds : List Value, olds.length = len * ie.size /\ (∀ j u, olds[j]? = some u -> W.cell? ((⟨b, 0, none⟩ : Addr).add j) = some u) /\ ∀ (j : Nat) (c : V), (cs.take (len * ie.size))[j]? = some c -> ∃ y, olds[j]? = some y /\ Rep W g.G g.φ c y := by
    refine ⟨ys0.toList.take (len * ie.size), by simp; omega, fun j u hu => ?_, fun j c hc => ?_⟩
    ·have hj := (Xae.1 hu).1
     simp only [Xbt, Xca] at hj
     rw [Xc9 (by omega)] at hu
     rw [Zbz, Xan, cell_of_row _ b _ ys0 t0 (0, 0) hblk]; simpa using hu
    ·have hj := (Xae.1 hc).1
     rw [htl] at hj
     rw [Xc9 hj] at hc
     exact ⟨ys0[j]'(by omega), by rw [Xc9 hj]; simp, hrep.2 j c _ hc (Xar (by omega))⟩
   obtain ⟨olds, hol, holc, hor⟩ := holds
   have hrun := run_append_grow_src (P := P) W t tx ty e ie z ht he hz (some ⟨b, 0, none⟩) len cap' olds (run_firstCells_some W.drew ie.size _ _ _ _ olds hol (by simpa using holc)) xu ys.length news hsrc (by omega) (by unfold Lim at hlim; omega) (hfitsB len cap' (by omega) rfl)
   obtain ⟨g', h1, h2⟩ := hk0.newObW (cs := cs.take (len * ie.size) ++ flat ys) (Zc1 W _) (by simp) (Ze1 W _) (by
    exact Zpw (W := W) (G := g.G) (φ := g.φ) (more := Builtin.zeroCells z.cells (grownCap W (len + ys.length) cap' e - (len + ys.length))) (by rw [hol, htl]) (by rw [hnl, hfl]) hor hnr) hscs
   have hcapG := grownCap_ge W (len + ys.length) cap' e
   refine ⟨_, _, g', hrun, h1, .osl _ _ _ _ _ _ _ h2 (Xag _) (by omega) ?_⟩
   rw [Xan]
   unfold csz; rw [Ze1]
   simp only [Xew, Xc8, Xai, hol, hnl, size_zeroCells, hzs]
   rw [<- Xb9, <- Xb9]
   exact Xbl _ (by omega)
theorem SR.setOb' (h : SR w B GB g st a W) {id b off : Nat} {cs ys : List V} {zs : Array Value} (hH : st.H id = some (.cells cs)) (hφ : g.φ id = some b) (hle : off + ys.length <= cs.length)
  (hr : RepL W g.G g.φ ys zs) (hsc : ∀ c ∈ ys, c.sc = true) : SR w B GB g (st.setOb id cs off ys) a (W.setCells b off zs.toList) := by
 refine SR.setObj (own' := (st.setOb id cs off ys).own) h hH hφ hle hr hsc fun p hp2 => .inr ?_
 cases p with
 | slot t => exact ⟨hp2, fun j e => by cases e⟩
 | cell i' j =>
  simp only [St.setOb] at hp2
  split at hp2
  ·cases hp2
  ·rename_i hne
   refine ⟨hp2, fun j' e => ?_⟩
   simp only [Pos.cell.injEq] at e
   obtain ⟨rfl, rfl⟩ := e
   omega
theorem Zo5 {W : World} {G : Nat -> Nat} {φ : Nat -> Option Nat} {v : V} {x : Value} (h : Rep W G φ v x) {n : Nat} {xs : Array Value} (hn : n <= xs.size) (hx : ∀ (i : Nat) (y : Value), xs[i]? = some y -> y = x) : RepP W G φ (List.replicate n v) xs := by
 refine ⟨by simpa using hn, fun i c y hc hy => ?_⟩
 rw [hx i y hy, (Xci.1 (Xak hc)).2]; exact h
theorem Zry (h : SR w B GB g st a W) {P : Program} {sz : Nat} {zero : List V} {l c v : V} {xl xc : Value} {t e : TypeId} {ie : TypeInfo} {z : Value} {st' : St}
  (ht : P.underlying t = some (.slice e)) (he : P.info? e = some ie) (hz : ie.zero = some z) (hsz : ie.size = sz) (hby : ie.bytes <= 4096) (hzv : Zdp P e = some zero)
  (hl : Rep W g.G g.φ l xl) (hc : Rep W g.G g.φ c xc) (hv : st.mkOb sz zero l c = some (st', v)) :
  ∃ y W' g', (Instr.makeSlice t xl xc).run P W = .ok y W' /\ SR w B GB g' st' a W' /\ Rep W' g'.G g'.φ v y := by
 subst hsz
 unfold St.mkOb at hv
 split at hv
 rotate_left
 ·cases hv
 rename_i kl n kc m
 split at hv
 rotate_left
 ·cases hv
 rename_i zv
 split at hv
 rotate_left
 ·cases hv
 rename_i hcond
 obtain ⟨h0, hnm, hlim, hs1, hsc⟩ := hcond
 simp only [Xac, Xcy] at hv
 obtain ⟨rfl, rfl⟩ := hv
 cases hl; cases hc
 obtain ⟨x, hzc, hrz, _⟩ := Zk3 (W := W) (G := g.G) (φ := g.φ) he hz hzv
 have hbig : (ie.bytes : Int) * m <= 281474976710656 := by
  unfold Lim at hlim
  obtain ⟨k, rfl⟩ : ∃ k : Nat, m = k := ⟨m.toNat, by omega⟩
  have h1 : ie.bytes * k <= 4096 * 4294967296 := Xdg hby (by omega)
  have h2 : ((ie.bytes * k : Nat) : Int) = (ie.bytes : Int) * (k : Int) := Xei _ _
  omega
 have hrun := run_make (P := P) W t e ie z ht he hz kl kc n m h0 hnm hbig (by unfold Lim at hlim; omega)
 obtain ⟨g', h1, h2⟩ := h.newObW (cs := List.replicate n.toNat zv) (Zb9 W (.cells (madeCells z.cells (m.toNat * ie.size)) e)) (by simp) (heap_alloc_new _ _) (Zo5 hrz (by rw [size_madeCells, hs1]; omega) (fun i y hy => by
  have hi := (Xba.1 hy).1
  rw [size_madeCells] at hi
  simp only [madeCells, hzc, Xc8, Xau, Xa5, Xan, Nat.mod_one] at hy
  simp [hi] at hy
  exact hy.symm)) (fun c hc => by rw [(Xci.1 hc).2]; exact hsc)
 refine ⟨_, _, g', hrun, h1, .osl _ _ _ _ _ _ _ h2 (Xag _) (by omega) ?_⟩
 unfold csz; rw [heap_alloc_new]
 simp only [size_madeCells, hs1]; omega
theorem Zsx (h : SR w B GB g st a W) {P : Program} {d s v : V} {xd xs : Value} {t ts ty e : TypeId} {ie : TypeInfo} {st' : St}
  (ht : P.underlying t = some (.slice e)) (he : P.info? e = some ie) (hsz : ie.size = 1) (hd : Rep W g.G g.φ d xd) (hs : Rep W g.G g.φ s xs) (hv : st.cpyOb d s = some (st', v)) :
  ∃ y W', (Builtin.copy_ #[t, ts] ty #[xd, xs]).run P W = .ok y W' /\ SR w B GB g st' a W' /\ Rep W' g.G g.φ v y := by
 unfold St.cpyOb at hv
 split at hv
 rotate_left
 ·cases hv
 rename_i id off len cap ys hsrc
 split at hv
 rotate_left
 ·cases hv
 rename_i cs hcs
 split at hv
 rotate_left
 ·cases hv
 rename_i hcond
 obtain ⟨hle, hpos⟩ := hcond
 simp only [Xac, Xcy] at hv
 obtain ⟨rfl, rfl⟩ := hv
 cases hs <;> simp only [vSrc, reduceCtorEq, Xac] at hsrc
 subst hsrc
 rename_i bs s' hb
 cases hd with
 | osln _ _ _ _ => omega
 | osl _ _ _ _ _ b cap' hφ hlc hc' hcz =>
  have hH : st.H id = some (.cells cs) := Zba hcs
  obtain ⟨ys0, t0, hblk, hrep, hsc0, _⟩ := (h.ob id _ hH).cells hφ
  have hs' : s'.size = bs.length := by rw [<- hb]; rfl
  have hel : (encB bs).length = bs.length := by simp [encB]
  obtain ⟨k, hk⟩ : ∃ k, k = Nat.min s'.size len := ⟨_, rfl⟩
  have hk2 : k <= bs.length /\ k <= len /\ (k = bs.length \/ k = len) := by
   rw [hk, hs']
   have := Nat.min_def (m := len) (n := bs.length)
   show min bs.length len <= _ /\ min bs.length len <= _ /\ (min bs.length len = _ \/ min bs.length len = _)
   omega
  have htk : (encB bs).take len = encB (bs.take k) := by
   simp only [encB, <- Xdy]
   congr 1
   rcases hk2.2.2 with e | e
   ·rw [e, Xa0 (by omega : bs.length <= len), Xa0 (Xag _)]
   ·rw [e]
  have hnews : ((s'.extract 0 k).data.map fun b => Value.int .u8 b.toNat) = ((bs.take k).map fun b => Value.int .u8 (b.toNat : Int)).toArray := by
   rw [<- hb]
   apply Array.ext'
   simp
  have hrl : RepL W g.G g.φ (encB (bs.take k)) ((bs.take k).map fun b => Value.int .u8 (b.toNat : Int)).toArray := by
   refine ⟨by simp [encB], fun i c x hc hx => ?_⟩
   simp only [encB, Xbr, Xaa] at hc
   simp only [Xcv, Xbr, Xaa] at hx
   obtain ⟨u, hu, rfl⟩ := hc
   obtain ⟨u', hu', rfl⟩ := hx
   rw [hu] at hu'; cases hu'
   exact .int _ _
  have hle2 : off + (encB (bs.take k)).length <= cs.length := by simp [encB]; omega
  have hstore := run_storeCells_cells (P := P) b off ((bs.take k).map fun b => Value.int .u8 (b.toNat : Int)) 0 W (fun j hj => by
    simp only [Xcp, Xbt] at hj
    rw [cell_of_row _ b _ ys0 t0 (0, 0) hblk]
    have := hrep.1
    simp; omega) (fun j hj => by simp [World.frozen?, hblk]) (fun y hy => by
    obtain ⟨_, _, rfl⟩ := Xbb.1 hy; rfl)
  rw [Xcq] at hstore
  rw [htk]
  refine ⟨.int .i64 (k : Int), _, ?_, h.setOb' hH hφ hle2 hrl (fun c hc => ?_), ?_⟩
  ·subst hb
   rw [Xdy] at hstore
   simp [Builtin.copy_, Zaa ht, Builtin.lenOf, Zaf he, hsz, Builtin.firstCells, <- hk, hstore, goInt]
  ·obtain ⟨_, _, rfl⟩ := Xbb.1 hc; rfl
  ·have : (min ((encB bs).length : Int) (len : Int)) = (k : Int) := by rw [hel]; omega
   rw [this]; exact .int _ _
theorem Zr6 (h : SR w B GB g st a W) {P : Program} {d zv : V} {xd : Value} {t ty e : TypeId} {ie : TypeInfo} {z : Value} {st' : St}
  (ht : P.underlying t = some (.slice e)) (he : P.info? e = some ie) (hz : ie.zero = some z) (hzv : Zdp P e = some [zv]) (hd : Rep W g.G g.φ d xd) (hv : st.clrOb [zv] d = some st') :
  ∃ W', (Builtin.clear_ #[t] ty #[xd]).run P W = .ok undef W' /\ SR w B GB g st' a W' := by
 unfold St.clrOb at hv
 split at hv
 rotate_left
 ·cases hv
 rename_i id off len cap z1 hz1
 cases hz1
 split at hv
 rotate_left
 ·cases hv
 rename_i cs hcs
 split at hv
 rotate_left
 ·cases hv
 rename_i hcond
 obtain ⟨hle, hpos, hsc⟩ := hcond
 simp only [Xac] at hv
 subst hv
 cases hd with
 | osln _ _ _ _ => omega
 | osl _ _ _ _ _ b cap' hφ hlc hc' hcz =>
  have hH : st.H id = some (.cells cs) := Zba hcs
  obtain ⟨ys0, t0, hblk, hrep, hsc0, _⟩ := (h.ob id _ hH).cells hφ
  obtain ⟨x, hzc, hrz, hzs⟩ := Zk3 (W := W) (G := g.G) (φ := g.φ) he hz hzv
  obtain ⟨news, hn⟩ : ∃ news, news = Builtin.zeroCells z.cells len := ⟨_, rfl⟩
  have hns : news.size = len := by rw [hn, size_zeroCells, hzc]; simp
  have hnx : ∀ (i : Nat) (y : Value), news[i]? = some y -> y = x := fun i y hy => by
   have hi := (Xba.1 hy).1
   rw [hns] at hi
   rw [hn] at hy
   simp only [Builtin.zeroCells, hzc, Xc8, Xau, Xa5, Xan, Nat.mod_one, Xcl] at hy
   simp [hi] at hy
   exact hy.symm
  have hrl : RepL W g.G g.φ (List.replicate len zv) news := ⟨by simp [hns], (Zo5 hrz (by omega) hnx).2⟩
  have hstore := run_storeCells_cells (P := P) b off news.toList 0 W (fun j hj => by
    simp only [Xca] at hj
    rw [cell_of_row _ b _ ys0 t0 (0, 0) hblk]
    have := hrep.1
    simp; omega) (fun j hj => by simp [World.frozen?, hblk]) (fun y hy => by
    obtain ⟨i, hi⟩ := Xdt hy
    rw [hnx i y (by simpa using hi)]
    exact hrz.one hzs)
  rw [Xcq] at hstore
  obtain ⟨n, rfl⟩ : ∃ n, len = n + 1 := ⟨len - 1, by omega⟩
  refine ⟨_, ?_, h.setOb' hH hφ (by simpa using hle) hrl (fun c hc => by rw [(Xci.1 hc).2]; exact hsc)⟩
  simp [Builtin.clear_, Zaa ht, zeroValue, Zcb he, hz, <- hn, hstore]
  rfl
theorem Zmu (hs : Scope cx w B GB) (hΓ : Sound cx Γ) (h : SR w B GB g st a W) {n : Nat} (hn : a.tmps.size = n) {R : TypeId -> Bool} {ops : Array Oper} {o : Oper} {ao : AOper} (hc : cOpR cx.P R n ops o = some ao.op) (hd : ao.dst = o.dst) {st' : St}
  (he : exec1 Γ cx.gl ao st = some st') {next : Act -> World -> Prop} {Q : Exit -> Act -> World -> Prop} (hnext : ∀ g' a' W', SR w B GB g' st' a' W' -> a'.tmps.size = n -> next a' W') : o.wp cx.P a W next Q := by
 rcases Zrc hc with hc | hrow
 ·exact Znx hs hΓ h hn hc hd he hnext
 ·obtain ⟨d, op, gd, af⟩ := ao
  simp only at hd hrow; subst hd
  obtain ⟨dst, oop, ty, pos, after, guard⟩ := o
  simp only at hrow he hnext ⊢
  cases hrow with
  | nro sz hop =>
   simp only [exec1, Xac] at he
   subst he
   refine Za4 (y := .slice none 0 0) (by rcases hop with rfl | rfl <;> rfl) (hnext g _ _ ((h.newNil).put dst _ false _ (.osln _ _ _ _) (fun _ _ h => by cases h)) (by rw [Za3]; exact hn))
  | clo f args ts xs ho hxs =>
   simp only [exec1, St.doCall, Xaa] at he
   obtain ⟨r0, hr0, rfl⟩ := he
   obtain ⟨hl, hr⟩ := Zcf h hn hxs
   have hL : RepL W g.G g.φ (xs.map (evO st.tm)) (args.map a.eval) := ⟨by simp [hl], fun i c x hc hx => hr i c x hc (by simpa using hx)⟩
   obtain ⟨e1, e2⟩ := Zd4 hs h (hΓ.h _ _ _ _ hr0) hL dst
   refine Zea (f := f) (xs := args.map a.eval) ?_ e2 fun y W' ⟨g', hsr⟩ => hnext g' _ _ hsr (by rw [Za3]; exact hn)
   simpa [execOp, ho, resolve, Deferred.ofValue, invoke, Act.eval] using e1
  | nrb sz t hsz hop =>
   subst hop
   simp only [exec1, Xac] at he
   subst he
   obtain ⟨e', ie, zz, hu', hi, hzz, hzs, hby, his⟩ := Zd2 hsz
   obtain ⟨y, W', g', hrun, hadv, _, _⟩ := Z13 h (P := cx.P) (sz := sz) (xs := []) (ys := []) (q := .slot 0) hu' hi hzz his (by rw [hzs]; exact his) (by simp) rfl (fun i c x hc => by simp at hc) rfl
   have hrun2 : (Instr.buildSlice t 0 #[]).run cx.P W = .ok (.slice (some ⟨W.heap.size, 0, none⟩) 0 0) (W.alloc (.cells #[] e')) := by
    simp [Instr.buildSlice, Zaa hu', Zaf hi, newRow, Instr.fill]
    congr 2
    apply Array.ext'; simp
   have hrun3 : (Instr.buildSlice t 0 #[]).run cx.P W = .ok y W' := by simpa using hrun
   rw [hrun2] at hrun3
   simp only [Result.ok.injEq] at hrun3
   obtain ⟨rfl, rfl⟩ := hrun3
   have hsr : SR w B GB g' st a (W.alloc (.cells #[] e')) := by have := h.adv hadv; simpa [St.take] using this
   exact Zas rfl (show (Instr.buildSlice t 0 _).run cx.P W = _ by simpa using hrun2) (hnext g' _ _ ((hsr.newNil).put dst _ false _ (.osln _ _ _ _) (fun _ _ h => by cases h)) (by rw [Za3]; exact hn))
  | mko t e l c sz z l' c' hop hsz hu hz h1 h2 =>
   subst hop
   simp only [exec1, Xaa] at he
   obtain ⟨⟨s1, v⟩, he, rfl⟩ := he
   obtain ⟨e', ie, zz, hu', hi, hzz, hzs, hby, his⟩ := Zd2 hsz
   rw [hu] at hu'; cases hu'
   obtain ⟨y, W', g', hrun, hsr, hrep⟩ := Zry h hu hi hzz his hby hz (Zad h hn h1) (Zad h hn h2) he
   exact Zas rfl hrun (hnext g' _ _ (hsr.put dst v false y hrep (fun _ _ h => by cases h)) (by rw [Za3]; exact hn))
  | appo s x t tx sz s' x' cl hop hcl ha hts hsz hk h1 h2 =>
   subst hop
   obtain ⟨callee, args, argTypes⟩ := cl
   simp only at hcl ha hts; subst hcl; subst ha; subst hts
   simp only [exec1, Xaa] at he
   obtain ⟨⟨s1, v⟩, he, rfl⟩ := he
   obtain ⟨e, ie, z, hu, hi, hz, hzs, hby, his⟩ := Zd2 hsz
   have hk' : (∃ e', cx.P.underlying tx = some (.slice e')) \/ cx.P.underlying tx = some .string := by
    simp only [Xa6] at hk
    rcases hk with hk | hk
    ·left; unfold isSl at hk; split at hk
     ·rename_i e' he'; exact ⟨e', he'⟩
     ·simp at hk
    ·right; unfold Zn2 at hk; split at hk
     ·assumption
     ·simp at hk
   obtain ⟨y, W', g', hrun, hsr, hrep⟩ := Zqy (ty := ty) h hu hi hz his (by rw [hzs]; exact his) hby hk' (Zad h hn h1) (Zad h hn h2) he
   refine Za4 ?_ (hnext g' _ _ (hsr.put dst v false y hrep (fun _ _ h => by cases h)) (by rw [Za3]; exact hn))
   simp only [execOp, resolve, invoke, builtin, Sem.run_bind, Sem.run_pure, Result.andThen_ok]
   simp [hrun]
  | cpy dd s t ts d' s' cl hop hcl ha hts hsz hk h1 h2 =>
   subst hop
   obtain ⟨callee, args, argTypes⟩ := cl
   simp only at hcl ha hts; subst hcl; subst ha; subst hts
   simp only [exec1, Xaa] at he
   obtain ⟨⟨s1, v⟩, he, rfl⟩ := he
   obtain ⟨e, ie, z, hu, hi, hz, hzs, hby, his⟩ := Zd2 hsz
   obtain ⟨y, W', hrun, hsr, hrep⟩ := Zsx (ts := ts) (ty := ty) h hu hi his (Zad h hn h1) (Zad h hn h2) he
   refine Za4 ?_ (hnext g _ _ (hsr.put dst v false y hrep (fun _ _ h => by cases h)) (by rw [Za3]; exact hn))
   simp only [execOp, resolve, invoke, builtin, Sem.run_bind, Sem.run_pure, Result.andThen_ok]
   simp [hrun]
  | clr dd t e z d' cl hop hcl ha hts hu hz hl h1 =>
   subst hop
   obtain ⟨callee, args, argTypes⟩ := cl
   simp only at hcl ha hts; subst hcl; subst ha; subst hts
   simp only [exec1, Xaa] at he
   obtain ⟨s1, he, rfl⟩ := he
   match z, hl with
   | [zv], _ =>
   have hz0 := hz
   unfold Zdp at hz0
   split at hz0
   ·rename_i ie hi
    split at hz0
    ·rename_i zz hzz
     obtain ⟨W', hrun, hsr⟩ := Zr6 (ty := ty) h hu hi hzz hz (Zad h hn h1) he
     refine Za4 ?_ (hnext g _ _ (hsr.putNil dst) (by rw [Za3]; exact hn))
     simp only [execOp, resolve, invoke, builtin, Sem.run_bind, Sem.run_pure, Result.andThen_ok]
     simp [hrun]
    ·cases hz0
   ·cases hz0
  | nmp t hop =>
   subst hop
   simp only [exec1, Xac] at he
   subst he
   obtain ⟨g', h1, h2⟩ := h.newMpW
   have hrun : (Instr.makeMap t none).run cx.P W = .ok (.map (some W.heap.size)) (W.alloc (.map #[] 0)) := by
    simp [Instr.makeMap]
   exact Zas rfl hrun (hnext g' _ _ (h1.put dst (.map st.nH) false _ (.map _ _ h2) (fun _ _ h => by cases h)) (by rw [Za3]; exact hn))
  | mlk t kt et m k ok q z m' k' hop hu hq hz h1 h2 =>
   subst hop
   simp only [exec1, Xaa, Zbh] at he
   obtain ⟨r, hr, rfl⟩ := he
   obtain ⟨v, hv, rfl⟩ := Zai hr
   obtain ⟨y, hrun, hrep⟩ := Zyx h hu hq hz (Zad h hn h1) (Zad h hn h2) hv
   exact Zas rfl hrun (hnext g _ _ ((by simpa [St.take] using h : SR w B GB g (st.take none) a W).put dst v false y hrep (fun _ _ h => by cases h)) (by rw [Za3]; exact hn))
  | mup t kt et m k x q m' k' x' hop hu hq h1 h2 h3 =>
   simp only [exec1, Xaa] at he
   obtain ⟨s1, he, rfl⟩ := he
   obtain ⟨W', hrun, hsr⟩ := Zyu h hu hq (Zad h hn h1) (Zad h hn h2) (Zad h hn h3) he
   refine Zqc (W' := W') ?_ (hnext g _ _ (hsr.putNil dst) (by rw [Za3]; exact hn))
   rcases hop with rfl | rfl <;> simp [execOp, hrun]
  | mln t kt et m m' cl hop hcl ha hts hu h1 =>
   subst hop
   obtain ⟨callee, args, argTypes⟩ := cl
   simp only at hcl ha hts; subst hcl; subst ha; subst hts
   simp only [exec1, Xaa, Zbh] at he
   obtain ⟨r, hr, rfl⟩ := he
   obtain ⟨v, hv, rfl⟩ := Zai hr
   obtain ⟨y, hrun, hrep⟩ := Zyv (ty := ty) h hu (Zad h hn h1) hv
   refine Za4 ?_ (hnext g _ _ ((by simpa [St.take] using h : SR w B GB g (st.take none) a W).put dst v false y hrep (fun _ _ h => by cases h)) (by rw [Za3]; exact hn))
   simp only [execOp, resolve, invoke, builtin, Sem.run_bind, Sem.run_pure, Result.andThen_ok]
   simp [hrun]
end Go.Abs
namespace Go.Abs
open Go.RowKit
def Zx6 (n : Nat) (ops : Array Oper) : Option (Nat × Bool) -> Option (Option (Nat × Bool))
 | none => some none
 | some (j, wt) => match (ops[j]?).bind (·.dst) with
  | some s => if s < n then some (some (s, wt)) else none
  | none => none
def Zpk (o : Oper) : List Nat := (o.after.toList.filter (Region.binds .any)).map (·.on)
def Zg5 (P : Program) (R : TypeId -> Bool) (n : Nat) (ops : Array Oper) (o : Oper) : Option AOper :=
 (cOpR P R n ops o).bind fun ao => (Zx6 n ops o.guard).map fun gd => ⟨o.dst, ao, gd, Zpk o⟩
def Zff (P : Program) (R : TypeId -> Bool) (n : Nat) (ops : Array Oper) : List Oper -> Option (List AOper)
 | [] => some []
 | o :: r => (Zg5 P R n ops o).bind fun a => (Zff P R n ops r).map (a :: ·)
variable {cx : Cx} {w : World} {B : Nat -> Prop} {GB : Gh} {g : Gh} {st : St} {a : Act} {W : World} {Γ : Spec} {R : TypeId -> Bool}
theorem Zdb {P : Program} {R : TypeId -> Bool} {n : Nat} {ops : Array Oper} : ∀ {os : List Oper} {aos : List AOper}, Zff P R n ops os = some aos -> aos.length = os.length /\ ∀ (i : Nat) (o : Oper), os[i]? = some o -> ∃ x, aos[i]? = some x /\ Zg5 P R n ops o = some x
 | [], aos, h => by simp [Zff] at h; subst h; exact ⟨rfl, fun i o hi => by simp at hi⟩
 | o :: r, aos, h => by
  simp only [Zff, Xab, Xaa] at h
  obtain ⟨x, h1, xs, h2, rfl⟩ := h
  obtain ⟨h3, h4⟩ := Zdb h2
  refine ⟨by simp [h3], fun i o' hi => ?_⟩
  cases i with
  | zero => simp at hi; subst hi; exact ⟨x, rfl, h1⟩
  | succ i => simpa using h4 i o' (by simpa using hi)
theorem Zvp (h : SR w B GB g st a W) {n : Nat} (hn : a.tmps.size = n) {ops : Array Oper} {o : Oper} {x : AOper} (hc : Zg5 cx.P R n ops o = some x) : Region.wanted o (yielded ops a.tmps) = st.wants x := by
 simp only [Zg5, Xab, Xaa] at hc
 obtain ⟨ao, _, gd, hg, rfl⟩ := hc
 unfold Zx6 at hg
 unfold Region.wanted St.wants
 split at hg
 ·rename_i he
  simp only [Xac] at hg; subst hg
  rw [he]
 ·rename_i j wt he
  rw [he]
  split at hg
  ·rename_i s hs
   split at hg
   ·rename_i hlt
    simp only [Xac] at hg; subst hg
    simp only [yielded, hs, Xaj]
    obtain ⟨y, hx⟩ : ∃ y, a.tmps[s]? = some y := ⟨_, Xar (show s < a.tmps.size by rw [hn]; exact hlt)⟩
    have hr := h.tm s _ hx
    rw [hx]
    generalize st.tm s = v at hr
    cases hr <;> simp
   ·simp at hg
  ·simp at hg
theorem Zht (hs : Scope cx w B GB) (hΓ : Sound cx Γ) (h : SR w B GB g st a W) {n : Nat} (hn : a.tmps.size = n) {ops : Array Oper} {i : Nat} {o : Oper} {x : AOper} (ho : ops[i]? = some o) (hc : Zg5 cx.P R n ops o = some x) {st' : St}
  (he : exec Γ cx.gl x st = some st') {K : Act -> World -> Prop} {Q : Exit -> Act -> World -> Prop} (hnext : ∀ g' a' W', SR w B GB g' st' a' W' -> a'.tmps.size = n -> K a' W') : wpOp cx.P ops Q i K a W := by
 unfold wpOp
 simp only [ho]
 have hw := Zvp h hn hc
 have hc' := hc
 simp only [Zg5, Xab, Xaa] at hc'
 obtain ⟨ao, h1, gd, _, rfl⟩ := hc'
 rw [hw]
 unfold exec at he
 split at he
 ·rename_i hwt
  rw [if_pos hwt]
  exact .inl (Zmu hs hΓ h hn (ao := ⟨o.dst, ao, gd, Zpk o⟩) h1 rfl he hnext)
 ·rename_i hwt
  rw [if_neg hwt]
  simp only [Xac] at he
  subst he
  exact hnext g _ _ (h.putNil o.dst) (by rw [Za3]; exact hn)
theorem Zod (hs : Scope cx w B GB) (hΓ : Sound cx Γ) {n : Nat} {ops : Array Oper} {aos : List AOper} (hc : Zff cx.P R n ops ops.toList = some aos) {Q : Exit -> Act -> World -> Prop} {st' : St}
  (hnext : ∀ g' a' W', SR w B GB g' st' a' W' -> a'.tmps.size = n -> Q .normal a' W') : ∀ (m k : Nat) (g : Gh) (st : St) (a : Act) (W : World), k + m = ops.size -> SR w B GB g st a W -> a.tmps.size = n -> execs Γ cx.gl (aos.drop k) st = some st' ->
  wpOps cx.P ops Q (List.range' k m) a W := by
 obtain ⟨hl, hget⟩ := Zdb hc
 intro m
 induction m with
 | zero =>
  intro k g st a W hk h hn he
  have : aos.drop k = [] := Xat (by rw [hl]; simp; omega)
  rw [this] at he
  simp only [execs, Xac] at he
  subst he
  exact hnext g a W h hn
 | succ m ih =>
  intro k g st a W hk h hn he
  have hlt : k < ops.size := by omega
  obtain ⟨x, hx, hcx⟩ := hget k ops[k] (by simp [hlt])
  have hxl : k < aos.length := (Xae.1 hx).1
  have hd : aos.drop k = x :: aos.drop (k + 1) := by
   rw [Xao hxl]
   congr 1
   have := Xad hxl
   rw [hx] at this; exact (Option.some.inj this).symm
  rw [hd] at he
  simp only [execs] at he
  split at he
  ·rename_i st1 he1
   rw [Xe2, wpOps_cons]
   exact Zht hs hΓ h hn (Xar hlt) hcx he1 fun g' a' W' h' hn' => ih (k + 1) g' st1 a' W' (by omega) h' hn' he
  ·simp at he
def opdR : Opd -> List Nat
 | .tmp t => [t]
 | .const _ => []
def Zyh (xs : List Opd) : List Nat := xs.flatMap opdR
def optR : Option Opd -> List Nat
 | some x => opdR x
 | none => []
def AOp.reads : AOp -> List Nat
 | .mv x | .ext x _ | .un _ x | .len _ x | .faddr _ x | .load _ x | .ldp _ x | .ldo x | .fld _ _ x | .s2b x | .b2s x | .i2i _ x | .s2s x | .s2a _ x | .nilck x | .box x => opdR x
 | .mvo t => [t]
 | .pick c x y => opdR c ++ opdR x ++ opdR y
 | .bin _ _ x y | .mnx _ x y | .iaddr _ x y | .iarr _ _ x y | .idx x y | .idxa _ _ _ x y | .app _ x y | .mks _ _ x y => opdR x ++ opdR y
 | .sls x lo hi => opdR x ++ optR lo ++ optR hi
 | .slc _ x lo hi mx | .slca _ _ x lo hi mx => opdR x ++ optR lo ++ optR hi ++ optR mx
 | .build _ ps => ps.flatMap fun p => opdR p.2.2
 | .bsl _ xs | .call _ xs | .mkf _ xs | .mkm _ xs | .callh _ xs => Zyh xs
 | .callv f xs | .callvh f xs => opdR f ++ Zyh xs
 | .new _ | .nro _ | .nmp => []
 | .mlk _ _ _ x y => opdR x ++ opdR y
 | .mup _ x y z => opdR x ++ opdR y ++ opdR z
 | .mln x => opdR x
 | .mko _ _ x y | .appo _ x y | .cpy x y => opdR x ++ opdR y
 | .clr _ x => opdR x
 | .store _ x y => opdR x ++ opdR y
 | .sto x t => opdR x ++ [t]
def AOp.owns : AOp -> List Nat
 | .mvo t => [t]
 | .app _ x _ => opdR x
 | _ => []
def AOp.isLdo : AOp -> Bool
 | .ldo _ => true
 | _ => false
def AOp.isNew : AOp -> Bool
 | .new _ | .box _ => true
 | _ => false
def AOp.isStore : AOp -> Bool
 | .store _ _ _ | .sto _ _ | .callh _ _ | .callvh _ _ | .nro _ | .mko _ _ _ _ | .appo _ _ _ | .cpy _ _ | .clr _ _ | .nmp | .mup _ _ _ _ => true
 | _ => false
theorem Zav {tm tm' : Nat -> V} {x : Opd} (h : ∀ t ∈ opdR x, tm t = tm' t) : evO tm x = evO tm' x := by
 cases x with
 | tmp t => exact h t (by simp [opdR])
 | const v => rfl
theorem Zdu {tm tm' : Nat -> V} {xs : List Opd} (h : ∀ t ∈ Zyh xs, tm t = tm' t) : xs.map (evO tm) = xs.map (evO tm') := by
 apply Xej
 intro x hx
 exact Zav fun t ht => h t (Xb4.2 ⟨x, hx, ht⟩)
theorem Zca {tm tm' : Nat -> V} {x : Option Opd} (h : ∀ t ∈ optR x, tm t = tm' t) : x.map (evO tm) = x.map (evO tm') := by
 cases x with
 | none => rfl
 | some x => simp only [Xas]; rw [Zav h]
theorem Zn0 {gl : Nat -> Option (List V)} {H : Hp} {own own' : Pos -> Bool} {tm tm' : Nat -> V} {ao : AOp} (h : ∀ t ∈ ao.reads, tm t = tm' t) (ho : ∀ t ∈ ao.owns, own (.slot t) = own' (.slot t)) (hl : ao.isLdo = true -> ∀ id j, own (.cell id j) = own' (.cell id j)) :
  Zbh Γ gl H own tm ao = Zbh Γ gl H own' tm' ao := by
 cases ao <;> simp only [AOp.reads, AOp.owns, AOp.isLdo] at h ho hl <;> simp only [Zbh]
 case mv x => rw [Zav h]
 case mvo t => rw [h t (by simp), ho t (by simp)]
 case pick c x y =>
  rw [Zav fun t ht => h t (by simp [ht]), Zav (x := x) fun t ht => h t (by simp [ht]), Zav (x := y) fun t ht => h t (by simp [ht])]
 case build z ps =>
  congr 3
  apply Xej
  intro p hp
  rw [Zav fun t ht => h t (Xb4.2 ⟨p, hp, ht⟩)]
 case bsl sz xs => rw [Zdu h]
 case call f xs => rw [Zdu h]
 case mkf f xs => rw [Zdu h]
 case mkm f xs => rw [Zdu h]
 case callv f xs => rw [Zav fun t ht => h t (Xc7 _ ht), Zdu fun t ht => h t (Xea _ ht)]
 case sls x lo hi =>
  rw [Zav (x := x) fun t ht => h t (by simp [ht]), Zca (x := lo) fun t ht => h t (by simp [ht]), Zca (x := hi) fun t ht => h t (by simp [ht])]
 case slc sz x lo hi mx =>
  rw [Zav (x := x) fun t ht => h t (by simp [ht]), Zca (x := lo) fun t ht => h t (by simp [ht]), Zca (x := hi) fun t ht => h t (by simp [ht]), Zca (x := mx) fun t ht => h t (by simp [ht])]
 case slca n sz x lo hi mx =>
  rw [Zav (x := x) fun t ht => h t (by simp [ht]), Zca (x := lo) fun t ht => h t (by simp [ht]), Zca (x := hi) fun t ht => h t (by simp [ht]), Zca (x := mx) fun t ht => h t (by simp [ht])]
 case ldo x =>
  rw [Zav h]
  cases evO tm' x <;> simp only [vLdo]
  rename_i id o
  rw [hl trivial id o]
 case app sz s x =>
  rw [Zav (x := s) fun t ht => h t (by simp [ht]), Zav (x := x) fun t ht => h t (by simp [ht])]
  congr 1
  cases s with
  | tmp t => exact ho t (by simp [opdR])
  | const v => rfl
 all_goals first
  | rw [Zav h]
  | rw [Zav (fun t ht => h t (Xc7 _ ht)), Zav (fun t ht => h t (Xea _ ht))]
  | rfl
end Go.Abs
namespace Go.Abs
open Go.RowKit
variable {cx : Cx} {w : World} {B : Nat -> Prop} {GB : Gh} {g : Gh} {st : St} {a : Act} {W : World} {Γ : Spec}
structure Ud where
 d : Option Nat
 v : V
 o : Bool
 tk : Option Pos
 nw : Option (List V)
def Ud.app (u : Ud) (st : St) : St :=
 match u.nw with
 | none => (st.take u.tk).put u.d u.v u.o
 | some cs => (st.new cs).put u.d (.ptr st.nH 0) false
def udOf (Γ : Spec) (gl : Nat -> Option (List V)) (x : AOper) (st : St) : Option Ud :=
 if st.wants x then
  match x.op with
  | .new cs => some ⟨x.dst, Nil, false, none, some cs⟩
  | .box y => if (st.ev y).cells.all V.sc then some ⟨x.dst, Nil, false, none, some (st.ev y).cells⟩ else none
  | op => (Zbh Γ gl st.H st.own st.tm op).map fun r => ⟨x.dst, r.v, r.o, r.tk, none⟩
 else some ⟨x.dst, Nil, false, none, none⟩
theorem Zdz {gl : Nat -> Option (List V)} {x : AOper} {st : St} {u : Ud} (hns : x.op.isStore = false) (h : udOf Γ gl x st = some u) : exec Γ gl x st = some (u.app st) := by
 unfold udOf at h
 unfold exec
 split at h
 ·rename_i hw
  rw [if_pos hw]
  obtain ⟨d, op, gd, af⟩ := x
  cases op <;> simp only [AOp.isStore, Bool.true_eq_false] at hns <;> simp only at h
  case new cs => simp only [Xac] at h; subst h; rfl
  case box y =>
   split at h
   ·rename_i hall
    simp only [Xac] at h; subst h
    simp only [exec1, hall, if_true]; rfl
   ·simp at h
  all_goals
   simp only [Xaa] at h
   obtain ⟨r, hr, rfl⟩ := h
   simp only [exec1, hr, Xas]
   rfl
 ·rename_i hw
  rw [if_neg hw]
  simp only [Xac] at h; subst h; rfl
theorem Zgk {gl : Nat -> Option (List V)} {x : AOper} {st st' : St} (hns : x.op.isStore = false) (h : exec Γ gl x st = some st') : ∃ u, udOf Γ gl x st = some u /\ st' = u.app st := by
 unfold exec at h
 unfold udOf
 split at h
 ·rename_i hw
  rw [if_pos hw]
  obtain ⟨d, op, gd, af⟩ := x
  cases op <;> simp only [AOp.isStore, Bool.true_eq_false] at hns <;> simp only [exec1] at h
  case new cs => simp only [Xac] at h; subst h; exact ⟨_, rfl, rfl⟩
  case box y =>
   split at h
   ·rename_i hall
    simp only [Xac] at h; subst h
    exact ⟨⟨d, Nil, false, none, some (st.ev y).cells⟩, by simp only [hall, if_true], rfl⟩
   ·simp at h
  all_goals
   simp only [Xaa] at h
   obtain ⟨r, hr, rfl⟩ := h
   exact ⟨⟨d, r.v, r.o, r.tk, none⟩, by simp only [hr, Xas], rfl⟩
 ·rename_i hw
  rw [if_neg hw]
  simp only [Xac] at h; subst h
  exact ⟨_, rfl, rfl⟩
theorem ud_d {gl : Nat -> Option (List V)} {x : AOper} {st : St} {u : Ud} (h : udOf Γ gl x st = some u) : u.d = x.dst := by
 unfold udOf at h
 split at h
 ·split at h
  ·simp only [Xac] at h; subst h; rfl
  ·split at h
   ·simp only [Xac] at h; subst h; rfl
   ·simp at h
  ·simp only [Xaa] at h; obtain ⟨r, _, rfl⟩ := h; rfl
 ·simp only [Xac] at h; subst h; rfl
theorem Ziz {gl : Nat -> Option (List V)} {x : AOper} {st : St} {u : Ud} (h : udOf Γ gl x st = some u) : u.tk = none \/ (∃ t, u.tk = some (.slot t) /\ t ∈ x.op.owns) \/ (x.op.isLdo = true /\ ∃ id j, u.tk = some (.cell id j)) := by
 unfold udOf at h
 split at h
 ·rename_i hw
  obtain ⟨d, op, gd, af⟩ := x
  cases op <;> simp only at h
  case new cs => simp only [Xac] at h; subst h; exact .inl rfl
  case box y =>
   split at h
   ·simp only [Xac] at h; subst h; exact .inl rfl
   ·simp at h
  all_goals
   simp only [Xaa] at h
   obtain ⟨r, hr, rfl⟩ := h
   simp only [Zbh] at hr
  case mvo t => simp only [Xac] at hr; subst hr; exact .inr (.inl ⟨t, rfl, by simp [AOp.owns]⟩)
  case ldo x =>
   unfold vLdo at hr
   split at hr
   ·simp only [Xab, Xaa] at hr
    obtain ⟨_, _, _, _, rfl⟩ := hr
    exact .inr (.inr ⟨rfl, _, _, rfl⟩)
   ·simp at hr
  case app sz s x =>
   unfold vApp at hr
   split at hr
   ·split at hr
    ·simp only [Xac] at hr; subst hr; exact .inl rfl
    ·simp at hr
   ·split at hr
    ·simp only [Xac] at hr; subst hr
     cases s with
     | tmp t => exact .inr (.inl ⟨t, rfl, by simp [AOp.owns, opdR]⟩)
     | const v => exact .inl rfl
    ·simp at hr
   ·simp at hr
  case slc sz x lo hi mx =>
   unfold vSlc at hr
   split at hr
   ·split at hr
    ·simp only [Xaa] at hr; obtain ⟨_, _, rfl⟩ := hr; exact .inl rfl
    ·simp at hr
   ·split at hr
    ·simp only [Xaa] at hr; obtain ⟨_, _, rfl⟩ := hr; exact .inl rfl
    ·simp at hr
   ·simp at hr
  case bsl sz xs => split at hr <;> simp at hr; subst hr; exact .inl rfl
  case s2b x => unfold vS2b at hr; split at hr <;> simp at hr; subst hr; exact .inl rfl
  case mks sz z x y =>
   unfold vMk at hr
   split at hr
   rotate_left
   ·unfold vMkz at hr
    repeat' (first | (split at hr) | (simp only [Xac] at hr; subst hr; exact .inl rfl) | (cases hr))
   unfold vMks at hr
   split at hr
   ·split at hr
    ·simp only [Xac] at hr; subst hr; exact .inl rfl
    ·simp at hr
   ·simp at hr
  case call f xs =>
   unfold Zi1 at hr
   split at hr
   ·cases hr
   split at hr
   ·simp only [Xab] at hr; obtain ⟨_, _, _, _, _, _, _, _, hr⟩ := hr
    split at hr
    ·cases hr; exact .inl rfl
    ·cases hr
   ·simp only [Xaa] at hr; obtain ⟨_, _, rfl⟩ := hr; exact .inl rfl
  case callv f xs =>
   unfold Zm3 at hr
   split at hr
   ·simp only [Xaa] at hr; obtain ⟨_, _, rfl⟩ := hr; exact .inl rfl
   ·simp at hr
  case mv x => simp only [Xac] at hr; subst hr; exact .inl rfl
  case mkf f xs => simp only [Xac] at hr; subst hr; exact .inl rfl
  case mkm f xs => simp only [Xac] at hr; subst hr; exact .inl rfl
  all_goals first
   | (obtain ⟨_, _, rfl⟩ := Zai hr; exact .inl rfl)
   | simp at hr
 ·simp only [Xac] at h; subst h; exact .inl rfl
theorem St.ext' {s t : St} (h1 : s.tm = t.tm) (h2 : s.own = t.own) (h3 : s.H = t.H) (h4 : s.nH = t.nH) : s = t := by cases s; cases t; simp_all
def Ud.val (u : Ud) (st : St) : V := match u.nw with | none => u.v | some _ => .ptr st.nH 0
def Ud.flag (u : Ud) : Bool := match u.nw with | none => u.o | some _ => false
def Ud.took (u : Ud) : Option Pos := match u.nw with | none => u.tk | some _ => none
theorem Zf3 (u : Ud) (st : St) (t : Nat) : (u.app st).tm t = if u.d = some t then u.val st else st.tm t := by
 obtain ⟨d, v, o, tk, nw⟩ := u
 cases nw <;> cases d <;> simp [Ud.app, Ud.val, St.put, upd, St.new, eq_comm]
def Zdk (id : Nat) : Pos -> Bool
 | .cell i _ => i == id
 | .slot _ => false
theorem Zdg (u : Ud) (st : St) (p : Pos) : (u.app st).own p = if u.d.map Pos.slot = some p then u.flag else if u.took = some p then false else if u.nw.isSome = true /\ Zdk st.nH p = true then false else st.own p := by
 obtain ⟨d, v, o, tk, nw⟩ := u
 have h1 : ∀ d : Nat, (Option.map Pos.slot (some d) = some p) <-> p = .slot d := fun d => by simp [eq_comm (a := p)]
 have h2 : ∀ q : Pos, (some q = some p) <-> p = q := fun q => by simp [eq_comm (a := p)]
 have h3 : (Option.map Pos.slot (none : Option Nat) = some p) <-> False := by simp
 have h4 : ((none : Option Pos) = some p) <-> False := by simp
 cases nw with
 | none =>
  cases d with
  | none =>
   cases tk with
   | none => simp [Ud.app, Ud.took, St.put, St.take]
   | some q => simp only [Ud.app, Ud.took, St.put, St.take, updP, h2, h3, if_false]; simp
  | some d =>
   cases tk with
   | none => simp only [Ud.app, Ud.took, Ud.flag, St.put, St.take, updP, h1, h4, if_false]; simp
   | some q => simp only [Ud.app, Ud.took, Ud.flag, St.put, St.take, updP, h1, h2]; simp
 | some cs =>
  cases d with
  | none => cases p <;> simp [Ud.app, Ud.took, St.put, St.new, Zdk]
  | some d =>
   simp only [Ud.app, Ud.took, Ud.flag, St.put, St.new, updP, h1, h4, if_false]
   cases p <;> simp [Zdk]
theorem Zie (u : Ud) (st : St) : (u.app st).H = (match u.nw with | none => st.H | some cs => upd st.H st.nH (some (.cells cs))) /\ (u.app st).nH = st.nH + (if u.nw.isSome then 1 else 0) := by
 obtain ⟨d, v, o, tk, nw⟩ := u
 cases nw <;> cases d <;> simp [Ud.app, St.put, St.new]
def Zc4 : Option Pos -> Bool
 | some (.cell _ _) => true
 | _ => false
structure Apart (u v : Ud) : Prop where
 d : ∀ t, u.d = some t -> v.d ≠ some t
 tu : ∀ t, u.tk = some (.slot t) -> v.d ≠ some t /\ v.tk ≠ some (.slot t)
 tv : ∀ t, v.tk = some (.slot t) -> u.d ≠ some t /\ u.tk ≠ some (.slot t)
 c : ¬(Zc4 u.tk = true /\ Zc4 v.tk = true)
 n : ¬(u.nw.isSome = true /\ v.nw.isSome = true)
 nu : u.nw.isSome = true -> Zc4 v.tk = false
 nv : v.nw.isSome = true -> Zc4 u.tk = false
theorem Ud.took_slot {u : Ud} {t : Nat} (h : u.took = some (.slot t)) : u.tk = some (.slot t) := by
 unfold Ud.took at h; split at h
 ·exact h
 ·cases h
theorem Ud.took_cell {u : Ud} {id j : Nat} (h : u.took = some (.cell id j)) : Zc4 u.tk = true /\ u.nw = none := by
 unfold Ud.took at h; split at h
 ·rename_i e; rw [h]; exact ⟨rfl, e⟩
 ·cases h
theorem Zwy {u v : Ud} (h : Apart u v) (st : St) : u.app (v.app st) = v.app (u.app st) := by
 obtain ⟨hu1, hu2⟩ := Zie u st
 obtain ⟨hv1, hv2⟩ := Zie v st
 obtain ⟨huv1, huv2⟩ := Zie u (v.app st)
 obtain ⟨hvu1, hvu2⟩ := Zie v (u.app st)
 have hn : u.nw = none \/ v.nw = none := by
  cases hu : u.nw with
  | none => exact .inl rfl
  | some a => cases hv : v.nw with
   | none => exact .inr rfl
   | some b => exact absurd ⟨by simp [hu], by simp [hv]⟩ h.n
 have valu : u.val (v.app st) = u.val st := by
  unfold Ud.val
  rcases hn with e | e
  ·rw [e]
  ·rw [hv2, e]; rfl
 have valv : v.val (u.app st) = v.val st := by
  unfold Ud.val
  rcases hn with e | e
  ·rw [hu2, e]; rfl
  ·rw [e]
 apply St.ext'
 ·funext t
  rw [Zf3, Zf3, Zf3, Zf3, valu, valv]
  by_cases e1 : u.d = some t
  ·rw [if_pos e1, if_neg (h.d t e1), if_pos e1]
  ·rw [if_neg e1, if_neg e1]
 ·funext p
  rw [Zdg, Zdg, Zdg, Zdg]
  cases p with
  | slot t =>
   have e : ∀ x : Option Nat, (x.map Pos.slot = some (.slot t)) <-> x = some t := by intro x; cases x <;> simp
   simp only [e, Zdk, Xaq, and_false, if_false]
   by_cases c1 : u.d = some t
   ·have c2 := h.d t c1
    have c3 : v.took ≠ some (.slot t) := fun e => (h.tv t (Ud.took_slot e)).1 c1
    simp [c1, c2, c3]
   ·by_cases c2 : v.d = some t
    ·have c3 : u.took ≠ some (.slot t) := fun e => (h.tu t (Ud.took_slot e)).1 c2
     simp [c1, c2, c3]
    ·simp only [c1, c2, if_false]
     by_cases c3 : u.took = some (.slot t) <;> by_cases c4 : v.took = some (.slot t) <;> simp [c3, c4]
  | cell id j =>
   have e : ∀ x : Option Nat, (x.map Pos.slot = some (Pos.cell id j)) <-> False := by intro x; cases x <;> simp
   simp only [e, if_false]
   have c2 : ∀ (x : Ud) (s s' : St), x.nw = none -> ((x.nw.isSome = true /\ Zdk s.nH (.cell id j) = true) <-> False) := fun x s s' hx => by simp [hx]
   rcases hn with hu | hv
   ·have hnH : (u.app st).nH = st.nH := by rw [hu2, hu]; simp
    rw [hnH]
    simp only [hu, Xbx, Xaq, false_and, if_false]
    by_cases c3 : u.took = some (.cell id j)
    ·by_cases c4 : v.took = some (.cell id j)
     ·simp [c3, c4]
     ·simp only [c3, c4, if_true, if_false]
      by_cases c5 : v.nw.isSome = true /\ Zdk st.nH (.cell id j) = true
      ·exact absurd (Ud.took_cell c3).1 (by rw [h.nv c5.1]; simp)
      ·simp [c5]
    ·simp only [c3, if_false]
   ·have hnH : (v.app st).nH = st.nH := by rw [hv2, hv]; simp
    rw [hnH]
    simp only [hv, Xbx, Xaq, false_and, if_false]
    by_cases c3 : v.took = some (.cell id j)
    ·by_cases c4 : u.took = some (.cell id j)
     ·simp [c3, c4]
     ·simp only [c3, c4, if_true, if_false]
      by_cases c5 : u.nw.isSome = true /\ Zdk st.nH (.cell id j) = true
      ·exact absurd (Ud.took_cell c3).1 (by rw [h.nu c5.1]; simp)
      ·simp [c5]
    ·simp only [c3, if_false]
 ·rw [huv1, hvu1]
  rcases hn with hu | hv
  ·rw [hu]; simp only; rw [hv1]; rw [hu1, hu2, hu]; simp
  ·rw [hv]; simp only; rw [hu1]; rw [hv1, hv2, hv]; simp
 ·rw [huv2, hvu2, hu2, hv2]; omega
end Go.Abs
namespace Go.Abs
open Go.RowKit
variable {cx : Cx} {w : World} {B : Nat -> Prop} {GB : Gh} {g : Gh} {st : St} {a : Act} {W : World} {Γ : Spec}
def Zcd : V -> Option Nat
 | .ptr id _ => some id
 | .osl id _ len _ _ => if len = 0 then none else some id
 | .map id => some id
 | _ => none
def AOp.hOpds : AOp -> List Opd
 | .load _ x | .ldo x | .b2s x | .app _ _ x | .slca _ _ x _ _ _ | .mlk _ _ _ x _ | .mln x => [x]
 | .call _ xs => xs
 | _ => []
def Zho (n : Nat) : Opd -> Bool
 | .tmp t => decide (t < n)
 | .const v => (Zcd v).isNone
theorem Zb7 {H H' : Hp} {id : Nat} (h : H id = H' id) : Zan H id = Zan H' id := by unfold Zan; rw [h]
theorem Zh8 {H H' : Hp} {m : V} (h : ∀ id, Zcd m = some id -> H id = H' id) : Zil H m = Zil H' m := by
 cases m <;> simp only [Zil]
 rename_i id
 unfold hMap
 rw [h id rfl]
theorem Zi6 {H : Hp} {m : V} {l : List (V × V)} (h : Zil H m = some l) : ∀ id, Zcd m = some id -> (H id).isSome = true := by
 intro id hid
 cases m <;> simp only [Zil, reduceCtorEq] at h
 ·rename_i i
  simp only [Zcd, Xac] at hid
  subst hid
  unfold hMap at h
  split at h
  ·rename_i e; rw [e]; rfl
  ·cases h
 ·cases hid
theorem Zn1 {nl : Bool} {H H' : Hp} {v : V} (h : ∀ id, Zcd v = some id -> H id = H' id) : Zfb nl H v = Zfb nl H' v := by
 unfold Zfb
 split
 ·rename_i id off len cap sz
  by_cases h0 : len = 0
  ·rw [if_pos h0, if_pos h0]
  ·rw [Zb7 (h id (by simp [Zcd, h0]))]
 ·rfl
theorem Zfr {nl : Bool} {H H' : Hp} : ∀ {vs : List V}, (∀ v ∈ vs, ∀ id, Zcd v = some id -> H id = H' id) -> Zfy nl H vs = Zfy nl H' vs
 | [], _ => rfl
 | v :: vs, h => by
  simp only [Zfy]
  rw [Zn1 (h v (by simp)), Zfr fun x hx => h x (by simp [hx])]
theorem Zzw {gl : Nat -> Option (List V)} {H H' : Hp} {own : Pos -> Bool} {tm : Nat -> V} {ao : AOp} (h : ∀ x ∈ ao.hOpds, ∀ id, Zcd (evO tm x) = some id -> H id = H' id) : Zbh Γ gl H own tm ao = Zbh Γ gl H' own tm ao := by
 cases ao <;> simp only [Zbh] <;> simp only [AOp.hOpds, Xa9, forall_eq] at h
 case load n x =>
  cases hx : evO tm x <;> simp only [Zej]
  rename_i id o
  rw [Zb7 (h id (by rw [hx]; rfl))]
 case ldo x =>
  cases hx : evO tm x <;> simp only [vLdo]
  rename_i id o
  rw [Zb7 (h id (by rw [hx]; rfl))]
 case b2s x =>
  have : vB2s H (evO tm x) = vB2s H' (evO tm x) := by
   unfold vB2s
   split
   ·rfl
   ·rename_i i o l c hx
    split
    ·rfl
    ·rename_i h0
     rw [Zb7 (h i (by rw [hx]; simp [Zcd, h0]))]
   ·rfl
  rw [this]
 case mlk ks z ok x y =>
  have : vMlk H ks z ok (evO tm x) (evO tm y) = vMlk H' ks z ok (evO tm x) (evO tm y) := by unfold vMlk; rw [Zh8 h]
  rw [this]
 case mln x =>
  have : vMln H (evO tm x) = vMln H' (evO tm x) := by unfold vMln; rw [Zh8 h]
  rw [this]
 case slca n sz x lo hi mx =>
  have : Zhs H n sz (evO tm x) (lo.map (evO tm)) (hi.map (evO tm)) (mx.map (evO tm)) = Zhs H' n sz (evO tm x) (lo.map (evO tm)) (hi.map (evO tm)) (mx.map (evO tm)) := by
   unfold Zhs
   split
   ·rename_i hx
    rw [Zb7 (h _ (by rw [hx]; rfl))]
   ·rfl
  rw [this]
 case call f xs =>
  unfold Zi1
  rw [Zfr (nl := true) (H := H) (H' := H') fun v hv id hid => by
   obtain ⟨x, hx, rfl⟩ := Xbb.1 hv
   exact h x hx id hid, Zfr (nl := false) (H := H) (H' := H') fun v hv id hid => by
   obtain ⟨x, hx, rfl⟩ := Xbb.1 hv
   exact h x hx id hid]
 case app sz s x =>
  have : Zbn H sz (evO tm x) = Zbn H' sz (evO tm x) := by
   cases hx : evO tm x <;> simp only [Zbn]
   rename_i id o l c s
   by_cases h0 : l = 0
   ·simp [h0]
   ·rw [Zb7 (h id (by rw [hx]; simp [Zcd, h0]))]
  unfold vApp
  rw [this]
theorem Zqv {nl : Bool} {H : Hp} {v u : V} (h : Zfb nl H v = some u) (hp : v.isPtrV = false) : ∀ id, Zcd v = some id -> (H id).isSome = true := by
 have hc : ∀ {id cs}, Zan H id = some cs -> (H id).isSome = true := fun h => by rw [Zba h]; rfl
 intro id hid
 cases v <;> simp only [Zcd, reduceCtorEq, Xac] at hid
 ·split at hid
  ·cases hid
  ·rename_i h0
   simp only [Xac] at hid; subst hid
   simp only [Zfb, if_neg h0, Xab] at h
   obtain ⟨cs, hcs, _⟩ := h
   exact hc hcs
 ·simp [V.isPtrV] at hp
 ·simp [V.isPtrV] at hp
theorem Zja {nl : Bool} {H : Hp} : ∀ {vs us : List V}, Zfy nl H vs = some us -> vs.any V.isPtrV = false -> ∀ v ∈ vs, ∀ id, Zcd v = some id -> (H id).isSome = true
 | [], _, _, _, v, hv => by cases hv
 | v :: vs, us, h, hp, x, hx => by
  simp only [Zfy, Xab, Xaa] at h
  obtain ⟨u, h1, us', h2, rfl⟩ := h
  simp only [Xef, Xbm] at hp
  rcases Xay.1 hx with rfl | hx
  ·exact Zqv h1 hp.1
  ·exact Zja h2 hp.2 x hx
theorem Zqr {gl : Nat -> Option (List V)} {H : Hp} {own : Pos -> Bool} {tm : Nat -> V} {ao : AOp} {r : Res} (h : Zbh Γ gl H own tm ao = some r) : ∀ x ∈ ao.hOpds, ∀ id, Zcd (evO tm x) = some id -> (H id).isSome = true := by
 have hc : ∀ {id cs}, Zan H id = some cs -> (H id).isSome = true := fun h => by rw [Zba h]; rfl
 cases ao <;> simp only [AOp.hOpds, Xa9, forall_eq, Xc2, false_implies, implies_true] <;> intro i hid
 case load n x =>
  replace h := Zai (show resV (Zej gl H n (evO tm x)) = some r from h); obtain ⟨v, h, rfl⟩ := h
  generalize evO tm x = u at h hid
  cases u <;> simp only [Zcd, Xac, reduceCtorEq] at hid
  ·simp [Zej] at h
  ·subst hid; simp only [Zej, Xab] at h; obtain ⟨cs, hcs, _⟩ := h; exact hc hcs
  ·simp [Zej] at h
 case ldo x =>
  replace h : vLdo H own (evO tm x) = some r := h
  generalize evO tm x = u at h hid
  cases u <;> simp only [Zcd, Xac, reduceCtorEq] at hid
  ·simp [vLdo] at h
  ·subst hid; simp only [vLdo, Xab] at h; obtain ⟨cs, hcs, _⟩ := h; exact hc hcs
  ·simp [vLdo] at h
 case b2s x =>
  replace h := Zai (show resV (vB2s H (evO tm x)) = some r from h); obtain ⟨v, h, rfl⟩ := h
  generalize evO tm x = u at h hid
  unfold vB2s at h
  split at h
  ·simp [Zcd] at hid
  ·simp only [Zcd] at hid
   split at hid
   ·cases hid
   ·rename_i h0
    rw [if_neg h0] at h
    simp only [Xac] at hid
    subst hid
    simp only [Xab] at h; obtain ⟨cs, hcs, _⟩ := h; exact hc hcs
  ·simp at h
 case app sz s x =>
  replace h : vApp H (ownO own s) sz (posO s) (evO tm s) (evO tm x) = some r := h
  have ht : ∃ ys, Zbn H sz (evO tm x) = some ys := by
   unfold vApp at h
   split at h
   ·rename_i e; exact ⟨_, e⟩
   ·rename_i e; exact ⟨_, e⟩
   ·simp at h
  obtain ⟨ys, ht⟩ := ht
  generalize evO tm x = u at ht hid
  cases u <;> simp only [Zcd, Xac, reduceCtorEq] at hid
  ·split at hid
   ·cases hid
   ·rename_i h0
    simp only [Xac] at hid
    subst hid
    simp only [Zbn, if_neg h0] at ht
    split at ht
    ·simp only [Xab] at ht; obtain ⟨cs, hcs, _⟩ := ht; exact hc hcs
    ·simp at ht
  ·simp [Zbn] at ht
  ·simp [Zbn] at ht
 case mlk ks z ok x y =>
  replace h := Zai (show resV (vMlk H ks z ok (evO tm x) (evO tm y)) = some r from h); obtain ⟨v, h, rfl⟩ := h
  unfold vMlk at h
  simp only [Xab] at h
  obtain ⟨l, hl, _⟩ := h
  exact Zi6 hl i hid
 case mln x =>
  replace h := Zai (show resV (vMln H (evO tm x)) = some r from h); obtain ⟨v, h, rfl⟩ := h
  unfold vMln at h
  simp only [Xaa] at h
  obtain ⟨l, hl, _⟩ := h
  exact Zi6 hl i hid
 case slca n sz x lo hi mx =>
  replace h := Zai (show resV (Zhs H n sz (evO tm x) (lo.map (evO tm)) (hi.map (evO tm)) (mx.map (evO tm))) = some r from h); obtain ⟨v, h, rfl⟩ := h
  unfold Zhs at h
  split at h
  ·rename_i hx
   rw [hx] at hid
   simp only [Zcd, Xac] at hid
   subst hid
   simp only [Xab] at h; obtain ⟨cs, hcs, _⟩ := h; exact hc hcs
  ·cases h
 case call f xs =>
  replace h : Zi1 Γ H f (xs.map (evO tm)) = some r := h
  intro id hx
  unfold Zi1 at h
  split at h
  ·cases h
  rename_i hp
  have hp' : (xs.map (evO tm)).any V.isPtrV = false := by simpa using hp
  split at h
  ·simp only [Xab] at h
   obtain ⟨l, hl, _⟩ := h
   exact Zja hl hp' _ (Xcz hid) id hx
  ·rename_i ho
   exfalso
   have h1 := Xcs.1 hp' _ (Xcz hid)
   have ho' : (xs.map (evO tm)).any V.isOsl = false := by simpa using ho
   have h2 := Xcs.1 ho' _ (Xcz hid)
   generalize evO tm i = u at hx h1 h2
   cases u <;> simp [Zcd, V.isPtrV, V.isOsl] at hx h1 h2
theorem SR.ref (h : SR w B GB g st a W) {n : Nat} (hn : a.tmps.size = n) {x : Opd} (hx : Zho n x = true) {id : Nat} (hid : Zcd (evO st.tm x) = some id) : id < st.nH := by
 cases x with
 | const v => simp only [Zho, Xeu] at hx; simp only [evO] at hid; rw [hx] at hid; cases hid
 | tmp t =>
  have hr := h.get (t := t) (by rw [hn]; simpa [Zho] using hx)
  simp only [evO] at hid
  generalize st.tm t = v at hr hid
  generalize a.eval (.tmp t) = y at hr
  cases hr <;> simp only [Zcd, Xac, reduceCtorEq, if_true] at hid
  ·split at hid
   ·cases hid
   ·simp only [Xac] at hid; subst hid; exact (h.φ _ _ (by assumption)).2.2
  ·subst hid; exact (h.φ _ _ (by assumption)).2.2
  ·subst hid; exact (h.φ _ _ (by assumption)).2.2
def Zah (U : Nat -> Ud) (S : Nat -> Bool) (s0 : St) : Nat -> St
 | 0 => s0
 | n + 1 => if S n then (U n).app (Zah U S s0 n) else Zah U S s0 n
section
variable {U : Nat -> Ud} {S S' : Nat -> Bool} {s0 : St} {m : Nat}
def Zib (U : Nat -> Ud) (m : Nat) : Prop := ∀ k k', k < m -> k' < m -> (U k).nw.isSome = true -> (U k').nw.isSome = true -> k = k'
theorem Zbf : ∀ {n : Nat}, (∀ k, k < n -> S k = true -> (U k).nw = none) -> (Zah U S s0 n).H = s0.H /\ (Zah U S s0 n).nH = s0.nH
 | 0, _ => ⟨rfl, rfl⟩
 | n + 1, h => by
  obtain ⟨h1, h2⟩ := Zbf (n := n) fun k hk => h k (by omega)
  simp only [Zah]
  split
  ·rename_i hs
   obtain ⟨e1, e2⟩ := Zie (U n) (Zah U S s0 n)
   have := h n (by omega) hs
   rw [e1, e2, this]; exact ⟨h1, by simpa using h2⟩
  ·exact ⟨h1, h2⟩
theorem Zc6 (ho : Zib U m) {k : Nat} {cs : List V} (hk : (U k).nw = some cs) (hs : S k = true) : ∀ {n : Nat}, k < n -> n <= m -> (Zah U S s0 n).H = upd s0.H s0.nH (some (.cells cs)) /\ (Zah U S s0 n).nH = s0.nH + 1
 | 0, h, _ => by omega
 | n + 1, h, hm => by
  simp only [Zah]
  by_cases hn : k = n
  ·subst hn
   rw [if_pos hs]
   obtain ⟨h1, h2⟩ := Zbf (U := U) (S := S) (s0 := s0) (n := k) fun j hj _ => by
    cases hj' : (U j).nw with
    | none => rfl
    | some x => have := ho j k (by omega) (by omega) (by rw [hj']; rfl) (by rw [hk]; rfl); omega
   obtain ⟨e1, e2⟩ := Zie (U k) (Zah U S s0 k)
   rw [e1, e2, hk]; simp [h1, h2]
  ·obtain ⟨h1, h2⟩ := Zc6 ho hk hs (n := n) (by omega) (by omega)
   split
   ·have hnn : (U n).nw = none := by
     cases hj' : (U n).nw with
     | none => rfl
     | some x => exact absurd (ho k n (by omega) (by omega) (by rw [hk]; rfl) (by rw [hj']; rfl)) hn
    obtain ⟨e1, e2⟩ := Zie (U n) (Zah U S s0 n)
    rw [e1, e2, hnn]; exact ⟨h1, by simpa using h2⟩
   ·exact ⟨h1, h2⟩
theorem Zhe (ho : Zib U m) {n : Nat} (hn : n < m) (hnw : (U n).nw.isSome = true) : (Zah U S s0 n).nH = s0.nH :=
 (Zbf fun k hk _ => by
  cases hj' : (U k).nw with
  | none => rfl
  | some x => have := ho k n (by omega) hn (by rw [hj']; rfl) hnw; omega).2
theorem Zfv (ho : Zib U m) {t : Nat} : ∀ {n : Nat}, n <= m -> (∀ k, k < n -> (U k).d = some t -> S k = S' k) -> (Zah U S s0 n).tm t = (Zah U S' s0 n).tm t
 | 0, _, _ => rfl
 | n + 1, hm, h => by
  have ih := Zfv ho (n := n) (by omega) fun k hk => h k (by omega)
  have hval : (U n).val (Zah U S s0 n) = (U n).val (Zah U S' s0 n) := by
   unfold Ud.val
   split
   ·rfl
   ·rename_i cs hcs
    rw [Zhe ho (by omega) (by rw [hcs]; rfl), Zhe ho (by omega) (by rw [hcs]; rfl)]
  simp only [Zah]
  by_cases hd : (U n).d = some t
  ·rw [h n (by omega) hd]
   split
   ·rw [Zf3, Zf3, if_pos hd, if_pos hd, hval]
   ·exact ih
  ·have e1 : ∀ s : St, ((U n).app s).tm t = s.tm t := fun s => by rw [Zf3, if_neg hd]
   split <;> split <;> (try simp only [e1]) <;> exact ih
def Zbw (u : Ud) : Pos -> Bool
 | .slot t => u.d == some t || u.tk == some (.slot t)
 | .cell _ _ => Zc4 u.tk || u.nw.isSome
theorem Zoi {u : Ud} {p : Pos} (h : Zbw u p = false) (s : St) : (u.app s).own p = s.own p := by
 rw [Zdg]
 cases p with
 | slot t =>
  simp only [Zbw, Xbm, beq_eq_false_iff_ne, ne_eq] at h
  have h1 : ¬(u.d.map Pos.slot = some (.slot t)) := fun e => h.1 (by cases hd : u.d <;> rw [hd] at e <;> simp at e; rw [e])
  have h2 : ¬(u.took = some (.slot t)) := fun e => h.2 (Ud.took_slot e)
  simp [h1, h2, Zdk]
 | cell id j =>
  simp only [Zbw, Xbm] at h
  have h1 : ¬(u.d.map Pos.slot = some (Pos.cell id j)) := fun e => by cases hd : u.d <;> rw [hd] at e <;> simp at e
  have h2 : ¬(u.took = some (.cell id j)) := fun e => by have := (Ud.took_cell e).1; rw [h.1] at this; cases this
  simp [h1, h2, h.2]
theorem Zcx (ho : Zib U m) {p : Pos} : ∀ {n : Nat}, n <= m -> (∀ k, k < n -> Zbw (U k) p = true -> S k = S' k) -> (Zah U S s0 n).own p = (Zah U S' s0 n).own p
 | 0, _, _ => rfl
 | n + 1, hm, h => by
  have ih := Zcx ho (n := n) (by omega) fun k hk => h k (by omega)
  simp only [Zah]
  cases ht : Zbw (U n) p with
  | false =>
   split <;> split <;> (try simp only [Zoi ht]) <;> exact ih
  | true =>
   rw [h n (by omega) ht]
   split
   ·rw [Zdg, Zdg, ih]
    by_cases hnw : (U n).nw.isSome = true
    ·rw [Zhe ho (by omega) hnw, Zhe ho (by omega) hnw]
    ·simp [hnw]
   ·exact ih
theorem Zhc {i : Nat} : ∀ {n : Nat}, i <= n -> Zah U (fun k => decide (k < i)) s0 n = Zah U (fun _ => true) s0 i
 | 0, h => by have : i = 0 := by omega
              subst this; rfl
 | n + 1, h => by
  by_cases hi : i = n + 1
  ·subst hi
   have : ∀ j, j <= n + 1 -> Zah U (fun k => decide (k < n + 1)) s0 j = Zah U (fun _ => true) s0 j := by
    intro j
    induction j with
    | zero => intro _; rfl
    | succ j ih => intro hj; simp only [Zah, show decide (j < n + 1) = true by simp; omega, if_true, ih (by omega)]
   exact this _ (Xag _)
  ·simp only [Zah, show decide (n < i) = false by simp; omega, Xaq, if_false]
   exact Zhc (by omega)
theorem Zbb : ∀ {n : Nat}, (∀ k, k < n -> S k = S' k) -> Zah U S s0 n = Zah U S' s0 n
 | 0, _ => rfl
 | n + 1, h => by simp only [Zah, h n (by omega), Zbb (n := n) fun k hk => h k (by omega)]
theorem Zde {i : Nat} (hi : S i = false) (hS' : ∀ k, S' k = (S k || k == i)) : ∀ {n : Nat}, i < n -> (∀ k, i < k -> k < n -> S k = true -> Apart (U k) (U i)) -> Zah U S' s0 n = (U i).app (Zah U S s0 n)
 | 0, h, _ => by omega
 | n + 1, h, hap => by
  by_cases hn : i = n
  ·subst hn
   simp only [Zah, hS', hi, beq_self_eq_true, Xer, if_true, Xaq, if_false]
   rw [Zbb (S := S') (S' := S) fun k hk => by rw [hS']; simp; omega]
  ·have hne : (n == i) = false := by simp; omega
   have ih := Zde hi hS' (n := n) (by omega) fun k h1 h2 => hap k h1 (by omega)
   simp only [Zah, hS', hne, Xeg]
   split
   ·rename_i hs
    rw [ih, Zwy (hap n (by omega) (by omega) hs)]
   ·exact ih
end
def AOper.rd (x : AOper) : List Nat := x.op.reads ++ (match x.guard with | some (t, _) => [t] | none => [])
def AOper.ws (x : AOper) : List Nat := x.dst.toList
def Zth (l m : List Nat) : Bool := l.any fun t => m.contains t
def Za2 (x y : AOper) : Bool :=
 Zth x.ws (y.rd ++ y.ws ++ y.op.owns) || Zth y.ws (x.rd ++ x.op.owns) || Zth x.op.owns y.op.owns ||
 (x.op.isLdo && y.op.isLdo) || (x.op.isNew && y.op.isNew) || (x.op.isNew && y.op.isLdo) || (x.op.isLdo && y.op.isNew)
def dd : List Nat -> List Nat
 | [] => []
 | a :: r => match r.any (Nat.beq a) with | true => dd r | false => a :: dd r
def ancs : List AOper -> List (List Nat) -> List (List Nat)
 | [], acc => acc
 | x :: r, acc => ancs r (acc ++ [dd (x.after ++ x.after.flatMap fun e => acc.getD e [])])
def Zx5 (n : Nat) (aos : List AOper) (m : Nat) : Bool :=
 let an := ancs aos []
 let N := aos.length
 (List.range N).all fun i =>
  let x := aos.getD i default
  let ai := an.getD i []
  x.after.all (fun e => decide (e < i)) &&
  ai.all (fun j => x.after.contains j || x.after.any fun e => (an.getD e []).contains j) &&
  (if i < m then !x.op.isStore && x.op.hOpds.all (Zho n) &&
    (List.range i).all fun j => (ai.contains j || !Za2 (aos.getD j default) x) && !(x.op.isNew && (aos.getD j default).op.isNew)
   else (List.range i).all fun j => ai.contains j)
end Go.Abs
namespace Go.Abs
open Go.RowKit
variable {cx : Cx} {w : World} {B : Nat -> Prop} {GB : Gh} {g : Gh} {st : St} {a : Act} {W : World} {Γ : Spec} {R : TypeId -> Bool}
theorem Zau {l m : List Nat} (h : Zth l m = false) {t : Nat} (hl : t ∈ l) : t ∉ m := by
 intro hm
 have := Xcs.1 h t hl
 simp [hm] at this
theorem Zg9 {gl : Nat -> Option (List V)} {x y : AOper} {s s' : St} {u v : Ud} (hu : udOf Γ gl x s = some u) (hv : udOf Γ gl y s' = some v) (hc : Za2 x y = false) (hnu : u.nw.isSome = true -> x.op.isNew = true) (hnv : v.nw.isSome = true -> y.op.isNew = true) : Apart u v := by
 simp only [Za2, Xbm] at hc
 obtain ⟨⟨⟨⟨⟨⟨c1, c2⟩, c3⟩, c4⟩, c5⟩, c6⟩, c7⟩ := hc
 have du := ud_d hu
 have dv := ud_d hv
 have tu := Ziz hu
 have tv := Ziz hv
 have mem : ∀ {z : AOper} {t : Nat}, z.dst = some t -> t ∈ z.ws := fun h => by simp [AOper.ws, h]
 have cellu : Zc4 u.tk = true -> x.op.isLdo = true := fun h => by
  rcases tu with e | ⟨t, e, _⟩ | ⟨e, _⟩
  ·rw [e] at h; cases h
  ·rw [e] at h; cases h
  ·exact e
 have cellv : Zc4 v.tk = true -> y.op.isLdo = true := fun h => by
  rcases tv with e | ⟨t, e, _⟩ | ⟨e, _⟩
  ·rw [e] at h; cases h
  ·rw [e] at h; cases h
  ·exact e
 have slotu : ∀ t, u.tk = some (.slot t) -> t ∈ x.op.owns := fun t h => by
  rcases tu with e | ⟨t', e, h'⟩ | ⟨_, id, j, e⟩
  ·rw [e] at h; cases h
  ·rw [e] at h; cases h; exact h'
  ·rw [e] at h; cases h
 have slotv : ∀ t, v.tk = some (.slot t) -> t ∈ y.op.owns := fun t h => by
  rcases tv with e | ⟨t', e, h'⟩ | ⟨_, id, j, e⟩
  ·rw [e] at h; cases h
  ·rw [e] at h; cases h; exact h'
  ·rw [e] at h; cases h
 refine ⟨fun t h1 h2 => ?_, fun t h => ⟨fun h2 => ?_, fun h2 => ?_⟩, fun t h => ⟨fun h2 => ?_, fun h2 => ?_⟩, fun ⟨h1, h2⟩ => ?_, fun ⟨h1, h2⟩ => ?_, fun h => ?_, fun h => ?_⟩
 ·rw [du] at h1; rw [dv] at h2
  exact Zau c1 (mem h1) (by simp [mem h2])
 ·rw [dv] at h2
  exact Zau c2 (mem h2) (by simp [slotu t h])
 ·exact Zau c3 (slotu t h) (slotv t h2)
 ·rw [du] at h2
  exact Zau c1 (mem h2) (by simp [slotv t h])
 ·exact Zau c3 (slotu t h2) (slotv t h)
 ·rw [cellu h1, cellv h2] at c4; cases c4
 ·rw [hnu h1, hnv h2] at c5; cases c5
 ·cases hh : Zc4 v.tk with
  | false => rfl
  | true => rw [hnu h, cellv hh] at c6; cases c6
 ·cases hh : Zc4 u.tk with
  | false => rfl
  | true => rw [hnv h, cellu hh] at c7; cases c7
theorem Zgp {x y : AOper} (h : Za2 x y = false) : Za2 y x = false := by
 simp only [Za2, Xbm] at h ⊢
 obtain ⟨⟨⟨⟨⟨⟨c1, c2⟩, c3⟩, c4⟩, c5⟩, c6⟩, c7⟩ := h
 have m1 : ∀ {l m : List Nat}, (∀ t ∈ l, t ∉ m) -> Zth l m = false := fun h => Xcs.2 fun t ht => by simpa using h t ht
 refine ⟨⟨⟨⟨⟨⟨m1 fun t ht hm => ?_, m1 fun t ht hm => ?_⟩, m1 fun t ht hm => Zau c3 hm ht⟩, by rw [Xeh]; exact c4⟩, by rw [Xeh]; exact c5⟩, by rw [Xeh]; exact c7⟩, by rw [Xeh]; exact c6⟩
 ·simp only [Xap, Xa3] at hm
  rcases hm with hm | hm | hm
  ·exact Zau c2 ht (by simp [hm])
  ·exact Zau c1 hm (by simp [ht])
  ·exact Zau c2 ht (by simp [hm])
 ·simp only [Xa3] at hm
  rcases hm with hm | hm
  ·exact Zau c1 ht (by simp [hm])
  ·exact Zau c1 ht (by simp [hm])
theorem Zb8 {gl : Nat -> Option (List V)} {x : AOper} {s : St} {u : Ud} (h : udOf Γ gl x s = some u) (hn : u.nw.isSome = true) : x.op.isNew = true := by
 unfold udOf at h
 split at h
 ·split at h
  ·rename_i e; simp [AOp.isNew, e]
  ·rename_i e; simp [AOp.isNew, e]
  ·simp only [Xaa] at h; obtain ⟨r, _, rfl⟩ := h; simp at hn
 ·simp only [Xac] at h; subst h; simp at hn
theorem Zfz {gl : Nat -> Option (List V)} {x : AOper} {s s' : St} {u : Ud} (hns : x.op.isStore = false) (h : udOf Γ gl x s = some u) (htm : ∀ t ∈ x.rd, s'.tm t = s.tm t) (how : ∀ t ∈ x.op.owns, s'.own (.slot t) = s.own (.slot t))
  (hl : x.op.isLdo = true -> ∀ id j, s'.own (.cell id j) = s.own (.cell id j))
  (hH : ∀ y ∈ x.op.hOpds, ∀ id, Zcd (evO s.tm y) = some id -> (s.H id).isSome = true -> s'.H id = s.H id) : udOf Γ gl x s' = some u := by
 have hr : ∀ t ∈ x.op.reads, s'.tm t = s.tm t := fun t ht => htm t (by simp [AOper.rd, ht])
 have hw : s'.wants x = s.wants x := by
  unfold St.wants
  split
  ·rfl
  ·rename_i t wt e
   rw [htm t (by simp [AOper.rd, e])]
 unfold udOf at h ⊢
 rw [hw]
 split at h
 ·rename_i hwt
  rw [if_pos hwt]
  split at h
  ·exact h
  ·rename_i y e
   rw [e] at hr
   have : s'.ev y = s.ev y := Zav fun t ht => hr t (by simp [AOp.reads, ht])
   rw [this]; exact h
  ·rename_i op h1 h2
   simp only [Xaa] at h
   obtain ⟨r, hr0, rfl⟩ := h
   have hsome := Zqr hr0
   have e : Zbh Γ gl s'.H s'.own s'.tm x.op = some r := by
    rw [<- hr0, <- Zn0 (Γ := Γ) (gl := gl) (H := s'.H) (own := s.own) (own' := s'.own) (tm := s.tm) (tm' := s'.tm) (ao := x.op) (fun t ht => (hr t ht).symm) (fun t ht => (how t ht).symm) (fun hx id j => (hl hx id j).symm)]
    exact Zzw fun y hy id hid => hH y hy id hid (hsome y hy id hid)
   rw [e]; rfl
 ·rename_i hwt
  rw [if_neg hwt]; exact h
theorem Zda {α : Type} [Inhabited α] {l : List α} {i : Nat} {x : α} (h : l[i]? = some x) : l.getD i default = x := by simp [List.getD, h]
theorem Zq4 (hs : Scope cx w B GB) (hΓ : Sound cx Γ) {n : Nat} {ops : Array Oper} {aos : List AOper} (hc : Zff cx.P R n ops ops.toList = some aos) {m : Nat} (hm : m <= aos.length) (hok : Zx5 n aos m = true) (h : SR w B GB g st a W) (hn : a.tmps.size = n)
  {st' : St} (he : execs Γ cx.gl aos st = some st') {Q : Exit -> Act -> World -> Prop} (hnext : ∀ g' a' W', SR w B GB g' st' a' W' -> a'.tmps.size = n -> Q .normal a' W') :
  wpAny cx.P .any ops Q ops.size (Array.replicate ops.size false) a W := by
 obtain ⟨hl, hget⟩ := Zdb hc
 simp only [Xca] at hl
 have hget' : ∀ i, i < ops.size -> ∃ (o : Oper) (x : AOper), ops[i]? = some o /\ aos[i]? = some x /\ Zg5 cx.P R n ops o = some x := fun i hi => by
  obtain ⟨x, h1, h2⟩ := hget i ops[i] (by simp [hi])
  exact ⟨ops[i], x, Xar hi, h1, h2⟩
 -- the states of the text's order
 obtain ⟨s, hs0, hsn, hstep⟩ : ∃ s : Nat -> St, s 0 = st /\ s aos.length = st' /\ ∀ (i : Nat) (x : AOper), aos[i]? = some x -> exec Γ cx.gl x (s i) = some (s (i + 1)) := by
  have key : ∀ (l : List AOper) (s0 s1 : St), execs Γ cx.gl l s0 = some s1 -> ∃ s : Nat -> St, s 0 = s0 /\ s l.length = s1 /\ ∀ (i : Nat) (x : AOper), l[i]? = some x -> exec Γ cx.gl x (s i) = some (s (i + 1)) := by
   intro l
   induction l with
   | nil => intro s0 s1 h; simp only [execs, Xac] at h; subst h; exact ⟨fun _ => s0, rfl, rfl, fun i x h => by simp at h⟩
   | cons x r ih =>
    intro s0 s1 h
    simp only [execs] at h
    split at h
    ·rename_i s2 h2
     obtain ⟨s, h3, h4, h5⟩ := ih s2 s1 h
     refine ⟨fun i => if i = 0 then s0 else s (i - 1), by simp, by simp [h4], fun i y hy => ?_⟩
     cases i with
     | zero => simp at hy; subst hy; simp [h3, h2]
     | succ i => have := h5 i y (by simpa using hy); simpa using this
    ·simp at h
  exact key aos st st' he
 -- what the check says
 have hchk : ∀ i, i < aos.length -> ∀ x, aos[i]? = some x -> (∀ e ∈ x.after, e < i) /\ (∀ j ∈ (ancs aos []).getD i [], j ∈ x.after \/ ∃ e ∈ x.after, j ∈ (ancs aos []).getD e []) /\
   (i < m -> x.op.isStore = false /\ (∀ y ∈ x.op.hOpds, Zho n y = true) /\ ∀ j, j < i -> ∀ y, aos[j]? = some y -> (j ∈ (ancs aos []).getD i [] \/ Za2 y x = false) /\ ¬(x.op.isNew = true /\ y.op.isNew = true)) /\
   (m <= i -> ∀ j, j < i -> j ∈ (ancs aos []).getD i []) := by
  intro i hi x hx
  have := Xam.1 hok i (Xbo.2 hi)
  simp only [Zda hx, Xah, Xam, decide_eq_true_eq, Xa6, Xdv, Xbq] at this
  obtain ⟨⟨h1, h2⟩, h3⟩ := this
  refine ⟨h1, h2, fun hlt => ?_, fun hge => ?_⟩
  ·rw [if_pos hlt] at h3
   simp only [Xah, Xam, Xbo, Xa6, Xbq, Xbk, Xdn] at h3
   obtain ⟨⟨h3, h4⟩, h5⟩ := h3
   refine ⟨h3, h4, fun j hj y hy => ?_⟩
   obtain ⟨h6, h7⟩ := h5 j hj
   rw [Zda hy] at h6 h7
   exact ⟨h6, fun ⟨e1, e2⟩ => by rcases h7 with h7 | h7 <;> simp_all⟩
  ·rw [if_neg (by omega)] at h3
   simp only [Xam, Xbo, Xbq] at h3
   exact h3
 have hud : ∀ i, ∃ u : Ud, i < m -> ∃ x, aos[i]? = some x /\ udOf Γ cx.gl x (s i) = some u /\ s (i + 1) = u.app (s i) := by
  intro i
  by_cases hi : i < m
  ·have hx := Xad (show i < aos.length by omega)
   obtain ⟨u, h1, h2⟩ := Zgk ((hchk i (by omega) _ hx).2.2.1 hi).1 (hstep i _ hx)
   exact ⟨u, fun _ => ⟨_, hx, h1, h2⟩⟩
  ·exact ⟨⟨none, Nil, false, none, none⟩, fun h => absurd h hi⟩
 obtain ⟨U, hU⟩ := Classical.axiomOfChoice hud
 have hfold : ∀ i, i <= m -> Zah U (fun _ => true) st i = s i := by
  intro i
  induction i with
  | zero => intro _; exact hs0.symm
  | succ i ih =>
   intro hi
   obtain ⟨x, _, _, h3⟩ := hU i (by omega)
   simp only [Zah, if_true, ih (by omega), h3]
 have hone : Zib U m := by
  intro k k' hk hk' h1 h2
  obtain ⟨x, hx, hux, _⟩ := hU k hk
  obtain ⟨y, hy, huy, _⟩ := hU k' hk'
  have n1 := Zb8 hux h1
  have n2 := Zb8 huy h2
  rcases Xbw k k' with hlt | heq | hgt
  ·exact absurd ⟨n2, n1⟩ (((hchk k' (by omega) y hy).2.2.1 hk').2.2 k hlt x hx).2
  ·exact heq
  ·exact absurd ⟨n1, n2⟩ (((hchk k (by omega) x hx).2.2.1 hk).2.2 k' hgt y hy).2
 -- one more operation of the unordered part
 have step1 : ∀ (S : Nat -> Bool) (i : Nat), i < m -> S i = false -> (∀ k, S k = true -> k < m) -> (∀ k, S k = true -> ∀ j ∈ (ancs aos []).getD k [], S j = true) -> (∀ j ∈ (ancs aos []).getD i [], S j = true) ->
   ∀ g' a' W', SR w B GB g' (Zah U S st m) a' W' -> a'.tmps.size = n -> ∀ x, aos[i]? = some x -> exec Γ cx.gl x (Zah U S st m) = some (Zah U (fun k => S k || k == i) st m) := by
  intro S i hi hSi hSm hcl hpre g' a' W' hsr hn' x hx
  obtain ⟨x', hx', hux, _⟩ := hU i hi
  rw [hx] at hx'; cases hx'
  obtain ⟨hst, hop, hpair⟩ := (hchk i (by omega) x hx).2.2.1 hi
  -- those that meet i stand on the right side of it
  have side : ∀ k y, k < m -> aos[k]? = some y -> k ≠ i -> Za2 y x = true -> S k = decide (k < i) := by
   intro k y hk hy hne hcf
   rcases Xa4 k i with hlt | hge
   ·have := (hpair k hlt y hy).1
    rw [hcf] at this
    rw [hpre k (this.resolve_right (by simp))]; simp [hlt]
   ·have hgt : i < k := by omega
    have := (((hchk k (by omega) y hy).2.2.1 hk).2.2 i hgt x hx).1
    have hcf' : Za2 x y = true := by
     cases hh : Za2 x y with
     | true => rfl
     | false => rw [Zgp hh] at hcf; cases hcf
    rw [hcf'] at this
    have hin := this.resolve_right (by simp)
    cases hSk : S k with
    | false => simp; omega
    | true => rw [hcl k hSk i hin] at hSi; cases hSi
  have hsi : Zah U (fun k => decide (k < i)) st m = s i := by rw [Zhc (by omega), hfold i (by omega)]
  have cf : ∀ {y : AOper}, (∃ t, t ∈ y.ws /\ (t ∈ x.rd \/ t ∈ x.ws \/ t ∈ x.op.owns)) -> Za2 y x = true := by
   intro y ⟨t, h1, h2⟩
   cases hh : Za2 y x with
   | true => rfl
   | false =>
    simp only [Za2, Xbm] at hh
    exact absurd (by simp only [Xap, Xa3]; exact h2) (Zau hh.1.1.1.1.1.1 h1)
  have cf2 : ∀ {y : AOper} {t : Nat}, t ∈ y.op.owns -> t ∈ x.op.owns -> Za2 y x = true := by
   intro y t h1 h2
   cases hh : Za2 y x with
   | true => rfl
   | false =>
    simp only [Za2, Xbm] at hh
    exact absurd h2 (Zau hh.1.1.1.1.2 h1)
  have htm : ∀ t ∈ x.rd, (Zah U S st m).tm t = (s i).tm t := by
   intro t ht
   rw [<- hsi]
   refine Zfv hone (Xag _) fun k hk hd => ?_
   by_cases hki : k = i
   ·subst hki; rw [hSi]; simp
   ·obtain ⟨y, hy, huy, _⟩ := hU k hk
    rw [ud_d huy] at hd
    exact side k y hk hy hki (cf ⟨t, by simp [AOper.ws, hd], .inl ht⟩)
  have how : ∀ t ∈ x.op.owns, (Zah U S st m).own (.slot t) = (s i).own (.slot t) := by
   intro t ht
   rw [<- hsi]
   refine Zcx hone (Xag _) fun k hk hd => ?_
   by_cases hki : k = i
   ·subst hki; rw [hSi]; simp
   ·obtain ⟨y, hy, huy, _⟩ := hU k hk
    simp only [Zbw, Xa6, beq_iff_eq] at hd
    rcases hd with hd | hd
    ·rw [ud_d huy] at hd
     exact side k y hk hy hki (cf ⟨t, by simp [AOper.ws, hd], .inr (.inr ht)⟩)
    ·rcases Ziz huy with e | ⟨t', e, h'⟩ | ⟨_, id, j, e⟩
     ·rw [e] at hd; cases hd
     ·rw [e] at hd; cases hd; exact side k y hk hy hki (cf2 h' ht)
     ·rw [e] at hd; cases hd
  have hldo : x.op.isLdo = true -> ∀ id j, (Zah U S st m).own (.cell id j) = (s i).own (.cell id j) := by
   intro hx1 id j
   rw [<- hsi]
   refine Zcx hone (Xag _) fun k hk hd => ?_
   by_cases hki : k = i
   ·subst hki; rw [hSi]; simp
   ·obtain ⟨y, hy, huy, _⟩ := hU k hk
    simp only [Zbw, Xa6] at hd
    refine side k y hk hy hki ?_
    rcases hd with hd | hd
    ·have hy1 : y.op.isLdo = true := by
      rcases Ziz huy with e | ⟨t', e, _⟩ | ⟨h, _⟩
      ·rw [e] at hd; cases hd
      ·rw [e] at hd; cases hd
      ·exact h
     simp [Za2, hx1, hy1]
    ·have hy1 := Zb8 huy hd
     simp [Za2, hx1, hy1]
  have hH : ∀ y ∈ x.op.hOpds, ∀ id, Zcd (evO (s i).tm y) = some id -> ((s i).H id).isSome = true -> (Zah U S st m).H id = (s i).H id := by
   intro y hy id hid hsome
   have hid' : Zcd (evO (Zah U S st m).tm y) = some id := by
    rw [<- hid]; congr 1
    refine Zav fun t ht => htm t ?_
    have : t ∈ x.op.reads := by
     revert hy; cases x.op <;> simp only [AOp.hOpds, Xa9, Xc2, false_implies] <;> intro hy <;> first | (subst hy; simp [AOp.reads, ht]; done) | exact Xb4.2 ⟨y, hy, ht⟩
    simp [AOper.rd, this]
   have hlt := hsr.ref hn' (hop y hy) hid'
   by_cases hex : ∃ k, k < m /\ (U k).nw.isSome = true
   ·obtain ⟨k, hk, hnw⟩ := hex
    obtain ⟨cs, hcs⟩ := Xcn.1 hnw
    have none_of : ∀ (T : Nat -> Bool), T k = false -> (∀ j, j < m -> T j = true -> (U j).nw = none) := by
     intro T hT j hj hTj
     cases hjn : (U j).nw with
     | none => rfl
     | some z => have := hone j k hj hk (by rw [hjn]; rfl) hnw; subst this; rw [hT] at hTj; cases hTj
    have hsid : ∀ (b : Bool), decide (k < i) = b -> (s i).H = (if b = true then upd st.H st.nH (some (.cells cs)) else st.H) := by
     intro b hb
     rw [<- hsi]
     cases b with
     | true => rw [(Zc6 (S := fun k => decide (k < i)) hone hcs (by simpa using hb) hk (Xag _)).1]; simp
     | false => rw [(Zbf (n := m) (none_of (fun k => decide (k < i)) hb)).1]; simp
    cases hSk : S k with
    | true =>
     rw [(Zc6 hone hcs hSk hk (Xag _)).1]
     rw [hsid _ rfl] at hsome ⊢
     by_cases hki : k < i
     ·simp [hki]
     ·simp only [hki, decide_false, Xaq, if_false] at hsome ⊢
      have : id ≠ st.nH := fun e => by subst e; rw [h.obn _ (Xag _)] at hsome; cases hsome
      simp [upd, this]
    | false =>
     obtain ⟨e1, e2⟩ := Zbf (s0 := st) (n := m) (none_of S hSk)
     rw [e2] at hlt
     rw [e1, hsid _ rfl]
     by_cases hki : k < i
     ·simp only [hki, decide_true, if_true]
      have : id ≠ st.nH := by omega
      simp [upd, this]
     ·simp [hki]
   ·have hnone : ∀ (T : Nat -> Bool) j, j < m -> T j = true -> (U j).nw = none := fun T j hj _ => by
     cases hjn : (U j).nw with
     | none => rfl
     | some z => exact absurd ⟨j, hj, by rw [hjn]; rfl⟩ hex
    rw [(Zbf (n := m) (hnone S)).1, <- hsi, (Zbf (n := m) (hnone _)).1]
  have hu := Zfz hst hux htm how hldo hH
  rw [Zdz hst hu]
  congr 1
  symm
  refine Zde hSi (fun k => rfl) hi fun k h1 h2 h3 => ?_
  obtain ⟨y, hy, huy, _⟩ := hU k h2
  refine Zg9 huy hux ?_ (fun h => Zb8 huy h) (fun h => Zb8 hux h)
  cases hh : Za2 y x with
  | false => rfl
  | true => have := side k y h2 hy (by omega) hh; rw [h3] at this; simp at this; omega
 -- the induction
 have hnl : aos.length = ops.size := hl
 have aft : ∀ (i : Nat) (o : Oper) (x : AOper), ops[i]? = some o -> Zg5 cx.P R n ops o = some x -> x.after = Zpk o := fun i o x _ hx => by
  simp only [Zg5, Xab, Xaa] at hx
  obtain ⟨_, _, _, _, rfl⟩ := hx; rfl
 have Zcl : ∀ (l : Array Bool) (k : Nat), l.size = ops.size -> k < ops.size -> l.getD k true = l.getD k false := fun l k h1 h2 => by simp [Array.getD, show k < l.size by omega]
 have nolist : ∀ (l : Array Bool), l.size = ops.size -> Region.ready .any ops l = [] -> ∀ k, k < ops.size -> l.getD k false = true := by
  intro l hls hre k
  induction k using Nat.strongRecOn with
  | _ k ih =>
   intro hk
   cases hv : l.getD k false with
   | true => rfl
   | false =>
    obtain ⟨o, x, ho, hx, hcx⟩ := hget' k hk
    have : k ∈ Region.ready .any ops l := by
     refine mem_ready.2 ⟨by rw [Zcl l k hls hk]; exact hv, o, ho, fun e he hb => ?_⟩
     have hea : e.on ∈ x.after := by rw [aft k o x ho hcx]; exact Xbb.2 ⟨e, Xdo.2 ⟨by simpa using he, hb⟩, rfl⟩
     have hlt := (hchk k (by omega) x hx).1 _ hea
     exact ih e.on hlt (by omega)
    rw [hre] at this; cases this
 have main : ∀ (fuel : Nat) (l : Array Bool) (g' : Gh) (a' : Act) (W' : World), l.size = ops.size -> l.toList.count false <= fuel ->
   ((∀ k, l.getD k false = true -> k < m) /\ (∀ k, l.getD k false = true -> ∀ j ∈ (ancs aos []).getD k [], l.getD j false = true) /\ SR w B GB g' (Zah U (fun k => l.getD k false) st m) a' W' \/
     ∃ i, m <= i /\ i <= ops.size /\ (∀ k, k < ops.size -> l.getD k false = decide (k < i)) /\ SR w B GB g' (s i) a' W') -> a'.tmps.size = n -> wpAny cx.P .any ops Q fuel l a' W' := by
  intro fuel
  have fin : ∀ (l : Array Bool) (g' : Gh) (a' : Act) (W' : World), l.size = ops.size -> (∀ k, k < ops.size -> l.getD k false = true) ->
    ((∀ k, l.getD k false = true -> k < m) /\ (∀ k, l.getD k false = true -> ∀ j ∈ (ancs aos []).getD k [], l.getD j false = true) /\ SR w B GB g' (Zah U (fun k => l.getD k false) st m) a' W' \/
      ∃ i, m <= i /\ i <= ops.size /\ (∀ k, k < ops.size -> l.getD k false = decide (k < i)) /\ SR w B GB g' (s i) a' W') -> a'.tmps.size = n -> Q .normal a' W' := by
   intro l g' a' W' hls hall hj hn'
   rcases hj with ⟨h1, _, h3⟩ | ⟨i, h1, h2, h3, h4⟩
   ·have hmn : m = ops.size := by
     rcases Xa4 m ops.size with hlt | hge
     ·have := h1 m (hall m hlt); omega
     ·omega
    have e : Zah U (fun k => l.getD k false) st m = st' := by
     rw [Zbb (S' := fun _ => true) fun k hk => hall k (by omega), hfold m (Xag _), <- hsn, hnl, hmn]
    rw [e] at h3
    exact hnext g' a' W' h3 hn'
   ·have : i = ops.size := by
     rcases Xa4 i ops.size with hlt | hge
     ·have := h3 i hlt; rw [hall i hlt] at this; simp at this
     ·omega
    subst this
    rw [<- hnl, hsn] at h4
    exact hnext g' a' W' h4 hn'
  induction fuel with
  | zero =>
   intro l g' a' W' hls hcnt hj hn'
   have hall : ∀ k, k < ops.size -> l.getD k false = true := by
    intro k hk
    cases hv : l.getD k false with
    | true => rfl
    | false =>
     have hk' : k < l.size := by omega
     have : false ∈ l.toList := by
      have e : l[k] = false := by simpa [Array.getD, hk'] using hv
      rw [<- e]; simp
     have := Xdz.2 this
     omega
   refine ⟨?_, fin l g' a' W' hls hall hj hn'⟩
   apply Xeb.2
   intro k hk
   obtain ⟨h1, o, h2, _⟩ := mem_ready.1 hk
   have hlt := (Xba.1 h2).1
   rw [Zcl l k hls hlt, hall k hlt] at h1; cases h1
  | succ fuel ih =>
   intro l g' a' W' hls hcnt hj hn'
   refine ⟨fun hre => fin l g' a' W' hls (nolist l hls hre) hj hn', fun i hi => ?_⟩
   obtain ⟨h1, o, ho, hedges⟩ := mem_ready.1 hi
   have hilt := (Xba.1 ho).1
   rw [Zcl l i hls hilt] at h1
   obtain ⟨o', x, ho', hx, hcx⟩ := hget' i hilt
   rw [ho] at ho'; cases ho'
   have hilt' : i < l.size := by omega
   have hls' : (l.setIfInBounds i true).size = ops.size := by simpa using hls
   have hcnt' : (l.setIfInBounds i true).toList.count false <= fuel := by
    have hi2 : i < l.toList.length := by simpa using hilt'
    have e : l.toList[i] = false := by simpa [Array.getD, hilt'] using h1
    have hpos : 0 < l.toList.count false := Xdz.2 (by rw [<- e]; exact Xav hi2)
    rw [Xc0, List.count_set hi2, e]
    simp only [show (false == false) = true from rfl, show (true == false) = false from rfl, if_true, Xaq, if_false]
    omega
   have hS' : ∀ k, (l.setIfInBounds i true).getD k false = (l.getD k false || k == i) := by
    intro k
    by_cases hki : k = i
    ·subst hki; simp [Array.getD, hilt']
    ·rw [getD_set_ne false (fun e => hki e.symm)]; simp [hki]
   have haft : ∀ e ∈ x.after, l.getD e false = true := by
    intro e he
    rw [aft i o x ho hcx] at he
    obtain ⟨ed, hed, rfl⟩ := Xbb.1 he
    obtain ⟨hed1, hed2⟩ := Xdo.1 hed
    exact hedges ed (by simpa using hed1) hed2
   obtain ⟨c1, c2, c3, c4⟩ := hchk i (by omega) x hx
   have hclosed : ∀ k, l.getD k false = true -> ∀ j ∈ (ancs aos []).getD k [], l.getD j false = true := by
    rcases hj with ⟨_, h, _⟩ | ⟨i0, _, h2, h3, _⟩
    ·exact h
    ·intro k hk j hj'
     have hk' : k < ops.size := by
      rcases Xa4 k ops.size with h | h
      ·exact h
      ·simp [Array.getD, show ¬ k < l.size by omega] at hk
     have hxk := Xad (show k < aos.length by omega)
     obtain ⟨d1, d2, _, _⟩ := hchk k (by omega) _ hxk
     have hki0 : k < i0 := by have := h3 k hk'; rw [hk] at this; simpa using this.symm
     have jlt : ∀ k, k < aos.length -> ∀ j ∈ (ancs aos []).getD k [], j < k := by
      intro k
      induction k using Nat.strongRecOn with
      | _ k ihk =>
       intro hk2 j hj2
       have hxk := Xad hk2
       obtain ⟨d1, d2, _, _⟩ := hchk k hk2 _ hxk
       rcases d2 j hj2 with h | ⟨e, he, h⟩
       ·exact d1 j h
       ·have := d1 e he
        have := ihk e this (by omega) j h
        omega
     have := jlt k (by omega) j hj'
     rw [h3 j (by omega)]; simp; omega
   have hpre : ∀ j ∈ (ancs aos []).getD i [], l.getD j false = true := by
    intro j hj'
    rcases c2 j hj' with h | ⟨e, he, h⟩
    ·exact haft j h
    ·exact hclosed e (haft e he) j h
   have hst : ∀ (st2 : St), SR w B GB g' st2 a' W' -> ∀ st3, exec Γ cx.gl x st2 = some st3 -> (∀ g2 a2 W2, SR w B GB g2 st3 a2 W2 -> ((∀ k, (l.setIfInBounds i true).getD k false = true -> k < m) /\ (∀ k, (l.setIfInBounds i true).getD k false = true -> ∀ j ∈ (ancs aos []).getD k [], (l.setIfInBounds i true).getD j false = true) /\ SR w B GB g2 (Zah U (fun k => (l.setIfInBounds i true).getD k false) st m) a2 W2 \/
     ∃ i', m <= i' /\ i' <= ops.size /\ (∀ k, k < ops.size -> (l.setIfInBounds i true).getD k false = decide (k < i')) /\ SR w B GB g2 (s i') a2 W2)) ->
     wpOp cx.P ops Q i (wpAny cx.P .any ops Q fuel (l.setIfInBounds i true)) a' W' :=
    fun st2 hsr st3 hex hnx => Zht hs hΓ hsr hn' ho hcx hex fun g2 a2 W2 h2 hn2 => ih _ g2 a2 W2 hls' hcnt' (hnx g2 a2 W2 h2) hn2
   by_cases him : i < m
   ·rcases hj with ⟨j1, j2, j3⟩ | ⟨i0, j1, j2, j3, _⟩
    ·refine hst _ j3 _ (step1 (fun k => l.getD k false) i him h1 j1 j2 hpre g' a' W' j3 hn' x hx) fun g2 a2 W2 h2 => .inl ⟨fun k hk => ?_, fun k hk j hj' => ?_, ?_⟩
     ·rw [hS'] at hk; simp only [Xa6, beq_iff_eq] at hk
      rcases hk with hk | rfl
      ·exact j1 k hk
      ·exact him
     ·rw [hS'] at hk ⊢; simp only [Xa6, beq_iff_eq] at hk
      rcases hk with hk | rfl
      ·simp [j2 k hk j hj']
      ·simp [hpre j hj']
     ·rw [Zbb (S' := fun k => l.getD k false || k == i) fun k _ => hS' k]; exact h2
    ·have := j3 i hilt; rw [h1] at this; simp at this; omega
   ·have hge : m <= i := by omega
    have hall := c4 hge
    have hfull : ∀ j, j < i -> l.getD j false = true := fun j hj' => hpre j (hall j hj')
    have hsi : SR w B GB g' (s i) a' W' := by
     rcases hj with ⟨j1, _, j3⟩ | ⟨i0, j1, j2, j3, j4⟩
     ·have him' : i = m := by
       rcases Xa4 m i with hlt | hge'
       ·have := j1 m (hfull m hlt); omega
       ·omega
      rw [Zbb (S' := fun _ => true) fun k hk => hfull k (by omega), hfold m (Xag _), <- him'] at j3
      exact j3
     ·have hii : i = i0 := by
       have h5 := j3 i hilt
       rw [h1] at h5
       have h6 : ¬ i < i0 := by simpa using h5.symm
       rcases Xa4 i0 i with hlt | hge'
       ·have h7 := j3 i0 (by omega)
        rw [hfull i0 hlt] at h7; simp at h7
       ·omega
      rw [hii]; exact j4
    refine hst _ hsi _ (hstep i x hx) fun g2 a2 W2 h2 => .inr ⟨i + 1, by omega, by omega, fun k hk => ?_, h2⟩
    rw [hS']
    rcases Xbw k i with hlt | heq | hgt
    ·rw [hfull k hlt]; simp; omega
    ·subst heq; simp
    ·have hkf : l.getD k false = false := by
      rcases hj with ⟨j1, _, _⟩ | ⟨i0, j1, j2, j3, _⟩
      ·cases hv : l.getD k false with
       | false => rfl
       | true => have := j1 k hv; omega
      ·have h5 := j3 i hilt
       rw [h1] at h5
       rw [j3 k hk]
       have h6 : ¬ i < i0 := by simpa using h5.symm
       simp; omega
     have q1 : (k == i) = false := by simp; omega
     have q2 : decide (k < i + 1) = false := by simp; omega
     rw [hkf, q1, q2]; rfl
 refine main ops.size (Array.replicate ops.size false) g a W (by simp) (by simp [List.count_replicate]) (.inl ⟨fun k hk => ?_, fun k hk => ?_, ?_⟩) hn
 ·exfalso; revert hk; simp [Array.getD]
 ·exfalso; revert hk; simp [Array.getD]
 ·have : ∀ j, Zah U (fun k => (Array.replicate ops.size false).getD k false) st j = st := by
   intro j
   induction j with
   | zero => rfl
   | succ j ih => simp only [Zah]; rw [if_neg (by simp [Array.getD]), ih]
  rw [this]; exact h
end Go.Abs
namespace Go.Abs
open Go.RowKit
variable {cx : Cx} {w : World} {B : Nat -> Prop} {GB : Gh} {g : Gh} {st : St} {a : Act} {W : World} {Γ : Spec} {R : TypeId -> Bool}
def AOper.toP (x : AOper) : AOper := match x.op with
 | .load n a => ⟨x.dst, .ldp n a, x.guard, x.after⟩
 | _ => x
theorem Zsv (x : AOper) : x.toP.after = x.after := by unfold AOper.toP; split <;> rfl
theorem Zvi {gl : Nat -> Option (List V)} {x : AOper} {st st' : St} (h : exec Γ gl x.toP st = some st') : exec Γ gl x st = some st' := by
 obtain ⟨d, op, gd, af⟩ := x
 unfold AOper.toP at h
 cases op <;> try exact h
 rename_i n a
 simp only at h
 unfold exec at h ⊢
 have hw : st.wants ⟨d, .ldp n a, gd, af⟩ = st.wants ⟨d, .load n a, gd, af⟩ := rfl
 rw [hw] at h
 split at h
 ·rename_i hwt
  rw [if_pos hwt]
  have h' : (Zbh Γ gl st.H st.own st.tm (.ldp n a)).map (fun r => (st.take r.tk).put d r.v r.o) = some st' := h
  show (Zbh Γ gl st.H st.own st.tm (.load n a)).map (fun r => (st.take r.tk).put d r.v r.o) = some st'
  have e : ∀ v, vLdp gl n (evO st.tm a) = some v -> Zej gl st.H n (evO st.tm a) = some v := by
   intro v hv
   generalize evO st.tm a = u at hv ⊢
   cases u <;> first | exact hv | (simp [vLdp] at hv)
  simp only [Xaa] at h' ⊢
  obtain ⟨r, hr, rfl⟩ := h'
  obtain ⟨v, hv, rfl⟩ := Zai (show resV (vLdp gl n (evO st.tm a)) = some r from hr)
  exact ⟨_, by show resV (Zej gl st.H n (evO st.tm a)) = _; rw [e v hv]; rfl, rfl⟩
 ·rename_i hwt
  rw [if_neg hwt]; exact h
def AOp.quiet (op : AOp) : Bool := op.hOpds.isEmpty && !op.isNew && !op.isLdo && !op.isStore
def Zno (n : Nat) (x : AOper) : Bool := match x.op, x.guard, x.dst with
 | .store _ a _, none, none => Zho n a
 | _, _, _ => false
def Zj8 (n : Nat) (aos : List AOper) (m k : Nat) : Bool :=
 let an := ancs aos []
 let N := aos.length
 Zno n (aos.getD k default) &&
 (List.range N).all fun i =>
  let x := aos.getD i default
  let ai := an.getD i []
  x.after.all (fun e => decide (e < i)) &&
  ai.all (fun j => x.after.contains j || x.after.any fun e => (an.getD e []).contains j) &&
  (if i < m then
   (if i = k then (List.range i).all fun j => ai.contains j || ((aos.getD j default).op.quiet && !Za2 (aos.getD j default) x)
    else !x.op.isStore && x.op.hOpds.all (Zho n) &&
     (List.range i).all fun j => if j = k then x.op.quiet && (ai.contains j || !Za2 (aos.getD j default) x)
      else (ai.contains j || !Za2 (aos.getD j default) x) && !(x.op.isNew && (aos.getD j default).op.isNew))
   else (List.range i).all fun j => ai.contains j)
def Zds (b : Bool) (id : Nat) (cs : List V) (off : Nat) (ys : List V) (st : St) : St := if b then st.setOb id cs off ys else st
theorem Zwl (b : Bool) (id : Nat) (cs : List V) (off : Nat) (ys : List V) (st : St) : (Zds b id cs off ys st).tm = st.tm := by unfold Zds; split <;> rfl
theorem Zji (b : Bool) (id : Nat) (cs : List V) (off : Nat) (ys : List V) (st : St) (t : Nat) : (Zds b id cs off ys st).own (.slot t) = st.own (.slot t) := by unfold Zds; split <;> rfl
theorem Zld {u : Ud} (hn : u.nw = none) (ht : Zc4 u.tk = false) (b : Bool) (id : Nat) (cs : List V) (off : Nat) (ys : List V) (st : St) : Zds b id cs off ys (u.app st) = u.app (Zds b id cs off ys st) := by
 cases b with
 | false => rfl
 | true =>
  show (u.app st).setOb id cs off ys = u.app (st.setOb id cs off ys)
  have hk : u.took = u.tk := by unfold Ud.took; rw [hn]
  have hv : ∀ s s' : St, u.val s = u.val s' := fun s s' => by unfold Ud.val; rw [hn]
  apply St.ext'
  ·funext t
   show (u.app st).tm t = _
   rw [Zf3, Zf3, hv st (st.setOb id cs off ys)]; rfl
  ·funext p
   cases p with
   | slot t =>
    show (u.app st).own (.slot t) = _
    rw [Zdg, Zdg, hn]; rfl
   | cell i j =>
    rw [Zdg]
    show (if i = id /\ off <= j /\ j < off + ys.length then false else (u.app st).own (.cell i j)) = _
    rw [Zdg, hn, hk]
    have h1 : ¬(u.d.map Pos.slot = some (.cell i j)) := by cases u.d <;> simp
    have h2 : ¬(u.tk = some (.cell i j)) := fun h => by rw [h] at ht; cases ht
    simp only [if_neg h1, if_neg h2]
    rfl
  ·show upd (u.app st).H id _ = _
   rw [(Zie u st).1, (Zie u _).1, hn]; rfl
  ·show (u.app st).nH = _
   rw [(Zie u st).2, (Zie u _).2, hn]; rfl
theorem Zpg {gl : Nat -> Option (List V)} {x : AOper} {s : St} {u : Ud} (hq : x.op.quiet = true) (h : udOf Γ gl x s = some u) : u.nw = none /\ Zc4 u.tk = false := by
 unfold AOp.quiet at hq
 simp only [Xah, Xbk] at hq
 constructor
 ·cases hn : u.nw with
  | none => rfl
  | some cs => have := Zb8 h (by rw [hn]; rfl); rw [hq.1.1.2] at this; cases this
 ·rcases Ziz h with e | ⟨t, e, _⟩ | ⟨h', _⟩
  ·rw [e]; rfl
  ·rw [e]; rfl
  ·rw [hq.1.2] at h'; cases h'
theorem Zpe (hs : Scope cx w B GB) (hΓ : Sound cx Γ) {n : Nat} {ops : Array Oper} {aos : List AOper} (hc : Zff cx.P R n ops ops.toList = some aos) {m : Nat} (hm : m <= aos.length) (an : List (List Nat))
  (F : (Nat -> Bool) -> St) (hFc : ∀ S S' : Nat -> Bool, (∀ k, k < m -> S k = S' k) -> F S = F S') (hF0 : F (fun _ => false) = st) {s : Nat -> St} (hFm : F (fun _ => true) = s m) {st' : St} (hsn : s ops.size = st')
  (hchk : ∀ i, i < aos.length -> ∀ x, aos[i]? = some x -> (∀ e ∈ x.after, e < i) /\ (∀ j ∈ an.getD i [], j ∈ x.after \/ ∃ e ∈ x.after, j ∈ an.getD e []) /\ (m <= i -> ∀ j, j < i -> j ∈ an.getD i []))
  (step1 : ∀ (S : Nat -> Bool) (i : Nat), i < m -> S i = false -> (∀ k, S k = true -> k < m) -> (∀ k, S k = true -> ∀ j ∈ an.getD k [], S j = true) -> (∀ j ∈ an.getD i [], S j = true) ->
   ∀ g' a' W', SR w B GB g' (F S) a' W' -> a'.tmps.size = n -> ∀ x, aos[i]? = some x -> exec Γ cx.gl x (F S) = some (F (fun k => S k || k == i)))
  (hstep : ∀ (i : Nat) (x : AOper), m <= i -> aos[i]? = some x -> exec Γ cx.gl x (s i) = some (s (i + 1)))
  (h : SR w B GB g st a W) (hn : a.tmps.size = n) {Q : Exit -> Act -> World -> Prop} (hnext : ∀ g' a' W', SR w B GB g' st' a' W' -> a'.tmps.size = n -> Q .normal a' W') :
  wpAny cx.P .any ops Q ops.size (Array.replicate ops.size false) a W := by
 obtain ⟨hl, hget⟩ := Zdb hc
 simp only [Xca] at hl
 have hget' : ∀ i, i < ops.size -> ∃ (o : Oper) (x : AOper), ops[i]? = some o /\ aos[i]? = some x /\ Zg5 cx.P R n ops o = some x := fun i hi => by
  obtain ⟨x, h1, h2⟩ := hget i ops[i] (by simp [hi])
  exact ⟨ops[i], x, Xar hi, h1, h2⟩
 -- the induction
 have hnl : aos.length = ops.size := hl
 have aft : ∀ (i : Nat) (o : Oper) (x : AOper), ops[i]? = some o -> Zg5 cx.P R n ops o = some x -> x.after = Zpk o := fun i o x _ hx => by
  simp only [Zg5, Xab, Xaa] at hx
  obtain ⟨_, _, _, _, rfl⟩ := hx; rfl
 have Zcl : ∀ (l : Array Bool) (k : Nat), l.size = ops.size -> k < ops.size -> l.getD k true = l.getD k false := fun l k h1 h2 => by simp [Array.getD, show k < l.size by omega]
 have nolist : ∀ (l : Array Bool), l.size = ops.size -> Region.ready .any ops l = [] -> ∀ k, k < ops.size -> l.getD k false = true := by
  intro l hls hre k
  induction k using Nat.strongRecOn with
  | _ k ih =>
   intro hk
   cases hv : l.getD k false with
   | true => rfl
   | false =>
    obtain ⟨o, x, ho, hx, hcx⟩ := hget' k hk
    have : k ∈ Region.ready .any ops l := by
     refine mem_ready.2 ⟨by rw [Zcl l k hls hk]; exact hv, o, ho, fun e he hb => ?_⟩
     have hea : e.on ∈ x.after := by rw [aft k o x ho hcx]; exact Xbb.2 ⟨e, Xdo.2 ⟨by simpa using he, hb⟩, rfl⟩
     have hlt := (hchk k (by omega) x hx).1 _ hea
     exact ih e.on hlt (by omega)
    rw [hre] at this; cases this
 have main : ∀ (fuel : Nat) (l : Array Bool) (g' : Gh) (a' : Act) (W' : World), l.size = ops.size -> l.toList.count false <= fuel ->
   ((∀ k, l.getD k false = true -> k < m) /\ (∀ k, l.getD k false = true -> ∀ j ∈ an.getD k [], l.getD j false = true) /\ SR w B GB g' (F (fun k => l.getD k false)) a' W' \/
     ∃ i, m <= i /\ i <= ops.size /\ (∀ k, k < ops.size -> l.getD k false = decide (k < i)) /\ SR w B GB g' (s i) a' W') -> a'.tmps.size = n -> wpAny cx.P .any ops Q fuel l a' W' := by
  intro fuel
  have fin : ∀ (l : Array Bool) (g' : Gh) (a' : Act) (W' : World), l.size = ops.size -> (∀ k, k < ops.size -> l.getD k false = true) ->
    ((∀ k, l.getD k false = true -> k < m) /\ (∀ k, l.getD k false = true -> ∀ j ∈ an.getD k [], l.getD j false = true) /\ SR w B GB g' (F (fun k => l.getD k false)) a' W' \/
      ∃ i, m <= i /\ i <= ops.size /\ (∀ k, k < ops.size -> l.getD k false = decide (k < i)) /\ SR w B GB g' (s i) a' W') -> a'.tmps.size = n -> Q .normal a' W' := by
   intro l g' a' W' hls hall hj hn'
   rcases hj with ⟨h1, _, h3⟩ | ⟨i, h1, h2, h3, h4⟩
   ·have hmn : m = ops.size := by
     rcases Xa4 m ops.size with hlt | hge
     ·have := h1 m (hall m hlt); omega
     ·omega
    have e : F (fun k => l.getD k false) = st' := by
     rw [hFc _ (fun _ => true) fun k hk => hall k (by omega), hFm, <- hsn, hmn]
    rw [e] at h3
    exact hnext g' a' W' h3 hn'
   ·have : i = ops.size := by
     rcases Xa4 i ops.size with hlt | hge
     ·have := h3 i hlt; rw [hall i hlt] at this; simp at this
     ·omega
    subst this
    rw [hsn] at h4
    exact hnext g' a' W' h4 hn'
  induction fuel with
  | zero =>
   intro l g' a' W' hls hcnt hj hn'
   have hall : ∀ k, k < ops.size -> l.getD k false = true := by
    intro k hk
    cases hv : l.getD k false with
    | true => rfl
    | false =>
     have hk' : k < l.size := by omega
     have : false ∈ l.toList := by
      have e : l[k] = false := by simpa [Array.getD, hk'] using hv
      rw [<- e]; simp
     have := Xdz.2 this
     omega
   refine ⟨?_, fin l g' a' W' hls hall hj hn'⟩
   apply Xeb.2
   intro k hk
   obtain ⟨h1, o, h2, _⟩ := mem_ready.1 hk
   have hlt := (Xba.1 h2).1
   rw [Zcl l k hls hlt, hall k hlt] at h1; cases h1
  | succ fuel ih =>
   intro l g' a' W' hls hcnt hj hn'
   refine ⟨fun hre => fin l g' a' W' hls (nolist l hls hre) hj hn', fun i hi => ?_⟩
   obtain ⟨h1, o, ho, hedges⟩ := mem_ready.1 hi
   have hilt := (Xba.1 ho).1
   rw [Zcl l i hls hilt] at h1
   obtain ⟨o', x, ho', hx, hcx⟩ := hget' i hilt
   rw [ho] at ho'; cases ho'
   have hilt' : i < l.size := by omega
   have hls' : (l.setIfInBounds i true).size = ops.size := by simpa using hls
   have hcnt' : (l.setIfInBounds i true).toList.count false <= fuel := by
    have hi2 : i < l.toList.length := by simpa using hilt'
    have e : l.toList[i] = false := by simpa [Array.getD, hilt'] using h1
    have hpos : 0 < l.toList.count false := Xdz.2 (by rw [<- e]; exact Xav hi2)
    rw [Xc0, List.count_set hi2, e]
    simp only [show (false == false) = true from rfl, show (true == false) = false from rfl, if_true, Xaq, if_false]
    omega
   have hS' : ∀ k, (l.setIfInBounds i true).getD k false = (l.getD k false || k == i) := by
    intro k
    by_cases hki : k = i
    ·subst hki; simp [Array.getD, hilt']
    ·rw [getD_set_ne false (fun e => hki e.symm)]; simp [hki]
   have haft : ∀ e ∈ x.after, l.getD e false = true := by
    intro e he
    rw [aft i o x ho hcx] at he
    obtain ⟨ed, hed, rfl⟩ := Xbb.1 he
    obtain ⟨hed1, hed2⟩ := Xdo.1 hed
    exact hedges ed (by simpa using hed1) hed2
   obtain ⟨c1, c2, c4⟩ := hchk i (by omega) x hx
   have hclosed : ∀ k, l.getD k false = true -> ∀ j ∈ an.getD k [], l.getD j false = true := by
    rcases hj with ⟨_, h, _⟩ | ⟨i0, _, h2, h3, _⟩
    ·exact h
    ·intro k hk j hj'
     have hk' : k < ops.size := by
      rcases Xa4 k ops.size with h | h
      ·exact h
      ·simp [Array.getD, show ¬ k < l.size by omega] at hk
     have hxk := Xad (show k < aos.length by omega)
     obtain ⟨d1, d2, _⟩ := hchk k (by omega) _ hxk
     have hki0 : k < i0 := by have := h3 k hk'; rw [hk] at this; simpa using this.symm
     have jlt : ∀ k, k < aos.length -> ∀ j ∈ an.getD k [], j < k := by
      intro k
      induction k using Nat.strongRecOn with
      | _ k ihk =>
       intro hk2 j hj2
       have hxk := Xad hk2
       obtain ⟨d1, d2, _⟩ := hchk k hk2 _ hxk
       rcases d2 j hj2 with h | ⟨e, he, h⟩
       ·exact d1 j h
       ·have := d1 e he
        have := ihk e this (by omega) j h
        omega
     have := jlt k (by omega) j hj'
     rw [h3 j (by omega)]; simp; omega
   have hpre : ∀ j ∈ an.getD i [], l.getD j false = true := by
    intro j hj'
    rcases c2 j hj' with h | ⟨e, he, h⟩
    ·exact haft j h
    ·exact hclosed e (haft e he) j h
   have hst : ∀ (st2 : St), SR w B GB g' st2 a' W' -> ∀ st3, exec Γ cx.gl x st2 = some st3 -> (∀ g2 a2 W2, SR w B GB g2 st3 a2 W2 -> ((∀ k, (l.setIfInBounds i true).getD k false = true -> k < m) /\ (∀ k, (l.setIfInBounds i true).getD k false = true -> ∀ j ∈ an.getD k [], (l.setIfInBounds i true).getD j false = true) /\ SR w B GB g2 (F (fun k => (l.setIfInBounds i true).getD k false)) a2 W2 \/
     ∃ i', m <= i' /\ i' <= ops.size /\ (∀ k, k < ops.size -> (l.setIfInBounds i true).getD k false = decide (k < i')) /\ SR w B GB g2 (s i') a2 W2)) ->
     wpOp cx.P ops Q i (wpAny cx.P .any ops Q fuel (l.setIfInBounds i true)) a' W' :=
    fun st2 hsr st3 hex hnx => Zht hs hΓ hsr hn' ho hcx hex fun g2 a2 W2 h2 hn2 => ih _ g2 a2 W2 hls' hcnt' (hnx g2 a2 W2 h2) hn2
   by_cases him : i < m
   ·rcases hj with ⟨j1, j2, j3⟩ | ⟨i0, j1, j2, j3, _⟩
    ·refine hst _ j3 _ (step1 (fun k => l.getD k false) i him h1 j1 j2 hpre g' a' W' j3 hn' x hx) fun g2 a2 W2 h2 => .inl ⟨fun k hk => ?_, fun k hk j hj' => ?_, ?_⟩
     ·rw [hS'] at hk; simp only [Xa6, beq_iff_eq] at hk
      rcases hk with hk | rfl
      ·exact j1 k hk
      ·exact him
     ·rw [hS'] at hk ⊢; simp only [Xa6, beq_iff_eq] at hk
      rcases hk with hk | rfl
      ·simp [j2 k hk j hj']
      ·simp [hpre j hj']
     ·rw [hFc _ (fun k => l.getD k false || k == i) fun k _ => hS' k]; exact h2
    ·have := j3 i hilt; rw [h1] at this; simp at this; omega
   ·have hge : m <= i := by omega
    have hall := c4 hge
    have hfull : ∀ j, j < i -> l.getD j false = true := fun j hj' => hpre j (hall j hj')
    have hsi : SR w B GB g' (s i) a' W' := by
     rcases hj with ⟨j1, _, j3⟩ | ⟨i0, j1, j2, j3, j4⟩
     ·have him' : i = m := by
       rcases Xa4 m i with hlt | hge'
       ·have := j1 m (hfull m hlt); omega
       ·omega
      rw [hFc _ (fun _ => true) fun k hk => hfull k (by omega), hFm, <- him'] at j3
      exact j3
     ·have hii : i = i0 := by
       have h5 := j3 i hilt
       rw [h1] at h5
       have h6 : ¬ i < i0 := by simpa using h5.symm
       rcases Xa4 i0 i with hlt | hge'
       ·have h7 := j3 i0 (by omega)
        rw [hfull i0 hlt] at h7; simp at h7
       ·omega
      rw [hii]; exact j4
    refine hst _ hsi _ (hstep i x hge hx) fun g2 a2 W2 h2 => .inr ⟨i + 1, by omega, by omega, fun k hk => ?_, h2⟩
    rw [hS']
    rcases Xbw k i with hlt | heq | hgt
    ·rw [hfull k hlt]; simp; omega
    ·subst heq; simp
    ·have hkf : l.getD k false = false := by
      rcases hj with ⟨j1, _, _⟩ | ⟨i0, j1, j2, j3, _⟩
      ·cases hv : l.getD k false with
       | false => rfl
       | true => have := j1 k hv; omega
      ·have h5 := j3 i hilt
       rw [h1] at h5
       rw [j3 k hk]
       have h6 : ¬ i < i0 := by simpa using h5.symm
       simp; omega
     have q1 : (k == i) = false := by simp; omega
     have q2 : decide (k < i + 1) = false := by simp; omega
     rw [hkf, q1, q2]; rfl
 refine main ops.size (Array.replicate ops.size false) g a W (by simp) (by simp [List.count_replicate]) (.inl ⟨fun k hk => ?_, fun k hk => ?_, ?_⟩) hn
 ·exfalso; revert hk; simp [Array.getD]
 ·exfalso; revert hk; simp [Array.getD]
 ·rw [hFc _ (fun _ => false) fun k hk => by simp [Array.getD], hF0]; exact h
def Ud.idle : Ud := ⟨none, Nil, false, none, none⟩
theorem Zpq (s : St) : Ud.idle.app s = s := rfl
theorem Zq0 (u : Ud) : Apart Ud.idle u where
 d t h := by cases h
 tu t h := by cases h
 tv t h := ⟨by simp [Ud.idle], by simp [Ud.idle]⟩
 c := fun h => by simp [Ud.idle, Zc4] at h
 n := fun h => by simp [Ud.idle] at h
 nu := fun h => by simp [Ud.idle] at h
 nv := fun _ => rfl
theorem Znu (u : Ud) : Apart u Ud.idle where
 d t h := by simp [Ud.idle]
 tu t h := ⟨by simp [Ud.idle], by simp [Ud.idle]⟩
 tv t h := by cases h
 c := fun h => by simp [Ud.idle, Zc4] at h
 n := fun h => by simp [Ud.idle] at h
 nu := fun _ => rfl
 nv := fun h => by simp [Ud.idle] at h
theorem Zqw {gl : Nat -> Option (List V)} {n : Nat} {x : AOper} {s s' : St} (he : Zno n x = true) (h : exec Γ gl x s = some s') : ∃ k a y id cs off, x.op = .store k a y /\ x.guard = none /\ x.dst = none /\ Zho n a = true /\ s.ev a = .ptr id off /\ Zan s.H id = some cs /\
  s' = s.setOb id cs off (s.ev y).cells /\ ∀ s2 : St, s2.ev a = s.ev a -> s2.ev y = s.ev y -> Zan s2.H id = some cs -> exec Γ gl x s2 = some (s2.setOb id cs off (s.ev y).cells) := by
 obtain ⟨d, op, gd, af⟩ := x
 unfold Zno at he
 split at he
 ·rename_i k a y e1 e2 e3
  simp only at e1 e2 e3
  subst e1; subst e2; subst e3
  have hw : ∀ st : St, st.wants ⟨none, .store k a y, none, af⟩ = true := fun _ => rfl
  unfold exec at h
  rw [if_pos (hw s)] at h
  simp only [exec1] at h
  split at h
  ·rename_i id off ep
   split at h
   ·rename_i cs ec
    simp only [Xaa, St.storeOb] at h
    obtain ⟨s1, h1, rfl⟩ := h
    split at h1
    ·rename_i hcnd
     simp only [Xac] at h1
     subst h1
     refine ⟨k, a, y, id, cs, off, rfl, rfl, rfl, he, ep, ec, rfl, fun s2 q1 q2 q3 => ?_⟩
     unfold exec
     rw [if_pos (hw s2)]
     simp only [exec1]
     rw [q1, ep]
     simp only [q3, q2]
     unfold St.storeOb
     rw [if_pos hcnd]; rfl
    ·cases h1
   ·cases h
  ·cases h
 ·cases he
theorem Znv (hs : Scope cx w B GB) (hΓ : Sound cx Γ) {n : Nat} {ops : Array Oper} {aos0 aos : List AOper} (hc : Zff cx.P R n ops ops.toList = some aos0) (hlen : aos.length = aos0.length) (hturn : ∀ (i : Nat) (x : AOper), aos[i]? = some x -> ∃ x0 : AOper, aos0[i]? = some x0 /\ (x = x0 \/ x = x0.toP))
  {m k : Nat} (hm : m <= aos.length) (hkm : k < m) (hok : Zj8 n aos m k = true) (h : SR w B GB g st a W) (hn : a.tmps.size = n)
  {st' : St} (he : execs Γ cx.gl aos st = some st') {Q : Exit -> Act -> World -> Prop} (hnext : ∀ g' a' W', SR w B GB g' st' a' W' -> a'.tmps.size = n -> Q .normal a' W') :
  wpAny cx.P .any ops Q ops.size (Array.replicate ops.size false) a W := by
 obtain ⟨hl, _⟩ := Zdb hc
 simp only [Xca] at hl
 -- the states of the text's order
 obtain ⟨s, hs0, hsn, hstep⟩ : ∃ s : Nat -> St, s 0 = st /\ s aos.length = st' /\ ∀ (i : Nat) (x : AOper), aos[i]? = some x -> exec Γ cx.gl x (s i) = some (s (i + 1)) := by
  have key : ∀ (l : List AOper) (s0 s1 : St), execs Γ cx.gl l s0 = some s1 -> ∃ s : Nat -> St, s 0 = s0 /\ s l.length = s1 /\ ∀ (i : Nat) (x : AOper), l[i]? = some x -> exec Γ cx.gl x (s i) = some (s (i + 1)) := by
   intro l
   induction l with
   | nil => intro s0 s1 h; simp only [execs, Xac] at h; subst h; exact ⟨fun _ => s0, rfl, rfl, fun i x h => by simp at h⟩
   | cons x r ih =>
    intro s0 s1 h
    simp only [execs] at h
    split at h
    ·rename_i s2 h2
     obtain ⟨s, h3, h4, h5⟩ := ih s2 s1 h
     refine ⟨fun i => if i = 0 then s0 else s (i - 1), by simp, by simp [h4], fun i y hy => ?_⟩
     cases i with
     | zero => simp at hy; subst hy; simp [h3, h2]
     | succ i => have := h5 i y (by simpa using hy); simpa using this
    ·simp at h
  exact key aos st st' he
 -- what the check says
 simp only [Zj8, Xah] at hok
 obtain ⟨hearly, hok⟩ := hok
 have hxk := Xad (show k < aos.length by omega)
 rw [Zda hxk] at hearly
 have hchk : ∀ i, i < aos.length -> ∀ x, aos[i]? = some x -> (∀ e ∈ x.after, e < i) /\ (∀ j ∈ (ancs aos []).getD i [], j ∈ x.after \/ ∃ e ∈ x.after, j ∈ (ancs aos []).getD e []) /\
   (i < m -> i ≠ k -> x.op.isStore = false /\ (k < i -> x.op.quiet = true) /\ (∀ y ∈ x.op.hOpds, Zho n y = true) /\ ∀ j, j < i -> ∀ y, aos[j]? = some y -> (j ∈ (ancs aos []).getD i [] \/ Za2 y x = false) /\ (j ≠ k -> ¬(x.op.isNew = true /\ y.op.isNew = true))) /\
   (i = k -> ∀ j, j < i -> ∀ y, aos[j]? = some y -> j ∈ (ancs aos []).getD i [] \/ (y.op.quiet = true /\ Za2 y x = false)) /\
   (m <= i -> ∀ j, j < i -> j ∈ (ancs aos []).getD i []) := by
  intro i hi x hx
  have := Xam.1 hok i (Xbo.2 hi)
  simp only [Zda hx, Xah] at this
  obtain ⟨⟨h1, h2⟩, h3⟩ := this
  simp only [Xam, decide_eq_true_eq, Xa6, Xdv, Xbq] at h1 h2
  refine ⟨h1, h2, fun hlt hne => ?_, fun heq => ?_, fun hge => ?_⟩
  ·rw [if_pos hlt, if_neg hne] at h3
   simp only [Xam, Xbo, Xah, Xbk] at h3
   obtain ⟨⟨h3, h4⟩, h5⟩ := h3
   refine ⟨h3, fun hki => ?_, h4, fun j hj y hy => ?_⟩
   ·have := h5 k hki
    rw [if_pos rfl] at this
    exact (Xah _ _ ▸ this).1
   ·have h6 := h5 j hj
    rw [Zda hy] at h6
    by_cases hjk : j = k
    ·rw [if_pos hjk] at h6
     simp only [Xah, Xa6, Xbq, Xbk] at h6
     exact ⟨h6.2, fun h => absurd hjk h⟩
    ·rw [if_neg hjk] at h6
     simp only [Xah, Xa6, Xbq, Xbk, Xdn] at h6
     obtain ⟨h6, h7⟩ := h6
     exact ⟨h6, fun _ ⟨e1, e2⟩ => by rcases h7 with h7 | h7 <;> simp_all⟩
  ·rw [if_pos (by omega), if_pos heq] at h3
   simp only [Xam, Xbo, Xah, Xa6, Xbq, Xbk] at h3
   intro j hj y hy
   have := h3 j hj
   rw [Zda hy] at this
   exact this
  ·rw [if_neg (by omega)] at h3
   simp only [Xam, Xbo, Xbq] at h3
   exact h3
 obtain ⟨kk, ka, ky, id, cs, off, kop, kgd, kds, kok, kev, kcs, ksn, kex⟩ := Zqw hearly (hstep k _ hxk)
 generalize hys : ((s k).ev ky).cells = ys at ksn kex
 have hud : ∀ i, ∃ u : Ud, (i = k -> u = .idle) /\ (i < m -> i ≠ k -> ∃ x, aos[i]? = some x /\ udOf Γ cx.gl x (s i) = some u /\ s (i + 1) = u.app (s i)) := by
  intro i
  by_cases hik : i = k
  ·exact ⟨.idle, fun _ => rfl, fun _ h => absurd hik h⟩
  by_cases hi : i < m
  ·have hx := Xad (show i < aos.length by omega)
   obtain ⟨u, h1, h2⟩ := Zgk ((hchk i (by omega) _ hx).2.2.1 hi hik).1 (hstep i _ hx)
   exact ⟨u, fun h => absurd h hik, fun _ _ => ⟨_, hx, h1, h2⟩⟩
  ·exact ⟨.idle, fun h => absurd h hik, fun h => absurd h hi⟩
 obtain ⟨U, hU2⟩ := Classical.axiomOfChoice hud
 have hUk : U k = .idle := (hU2 k).1 rfl
 have hU := fun i => (hU2 i).2
 have hfold : ∀ i, i <= m -> Zds (decide (k < i)) id cs off ys (Zah U (fun _ => true) st i) = s i := by
  intro i
  induction i with
  | zero => intro _; exact hs0.symm
  | succ i ih =>
   intro hi
   have ih := ih (by omega)
   by_cases hik : i = k
   ·subst hik
    simp only [Nat.lt_irrefl, decide_false] at ih
    have e0 : Zah U (fun _ => true) st (i + 1) = Zah U (fun _ => true) st i := by simp only [Zah, if_true, hUk, Zpq]
    rw [e0, ksn, <- ih]
    simp [Zds]
   ·obtain ⟨x, hx, hu, h3⟩ := hU i (by omega) hik
    simp only [Zah, if_true]
    rw [h3, <- ih]
    by_cases hki : k < i
    ·have hq := ((hchk i (by omega) x hx).2.2.1 (by omega) hik).2.1 hki
     obtain ⟨q1, q2⟩ := Zpg hq hu
     rw [Zld q1 q2]; simp [hki, Nat.lt_succ_of_lt hki]
    ·have : ¬ k < i + 1 := by omega
     simp [hki, this, Zds]
 have hone : Zib U m := by
  intro j j' hj hj' h1 h2
  have nek : ∀ {j}, (U j).nw.isSome = true -> j ≠ k := fun h e => by rw [e, hUk] at h; cases h
  have hjk := nek h1
  have hjk' := nek h2
  obtain ⟨x, hx, hux, _⟩ := hU j hj hjk
  obtain ⟨y, hy, huy, _⟩ := hU j' hj' hjk'
  have n1 := Zb8 hux h1
  have n2 := Zb8 huy h2
  rcases Xbw j j' with hlt | heq | hgt
  ·exact absurd ⟨n2, n1⟩ ((((hchk j' (by omega) y hy).2.2.1 hj' hjk').2.2.2 j hlt x hx).2 hjk)
  ·exact heq
  ·exact absurd ⟨n1, n2⟩ ((((hchk j (by omega) x hx).2.2.1 hj hjk).2.2.2 j' hgt y hy).2 hjk')
 -- any two: in order or apart
 have hpair : ∀ i, i < m -> ∀ x, aos[i]? = some x -> ∀ j, j < i -> ∀ y, aos[j]? = some y -> j ∈ (ancs aos []).getD i [] \/ Za2 y x = false := by
  intro i hi x hx j hj y hy
  by_cases hik : i = k
  ·rcases (hchk i (by omega) x hx).2.2.2.1 hik j hj y hy with h | h
   ·exact .inl h
   ·exact .inr h.2
  ·exact (((hchk i (by omega) x hx).2.2.1 hi hik).2.2.2 j hj y hy).1
 -- the side on which those stand that meet i
 have side : ∀ (S : Nat -> Bool) (i : Nat), i < m -> S i = false -> (∀ k, S k = true -> ∀ j ∈ (ancs aos []).getD k [], S j = true) -> (∀ j ∈ (ancs aos []).getD i [], S j = true) -> ∀ x, aos[i]? = some x ->
   ∀ k y, k < m -> aos[k]? = some y -> k ≠ i -> Za2 y x = true -> S k = decide (k < i) := by
  intro S i hi hSi hcl hpre x hx k y hk hy hne hcf
  rcases Xa4 k i with hlt | hge
  ·have := hpair i hi x hx k hlt y hy
   rw [hcf] at this
   rw [hpre k (this.resolve_right (by simp))]; simp [hlt]
  ·have hgt : i < k := by omega
   have := hpair k hk y hy i hgt x hx
   have hcf' : Za2 x y = true := by
    cases hh : Za2 x y with
    | true => rfl
    | false => rw [Zgp hh] at hcf; cases hcf
   rw [hcf'] at this
   have hin := this.resolve_right (by simp)
   cases hSk : S k with
   | false => simp; omega
   | true => rw [hcl k hSk i hin] at hSi; cases hSi
 have cf : ∀ {x y : AOper}, (∃ t, t ∈ y.ws /\ (t ∈ x.rd \/ t ∈ x.ws \/ t ∈ x.op.owns)) -> Za2 y x = true := by
  intro x y ⟨t, h1, h2⟩
  cases hh : Za2 y x with
  | true => rfl
  | false =>
   simp only [Za2, Xbm] at hh
   exact absurd (by simp only [Xap, Xa3]; exact h2) (Zau hh.1.1.1.1.1.1 h1)
 have cf2 : ∀ {x y : AOper} {t : Nat}, t ∈ y.op.owns -> t ∈ x.op.owns -> Za2 y x = true := by
  intro x y t h1 h2
  cases hh : Za2 y x with
  | true => rfl
  | false =>
   simp only [Za2, Xbm] at hh
   exact absurd h2 (Zau hh.1.1.1.1.2 h1)
 have hbase : ∀ i, i <= m -> Zah U (fun k => decide (k < i)) st m = Zah U (fun _ => true) st i := fun i hi => Zhc hi
 have rdtm : ∀ (S : Nat -> Bool) (i : Nat), i < m -> S i = false -> (∀ k, S k = true -> ∀ j ∈ (ancs aos []).getD k [], S j = true) -> (∀ j ∈ (ancs aos []).getD i [], S j = true) -> ∀ x, aos[i]? = some x ->
   ∀ t ∈ x.rd, (Zah U S st m).tm t = (Zah U (fun _ => true) st i).tm t := by
  intro S i hi hSi hcl hpre x hx t ht
  rw [<- hbase i (by omega)]
  refine Zfv hone (Xag _) fun j hj hd => ?_
  by_cases hji : j = i
  ·subst hji; rw [hSi]; simp
  ·by_cases hjk : j = k
   ·rw [hjk, hUk] at hd; cases hd
   ·obtain ⟨y, hy, huy, _⟩ := hU j hj hjk
    rw [ud_d huy] at hd
    exact side S i hi hSi hcl hpre x hx j y hj hy hji (cf ⟨t, by simp [AOper.ws, hd], .inl ht⟩)
 have patchtm : ∀ (b : Bool) (st : St), (Zds b id cs off ys st).tm = st.tm := fun b st => Zwl b id cs off ys st
 -- one more of the unordered part
 have step1 : ∀ (S : Nat -> Bool) (i : Nat), i < m -> S i = false -> (∀ k, S k = true -> k < m) -> (∀ k, S k = true -> ∀ j ∈ (ancs aos []).getD k [], S j = true) -> (∀ j ∈ (ancs aos []).getD i [], S j = true) ->
   ∀ g' a' W', SR w B GB g' (Zds (S k) id cs off ys (Zah U S st m)) a' W' -> a'.tmps.size = n -> ∀ x, aos[i]? = some x ->
   exec Γ cx.gl x (Zds (S k) id cs off ys (Zah U S st m)) = some (Zds (S k || k == i) id cs off ys (Zah U (fun k => S k || k == i) st m)) := by
  intro S i hi hSi hSm hcl hpre g' a' W' hsr hn' x hx
  have htm := rdtm S i hi hSi hcl hpre x hx
  by_cases hik : i = k
  ·-- the store
   subst hik
   have hx' : x = aos[i] := by rw [hxk] at hx; exact (Option.some.inj hx).symm
   subst hx'
   have hsk : s i = Zah U (fun _ => true) st i := by rw [<- hfold i (by omega)]; simp [Zds]
   have hadd : Zah U (fun j => S j || j == i) st m = Zah U S st m := by
    have := Zde (U := U) (s0 := st) (S := S) (S' := fun j => S j || j == i) hSi (fun k => rfl) hi (fun j h1 h2 h3 => by rw [hUk]; exact Znu _)
    rw [this, hUk, Zpq]
   rw [hSi, hadd]
   simp only [Bool.false_or, beq_self_eq_true, Zds, if_true, Xaq, if_false]
   have hrd : ∀ t ∈ (AOp.store kk ka ky).reads, (Zah U S st m).tm t = (s i).tm t := fun t ht => by
    rw [hsk]; exact htm t (by simp only [AOper.rd, kop]; exact Xc7 _ ht)
   have e1 : (Zah U S st m).ev ka = (s i).ev ka := Zav fun t ht => hrd t (by simp [AOp.reads, ht])
   have e2 : (Zah U S st m).ev ky = (s i).ev ky := Zav fun t ht => hrd t (by simp [AOp.reads, ht])
   -- the objects are the same
   have eH : (Zah U S st m).H = (s i).H := by
    rw [hsk, <- hbase i (by omega)]
    have inS : ∀ j, j < m -> (U j).nw.isSome = true -> S j = true /\ j < i := by
     intro j hj hnw
     have hji : j ≠ i := fun e => by rw [e, hUk] at hnw; cases hnw
     obtain ⟨y, hy, huy, _⟩ := hU j hj hji
     have hnq : y.op.quiet = false := by
      have := Zb8 huy hnw
      simp [AOp.quiet, this]
     have hlt : j < i := by
      rcases Xa4 j i with h | h
      ·exact h
      ·have := ((hchk j (by omega) y hy).2.2.1 hj hji).2.1 (by omega)
       rw [hnq] at this; cases this
     refine ⟨?_, hlt⟩
     rcases (hchk i (by omega) _ hx).2.2.2.1 rfl j hlt y hy with h | h
     ·exact hpre j h
     ·rw [hnq] at h; cases h.1
    by_cases hex : ∃ j, j < m /\ (U j).nw.isSome = true
    ·obtain ⟨j, hj, hnw⟩ := hex
     obtain ⟨zs, hzs⟩ := Xcn.1 hnw
     obtain ⟨q1, q2⟩ := inS j hj hnw
     rw [(Zc6 hone hzs q1 hj (Xag _)).1, (Zc6 (S := fun k => decide (k < i)) hone hzs (by simpa using q2) hj (Xag _)).1]
    ·have hnone : ∀ (T : Nat -> Bool) j, j < m -> T j = true -> (U j).nw = none := fun T j hj _ => by
      cases hjn : (U j).nw with
      | none => rfl
      | some z => exact absurd ⟨j, hj, by rw [hjn]; rfl⟩ hex
     rw [(Zbf (n := m) (hnone S)).1, (Zbf (n := m) (hnone _)).1]
   exact kex _ e1 e2 (by rw [eH]; exact kcs)
  ·obtain ⟨x', hx', hux, _⟩ := hU i hi hik
   rw [hx] at hx'; cases hx'
   obtain ⟨hst, hquiet, hop, _⟩ := (hchk i (by omega) x hx).2.2.1 hi hik
   have hki' : (k == i) = false := by simp; omega
   rw [hki', Xeg]
   have how : ∀ t ∈ x.op.owns, (Zah U S st m).own (.slot t) = (Zah U (fun _ => true) st i).own (.slot t) := by
    intro t ht
    rw [<- hbase i (by omega)]
    refine Zcx hone (Xag _) fun j hj hd => ?_
    by_cases hji : j = i
    ·subst hji; rw [hSi]; simp
    ·by_cases hjk : j = k
     ·rw [hjk, hUk] at hd; simp [Zbw, Ud.idle] at hd
     ·obtain ⟨y, hy, huy, _⟩ := hU j hj hjk
      simp only [Zbw, Xa6, beq_iff_eq] at hd
      rcases hd with hd | hd
      ·rw [ud_d huy] at hd
       exact side S i hi hSi hcl hpre x hx j y hj hy hji (cf ⟨t, by simp [AOper.ws, hd], .inr (.inr ht)⟩)
      ·rcases Ziz huy with e | ⟨t', e, h'⟩ | ⟨_, id, j, e⟩
       ·rw [e] at hd; cases hd
       ·rw [e] at hd; cases hd; exact side S i hi hSi hcl hpre x hx j y hj hy hji (cf2 h' ht)
       ·rw [e] at hd; cases hd
   have hadd : Zah U (fun j => S j || j == i) st m = (U i).app (Zah U S st m) := by
    refine Zde hSi (fun k => rfl) hi fun j h1 h2 h3 => ?_
    by_cases hjk : j = k
    ·rw [hjk, hUk]; exact Zq0 _
    ·obtain ⟨y, hy, huy, _⟩ := hU j h2 hjk
     refine Zg9 huy hux ?_ (fun h => Zb8 huy h) (fun h => Zb8 hux h)
     cases hh : Za2 y x with
     | false => rfl
     | true => have := side S i hi hSi hcl hpre x hx j y h2 hy (by omega) hh; rw [h3] at this; simp at this; omega
   by_cases hq : x.op.quiet = true
   ·obtain ⟨q1, q2⟩ := Zpg hq hux
    have hq' := hq
    unfold AOp.quiet at hq'
    simp only [Xah, Xbk, List.isEmpty_iff] at hq'
    have hu : udOf Γ cx.gl x (Zds (S k) id cs off ys (Zah U S st m)) = some (U i) := by
     refine Zfz hst hux (fun t ht => ?_) (fun t ht => ?_) (fun hx1 => ?_) (fun y hy => ?_)
     ·rw [patchtm, htm t ht, <- hfold i (by omega), patchtm]
     ·rw [Zji, how t ht, <- hfold i (by omega), Zji]
     ·rw [hq'.1.2] at hx1; cases hx1
     ·rw [hq'.1.1.1] at hy; cases hy
    rw [Zdz hst hu, hadd, Zld q1 q2]
   ·-- what is not quiet comes before the store
    have hik2 : i < k := by
     rcases Xa4 k i with h | h
     ·exact absurd (hquiet h) hq
     ·omega
    have hSk : S k = false := by
     cases hSk : S k with
     | false => rfl
     | true =>
      rcases (hchk k (by omega) _ hxk).2.2.2.1 rfl i hik2 x hx with h | h
      ·rw [hcl k hSk i h] at hSi; cases hSi
      ·exact absurd h.1 hq
    have hsi : s i = Zah U (fun _ => true) st i := by rw [<- hfold i (by omega)]; simp [Zds, show ¬ k < i by omega]
    rw [hSk] at hsr ⊢
    simp only [Zds, Xaq, if_false] at hsr ⊢
    have hldo : x.op.isLdo = true -> ∀ id j, (Zah U S st m).own (.cell id j) = (s i).own (.cell id j) := by
     intro hx1 id j
     rw [hsi, <- hbase i (by omega)]
     refine Zcx hone (Xag _) fun j' hj hd => ?_
     by_cases hji : j' = i
     ·subst hji; rw [hSi]; simp
     ·by_cases hjk : j' = k
      ·rw [hjk, hUk] at hd; simp [Zbw, Ud.idle, Zc4] at hd
      ·obtain ⟨y, hy, huy, _⟩ := hU j' hj hjk
       simp only [Zbw, Xa6] at hd
       refine side S i hi hSi hcl hpre x hx j' y hj hy hji ?_
       rcases hd with hd | hd
       ·have hy1 : y.op.isLdo = true := by
         rcases Ziz huy with e | ⟨t', e, _⟩ | ⟨h, _⟩
         ·rw [e] at hd; cases hd
         ·rw [e] at hd; cases hd
         ·exact h
        simp [Za2, hx1, hy1]
       ·have hy1 := Zb8 huy hd
        simp [Za2, hx1, hy1]
    have hH : ∀ y ∈ x.op.hOpds, ∀ id, Zcd (evO (s i).tm y) = some id -> ((s i).H id).isSome = true -> (Zah U S st m).H id = (s i).H id := by
     intro y hy id hid hsome
     have hid' : Zcd (evO (Zah U S st m).tm y) = some id := by
      rw [<- hid]; congr 1
      refine Zav fun t ht => ?_
      have : t ∈ x.op.reads := by
       revert hy; cases x.op <;> simp only [AOp.hOpds, Xa9, Xc2, false_implies] <;> intro hy <;> first | (subst hy; simp [AOp.reads, ht]; done) | exact Xb4.2 ⟨y, hy, ht⟩
      rw [hsi]; exact htm t (by simp [AOper.rd, this])
     have hlt := hsr.ref hn' (hop y hy) hid'
     by_cases hex : ∃ k, k < m /\ (U k).nw.isSome = true
     ·obtain ⟨k, hk, hnw⟩ := hex
      obtain ⟨cs, hcs⟩ := Xcn.1 hnw
      have none_of : ∀ (T : Nat -> Bool), T k = false -> (∀ j, j < m -> T j = true -> (U j).nw = none) := by
       intro T hT j hj hTj
       cases hjn : (U j).nw with
       | none => rfl
       | some z => have := hone j k hj hk (by rw [hjn]; rfl) hnw; subst this; rw [hT] at hTj; cases hTj
      have hsid : ∀ (b : Bool), decide (k < i) = b -> (s i).H = (if b = true then upd st.H st.nH (some (.cells cs)) else st.H) := by
       intro b hb
       rw [hsi, <- hbase i (by omega)]
       cases b with
       | true => rw [(Zc6 (S := fun k => decide (k < i)) hone hcs (by simpa using hb) hk (Xag _)).1]; simp
       | false => rw [(Zbf (n := m) (none_of (fun k => decide (k < i)) hb)).1]; simp
      cases hSk : S k with
      | true =>
       rw [(Zc6 hone hcs hSk hk (Xag _)).1]
       rw [hsid _ rfl] at hsome ⊢
       by_cases hki : k < i
       ·simp [hki]
       ·simp only [hki, decide_false, Xaq, if_false] at hsome ⊢
        have : id ≠ st.nH := fun e => by subst e; rw [h.obn _ (Xag _)] at hsome; cases hsome
        simp [upd, this]
      | false =>
       obtain ⟨e1, e2⟩ := Zbf (s0 := st) (n := m) (none_of S hSk)
       rw [e2] at hlt
       rw [e1, hsid _ rfl]
       by_cases hki : k < i
       ·simp only [hki, decide_true, if_true]
        have : id ≠ st.nH := by omega
        simp [upd, this]
       ·simp [hki]
     ·have hnone : ∀ (T : Nat -> Bool) j, j < m -> T j = true -> (U j).nw = none := fun T j hj _ => by
       cases hjn : (U j).nw with
       | none => rfl
       | some z => exact absurd ⟨j, hj, by rw [hjn]; rfl⟩ hex
      rw [(Zbf (n := m) (hnone S)).1, hsi, <- hbase i (by omega), (Zbf (n := m) (hnone _)).1]
    have hu := Zfz hst hux (fun t ht => by rw [hsi]; exact htm t ht) (fun t ht => by rw [hsi]; exact how t ht) hldo hH
    rw [Zdz hst hu, hadd]
 -- the induction
 have back : ∀ i, i < aos.length -> ∀ x0, aos0[i]? = some x0 -> ∃ x, aos[i]? = some x /\ (x = x0 \/ x = x0.toP) := by
  intro i hi x0 hx0
  have hx := Xad hi
  obtain ⟨x1, h1, h2⟩ := hturn i _ hx
  rw [hx0] at h1; cases h1
  exact ⟨_, hx, h2⟩
 have toE : ∀ {x x0 : AOper} {s1 s2 : St}, (x = x0 \/ x = x0.toP) -> exec Γ cx.gl x s1 = some s2 -> exec Γ cx.gl x0 s1 = some s2 := by
  intro x x0 s1 s2 h h1
  rcases h with rfl | rfl
  ·exact h1
  ·exact Zvi h1
 have toA : ∀ {x x0 : AOper}, (x = x0 \/ x = x0.toP) -> x0.after = x.after := by
  intro x x0 h
  rcases h with rfl | rfl
  ·rfl
  ·exact (Zsv _).symm
 have lt0 : ∀ {i x0}, aos0[i]? = some x0 -> i < aos.length := fun h => by rw [hlen]; exact (Xae.1 h).1
 refine Zpe hs hΓ hc (m := m) (by omega) (ancs aos []) (fun S => Zds (S k) id cs off ys (Zah U S st m)) (fun S S' hS => ?_) ?_ (s := s) ?_ (by rw [<- hl, <- hlen]; exact hsn) (fun i hi x0 hx0 => ?_) (fun S i hi hSi hSm hcl hpre g' a' W' hsr hn' x0 hx0 => ?_) (fun i x0 hge hx0 => ?_) h hn hnext
 ·show Zds (S k) id cs off ys (Zah U S st m) = Zds (S' k) id cs off ys (Zah U S' st m)
  rw [hS k hkm, Zbb hS]
 ·have : ∀ j, Zah U (fun _ => false) st j = st := by
   intro j
   induction j with
   | zero => rfl
   | succ j ih => simp only [Zah]; rw [if_neg (by simp), ih]
  simp only [this]; rfl
 ·rw [<- hfold m (Xag _)]; simp [hkm]
 ·obtain ⟨x, hx, hxx⟩ := back i (by omega) x0 hx0
  obtain ⟨c1, c2, _, _, c5⟩ := hchk i (by omega) x hx
  rw [toA hxx]
  exact ⟨c1, c2, c5⟩
 ·obtain ⟨x, hx, hxx⟩ := back i (lt0 hx0) x0 hx0
  exact toE hxx (step1 S i hi hSi hSm hcl hpre g' a' W' hsr hn' x hx)
 ·obtain ⟨x, hx, hxx⟩ := back i (lt0 hx0) x0 hx0
  exact toE hxx (hstep i x hx)
end Go.Abs
namespace Go.Abs
open Go.RowKit
variable {cx : Cx} {w : World} {B : Nat -> Prop} {GB : Gh} {g : Gh} {st : St} {a : Act} {W : World} {Γ : Spec} {R : TypeId -> Bool}
def Znn (n : Nat) (aos : List AOper) (k : Nat) : Bool :=
 let an := ancs aos []
 (List.range aos.length).all fun i =>
  let x := aos.getD i default
  let ai := an.getD i []
  x.after.all (fun e => decide (e < i)) &&
  ai.all (fun j => x.after.contains j || x.after.any fun e => (an.getD e []).contains j) &&
  (if i < k then !x.op.isStore && x.op.hOpds.all (Zho n) &&
    (List.range i).all fun j => (ai.contains j || !Za2 (aos.getD j default) x) && !(x.op.isNew && (aos.getD j default).op.isNew)
   else if i = k then (List.range i).all fun j => ai.contains j
   else x.op.quiet && (List.range i).all fun j => ai.contains j || (decide (k < j) && !Za2 (aos.getD j default) x))
theorem Zoh (hs : Scope cx w B GB) (hΓ : Sound cx Γ) {n : Nat} {ops : Array Oper} {aos : List AOper} (hc : Zff cx.P R n ops ops.toList = some aos) {k : Nat} (hkm : k < aos.length) (hok : Znn n aos k = true) (h : SR w B GB g st a W) (hn : a.tmps.size = n)
  {st' : St} (he : execs Γ cx.gl aos st = some st') {Q : Exit -> Act -> World -> Prop} (hnext : ∀ g' a' W', SR w B GB g' st' a' W' -> a'.tmps.size = n -> Q .normal a' W') :
  wpAny cx.P .any ops Q ops.size (Array.replicate ops.size false) a W := by
 obtain ⟨hl, _⟩ := Zdb hc
 simp only [Xca] at hl
 -- the states of the text's order
 obtain ⟨s, hs0, hsn, hstep⟩ : ∃ s : Nat -> St, s 0 = st /\ s aos.length = st' /\ ∀ (i : Nat) (x : AOper), aos[i]? = some x -> exec Γ cx.gl x (s i) = some (s (i + 1)) := by
  have key : ∀ (l : List AOper) (s0 s1 : St), execs Γ cx.gl l s0 = some s1 -> ∃ s : Nat -> St, s 0 = s0 /\ s l.length = s1 /\ ∀ (i : Nat) (x : AOper), l[i]? = some x -> exec Γ cx.gl x (s i) = some (s (i + 1)) := by
   intro l
   induction l with
   | nil => intro s0 s1 h; simp only [execs, Xac] at h; subst h; exact ⟨fun _ => s0, rfl, rfl, fun i x h => by simp at h⟩
   | cons x r ih =>
    intro s0 s1 h
    simp only [execs] at h
    split at h
    ·rename_i s2 h2
     obtain ⟨s, h3, h4, h5⟩ := ih s2 s1 h
     refine ⟨fun i => if i = 0 then s0 else s (i - 1), by simp, by simp [h4], fun i y hy => ?_⟩
     cases i with
     | zero => simp at hy; subst hy; simp [h3, h2]
     | succ i => have := h5 i y (by simpa using hy); simpa using this
    ·simp at h
  exact key aos st st' he
 -- what the check says
 have hchk : ∀ i, i < aos.length -> ∀ x, aos[i]? = some x -> (∀ e ∈ x.after, e < i) /\ (∀ j ∈ (ancs aos []).getD i [], j ∈ x.after \/ ∃ e ∈ x.after, j ∈ (ancs aos []).getD e []) /\
   (i < k -> x.op.isStore = false /\ (∀ y ∈ x.op.hOpds, Zho n y = true) /\ ∀ j, j < i -> ∀ y, aos[j]? = some y -> (j ∈ (ancs aos []).getD i [] \/ Za2 y x = false) /\ ¬(x.op.isNew = true /\ y.op.isNew = true)) /\
   (i = k -> ∀ j, j < i -> j ∈ (ancs aos []).getD i []) /\
   (k < i -> x.op.quiet = true /\ ∀ j, j < i -> ∀ y, aos[j]? = some y -> j ∈ (ancs aos []).getD i [] \/ (k < j /\ Za2 y x = false)) := by
  intro i hi x hx
  have := Xam.1 hok i (Xbo.2 hi)
  simp only [Zda hx, Xah] at this
  obtain ⟨⟨h1, h2⟩, h3⟩ := this
  simp only [Xam, decide_eq_true_eq, Xa6, Xdv, Xbq] at h1 h2
  refine ⟨h1, h2, fun hlt => ?_, fun heq => ?_, fun hgt => ?_⟩
  ·rw [if_pos hlt] at h3
   simp only [Xam, Xbo, Xah, Xbk, Xa6, Xbq, Xdn] at h3
   obtain ⟨⟨h3, h4⟩, h5⟩ := h3
   refine ⟨h3, h4, fun j hj y hy => ?_⟩
   obtain ⟨h6, h7⟩ := h5 j hj
   rw [Zda hy] at h6 h7
   exact ⟨h6, fun ⟨e1, e2⟩ => by rcases h7 with h7 | h7 <;> simp_all⟩
  ·rw [if_neg (by omega), if_pos heq] at h3
   simp only [Xam, Xbo, Xbq] at h3
   exact h3
  ·rw [if_neg (by omega), if_neg (by omega)] at h3
   simp only [Xam, Xbo, Xah, Xbk, Xa6, Xbq, decide_eq_true_eq] at h3
   refine ⟨h3.1, fun j hj y hy => ?_⟩
   have h6 := h3.2 j hj
   rw [Zda hy] at h6
   exact h6
 have hxk := Xad hkm
 have hud : ∀ i, ∃ u : Ud, (i = k -> u = .idle) /\ (i < aos.length -> i ≠ k -> ∃ x, aos[i]? = some x /\ udOf Γ cx.gl x (s i) = some u /\ s (i + 1) = u.app (s i)) := by
  intro i
  by_cases hik : i = k
  ·exact ⟨.idle, fun _ => rfl, fun _ h => absurd hik h⟩
  by_cases hi : i < aos.length
  ·have hx := Xad hi
   have hns : aos[i].op.isStore = false := by
    obtain ⟨_, _, c1, _, c3⟩ := hchk i hi _ hx
    rcases Xes hik with hlt | hgt
    ·exact (c1 hlt).1
    ·have := (c3 hgt).1
     unfold AOp.quiet at this
     simp only [Xah, Xbk] at this
     exact this.2
   obtain ⟨u, h1, h2⟩ := Zgk hns (hstep i _ hx)
   exact ⟨u, fun h => absurd h hik, fun _ _ => ⟨_, hx, h1, h2⟩⟩
  ·exact ⟨.idle, fun h => absurd h hik, fun h => absurd h hi⟩
 obtain ⟨U, hU2⟩ := Classical.axiomOfChoice hud
 have hUk : U k = .idle := (hU2 k).1 rfl
 have hU := fun i => (hU2 i).2
 have hone : Zib U aos.length := by
  have nek : ∀ {j}, j < aos.length -> (U j).nw.isSome = true -> j < k := fun {j} hj h => by
   rcases Xbw j k with hlt | e | hgt
   ·exact hlt
   ·rw [e, hUk] at h; cases h
   ·obtain ⟨x, hx, hux, _⟩ := hU j hj (by omega)
    have hq := ((hchk j hj x hx).2.2.2.2 hgt).1
    have := Zb8 hux h
    simp [AOp.quiet, this] at hq
  intro j j' hj hj' h1 h2
  have hjk := nek hj h1
  have hjk' := nek hj' h2
  obtain ⟨x, hx, hux, _⟩ := hU j hj (by omega)
  obtain ⟨y, hy, huy, _⟩ := hU j' hj' (by omega)
  have n1 := Zb8 hux h1
  have n2 := Zb8 huy h2
  rcases Xbw j j' with hlt | heq | hgt
  ·exact absurd ⟨n2, n1⟩ (((hchk j' hj' y hy).2.2.1 hjk').2.2 j hlt x hx).2
  ·exact heq
  ·exact absurd ⟨n1, n2⟩ (((hchk j hj x hx).2.2.1 hjk).2.2 j' hgt y hy).2
 -- any two on one side: in order or apart
 have hpair : ∀ i, i < aos.length -> i ≠ k -> ∀ x, aos[i]? = some x -> ∀ j, j < i -> ((j < k /\ i < k) \/ (k < j /\ k < i)) -> ∀ y, aos[j]? = some y -> j ∈ (ancs aos []).getD i [] \/ Za2 y x = false := by
  intro i hi hik x hx j hj hside y hy
  rcases hside with ⟨h1, h2⟩ | ⟨h1, h2⟩
  ·exact (((hchk i hi x hx).2.2.1 h2).2.2 j hj y hy).1
  ·rcases ((hchk i hi x hx).2.2.2.2 h2).2 j hj y hy with h | h
   ·exact .inl h
   ·exact .inr h.2
 have side : ∀ (S : Nat -> Bool) (i : Nat), i < aos.length -> i ≠ k -> S i = false -> (∀ k, S k = true -> ∀ j ∈ (ancs aos []).getD k [], S j = true) -> (∀ j ∈ (ancs aos []).getD i [], S j = true) -> ∀ x, aos[i]? = some x ->
   ∀ j y, j < aos.length -> ((j < k /\ i < k) \/ (k < j /\ k < i)) -> aos[j]? = some y -> j ≠ i -> Za2 y x = true -> S j = decide (j < i) := by
  intro S i hi hik hSi hcl hpre x hx j y hj hside hy hne hcf
  rcases Xa4 j i with hlt | hge
  ·have := hpair i hi hik x hx j hlt hside y hy
   rw [hcf] at this
   rw [hpre j (this.resolve_right (by simp))]; simp [hlt]
  ·have hgt : i < j := by omega
   have := hpair j hj (by omega) y hy i hgt (by omega) x hx
   have hcf' : Za2 x y = true := by
    cases hh : Za2 x y with
    | true => rfl
    | false => rw [Zgp hh] at hcf; cases hcf
   rw [hcf'] at this
   have hin := this.resolve_right (by simp)
   cases hSj : S j with
   | false => simp; omega
   | true => rw [hcl j hSj i hin] at hSi; cases hSi
 have cf : ∀ {x y : AOper}, (∃ t, t ∈ y.ws /\ (t ∈ x.rd \/ t ∈ x.ws \/ t ∈ x.op.owns)) -> Za2 y x = true := by
  intro x y ⟨t, h1, h2⟩
  cases hh : Za2 y x with
  | true => rfl
  | false =>
   simp only [Za2, Xbm] at hh
   exact absurd (by simp only [Xap, Xa3]; exact h2) (Zau hh.1.1.1.1.1.1 h1)
 have cf2 : ∀ {x y : AOper} {t : Nat}, t ∈ y.op.owns -> t ∈ x.op.owns -> Za2 y x = true := by
  intro x y t h1 h2
  cases hh : Za2 y x with
  | true => rfl
  | false =>
   simp only [Za2, Xbm] at hh
   exact absurd h2 (Zau hh.1.1.1.1.2 h1)
 -- the states of the text's order as folds: ahead of k, and behind it
 obtain ⟨N, hN⟩ : ∃ N, N = aos.length := ⟨_, rfl⟩
 have hA : ∀ i, i <= k -> Zah U (fun j => decide (j < i)) st N = s i := by
  intro i hi
  rw [Zhc (by omega)]
  induction i with
  | zero => exact hs0.symm
  | succ i ih =>
   obtain ⟨x, hx, hu, h3⟩ := hU i (by omega) (by omega)
   simp only [Zah, if_true]
   rw [ih (by omega), <- h3]
 have hB : ∀ d i, i = k + 1 + d -> i <= N -> Zah U (fun j => decide (k < j) && decide (j < i)) (s (k + 1)) N = s i := by
  intro d
  induction d with
  | zero =>
   intro i hi hiN
   subst hi
   have : ∀ j, Zah U (fun j => decide (k < j) && decide (j < k + 1)) (s (k + 1)) j = s (k + 1) := by
    intro j
    induction j with
    | zero => rfl
    | succ j ih => simp only [Zah]; rw [if_neg (by simp; omega), ih]
   exact this N
  | succ d ih =>
   intro i hi hiN
   obtain ⟨x, hx, hu, h3⟩ := hU (k + 1 + d) (by omega) (by omega)
   have := Zde (U := U) (s0 := s (k + 1)) (i := k + 1 + d) (S := fun j => decide (k < j) && decide (j < k + 1 + d)) (S' := fun j => decide (k < j) && decide (j < i)) (by simp) (fun j => by
    subst hi
    by_cases e : j = k + 1 + d
    ·subst e; simp; omega
    ·have : (j == k + 1 + d) = false := by simpa using e
     rw [this, Xeg]
     congr 1
     simp; omega) (n := N) (by omega) (fun j h1 h2 h3 => by simp at h3; omega)
   rw [this, ih _ rfl (by omega), <- h3, hi]
   rfl
 obtain ⟨F, hF⟩ : ∃ F : (Nat -> Bool) -> St, ∀ S, F S = if S k = true then Zah U (fun j => S j && decide (k < j)) (s (k + 1)) N else Zah U (fun j => S j && decide (j < k)) st N := ⟨_, fun _ => rfl⟩
 -- one more
 have step1 : ∀ (S : Nat -> Bool) (i : Nat), i < N -> S i = false -> (∀ k, S k = true -> k < N) -> (∀ k, S k = true -> ∀ j ∈ (ancs aos []).getD k [], S j = true) -> (∀ j ∈ (ancs aos []).getD i [], S j = true) ->
   ∀ g' a' W', SR w B GB g' (F S) a' W' -> a'.tmps.size = n -> ∀ x, aos[i]? = some x -> exec Γ cx.gl x (F S) = some (F (fun k => S k || k == i)) := by
  intro S i hi hSi hSm hcl hpre g' a' W' hsr hn' x hx
  rw [hF] at hsr ⊢
  rw [hF]
  rcases Xbw i k with hik | hik | hik
  ·-- ahead
   have hSk : S k = false := by
    cases hSk : S k with
    | false => rfl
    | true => have := hcl k hSk i ((hchk k hkm _ hxk).2.2.2.1 rfl i hik); rw [this] at hSi; cases hSi
   have hSk' : (S k || k == i) = false := by rw [hSk]; simp; omega
   rw [if_neg (by rw [hSk]; simp)] at hsr ⊢
   rw [if_neg (by rw [hSk']; simp)]
   obtain ⟨x', hx', hux, _⟩ := hU i (by omega) (by omega)
   rw [hx] at hx'; cases hx'
   obtain ⟨hst, hop, _⟩ := (hchk i (by omega) x hx).2.2.1 hik
   have hsi : s i = Zah U (fun j => decide (j < i)) st N := (hA i (by omega)).symm
   have hsd : ∀ j y, j < N -> j < k -> aos[j]? = some y -> j ≠ i -> Za2 y x = true -> (S j && decide (j < k)) = decide (j < i) := fun j y hj hjk hy hne hcf => by
    rw [side S i (by omega) (by omega) hSi hcl hpre x hx j y (by omega) (.inl ⟨hjk, hik⟩) hy hne hcf]; simp [hjk]
   have htm : ∀ t ∈ x.rd, (Zah U (fun j => S j && decide (j < k)) st N).tm t = (s i).tm t := by
    intro t ht
    rw [hsi]
    refine Zfv hone (by omega) fun j hj hd => ?_
    by_cases hji : j = i
    ·subst hji; rw [hSi]; simp
    ·rcases Xbw j k with hjk | hjk | hjk
     ·obtain ⟨y, hy, huy, _⟩ := hU j (by omega) (by omega)
      rw [ud_d huy] at hd
      exact hsd j y hj hjk hy hji (cf ⟨t, by simp [AOper.ws, hd], .inl ht⟩)
     ·rw [hjk, hUk] at hd; cases hd
     ·have h1 : ¬ j < k := by omega
      have h2 : ¬ j < i := by omega
      simp [h1, h2]
   have how : ∀ t ∈ x.op.owns, (Zah U (fun j => S j && decide (j < k)) st N).own (.slot t) = (s i).own (.slot t) := by
    intro t ht
    rw [hsi]
    refine Zcx hone (by omega) fun j hj hd => ?_
    by_cases hji : j = i
    ·subst hji; rw [hSi]; simp
    ·rcases Xbw j k with hjk | hjk | hjk
     ·obtain ⟨y, hy, huy, _⟩ := hU j (by omega) (by omega)
      simp only [Zbw, Xa6, beq_iff_eq] at hd
      rcases hd with hd | hd
      ·rw [ud_d huy] at hd
       exact hsd j y hj hjk hy hji (cf ⟨t, by simp [AOper.ws, hd], .inr (.inr ht)⟩)
      ·rcases Ziz huy with e | ⟨t', e, h'⟩ | ⟨_, id, j, e⟩
       ·rw [e] at hd; cases hd
       ·rw [e] at hd; cases hd; exact hsd j y hj hjk hy hji (cf2 h' ht)
       ·rw [e] at hd; cases hd
     ·rw [hjk, hUk] at hd; simp [Zbw, Ud.idle] at hd
     ·have h1 : ¬ j < k := by omega
      have h2 : ¬ j < i := by omega
      simp [h1, h2]
   have hadd : Zah U (fun j => (S j || j == i) && decide (j < k)) st N = (U i).app (Zah U (fun j => S j && decide (j < k)) st N) := by
    refine Zde (by rw [hSi]; rfl) (fun j => ?_) (by omega) fun j h1 h2 h3 => ?_
    ·by_cases e : j = i
     ·subst e; simp [hik]
     ·have : (j == i) = false := by simpa using e
      simp [this]
    ·simp only [Xah, decide_eq_true_eq] at h3
     obtain ⟨y, hy, huy, _⟩ := hU j (by omega) (by omega)
     refine Zg9 huy hux ?_ (fun h => Zb8 huy h) (fun h => Zb8 hux h)
     cases hh : Za2 y x with
     | false => rfl
     | true => have := side S i (by omega) (by omega) hSi hcl hpre x hx j y (by omega) (.inl ⟨h3.2, hik⟩) hy (by omega) hh; rw [h3.1] at this; simp at this; omega
   have hldo : x.op.isLdo = true -> ∀ id j, (Zah U (fun j => S j && decide (j < k)) st N).own (.cell id j) = (s i).own (.cell id j) := by
    intro hx1 id j
    rw [hsi]
    refine Zcx hone (by omega) fun j' hj hd => ?_
    by_cases hji : j' = i
    ·subst hji; rw [hSi]; simp
    ·rcases Xbw j' k with hjk | hjk | hjk
     ·obtain ⟨y, hy, huy, _⟩ := hU j' (by omega) (by omega)
      simp only [Zbw, Xa6] at hd
      refine hsd j' y hj hjk hy hji ?_
      rcases hd with hd | hd
      ·have hy1 : y.op.isLdo = true := by
        rcases Ziz huy with e | ⟨t', e, _⟩ | ⟨h, _⟩
        ·rw [e] at hd; cases hd
        ·rw [e] at hd; cases hd
        ·exact h
       simp [Za2, hx1, hy1]
      ·have hy1 := Zb8 huy hd
       simp [Za2, hx1, hy1]
     ·rw [hjk, hUk] at hd; simp [Zbw, Ud.idle, Zc4] at hd
     ·have h1 : ¬ j' < k := by omega
      have h2 : ¬ j' < i := by omega
      simp [h1, h2]
   have hH : ∀ y ∈ x.op.hOpds, ∀ id, Zcd (evO (s i).tm y) = some id -> ((s i).H id).isSome = true -> (Zah U (fun j => S j && decide (j < k)) st N).H id = (s i).H id := by
    intro y hy id hid hsome
    have hid' : Zcd (evO (Zah U (fun j => S j && decide (j < k)) st N).tm y) = some id := by
     rw [<- hid]; congr 1
     refine Zav fun t ht => ?_
     have : t ∈ x.op.reads := by
      revert hy; cases x.op <;> simp only [AOp.hOpds, Xa9, Xc2, false_implies] <;> intro hy <;> first | (subst hy; simp [AOp.reads, ht]; done) | exact Xb4.2 ⟨y, hy, ht⟩
     exact htm t (by simp [AOper.rd, this])
    have hlt := hsr.ref hn' (hop y hy) hid'
    rw [hsi] at hsome ⊢
    by_cases hex : ∃ k', k' < N /\ (U k').nw.isSome = true
    ·obtain ⟨k', hk', hnw⟩ := hex
     obtain ⟨cs, hcs⟩ := Xcn.1 hnw
     have none_of : ∀ (T : Nat -> Bool), T k' = false -> (∀ j, j < N -> T j = true -> (U j).nw = none) := by
      intro T hT j hj hTj
      cases hjn : (U j).nw with
      | none => rfl
      | some z => have := hone j k' (by omega) (by omega) (by rw [hjn]; rfl) hnw; subst this; rw [hT] at hTj; cases hTj
     have hsid : ∀ (b : Bool), decide (k' < i) = b -> (Zah U (fun j => decide (j < i)) st N).H = (if b = true then upd st.H st.nH (some (.cells cs)) else st.H) := by
      intro b hb
      cases b with
      | true => rw [(Zc6 (S := fun j => decide (j < i)) hone hcs (by simpa using hb) hk' (by omega)).1]; simp
      | false => rw [(Zbf (n := N) (none_of (fun j => decide (j < i)) hb)).1]; simp
     cases hSk2 : (S k' && decide (k' < k)) with
     | true =>
      rw [(Zc6 (S := fun j => S j && decide (j < k)) hone hcs hSk2 hk' (by omega)).1]
      rw [hsid _ rfl] at hsome ⊢
      by_cases hki : k' < i
      ·simp [hki]
      ·simp only [hki, decide_false, Xaq, if_false] at hsome ⊢
       have : id ≠ st.nH := fun e => by subst e; rw [h.obn _ (Xag _)] at hsome; cases hsome
       simp [upd, this]
     | false =>
      obtain ⟨e1, e2⟩ := Zbf (s0 := st) (n := N) (none_of (fun j => S j && decide (j < k)) hSk2)
      rw [e2] at hlt
      rw [e1, hsid _ rfl]
      by_cases hki : k' < i
      ·simp only [hki, decide_true, if_true]
       have : id ≠ st.nH := by omega
       simp [upd, this]
      ·simp [hki]
    ·have hnone : ∀ (T : Nat -> Bool) j, j < N -> T j = true -> (U j).nw = none := fun T j hj _ => by
      cases hjn : (U j).nw with
      | none => rfl
      | some z => exact absurd ⟨j, hj, by rw [hjn]; rfl⟩ hex
     rw [(Zbf (n := N) (hnone _)).1, (Zbf (n := N) (hnone _)).1]
   have hu := Zfz hst hux htm how hldo hH
   rw [Zdz hst hu, hadd]
  ·-- k itself
   subst hik
   have hx' : x = aos[i] := by rw [hxk] at hx; exact (Option.some.inj hx).symm
   subst hx'
   rw [if_neg (by rw [hSi]; simp), if_pos (by simp)]
   have hall : ∀ j, j < i -> S j = true := fun j hj => hpre j ((hchk i hkm _ hxk).2.2.2.1 rfl j hj)
   have hbeh : ∀ j, i < j -> S j = false := fun j hj => by
    cases hSj : S j with
    | false => rfl
    | true =>
     have hjN := hSm j hSj
     have hxj := Xad (show j < aos.length by omega)
     rcases ((hchk j (by omega) _ hxj).2.2.2.2 hj).2 i hj _ hxk with h | h
     ·rw [hcl j hSj i h] at hSi; cases hSi
     ·omega
   have e1 : Zah U (fun j => S j && decide (j < i)) st N = s i := by
    rw [<- hA i (Xag _)]
    exact Zbb fun j _ => by
     by_cases hj : j < i
     ·simp [hj, hall j hj]
     ·simp [hj]
   have e2 : Zah U (fun j => (S j || j == i) && decide (i < j)) (s (i + 1)) N = s (i + 1) := by
    refine Eq.trans (Zbb fun j _ => ?_) (hB 0 (i + 1) rfl (by omega))
    by_cases hj : i < j
    ·have : (j == i) = false := by simp; omega
     have h2 : ¬ j < i + 1 := by omega
     simp [hj, hbeh j hj, this, h2]
    ·simp [hj]
   rw [e1, e2]
   exact hstep i _ hxk
  ·-- behind
   have hSk : S k = true := by
    rcases ((hchk i (by omega) x hx).2.2.2.2 hik).2 k hik _ hxk with h | h
    ·exact hpre k h
    ·omega
   rw [if_pos hSk] at hsr ⊢
   rw [if_pos (by rw [hSk]; rfl)]
   obtain ⟨x', hx', hux, _⟩ := hU i (by omega) (by omega)
   rw [hx] at hx'; cases hx'
   have hq := ((hchk i (by omega) x hx).2.2.2.2 hik).1
   have hq' := hq
   unfold AOp.quiet at hq'
   simp only [Xah, Xbk, List.isEmpty_iff] at hq'
   have hst := hq'.2
   have hsi : s i = Zah U (fun j => decide (k < j) && decide (j < i)) (s (k + 1)) N := (hB (i - (k + 1)) i (by omega) (by omega)).symm
   have hsd : ∀ j y, j < N -> k < j -> aos[j]? = some y -> j ≠ i -> Za2 y x = true -> (S j && decide (k < j)) = (decide (k < j) && decide (j < i)) := fun j y hj hjk hy hne hcf => by
    rw [side S i (by omega) (by omega) hSi hcl hpre x hx j y (by omega) (.inr ⟨hjk, hik⟩) hy hne hcf]; simp [hjk]
   have hu : udOf Γ cx.gl x (Zah U (fun j => S j && decide (k < j)) (s (k + 1)) N) = some (U i) := by
    refine Zfz hst hux (fun t ht => ?_) (fun t ht => ?_) (fun hx1 => ?_) (fun y hy => ?_)
    ·rw [hsi]
     refine Zfv hone (by omega) fun j hj hd => ?_
     by_cases hji : j = i
     ·subst hji; rw [hSi]; simp
     ·rcases Xbw j k with hjk | hjk | hjk
      ·have : ¬ k < j := by omega
       simp [this]
      ·rw [hjk, hUk] at hd; cases hd
      ·obtain ⟨y, hy, huy, _⟩ := hU j (by omega) (by omega)
       rw [ud_d huy] at hd
       exact hsd j y hj hjk hy hji (cf ⟨t, by simp [AOper.ws, hd], .inl ht⟩)
    ·rw [hsi]
     refine Zcx hone (by omega) fun j hj hd => ?_
     by_cases hji : j = i
     ·subst hji; rw [hSi]; simp
     ·rcases Xbw j k with hjk | hjk | hjk
      ·have : ¬ k < j := by omega
       simp [this]
      ·rw [hjk, hUk] at hd; simp [Zbw, Ud.idle] at hd
      ·obtain ⟨y, hy, huy, _⟩ := hU j (by omega) (by omega)
       simp only [Zbw, Xa6, beq_iff_eq] at hd
       rcases hd with hd | hd
       ·rw [ud_d huy] at hd
        exact hsd j y hj hjk hy hji (cf ⟨t, by simp [AOper.ws, hd], .inr (.inr ht)⟩)
       ·rcases Ziz huy with e | ⟨t', e, h'⟩ | ⟨_, id, j, e⟩
        ·rw [e] at hd; cases hd
        ·rw [e] at hd; cases hd; exact hsd j y hj hjk hy hji (cf2 h' ht)
        ·rw [e] at hd; cases hd
    ·rw [hq'.1.2] at hx1; cases hx1
    ·rw [hq'.1.1.1] at hy; cases hy
   have hadd : Zah U (fun j => (S j || j == i) && decide (k < j)) (s (k + 1)) N = (U i).app (Zah U (fun j => S j && decide (k < j)) (s (k + 1)) N) := by
    refine Zde (by rw [hSi]; rfl) (fun j => ?_) (by omega) fun j h1 h2 h3 => ?_
    ·by_cases e : j = i
     ·subst e; simp [hik]
     ·have : (j == i) = false := by simpa using e
      simp [this]
    ·simp only [Xah, decide_eq_true_eq] at h3
     obtain ⟨y, hy, huy, _⟩ := hU j (by omega) (by omega)
     refine Zg9 huy hux ?_ (fun h => Zb8 huy h) (fun h => Zb8 hux h)
     cases hh : Za2 y x with
     | false => rfl
     | true => have := side S i (by omega) (by omega) hSi hcl hpre x hx j y (by omega) (.inr ⟨h3.2, hik⟩) hy (by omega) hh; rw [h3.1] at this; simp at this; omega
   rw [Zdz hst hu, hadd]
 refine Zpe hs hΓ hc (m := N) (by omega) (ancs aos []) F (fun S S' hS => ?_) ?_ (s := s) ?_ (by rw [<- hl]; exact hsn) (fun i hi x hx => ?_) (fun S i hi hSi hSm hcl hpre g' a' W' hsr hn' x hx => step1 S i hi hSi hSm hcl hpre g' a' W' hsr hn' x hx) (fun i x hge hx => hstep i x hx) h hn hnext
 ·rw [hF, hF, hS k (by omega)]
  split
  ·exact Zbb fun j hj => by rw [hS j hj]
  ·exact Zbb fun j hj => by rw [hS j hj]
 ·rw [hF, if_neg (by simp)]
  have : ∀ j, Zah U (fun j => false && decide (j < k)) st j = st := by
   intro j
   induction j with
   | zero => rfl
   | succ j ih => simp only [Zah]; rw [if_neg (by simp), ih]
  exact this N
 ·rw [hF, if_pos rfl, <- hB (N - (k + 1)) N (by omega) (Xag _)]
  refine Zbb fun j hj => ?_
  simp [hj]
 ·obtain ⟨c1, c2, _⟩ := hchk i (by omega) x hx
  exact ⟨c1, c2, fun hge => by omega⟩
end Go.Abs
namespace Go.Abs
open Go.RowKit
def Zeb (K : St -> Prop) (Q : Ex -> St -> Prop) : Ex -> St -> Prop
 | .normal, s => K s
 | e, s => Q e s
def Zi2 (body : (Ex -> St -> Prop) -> St -> Prop) (Q : Ex -> St -> Prop) : Nat -> St -> Prop
 | 0, _ => False
 | k + 1, st => body (Zeb (Zi2 body Q k) Q) st
def Zlz (v : V) (p q : Prop) : Prop := match v with | .bool true => p | .bool false => q | _ => False
def Zhl (o : Option St) (p : St -> Prop) : Prop := match o with | some s => p s | none => False
def awp (Γ : Spec) (gl : Nat -> Option (List V)) : ACode -> (Ex -> St -> Prop) -> St -> Prop
 | .skip, Q, st => Q .normal st
 | .region ops _, Q, st => Zhl (execs Γ gl ops st) (Q .normal)
 | .seq a b, Q, st => awp Γ gl a (Zeb (awp Γ gl b Q) Q) st
 | .cond c a b, Q, st => Zlz (evO st.tm c) (awp Γ gl a Q st) (awp Γ gl b Q st)
 | .block id b, Q, st => awp Γ gl b (fun e s => Q (e.inBlock id) s) st
 | .loop b, Q, st => ∃ k, Zi2 (awp Γ gl b) Q k st
 | .exit id, Q, st => Q (.exit id) st
 | .ret, Q, st => Q .ret st
 | .fail, _, _ => False
theorem Zco {K K' : St -> Prop} {Q Q' : Ex -> St -> Prop} (hK : ∀ s, K s -> K' s) (hQ : ∀ e s, Q e s -> Q' e s) : ∀ e s, Zeb K Q e s -> Zeb K' Q' e s
 | .normal, s, h => hK s h
 | .exit _, s, h => hQ _ s h
 | .ret, s, h => hQ _ s h
theorem Ze2 {Γ : Spec} {gl : Nat -> Option (List V)} : ∀ {c : ACode} {Q Q' : Ex -> St -> Prop} {st : St}, (∀ e s, Q e s -> Q' e s) -> awp Γ gl c Q st -> awp Γ gl c Q' st := by
 intro c
 induction c with
 | skip => intro Q Q' st hq h; exact hq _ _ h
 | region ops d =>
  intro Q Q' st hq h
  simp only [awp] at h ⊢
  unfold Zhl at h ⊢
  split at h
  ·exact hq _ _ h
  ·exact h.elim
 | seq a b iha ihb => intro Q Q' st hq h; exact iha (Zco (fun s => ihb hq) hq) h
 | cond c a b iha ihb =>
  intro Q Q' st hq h
  simp only [awp] at h ⊢
  unfold Zlz at h ⊢
  split at h
  ·exact iha hq h
  ·exact ihb hq h
  ·exact h.elim
 | block id b ih => intro Q Q' st hq h; exact ih (fun e s => hq _ s) h
 | loop b ih =>
  intro Q Q' st hq h
  obtain ⟨k, h⟩ := h
  refine ⟨k, ?_⟩
  induction k generalizing st with
  | zero => exact h.elim
  | succ k ihk => exact ih (Zco (fun s => ihk) hq) h
 | exit id => intro Q Q' st hq h; exact hq _ _ h
 | ret => intro Q Q' st hq h; exact hq _ _ h
 | fail => intro Q Q' st hq h; exact h.elim
def mOf (aos : List AOper) : Nat :=
 let an := ancs aos []
 let N := aos.length
 N - ((List.range N).reverse.takeWhile fun i => (List.range i).all fun j => (an.getD i []).contains j).length
def AOper.bare (o : AOper) : AOper := ⟨o.dst, o.op, o.guard, []⟩
theorem Zjt {Γ : Spec} {gl : Nat -> Option (List V)} : ∀ {aos : List AOper} {st : St}, execs Γ gl (aos.map AOper.bare) st = execs Γ gl aos st
 | [], _ => rfl
 | o :: r, st => by
  simp only [Xal, execs]
  have : exec Γ gl o.bare st = exec Γ gl o st := rfl
  rw [this]
  cases exec Γ gl o st with
  | none => rfl
  | some s => exact Zjt
def Zob (n : Nat) (aos : List AOper) : Option (Nat × List AOper) :=
 match (List.range aos.length).find? (fun i => (aos.getD i default).op.isStore) with
 | none => none
 | some k =>
  let an := ancs aos []
  let m := mOf aos
  let aos' := aos.mapIdx fun i x => if (decide (i < k) && (an.getD k []).contains i) || decide (m <= i) then x else x.toP
  if m <= aos.length /\ k < m /\ Zj8 n aos' m k = true then some (k, aos') else none
theorem Zm4 {n : Nat} {aos : List AOper} {k : Nat} {aos' : List AOper} (h : Zob n aos = some (k, aos')) : aos'.length = aos.length /\ mOf aos <= aos'.length /\ k < mOf aos /\ Zj8 n aos' (mOf aos) k = true /\
  ∀ (i : Nat) (x : AOper), aos'[i]? = some x -> ∃ x0 : AOper, aos[i]? = some x0 /\ (x = x0 \/ x = x0.toP) := by
 unfold Zob at h
 split at h
 ·cases h
 ·rename_i k0 hk0
  simp only at h
  split at h
  ·rename_i hc
   simp only [Xac, Xcy] at h
   obtain ⟨rfl, rfl⟩ := h
   refine ⟨by simp, by simpa using hc.1, hc.2.1, hc.2.2, fun i x hx => ?_⟩
   rw [List.getElem?_mapIdx] at hx
   simp only [Xaa] at hx
   obtain ⟨x0, h0, rfl⟩ := hx
   refine ⟨x0, h0, ?_⟩
   split
   ·exact .inl rfl
   ·exact .inr rfl
  ·cases h
def Zs3 (n : Nat) (aos : List AOper) : Option Nat := (List.range aos.length).find? fun k => (aos.getD k default).op.isStore && Znn n aos k
theorem Zl1 {n : Nat} {aos : List AOper} {k : Nat} (h : Zs3 n aos = some k) : k < aos.length /\ Znn n aos k = true := by
 have h1 := Xe5 h
 have h2 := Xdu h
 simp only [Xah] at h1
 exact ⟨Xbo.1 h2, h1.2⟩
def comp (P : Program) (R : TypeId -> Bool) (n : Nat) : Code -> ACode
 | .skip => .skip
 | .region _ ops draw => match Zff P R n ops ops.toList with
  | some aos => if draw then (if mOf aos <= aos.length /\ Zx5 n aos (mOf aos) = true then .region (aos.map AOper.bare) true else match Zob n aos with | some (_, aos') => .region (aos'.map AOper.bare) true | none => match Zs3 n aos with | some _ => .region (aos.map AOper.bare) true | none => .fail) else .region (aos.map AOper.bare) false
  | none => .fail
 | .seq a b => .seq (comp P R n a) (comp P R n b)
 | .cond c a b => match cOpd P n 0 c with | some c => .cond c (comp P R n a) (comp P R n b) | none => .fail
 | .block id b => .block id (comp P R n b)
 | .loop b => .loop (comp P R n b)
 | .exit id => .exit id
 | .ret => .ret
 | _ => .fail
def exm : Ex -> Exit
 | .normal => .normal
 | .exit id => .exit id
 | .ret => .ret
theorem SR.drew {w B GB g st a W} (h : SR w B GB g st a W) : SR w B GB g st a W.drew := by
 have := h.adv (Adv.refl h none).drew
 simpa [St.take] using this
variable {cx : Cx} {w : World} {B : Nat -> Prop} {GB : Gh} {Γ : Spec} {RT : TypeId -> Bool}
theorem Zj3 (hs : Scope cx w B GB) (hΓ : Sound cx Γ) (hm : cx.P.follows .mixedOrders = true) {n : Nat} : ∀ (c : Code) (Q : Ex -> St -> Prop) (g : Gh) (st : St) (a : Act) (W : World) (R : Exit -> Act -> World -> Prop),
  SR w B GB g st a W -> a.tmps.size = n -> awp Γ cx.gl (comp cx.P RT n c) Q st -> (∀ e st g a W, Q e st -> SR w B GB g st a W -> a.tmps.size = n -> R (exm e) a W) -> c.wp cx.P R a W := by
 intro c
 induction c with
 | skip => intro Q g st a W R h hn hq hR; exact wp_skip (hR .normal st g a W hq h hn)
 | exit id => intro Q g st a W R h hn hq hR; exact wp_exit (hR (.exit id) st g a W hq h hn)
 | ret => intro Q g st a W R h hn hq hR; exact wp_ret (hR .ret st g a W hq h hn)
 | region id ops draw =>
  intro Q g st a W R h hn hq hR
  simp only [comp] at hq
  split at hq
  ·rename_i aos has
   have fin : ∀ (aos : List AOper) d, awp Γ cx.gl (.region (aos.map AOper.bare) d) Q st -> ∃ st', execs Γ cx.gl aos st = some st' /\ Q .normal st' := by
    intro aos d hq
    simp only [awp, Zjt] at hq
    unfold Zhl at hq
    split at hq
    ·exact ⟨_, by assumption, hq⟩
    ·exact hq.elim
   cases draw with
   | false =>
    simp only [Xaq, if_false] at hq
    obtain ⟨st', he, hq⟩ := fin _ _ hq
    refine wp_region ?_
    rw [List.range_eq_range']
    exact Zod hs hΓ has (fun g' a' W' h' hn' => hR .normal st' g' a' W' hq h' hn') ops.size 0 g st a W (by omega) h hn (by simpa using he)
   | true =>
    simp only [if_true] at hq
    split at hq
    ·rename_i hc
     obtain ⟨st', he, hq⟩ := fin _ _ hq
     exact wp_region_any hm (Zq4 hs hΓ has hc.1 hc.2 h.drew hn he fun g' a' W' h' hn' => hR .normal st' g' a' W' hq h' hn')
    ·split at hq
     ·rename_i k aos' hea
      obtain ⟨e1, e2, e3, e4, e5⟩ := Zm4 hea
      obtain ⟨st', he, hq⟩ := fin _ _ hq
      exact wp_region_any hm (Znv hs hΓ has e1 e5 e2 e3 e4 h.drew hn he fun g' a' W' h' hn' => hR .normal st' g' a' W' hq h' hn')
     ·split at hq
      ·rename_i k hab
       obtain ⟨e1, e2⟩ := Zl1 hab
       obtain ⟨st', he, hq⟩ := fin _ _ hq
       exact wp_region_any hm (Zoh hs hΓ has e1 e2 h.drew hn he fun g' a' W' h' hn' => hR .normal st' g' a' W' hq h' hn')
      ·exact hq.elim
  ·exact hq.elim
 | seq x y ihx ihy =>
  intro Q g st a W R h hn hq hR
  refine wp_seq (ihx _ g st a W _ h hn hq fun e st g a W hq h hn => ?_)
  cases e with
  | normal => exact ihy Q g st a W R h hn hq hR
  | exit id => exact hR (.exit id) st g a W hq h hn
  | ret => exact hR .ret st g a W hq h hn
 | cond c x y ihx ihy =>
  intro Q g st a W R h hn hq hR
  simp only [comp] at hq
  split at hq
  ·rename_i c' hc
   have hr := Zad h hn hc
   simp only [awp] at hq
   unfold Zlz at hq
   split at hq
   ·rename_i he; rw [he] at hr; cases hr' : a.eval c <;> rw [hr'] at hr <;> cases hr
    exact wp_cond hr' (ihx Q g st a W R h hn hq hR)
   ·rename_i he; rw [he] at hr; cases hr' : a.eval c <;> rw [hr'] at hr <;> cases hr
    exact wp_cond hr' (ihy Q g st a W R h hn hq hR)
   ·exact hq.elim
  ·exact hq.elim
 | block id x ih =>
  intro Q g st a W R h hn hq hR
  refine wp_block (ih _ g st a W _ h hn hq fun e st g a W hq h hn => ?_)
  cases e with
  | normal => exact hR .normal st g a W hq h hn
  | exit i =>
   simp only [exm, Exit.inBlock]
   simp only [Ex.inBlock] at hq
   split
   ·rename_i hi; rw [if_pos hi] at hq; exact hR .normal st g a W hq h hn
   ·rename_i hi; rw [if_neg hi] at hq; exact hR (.exit i) st g a W hq h hn
  | ret => exact hR .ret st g a W hq h hn
 | loop x ih =>
  intro Q g st a W R h hn hq hR
  obtain ⟨k, hk⟩ := hq
  have key : ∀ (k : Nat) (g : Gh) (st : St) (a : Act) (W : World), SR w B GB g st a W -> a.tmps.size = n -> Zi2 (awp Γ cx.gl (comp cx.P RT n x)) Q k st -> ∀ b kk cs,
    ∃ e a' w', R e a' w' /\ Arrives cx.P (lone (b.at a (.code x :: .inLoop x :: kk)) cs W) b kk cs e a' w' := by
   intro k
   induction k with
   | zero => intro g st a W _ _ hl; exact hl.elim
   | succ k ihk =>
    intro g st a W h hn hl b kk cs
    have hwp := ih _ g st a W (fun e a' W' => match e with
     | .normal => ∃ g' st', SR w B GB g' st' a' W' /\ a'.tmps.size = n /\ Zi2 (awp Γ cx.gl (comp cx.P RT n x)) Q k st'
     | e => R e a' W') h hn hl fun e st' g' a' W' hq h' hn' => by
      cases e with
      | normal => exact ⟨g', st', h', hn', hq⟩
      | exit i => exact hR (.exit i) st' g' a' W' hq h' hn'
      | ret => exact hR .ret st' g' a' W' hq h' hn'
    obtain ⟨e, a₁, w₁, hq, harr⟩ := hwp b (.inLoop x :: kk) cs
    cases e with
    | normal =>
     obtain ⟨g', st', h', hn', hl'⟩ := hq
     obtain ⟨e₂, a₂, w₂, hq₂, harr₂⟩ := ihk g' st' a₁ w₁ h' hn' hl' b kk cs
     exact ⟨e₂, a₂, w₂, hq₂, .of_steps (Steps.trans harr (.one step_inLoop)) harr₂⟩
    | exit id => exact ⟨_, a₁, w₁, hq, .pass (x := .inLoop x) rfl (fun _ _ => .inl (by simp)) harr⟩
    | goto l => exact ⟨_, a₁, w₁, hq, .pass (x := .inLoop x) rfl (fun _ _ => .inl (by simp)) harr⟩
    | ret => exact ⟨_, a₁, w₁, hq, .pass (x := .inLoop x) rfl (fun _ _ => .inl (by simp)) harr⟩
    | panic ch => exact ⟨_, a₁, w₁, hq, .pass (x := .inLoop x) rfl (fun _ _ => .inl (by simp)) harr⟩
    | outgrown => exact ⟨_, a₁, w₁, hq, .pass (x := .inLoop x) rfl (fun _ _ => .inl (by simp)) harr⟩
  intro b kk cs
  obtain ⟨e, a', w', hq, harr⟩ := key k g st a W h hn hk b kk cs
  exact ⟨e, a', w', hq, .of_steps (.one step_loop) harr⟩
 | _ => intro Q g st a W R h hn hq hR; exact hq.elim
mutual
def V.clean : V -> Bool
 | .osl _ _ _ _ _ | .ptr _ _ | .map _ => false
 | .agg cs => Zab cs
 | .sl _ _ cs => Zab cs
 | .el cs _ => Zab cs
 | .fn _ cs => Zab cs
 | .mfn _ cs => Zab cs
 | .tup cs => Zab cs
 | .iface _ v => v.clean
 | _ => true
def Zab : List V -> Bool
 | [] => true
 | v :: r => v.clean && Zab r
end
theorem Zag : ∀ {l : List V}, Zab l = true <-> ∀ v ∈ l, v.clean = true
 | [] => by simp [Zab]
 | v :: r => by simp [Zab, Zag (l := r)]
theorem V.clean_cells {v : V} (h : v.clean = true) : ∀ c ∈ v.cells, c.clean = true := by
 cases v <;> simp only [V.cells, Xa9, forall_eq] <;> first | exact h | exact Zag.1 (by simpa [V.clean] using h)
theorem Rep.clean {W G φ φ' v x} (h : Rep W G φ v x) (hc : v.clean = true) : Rep W G φ' v x := by
 induction h with
 | bool b => exact .bool b
 | int k n => exact .int k n
 | str l s h => exact .str l s h
 | agg cs xs hl hs h ih =>
  exact .agg cs xs hl hs fun i c x hi hx => ih i c x hi hx (Zag.1 (by simpa [V.clean] using hc) c (Xak hi))
 | slnil sz => exact .slnil sz
 | sl sz xs b off cap rd hcap hG hx hrd _ ih =>
  exact .sl sz xs b off cap rd hcap hG hx hrd fun i x j c hi hj => ih i x j c hi hj (V.clean_cells (Zag.1 (by simpa [V.clean] using hc) x (Xak hi)) c (Xak hj))
 | sl0 sz a => exact .sl0 sz a
 | osl => simp [V.clean] at hc
 | osln => simp [V.clean] at hc
 | el cs off b base rd hG hs hrd _ ih =>
  exact .el cs off b base rd hG hs hrd fun k c hk => ih k c hk (Zag.1 (by simpa [V.clean] using hc) c (Xak hk))
 | gp g off => exact .gp g off
 | ptr => simp [V.clean] at hc
 | nilptr => exact .nilptr
 | map => simp [V.clean] at hc
 | nilmap => exact .nilmap
 | fn f cs xs hl _ ih =>
  exact .fn f cs xs hl fun i c x hi hx => ih i c x hi hx (Zag.1 (by simpa [V.clean] using hc) c (Xak hi))
 | mfn f cs xs hl _ ih =>
  exact .mfn f cs xs hl fun i c x hi hx => ih i c x hi hx (Zag.1 (by simpa [V.clean] using hc) c (Xak hi))
 | nilfn => exact .nilfn
 | iface t v x _ ih => exact .iface t v x (ih (by simpa [V.clean] using hc))
 | nilif => exact .nilif
 | tup cs xs hl _ ih =>
  exact .tup cs xs hl fun i c x hi hx => ih i c x hi hx (Zag.1 (by simpa [V.clean] using hc) c (Xak hi))
inductive RS where
 | t (k : Nat)
 | c (k : Nat) (n : Option Nat)
 deriving Inhabited
structure AFn where
 n : Nat
 body : ACode
 res : List RS
def cRes (P : Program) (n : Nat) : List ResultVar -> Option (List RS)
 | [] => some []
 | .tmp t :: r => if t < n then (cRes P n r).map (.t t :: ·) else none
 | .cell t ty :: r => if t < n then (ldN P ty).bind fun k => (cRes P n r).map (.c t k :: ·) else none
def cFnW (P : Program) (hp : Bool) (f : FuncId) : Option AFn :=
 match P.funcs[f]? with
 | some fn => match fn.body with
  | some c => if fn.name = "runtime.NumGoroutine" then none else (cRes P fn.ntmps fn.results.toList).map fun rs => ⟨fn.ntmps, comp P (fun t => rowT P c t || (hp && (Zub P f).any (Nat.beq t))) fn.ntmps c, rs⟩
  | none => none
 | none => none
def cFnP (P : Program) (f : FuncId) : Option AFn :=
 match P.funcs[f]? with
 | some fn => match fn.body with
  | some c => if fn.name = "runtime.NumGoroutine" then none else (cRes P fn.ntmps fn.results.toList).map fun rs => ⟨fn.ntmps, comp P (fun _ => false) fn.ntmps c, rs⟩
  | none => none
 | none => none
def cFnR (P : Program) (pl hp : Bool) (f : FuncId) : Option AFn := match pl with | true => cFnP P f | false => cFnW P hp f
def St.init (args : List V) : St := ⟨fun t => args.getD t Nil, fun _ => false, fun _ => none, 0⟩
def rv (st : St) : RS -> Option (V × Bool)
 | .t k => some (st.tm k, st.own (.slot k))
 | .c k n => match st.tm k with
  | .ptr id off => ((Zan st.H id).bind fun cs => Zak n cs off).map fun v => (v, false)
  | _ => none
def rvs (st : St) : List RS -> Option (List V)
 | [] => some []
 | r :: rs => (rv st r).bind fun p => (rvs st rs).map (p.1 :: ·)
def Zc8 (res : List RS) (st : St) : Option (V × Bool) :=
 match res with
 | [r] => rv st r
 | rs => (rvs st rs).map fun vs => (.tup vs, false)
def retQ (res : List RS) (r : V × Bool) : Ex -> St -> Prop
 | .exit _, _ => False
 | _, st => ∃ p, Zc8 res st = some p /\ p.1 = r.1 /\ (r.2 = true -> p.2 = true)
def resM (tmps : Array Value) : ResultVar -> Sem Value
 | .tmp t => pure (tmps.getD t undef)
 | .cell a t => do loadVar t (<- asAddr (tmps.getD a undef))
theorem Zfa (fn : Func) (tmps : Array Value) (P : Program) (W : World) {ys : List Value} (h : (fn.results.toList.mapM (resM tmps)).run P W = .ok ys W) :
  (results fn tmps).run P W = .ok (if h : ys.toArray.size = 1 then ys.toArray[0] else .tuple ys.toArray) W := by
 have e : fn.results = fn.results.toList.toArray := rfl
 have key : (fn.results.mapM (resM tmps)).run P W = .ok ys.toArray W := by
  rw [e]
  simp only [List.mapM_toArray] at h ⊢
  simp [h]
 have e2 : results fn tmps = (fn.results.mapM (resM tmps)) >>= fun vs => pure (if h : vs.size = 1 then vs[0] else .tuple vs) := by
  unfold results
  congr 1
 rw [e2, Sem.run_bind, key]
 simp only [Result.andThen_ok, Sem.run_pure]
theorem Zut {g : Gh} {st : St} {a : Act} {W : World} (hs : Scope cx w B GB) (h : SR w B GB g st a W) {r : ResultVar} {s : RS} (hc : cRes cx.P a.tmps.size [r] = some [s]) {p : V × Bool} (hp : rv st s = some p) :
  ∃ y, (resM a.tmps r).run cx.P W = .ok y W /\ Rep W g.G g.φ p.1 y /\ (p.2 = true -> ∃ t, s = .t t /\ p = (st.tm t, st.own (.slot t)) /\ t < a.tmps.size /\ y = a.tmps.getD t undef) := by
 cases r with
 | tmp t =>
  simp only [cRes] at hc
  split at hc
  ·rename_i ht
   simp at hc; subst hc
   simp only [rv, Xac] at hp; subst hp
   exact ⟨_, by simp [resM, Act.eval], h.get ht, fun _ => ⟨t, rfl, rfl, ht, rfl⟩⟩
  ·simp at hc
 | cell t ty =>
  simp only [cRes] at hc
  split at hc
  ·rename_i ht
   simp only [Xab, Xas, Xac, Xek, and_true] at hc
   obtain ⟨k, hk, rfl⟩ := hc
   have hr := h.get ht
   simp only [rv] at hp
   split at hp
   ·rename_i id off hid
    rw [hid] at hr
    simp only [Xaa] at hp
    obtain ⟨v, hv, rfl⟩ := hp
    obtain ⟨y, h1, h2⟩ := Zxb hs h (u := .ptr id off) hk hr (by simpa [Zej] using hv)
    refine ⟨y, ?_, h2, fun h => by cases h⟩
    simp only [Act.eval] at h1 hr
    generalize hxe : a.tmps.getD t undef = xv at hr h1
    cases hr
    simp only [resM, hxe]
    simpa [Instr.loadAt, Instr.sureAddr, asAddr] using h1
   ·cases hp
  ·simp at hc
theorem Zni {g : Gh} {st : St} {a : Act} {W : World} (hs : Scope cx w B GB) (h : SR w B GB g st a W) : ∀ {rs : List ResultVar} {ss : List RS} {vs : List V}, cRes cx.P a.tmps.size rs = some ss -> rvs st ss = some vs ->
  ∃ ys : List Value, (rs.mapM (resM a.tmps)).run cx.P W = .ok ys W /\ vs.length = ys.length /\ ∀ (i : Nat) (c : V) (x : Value), vs[i]? = some c -> ys[i]? = some x -> Rep W g.G g.φ c x
 | [], ss, vs, h1, h2 => by
  simp [cRes] at h1; subst h1
  simp [rvs] at h2; subst h2
  exact ⟨[], by simp, rfl, fun i c x hc => by simp at hc⟩
 | r :: rs, ss, vs, h1, h2 => by
  have hsplit : ∃ s ss', ss = s :: ss' /\ cRes cx.P a.tmps.size [r] = some [s] /\ cRes cx.P a.tmps.size rs = some ss' := by
   cases r with
   | tmp t =>
    simp only [cRes] at h1 ⊢
    split at h1
    ·rename_i ht
     simp only [Xaa] at h1
     obtain ⟨ss', h3, rfl⟩ := h1
     exact ⟨_, _, rfl, by simp [ht], h3⟩
    ·simp at h1
   | cell t ty =>
    simp only [cRes] at h1 ⊢
    split at h1
    ·rename_i ht
     simp only [Xab, Xaa] at h1
     obtain ⟨k, hk, ss', h3, rfl⟩ := h1
     exact ⟨_, _, rfl, by simp [ht, hk], h3⟩
    ·simp at h1
  obtain ⟨s, ss', rfl, h3, h4⟩ := hsplit
  simp only [rvs, Xab, Xaa] at h2
  obtain ⟨p, hp, vs', hvs, rfl⟩ := h2
  obtain ⟨y, q1, q2, _⟩ := Zut hs h h3 hp
  obtain ⟨ys, q3, q4, q5⟩ := Zni hs h h4 hvs
  refine ⟨y :: ys, by simp [q1, q3], by simp [q4], fun i c x hc hx => ?_⟩
  cases i with
  | zero => simp at hc hx; subst hc; subst hx; exact q2
  | succ i => exact q5 i c x (by simpa using hc) (by simpa using hx)
theorem Zrj {P : Program} {pl hp : Bool} {f : FuncId} {F : AFn} (h : cFnR P pl hp f = some F) : ∃ fn c R ts, P.funcs[f]? = some fn ∧ fn.body = some c ∧ ¬ fn.name = "runtime.NumGoroutine" ∧ cRes P fn.ntmps fn.results.toList = some ts ∧ F = ⟨fn.ntmps, comp P R fn.ntmps c, ts⟩ := by
 unfold cFnR at h
 split at h
 ·unfold cFnP at h
  split at h
  ·rename_i fn hfn
   split at h
   ·rename_i c hc
    split at h
    ·simp at h
    ·rename_i hname
     simp only [Xaa] at h
     obtain ⟨ts, hts, rfl⟩ := h
     exact ⟨fn, c, _, ts, hfn, hc, hname, hts, rfl⟩
   ·simp at h
  ·simp at h
 ·unfold cFnW at h
  split at h
  ·rename_i fn hfn
   split at h
   ·rename_i c hc
    split at h
    ·simp at h
    ·rename_i hname
     simp only [Xaa] at h
     obtain ⟨ts, hts, rfl⟩ := h
     exact ⟨fn, c, _, ts, hfn, hc, hname, hts, rfl⟩
   ·simp at h
  ·simp at h
theorem Zrk (hgl : GlOK cx) (hm : cx.P.follows .mixedOrders = true) (hΓ : Sound cx Γ) {f : FuncId} {F : AFn} {pl : Bool} (hf : cFnR cx.P pl false f = some F) {args : List V} {r : V × Bool} (hl : args.length <= F.n) (hca : Zab args = true) (hcr : r.1.clean = true)
  (h : awp Γ cx.gl F.body (retQ F.res r) (St.init args)) : PC cx f args r := by
 obtain ⟨fn, c, R, ts, hfn, hc, hname, hts, rfl⟩ := Zrj hf
 ·
    have hl' : args.length <= fn.ntmps := hl
    refine ⟨⟨fn, hfn, hname, by simp [hc]⟩, fun W G φ xs hW hxs => ?_⟩
    have hB0 : cx.w0.heap.size <= W.heap.size := hW.below.size
    have hs : Scope cx W (fun b => W.heap.size <= b) ⟨G, fun _ => none, fun _ => none⟩ := ⟨hW.below, fun b hb => Xbp hB0 hb, hW.Glo, hgl⟩
    have hargs : ∀ (t : Nat) (x : Value), (xs ++ Array.replicate (fn.ntmps - xs.size) undef)[t]? = some x -> Rep W G (fun _ => none) ((St.init args).tm t) x := by
     intro t x hx
     by_cases ht : t < xs.size
     ·rw [Xds ht] at hx
      obtain ⟨v, hv⟩ : ∃ v, args[t]? = some v := ⟨_, Xad (by rw [hxs.1]; exact ht)⟩
      have : (St.init args).tm t = v := by simp [St.init, List.getD, hv]
      rw [this]
      exact (hxs.2 t v x hv hx).clean (Zag.1 hca v (Xak hv))
     ·rw [Xel (by omega)] at hx
      have hx' : x = undef := by
       rw [Xex] at hx
       split at hx <;> simp at hx
       exact hx.symm
      have : (St.init args).tm t = Nil := by simp [St.init, List.getD, Xdl (show args.length <= t by rw [hxs.1]; omega)]
      rw [this, hx']
      exact .tup [] #[] rfl fun i c x hc => by simp at hc
    have h0 : SR W (fun b => W.heap.size <= b) ⟨G, fun _ => none, fun _ => none⟩ ⟨G, fun _ => none, fun _ => none⟩ (St.init args) { tmps := xs ++ Array.replicate (fn.ntmps - xs.size) undef, defers := [] } W :=
     ⟨rfl, hargs, fun t x hx ho => by simp [St.init] at ho, (fun id cs hc => by simp [St.init] at hc), (fun _ _ => rfl), (fun id b hb => by simp at hb), (fun id b hb => by simp at hb), (fun id id' b hb => by simp at hb), hW.Gz, fun _ _ => rfl, fun _ _ _ => rfl, fun _ => Xag _, fun _ _ h => h, fun _ _ _ => rfl, .refl _ _, fun _ h => h⟩
    refine calls_of_wp hfn hc (Zj3 hs hΓ hm (n := fn.ntmps) c _ _ _ _ _ _ h0 (by simp [<- hxs.1]; omega) h fun e st g a W' hq hsr hn => ?_)
    have hts' : cRes cx.P a.tmps.size fn.results.toList = some ts := by rw [hn]; exact hts
    have fin : (∃ p, Zc8 ts st = some p /\ p.1 = r.1 /\ (r.2 = true -> p.2 = true)) -> a.defers = [] /\ ∃ v, (results fn a.tmps).run cx.P W' = .ok v W' /\ ∃ G' y, Ending.returned v = .returned y /\ Below W.heap.size W W' /\ (∀ b, b < W.heap.size -> G' b = G b) /\ (∀ b, W'.heap.size <= b -> G' b = 0) /\
      Rep W' G' φ r.1 y /\ (r.2 = true -> ∀ ow q, (∀ b, W.heap.size <= b -> ow b = some q) -> OwnAt W' (fun b => W.heap.size <= b) ⟨G', φ, ow⟩ q r.1 y) := by
     rintro ⟨p, hp, hr1, hr2⟩
     obtain ⟨rv0, ro⟩ := r
     simp only at hr1 hr2 hcr
     subst hr1
     by_cases h1 : ∃ s, ts = [s]
     ·obtain ⟨s, rfl⟩ := h1
      simp only [Zc8] at hp
      have hone : ∃ rr, fn.results.toList = [rr] := by
       cases hL : fn.results.toList with
       | nil => rw [hL] at hts; simp [cRes] at hts
       | cons rr l =>
        cases l with
        | nil => exact ⟨rr, rfl⟩
        | cons rr' l =>
         rw [hL] at hts
         exfalso
         have len : ∀ {l : List ResultVar} {ss : List RS}, cRes cx.P fn.ntmps l = some ss -> l.length = ss.length := by
          intro l
          induction l with
          | nil => intro ss h; simp [cRes] at h; subst h; rfl
          | cons x l ih =>
           intro ss h
           cases x with
           | tmp t =>
            simp only [cRes] at h
            split at h
            ·simp only [Xaa] at h
             obtain ⟨ss', h3, rfl⟩ := h
             simp [ih h3]
            ·simp at h
           | cell t ty =>
            simp only [cRes] at h
            split at h
            ·simp only [Xab, Xaa] at h
             obtain ⟨k, hk, ss', h3, rfl⟩ := h
             simp [ih h3]
            ·simp at h
         have := len hts
         simp at this
      obtain ⟨rr, hrr⟩ := hone
      rw [hrr] at hts'
      obtain ⟨y, q1, q2, q3⟩ := Zut hs hsr hts' hp
      have hm : (fn.results.toList.mapM (resM a.tmps)).run cx.P W' = .ok [y] W' := by rw [hrr]; simp [q1]
      refine ⟨hsr.defers, _, Zfa fn a.tmps cx.P W' hm, g.G, y, by simp, hsr.below.below, (fun b hb => hsr.Glo b (Xfe.2 hb)), hsr.Gz, q2.clean hcr, fun ho ow q hqq sz ys b off len cap sp hv hx => ?_⟩
      obtain ⟨t, rfl, hpe, ht, hy⟩ := q3 (hr2 ho)
      have e : a.tmps[t]? = some (a.tmps.getD t undef) := by rw [Xar ht]; simp [Array.getD, ht]
      subst hpe
      simp only at hv hr2
      rcases hsr.own t _ e (hr2 ho) sz ys b off len cap sp hv (by rw [<- hy]; exact hx) with h2 | ⟨h2, h3, h4⟩
      ·exact .inl h2
      ·exact .inr ⟨h2, hqq b h2, h4⟩
     ·have hr' : Zc8 ts st = (rvs st ts).map fun vs => (.tup vs, false) := by
       unfold Zc8
       split
       ·exact absurd ⟨_, rfl⟩ h1
       ·rfl
      rw [hr', Xaa] at hp
      obtain ⟨vs, hvs, rfl⟩ := hp
      obtain ⟨ys, q1, q2, q3⟩ := Zni hs hsr hts' hvs
      have hne : ¬ ys.toArray.size = 1 := by
       intro he
       simp at he
       have hl : ∀ {ss : List RS} {vs : List V}, rvs st ss = some vs -> ss.length = vs.length := by
        intro ss
        induction ss with
        | nil => intro vs h; simp [rvs] at h; subst h; rfl
        | cons s ss ih =>
         intro vs h
         simp only [rvs, Xab, Xaa] at h
         obtain ⟨p, _, vs', h3, rfl⟩ := h
         simp [ih h3]
       have := hl hvs
       exact h1 (Xd3.1 (by omega))
      refine ⟨hsr.defers, _, Zfa fn a.tmps cx.P W' q1, g.G, .tuple ys.toArray, by rw [dif_neg hne], hsr.below.below, (fun b hb => hsr.Glo b (Xfe.2 hb)), hsr.Gz, ?_, fun ho => absurd (hr2 ho) (by simp)⟩
      exact Rep.clean (φ := g.φ) (.tup _ _ (by simpa using q2) fun i c x hi hx => q3 i c x hi (by simpa using hx)) hcr
    cases e with
    | normal => exact fin hq
    | exit i => exact hq.elim
    | ret => exact fin hq
def St.initH (args : List V) (hs : HS) : St := ⟨fun t => args.getD t Nil, fun p => match p with | .cell i j => hs.co i j | .slot _ => false, hs.H, hs.nH⟩
def retH (res : List RS) (r : V × Bool) (hs' : HS) : Ex -> St -> Prop
 | .exit _, _ => False
 | _, st => (∃ p, Zc8 res st = some p /\ p.1 = r.1 /\ (r.2 = true -> p.2 = true)) /\ st.hs = hs'
def Gh.out (g : Gh) (tr : Option Nat) : Gh := ⟨g.G, g.φ, fun b => match g.ow b with | some (.slot t) => if tr = some t then some (.slot 0) else none | q => q⟩
theorem SR.hrelOut {a : Act} {W : World} {g : Gh} {st : St} (h : SR w B GB g st a W) (tr : Option Nat) : HRel B (g.out tr) st.hs W where
 ob id o hH := by
  refine ObOK.keep (h.ob id o hH) (.refl _ _ _) rfl (fun _ _ => rfl) (fun j v x hw => ⟨hw, fun hq => ?_⟩)
  intro sz ys b' off len cap sp e1 e2
  rcases hq sz ys b' off len cap sp e1 e2 with h6 | ⟨h6, h7, h8⟩
  ·exact .inl h6
  ·exact .inr ⟨h6, by simp only [Gh.out, h7], h8⟩
 obn := h.obn
 φ := h.φ
 live id b hb := by
  obtain ⟨h3, h4⟩ := h.live id b hb
  exact ⟨h3, by simp only [Gh.out, h4]⟩
 inj := h.inj
 Gz := h.Gz
theorem Zfk {P : Program} {n : Nat} : ∀ {l : List ResultVar} {ss : List RS}, cRes P n l = some ss -> l.length = ss.length
 | [], ss, h => by simp [cRes] at h; subst h; rfl
 | .tmp t :: l, ss, h => by
  simp only [cRes] at h
  split at h
  ·simp only [Xaa] at h
   obtain ⟨ss', h3, rfl⟩ := h
   simp [Zfk h3]
  ·simp at h
 | .cell t ty :: l, ss, h => by
  simp only [cRes] at h
  split at h
  ·simp only [Xab, Xaa] at h
   obtain ⟨k, hk, ss', h3, rfl⟩ := h
   simp [Zfk h3]
  ·simp at h
theorem Zjs {st : St} : ∀ {ss : List RS} {vs : List V}, rvs st ss = some vs -> ss.length = vs.length
 | [], vs, h => by simp [rvs] at h; subst h; rfl
 | s :: ss, vs, h => by
  simp only [rvs, Xab, Xaa] at h
  obtain ⟨p, _, vs', h3, rfl⟩ := h
  simp [Zjs h3]
theorem Zra (hgl : GlOK cx) (hm : cx.P.follows .mixedOrders = true) (hΓ : Sound cx Γ) {f : FuncId} {F : AFn} {hp : Bool} (hf : cFnW cx.P hp f = some F) {args : List V} {hs hs' : HS} {r : V × Bool} (hl : args.length <= F.n)
  (h : awp Γ cx.gl F.body (retH F.res r hs') (St.initH args hs)) : PCH cx f args hs r hs' := by
 unfold cFnW at hf
 split at hf
 ·rename_i fn hfn
  split at hf
  ·rename_i c hc
   split at hf
   ·simp at hf
   ·rename_i hname
    simp only [Xaa] at hf
    obtain ⟨ts, hts, rfl⟩ := hf
    have hl' : args.length <= fn.ntmps := hl
    refine ⟨⟨fn, hfn, hname, by simp [hc]⟩, fun W M g xs hW hM hrel hsl hxs => ?_⟩
    have hB0 : cx.w0.heap.size <= W.heap.size := hW.below.size
    have hsc : Scope cx W (fun b => W.heap.size <= b \/ M b) g := ⟨hW.below, fun b hb => hb.elim (fun h => Xbp hB0 h) (hM b), hW.Glo, hgl⟩
    have hargs : ∀ (t : Nat) (x : Value), (xs ++ Array.replicate (fn.ntmps - xs.size) undef)[t]? = some x -> Rep W g.G g.φ ((St.initH args hs).tm t) x := by
     intro t x hx
     by_cases ht : t < xs.size
     ·rw [Xds ht] at hx
      obtain ⟨v, hv⟩ : ∃ v, args[t]? = some v := ⟨_, Xad (by rw [hxs.1]; exact ht)⟩
      have : (St.initH args hs).tm t = v := by simp [St.initH, List.getD, hv]
      rw [this]
      exact hxs.2 t v x hv hx
     ·rw [Xel (by omega)] at hx
      have hx' : x = undef := by
       rw [Xex] at hx
       split at hx <;> simp at hx
       exact hx.symm
      have : (St.initH args hs).tm t = Nil := by simp [St.initH, List.getD, Xdl (show args.length <= t by rw [hxs.1]; omega)]
      rw [this, hx']
      exact .tup [] #[] rfl fun i c x hc => by simp at hc
    have h0 : SR W (fun b => W.heap.size <= b \/ M b) g g (St.initH args hs) { tmps := xs ++ Array.replicate (fn.ntmps - xs.size) undef, defers := [] } W :=
     { defers := rfl
       tm := hargs
       own := fun t x hx ho => by simp [St.initH] at ho
       ob := fun id o hc => by
        refine ObOK.keep (hrel.ob id o hc) (.refl _ _ _) rfl (fun _ _ => rfl) (fun j v x hw => ⟨hw, fun hq => ?_⟩)
        intro sz zs b' off len cap sp e1 e2
        rcases hq sz zs b' off len cap sp e1 e2 with h6 | ⟨h6, h7⟩
        ·exact .inl h6
        ·exact .inr ⟨.inr h6, h7⟩
       obn := hrel.obn
       φ := fun id b hb => by
        obtain ⟨h1, h2⟩ := hrel.φ id b hb
        exact ⟨.inr h1, h2⟩
       live := hrel.live
       inj := hrel.inj
       Gz := hrel.Gz
       Glo := fun _ _ => rfl
       kp := fun _ _ _ => rfl
       kG := fun _ => Xag _
       kφ := fun _ _ h => h
       ksz := fun _ _ _ => rfl
       below := .refl _ _
       hB := fun b hb => .inl hb }
    refine calls_of_wp hfn hc (Zj3 hsc hΓ hm (n := fn.ntmps) c _ _ _ _ _ _ h0 (by simp [<- hxs.1]; omega) h fun e st gf a W' hq hsr hn => ?_)
    have hts' : cRes cx.P a.tmps.size fn.results.toList = some ts := by rw [hn]; exact hts
    have hkeep : Keeps W g.G g.φ W' gf.G gf.φ := ⟨hsr.kp, hsr.kG, hsr.kφ, hsr.ksz⟩
    have fin : ((∃ p, Zc8 ts st = some p /\ p.1 = r.1 /\ (r.2 = true -> p.2 = true)) /\ st.hs = hs') -> a.defers = [] /\ ∃ v, (results fn a.tmps).run cx.P W' = .ok v W' /\ ∃ g' y, Ending.returned v = .returned y /\ Bel (fun b => W.heap.size <= b \/ M b) W W' /\ (∀ b, b < W.heap.size -> ¬ M b -> g'.G b = g.G b) /\ Keeps W g.G g.φ W' g'.G g'.φ /\
      HRel (fun b => W.heap.size <= b \/ M b) g' hs' W' /\ Rep W' g'.G g'.φ r.1 y /\ (r.2 = true -> OwnAt W' (fun b => W.heap.size <= b \/ M b) g' (.slot 0) r.1 y) := by
     rintro ⟨⟨p, hp, hr1, hr2⟩, rfl⟩
     obtain ⟨rv0, ro⟩ := r
     simp only at hr1 hr2
     subst hr1
     have hGlo : ∀ b, b < W.heap.size -> ¬ M b -> gf.G b = g.G b := fun b h1 h2 => hsr.Glo b fun h3 => h3.elim (fun h => by omega) h2
     by_cases h1 : ∃ s, ts = [s]
     ·obtain ⟨s, rfl⟩ := h1
      simp only [Zc8] at hp
      obtain ⟨rr, hrr⟩ : ∃ rr, fn.results.toList = [rr] := Xd3.1 (by have := Zfk hts; simpa using this)
      rw [hrr] at hts'
      obtain ⟨y, q1, q2, q3⟩ := Zut hsc hsr hts' hp
      have hm : (fn.results.toList.mapM (resM a.tmps)).run cx.P W' = .ok [y] W' := by rw [hrr]; simp [q1]
      refine ⟨hsr.defers, _, Zfa fn a.tmps cx.P W' hm, gf.out (match s with | .t t => some t | _ => none), y, by simp, hsr.below, hGlo, hkeep, hsr.hrelOut _, q2, fun ho => ?_⟩
      obtain ⟨t, rfl, hpe, ht, hy⟩ := q3 (hr2 ho)
      have e : a.tmps[t]? = some (a.tmps.getD t undef) := by rw [Xar ht]; simp [Array.getD, ht]
      subst hpe
      intro sz xs b off len cap sp hv hx
      simp only at hv hr2
      rcases hsr.own t _ e (hr2 ho) sz xs b off len cap sp hv (by rw [<- hy]; exact hx) with h2 | ⟨h2, h3, h4⟩
      ·exact .inl h2
      ·exact .inr ⟨h2, by simp only [Gh.out, h3, if_true], h4⟩
     ·have hr' : Zc8 ts st = (rvs st ts).map fun vs => (.tup vs, false) := by
       unfold Zc8
       split
       ·exact absurd ⟨_, rfl⟩ h1
       ·rfl
      rw [hr', Xaa] at hp
      obtain ⟨vs, hvs, rfl⟩ := hp
      obtain ⟨ys, q1, q2, q3⟩ := Zni hsc hsr hts' hvs
      have hne : ¬ ys.toArray.size = 1 := by
       intro he
       simp at he
       have := Zjs hvs
       exact h1 (Xd3.1 (by omega))
      refine ⟨hsr.defers, _, Zfa fn a.tmps cx.P W' q1, gf.out none, .tuple ys.toArray, by rw [dif_neg hne], hsr.below, hGlo, hkeep, hsr.hrelOut _, ?_, fun ho => absurd (hr2 ho) (by simp)⟩
      exact .tup _ _ (by simpa using q2) fun i c x hi hx => q3 i c x hi (by simpa using hx)
    cases e with
    | normal => exact fin hq
    | exit i => exact hq.elim
    | ret => exact fin hq
  ·simp at hf
 ·simp at hf
end Go.Abs
namespace Go.Abs
open Go.RowKit
def repl {α : Type} (n : Nat) (x : α) : List α := List.replicate n x
@[simp] theorem Zy3 {α : Type} (n : Nat) (x : α) : (repl n x).length = n := by simp [repl]
@[simp] theorem Z4d {α : Type} (n : Nat) (x y : α) : (y ∈ repl n x) = (n ≠ 0 /\ y = x) := by simp [repl]
abbrev Glob := Nat -> Option (List V)
def runs (Γ : Abs.Spec) (gl : Glob) : List AOper -> (St -> Prop) -> St -> Prop
 | [], K, st => K st
 | o :: r, K, st => Zhl (exec Γ gl o st) (runs Γ gl r K)
theorem Zt5 {Γ : Abs.Spec} {gl : Glob} : ∀ {os : List AOper} {st : St} {K : St -> Prop}, Zhl (execs Γ gl os st) K = runs Γ gl os K st
 | [], _, _ => rfl
 | o :: r, st, K => by
  simp only [execs, runs]
  cases exec Γ gl o st with
  | none => rfl
  | some s => exact Zt5
def Zmh (i : Nat) (Q : Ex -> St -> Prop) (e : Ex) (s : St) : Prop := Q (e.inBlock i) s
def condA (v : V) (Γ : Abs.Spec) (gl : Glob) (a b : ACode) (Q : Ex -> St -> Prop) (st : St) : Prop := Zlz v (awp Γ gl a Q st) (awp Γ gl b Q st)
variable {Γ : Abs.Spec} {gl : Glob} {Q : Ex -> St -> Prop} {st : St}
@[simp] theorem Z0i (s : St) (p : St -> Prop) : Zhl (some s) p = p s := (rfl)
section
variable {a b : ACode}
@[simp] theorem Z0f : condA (.bool true) Γ gl a b Q st = awp Γ gl a Q st := (rfl)
@[simp] theorem Zz9 : condA (.bool false) Γ gl a b Q st = awp Γ gl b Q st := (rfl)
end
@[simp] theorem Zxt (K : St -> Prop) (Q : Ex -> St -> Prop) (s : St) : Zeb K Q .normal s = K s := (rfl)
@[simp] theorem Z0q (K : St -> Prop) (Q : Ex -> St -> Prop) (i : Nat) (s : St) : Zeb K Q (.exit i) s = Q (.exit i) s := (rfl)
@[simp] theorem Z3s (K : St -> Prop) (Q : Ex -> St -> Prop) (s : St) : Zeb K Q .ret s = Q .ret s := (rfl)
@[simp] theorem Zwd (i : Nat) (Q : Ex -> St -> Prop) (s : St) : Zmh i Q .normal s = Q .normal s := (rfl)
@[simp] theorem Z0r (i : Nat) (Q : Ex -> St -> Prop) (s : St) : Zmh i Q .ret s = Q .ret s := (rfl)
@[simp] theorem Zzo (i j : Nat) (Q : Ex -> St -> Prop) (s : St) : Zmh i Q (.exit j) s = if j = i then Q .normal s else Q (.exit j) s := by
  simp only [Zmh, Ex.inBlock]; split <;> rfl
@[simp] theorem Z39 : awp Γ gl .skip Q st = Q .normal st := (rfl)
@[simp] theorem Z0o (os : List AOper) (d : Bool) : awp Γ gl (.region os d) Q st = runs Γ gl os (Q .normal) st := by rw [<- Zt5]; rfl
@[simp] theorem Z60 (a b : ACode) : awp Γ gl (.seq a b) Q st = awp Γ gl a (Zeb (awp Γ gl b Q) Q) st := (rfl)
@[simp] theorem Z4t (c : Opd) (a b : ACode) : awp Γ gl (.cond c a b) Q st = condA (evO st.tm c) Γ gl a b Q st := (rfl)
@[simp] theorem Z28 (i : Nat) (b : ACode) : awp Γ gl (.block i b) Q st = awp Γ gl b (Zmh i Q) st := (rfl)
@[simp] theorem Z42 (i : Nat) : awp Γ gl (.exit i) Q st = Q (.exit i) st := (rfl)
@[simp] theorem Z6k : awp Γ gl .ret Q st = Q .ret st := (rfl)
@[simp] theorem Z4n (K : St -> Prop) : runs Γ gl [] K st = K st := (rfl)
@[simp] theorem Z1u (o : AOper) (r : List AOper) (K : St -> Prop) : runs Γ gl (o :: r) K st = Zhl (exec Γ gl o st) (runs Γ gl r K) := (rfl)
@[simp] theorem Z7r (tm : Nat -> V) (t : Nat) : evO tm (.tmp t) = tm t := (rfl)
@[simp] theorem Ziq (tm : Nat -> V) (v : V) : evO tm (.const v) = v := (rfl)
@[simp] theorem Z41 (v : V) (o : Bool) : st.put none v o = st := (rfl)
@[simp] theorem Zxg (d : Nat) (v : V) (o : Bool) (t : Nat) : (st.put (some d) v o).tm t = if t = d then v else st.tm t := (rfl)
@[simp] theorem Ztk (d : Nat) (v : V) (o : Bool) (t : Nat) : (st.put (some d) v o).own (.slot t) = if t = d then o else st.own (.slot t) := by simp [St.put, updP]
@[simp] theorem Zu9 (d : Nat) (v : V) (o : Bool) (i j : Nat) : (st.put (some d) v o).own (.cell i j) = st.own (.cell i j) := by simp [St.put, updP]
@[simp] theorem Z8j (d : Nat) (v : V) (o : Bool) : (st.put (some d) v o).H = st.H := (rfl)
@[simp] theorem Z76 (d : Nat) (v : V) (o : Bool) : (st.put (some d) v o).nH = st.nH := (rfl)
@[simp] theorem Z1h : st.take none = st := (rfl)
@[simp] theorem take_own (p q : Pos) : (st.take (some p)).own q = if q = p then false else st.own q := (rfl)
@[simp] theorem Z74 (cs : List V) : (st.new cs).tm = st.tm := (rfl)
@[simp] theorem Z6d (cs : List V) (t : Nat) : (st.new cs).own (.slot t) = st.own (.slot t) := (rfl)
@[simp] theorem Zox (cs : List V) (i j : Nat) : (st.new cs).own (.cell i j) = if i = st.nH then false else st.own (.cell i j) := (rfl)
@[simp] theorem Z8g (cs : List V) (i : Nat) : (st.new cs).H i = if i = st.nH then some (.cells cs) else st.H i := (rfl)
@[simp] theorem Z75 (cs : List V) : (st.new cs).nH = st.nH + 1 := (rfl)
@[simp] theorem Z4a (id : Nat) (cs : List V) (off : Nat) (ys : List V) : (st.setOb id cs off ys).tm = st.tm := (rfl)
@[simp] theorem Z30 (id : Nat) (cs : List V) (off : Nat) (ys : List V) (t : Nat) : (st.setOb id cs off ys).own (.slot t) = st.own (.slot t) := (rfl)
@[simp] theorem Zck (id : Nat) (cs : List V) (off : Nat) (ys : List V) (i j : Nat) : (st.setOb id cs off ys).own (.cell i j) = if i = id /\ off <= j /\ j < off + ys.length then false else st.own (.cell i j) := (rfl)
@[simp] theorem Z61 (id : Nat) (cs : List V) (off : Nat) (ys : List V) (i : Nat) : (st.setOb id cs off ys).H i = if i = id then some (.cells (Zao cs off ys)) else st.H i := (rfl)
@[simp] theorem Z4k (id : Nat) (cs : List V) (off : Nat) (ys : List V) : (st.setOb id cs off ys).nH = st.nH := (rfl)
@[simp] theorem Z4f (id : Nat) (cs : List V) (off t : Nat) : (st.stoOb id cs off t).tm = st.tm := (rfl)
@[simp] theorem Zr0 (id : Nat) (cs : List V) (off t u : Nat) : (st.stoOb id cs off t).own (.slot u) = if u = t then false else st.own (.slot u) := by simp [St.stoOb, updP]
@[simp] theorem Zgo (id : Nat) (cs : List V) (off t i j : Nat) : (st.stoOb id cs off t).own (.cell i j) = if i = id /\ j = off then st.own (.slot t) else st.own (.cell i j) := by simp [St.stoOb, updP]
@[simp] theorem Z6w (id : Nat) (cs : List V) (off t i : Nat) : (st.stoOb id cs off t).H i = if i = id then some (.cells (Zao cs off [st.tm t])) else st.H i := (rfl)
@[simp] theorem Z4o (id : Nat) (cs : List V) (off t : Nat) : (st.stoOb id cs off t).nH = st.nH := (rfl)
@[simp] theorem Zy8 (args : List V) (t : Nat) : (St.init args).tm t = args.getD t Nil := (rfl)
@[simp] theorem Z4w (args : List V) (p : Pos) : (St.init args).own p = false := (rfl)
@[simp] theorem Z7t (args : List V) (i : Nat) : (St.init args).H i = none := (rfl)
@[simp] theorem Z7c (args : List V) : (St.init args).nH = 0 := (rfl)
def putV (st : St) (d : Option Nat) (v : Option V) : Option St := v.map fun v => st.put d v false
def putR (st : St) (d : Option Nat) (r : Option Res) : Option St := r.map fun r => (st.take r.tk).put d r.v r.o
@[simp] theorem Z3a (d : Option Nat) (v : V) : putV st d (some v) = some (st.put d v false) := (rfl)
@[simp] theorem Z19 (d : Option Nat) (v : V) (o : Bool) (p : Option Pos) : putR st d (some ⟨v, o, p⟩) = some ((st.take p).put d v o) := (rfl)
variable {d : Option Nat} {g : Option (Nat × Bool)} {a : List Nat}
theorem Za0 (v : Option V) : ((resV v).map fun r => (st.take r.tk).put d r.v r.o) = putV st d v := by cases v <;> rfl
@[simp] theorem Z3q (op : AOp) : exec Γ gl ⟨d, op, none, a⟩ st = exec1 Γ gl ⟨d, op, none, a⟩ st := (rfl)
@[simp] theorem Zlh (op : AOp) (t : Nat) (w : Bool) : exec Γ gl ⟨d, op, some (t, w), a⟩ st = if (match st.tm t with | .bool b => b == w | _ => false) = true then exec1 Γ gl ⟨d, op, some (t, w), a⟩ st else some (st.put d Nil false) := (rfl)
@[simp] theorem e_mv (x : Opd) : exec1 Γ gl ⟨d, .mv x, g, a⟩ st = some (st.put d (evO st.tm x) false) := (rfl)
@[simp] theorem Z6a (t : Nat) : exec1 Γ gl ⟨d, .mvo t, g, a⟩ st = some ((st.take (some (.slot t))).put d (st.tm t) (st.own (.slot t))) := (rfl)
@[simp] theorem Zpr (c x y : Opd) : exec1 Γ gl ⟨d, .pick c x y, g, a⟩ st = putV st d (Znl (evO st.tm c) (evO st.tm x) (evO st.tm y)) := Za0 _
@[simp] theorem Z34 (t : Opd) (i : Nat) : exec1 Γ gl ⟨d, .ext t i, g, a⟩ st = putV st d (vExt (evO st.tm t) i) := Za0 _
@[simp] theorem Zl5 (op : BinOp) (q : EqK) (x y : Opd) : exec1 Γ gl ⟨d, .bin op q x y, g, a⟩ st = putV st d (abin op q (evO st.tm x) (evO st.tm y)) := Za0 _
@[simp] theorem e_un (op : UnOp) (x : Opd) : exec1 Γ gl ⟨d, .un op x, g, a⟩ st = putV st d (aun op (evO st.tm x)) := Za0 _
@[simp] theorem Zvr (s : Bool) (x : Opd) : exec1 Γ gl ⟨d, .len s x, g, a⟩ st = putV st d (vLen s (evO st.tm x)) := Za0 _
@[simp] theorem Z6e (m : Bool) (x y : Opd) : exec1 Γ gl ⟨d, .mnx m x y, g, a⟩ st = putV st d (vMnx m (evO st.tm x) (evO st.tm y)) := Za0 _
@[simp] theorem Zki (sz : Nat) (x i : Opd) : exec1 Γ gl ⟨d, .iaddr sz x i, g, a⟩ st = putV st d (Zdw sz (evO st.tm x) (evO st.tm i)) := Za0 _
@[simp] theorem Zsm (n sz : Nat) (x i : Opd) : exec1 Γ gl ⟨d, .iarr n sz x i, g, a⟩ st = putV st d (Zoc n sz (evO st.tm x) (evO st.tm i)) := Za0 _
@[simp] theorem Zke (off : Nat) (x : Opd) : exec1 Γ gl ⟨d, .faddr off x, g, a⟩ st = putV st d (Zin off (evO st.tm x)) := Za0 _
@[simp] theorem Zml (n : Option Nat) (x : Opd) : exec1 Γ gl ⟨d, .load n x, g, a⟩ st = putV st d (Zej gl st.H n (evO st.tm x)) := Za0 _
@[simp] theorem Z0e (n : Option Nat) (x : Opd) : exec1 Γ gl ⟨d, .ldp n x, g, a⟩ st = putV st d (vLdp gl n (evO st.tm x)) := Za0 _
@[simp] theorem Z6p (x : Opd) : exec1 Γ gl ⟨d, .ldo x, g, a⟩ st = putR st d (vLdo st.H st.own (evO st.tm x)) := (rfl)
@[simp] theorem Z3g (n : Option Nat) (off : Nat) (x : Opd) : exec1 Γ gl ⟨d, .fld n off x, g, a⟩ st = putV st d (vFld n off (evO st.tm x)) := Za0 _
@[simp] theorem Z45 (x i : Opd) : exec1 Γ gl ⟨d, .idx x i, g, a⟩ st = putV st d (vIdx (evO st.tm x) (evO st.tm i)) := Za0 _
@[simp] theorem Z1z (l sz : Nat) (n : Option Nat) (x i : Opd) : exec1 Γ gl ⟨d, .idxa l sz n x i, g, a⟩ st = putV st d (Znt l sz n (evO st.tm x) (evO st.tm i)) := Za0 _
@[simp] theorem Z6h (x : Opd) (lo hi : Option Opd) : exec1 Γ gl ⟨d, .sls x lo hi, g, a⟩ st = putV st d (vSls (evO st.tm x) (lo.map (evO st.tm)) (hi.map (evO st.tm))) := Za0 _
@[simp] theorem Znh (sz : Nat) (x : Opd) (lo hi mx : Option Opd) : exec1 Γ gl ⟨d, .slc sz x lo hi mx, g, a⟩ st = putR st d (vSlc sz (evO st.tm x) (lo.map (evO st.tm)) (hi.map (evO st.tm)) (mx.map (evO st.tm))) := (rfl)
theorem Zxs (n sz : Nat) (x : Opd) (lo hi mx : Option Opd) : exec1 Γ gl ⟨d, .slca n sz x lo hi mx, g, a⟩ st = putV st d (Zhs st.H n sz (evO st.tm x) (lo.map (evO st.tm)) (hi.map (evO st.tm)) (mx.map (evO st.tm))) := Za0 _
@[simp] theorem Zk7 (z : List V) (ps : List (Nat × Nat × Opd)) : exec1 Γ gl ⟨d, .build z ps, g, a⟩ st = putV st d ((Zit z (ps.map fun p => (p.1, p.2.1, evO st.tm p.2.2))).map .agg) := Za0 _
@[simp] theorem Z7q (sz : Nat) (ps : List Opd) : exec1 Γ gl ⟨d, .bsl sz ps, g, a⟩ st = putR st d (if fits sz (ps.map (evO st.tm)) then some ⟨.sl false sz (ps.map (evO st.tm)), true, none⟩ else none) := (rfl)
@[simp] theorem Z6n (x : Opd) : exec1 Γ gl ⟨d, .s2b x, g, a⟩ st = putR st d (vS2b (evO st.tm x)) := (rfl)
@[simp] theorem Zyt (x : Opd) : exec1 Γ gl ⟨d, .b2s x, g, a⟩ st = putV st d (vB2s st.H (evO st.tm x)) := Za0 _
@[simp] theorem Z5u (k : IntKind) (x : Opd) : exec1 Γ gl ⟨d, .i2i k x, g, a⟩ st = putV st d (vI2i k (evO st.tm x)) := Za0 _
@[simp] theorem Z59 (x : Opd) : exec1 Γ gl ⟨d, .s2s x, g, a⟩ st = putV st d (vS2s (evO st.tm x)) := Za0 _
@[simp] theorem Z5s (n : Nat) (x : Opd) : exec1 Γ gl ⟨d, .s2a n x, g, a⟩ st = putV st d (vS2a n (evO st.tm x)) := Za0 _
def putC (st : St) (d : Option Nat) (r : Option (V × Bool)) : Option St := r.map fun r => st.put d r.1 r.2
@[simp] theorem Z04 (v : V) (o : Bool) : putC st d (some (v, o)) = some (st.put d v o) := (rfl)
@[simp] theorem Z6t (f : Opd) (xs : List Opd) : exec1 Γ gl ⟨d, .callv f xs, g, a⟩ st = putR st d (Zm3 Γ (evO st.tm f) (xs.map (evO st.tm))) := (rfl)
theorem Zrz (f : Nat) (xs : List Opd) : exec1 Γ gl ⟨d, .call f xs, g, a⟩ st = putR st d (Zi1 Γ st.H f (xs.map (evO st.tm))) := (rfl)
theorem Z48 (sz : Nat) : exec1 Γ gl ⟨d, .nro sz, g, a⟩ st = some ((st.new []).put d (.osl st.nH 0 0 0 sz) false) := (rfl)
theorem Z5v (sz : Nat) (z : List V) (l c : Opd) : exec1 Γ gl ⟨d, .mko sz z l c, g, a⟩ st = (st.mkOb sz z (evO st.tm l) (evO st.tm c)).map fun r => r.1.put d r.2 false := (rfl)
theorem Z2q (sz : Nat) (s x : Opd) : exec1 Γ gl ⟨d, .appo sz s x, g, a⟩ st = (st.appOb sz (evO st.tm s) (evO st.tm x)).map fun r => r.1.put d r.2 false := (rfl)
theorem Z6r (x s : Opd) : exec1 Γ gl ⟨d, .cpy x s, g, a⟩ st = (st.cpyOb (evO st.tm x) (evO st.tm s)).map fun r => r.1.put d r.2 false := (rfl)
theorem Z27 (z : List V) (x : Opd) : exec1 Γ gl ⟨d, .clr z x, g, a⟩ st = (st.clrOb z (evO st.tm x)).map fun s => s.put d Nil false := (rfl)
@[simp] theorem Z2i (f : Nat) (xs : List Opd) : exec1 Γ gl ⟨d, .mkf f xs, g, a⟩ st = some (st.put d (.fn f (xs.map (evO st.tm))) false) := (rfl)
@[simp] theorem Z67 (f : Nat) (xs : List Opd) : exec1 Γ gl ⟨d, .mkm f xs, g, a⟩ st = some (st.put d (.mfn f (xs.map (evO st.tm))) false) := (rfl)
@[simp] theorem Zr7 (x : Opd) : exec1 Γ gl ⟨d, .nilck x, g, a⟩ st = putV st d (Zli (evO st.tm x)) := Za0 _
@[simp] theorem Z2c (sz : Nat) (z : List V) (l c : Opd) : exec1 Γ gl ⟨d, .mks sz z l c, g, a⟩ st = putR st d (vMk sz z (evO st.tm l) (evO st.tm c)) := (rfl)
@[simp] theorem Z17 (sz : Nat) (s x : Opd) : exec1 Γ gl ⟨d, .app sz s x, g, a⟩ st = putR st d (vApp st.H (ownO st.own s) sz (posO s) (evO st.tm s) (evO st.tm x)) := (rfl)
@[simp] theorem Z6z (cs : List V) : exec1 Γ gl ⟨d, .new cs, g, a⟩ st = some ((st.new cs).put d (.ptr st.nH 0) false) := (rfl)
@[simp] theorem Zyg (x : Opd) : exec1 Γ gl ⟨d, .box x, g, a⟩ st = if (evO st.tm x).cells.all V.sc then some ((st.new (evO st.tm x).cells).put d (.ptr st.nH 0) false) else none := (rfl)
def Znj (st : St) (d : Option Nat) (n : Nat) (ys : List V) : V -> Option St
 | .ptr id off => (Zan st.H id).bind fun cs => if ys.length = n /\ ys.all V.sc = true /\ off + n <= cs.length then some ((st.setOb id cs off ys).put d Nil false) else none
 | _ => none
@[simp] theorem Zsl (n : Nat) (x y : Opd) : exec1 Γ gl ⟨d, .store n x y, g, a⟩ st = Znj st d n (evO st.tm y).cells (evO st.tm x) := by
  simp only [exec1, St.ev]
  cases evO st.tm x <;> try rfl
  rename_i id off
  simp only [Znj, St.storeOb]
  cases Zan st.H id <;> simp
def Zy2 (st : St) (d : Option Nat) (t : Nat) : V -> Option St
 | .ptr id off => (Zan st.H id).bind fun cs => if (st.tm t).sc = true /\ off < cs.length then some ((st.stoOb id cs off t).put d Nil false) else none
 | _ => none
@[simp] theorem Z6u (x : Opd) (t : Nat) : exec1 Γ gl ⟨d, .sto x t, g, a⟩ st = Zy2 st d t (evO st.tm x) := by
  simp only [exec1, St.ev]
  cases evO st.tm x <;> try rfl
  rename_i id off
  simp only [Zy2]
  cases Zan st.H id <;> simp
@[simp] theorem Zhv (n : Nat) (ys : List V) (id off : Nat) : Znj st d n ys (.ptr id off) = (Zan st.H id).bind fun cs => if ys.length = n /\ ys.all V.sc = true /\ off + n <= cs.length then some ((st.setOb id cs off ys).put d Nil false) else none := (rfl)
@[simp] theorem Ztq (t : Nat) (id off : Nat) : Zy2 st d t (.ptr id off) = (Zan st.H id).bind fun cs => if (st.tm t).sc = true /\ off < cs.length then some ((st.stoOb id cs off t).put d Nil false) else none := (rfl)
@[simp] theorem Z4b (own : Pos -> Bool) (t : Nat) : ownO own (.tmp t) = own (.slot t) := (rfl)
@[simp] theorem Z0h (own : Pos -> Bool) (v : V) : ownO own (.const v) = false := (rfl)
@[simp] theorem Z4y (t : Nat) : posO (.tmp t) = some (.slot t) := (rfl)
@[simp] theorem Z0g (v : V) : posO (.const v) = none := (rfl)
section
theorem Zdh : ∀ a : Bytes, Op.bytesLess a a = false
 | [] => rfl
 | a :: r => by simp [Op.bytesLess, Zdh r]
theorem Ze4 : ∀ {a b c : Bytes}, Op.bytesLess a b = true -> Op.bytesLess b c = true -> Op.bytesLess a c = true
 | _, _, [], h1, h2 => by cases ‹Bytes› <;> simp [Op.bytesLess] at h2
 | [], _, _ :: _, _, _ => rfl
 | _ :: _, [], _ :: _, h1, _ => by simp [Op.bytesLess] at h1
 | x :: a, y :: b, z :: c, h1, h2 => by
  simp only [Op.bytesLess, Xa6, decide_eq_true_eq, Xah, beq_iff_eq] at h1 h2 ⊢
  rcases h1 with h1 | ⟨rfl, h1⟩ <;> rcases h2 with h2 | ⟨rfl, h2⟩
  ·exact .inl (UInt8.lt_trans h1 h2)
  ·exact .inl h1
  ·exact .inl h2
  ·exact .inr ⟨rfl, Ze4 h1 h2⟩
theorem Zk6 : ∀ {a b : Bytes}, Op.bytesLess a b = false -> Op.bytesLess b a = false -> a = b
 | [], [], _, _ => rfl
 | [], _ :: _, h, _ => by simp [Op.bytesLess] at h
 | _ :: _, [], _, h => by simp [Op.bytesLess] at h
 | x :: a, y :: b, h1, h2 => by
  simp only [Op.bytesLess, Xbm, decide_eq_false_iff_not, Xdn, beq_eq_false_iff_ne] at h1 h2
  have hxy : x = y := by
   rcases Classical.em (x = y) with h | h
   ·exact h
   ·rcases UInt8.lt_or_lt_of_ne h with h | h
    ·exact absurd h h1.1
    ·exact absurd h h2.1
  subst hxy
  rw [Zk6 (h1.2.resolve_left (by simp)) (h2.2.resolve_left (by simp))]
theorem Zjl {a b : Bytes} (h : Op.bytesLess a b = true) : Op.bytesLess b a = false := by
 cases h' : Op.bytesLess b a with
 | false => rfl
 | true => have := Ze4 h h'; rw [Zdh] at this; cases this
theorem Zpf (a b : Bytes) : (!(Op.bytesLess a b || decide (a = b))) = Op.bytesLess b a := by
 cases h : Op.bytesLess a b with
 | true => simp [Zjl h]
 | false =>
  by_cases he : a = b
  ·subst he; simp [Zdh]
  ·cases h' : Op.bytesLess b a with
   | true => simp [he]
   | false => exact absurd (Zk6 h h') he
end
@[simp] theorem Z4m (s : Bytes) : vLen true (.str s) = some (.int .i64 s.length) := (rfl)
@[simp] theorem Z63 (nl : Bool) (sz : Nat) (xs : List V) : vLen false (.sl nl sz xs) = some (.int .i64 xs.length) := (rfl)
@[simp] theorem Z4r (id off n c sz : Nat) : vLen false (.osl id off n c sz) = some (.int .i64 n) := (rfl)
@[simp] theorem Ze9 (t : Bool) (x y : V) : Znl (.bool t) x y = some (if t then x else y) := (rfl)
@[simp] theorem Zhb (vs : List V) (i : Nat) : vExt (.tup vs) i = vs[i]? := (rfl)
theorem Zsf (sz : Nat) (s : Nat) (xs : List V) (k : IntKind) (n : Int) : Zdw sz (.sl false s xs) (.int k n) = if 0 <= n /\ s = sz then (xs[n.toNat]?).map fun e => .el e.cells 0 else none := (rfl)
@[simp] theorem Zia (nl : Bool) (sz : Nat) (xs : List V) (k : IntKind) (n : Nat) (e : V) (h : xs[n]? = some e) (hnl : xs ≠ [] -> nl = false) : Zdw sz (.sl nl sz xs) (.int k (n : Int)) = some (.el e.cells 0) := by
  have : nl = false := hnl (fun hx => by simp [hx] at h)
  subst this
  simp [Zdw, h]
@[simp] theorem Z4x (nl : Bool) (sz : Nat) (xs : List V) (k : IntKind) (e : V) (h : xs[0]? = some e) (hnl : xs ≠ [] -> nl = false) : Zdw sz (.sl nl sz xs) (.int k 0) = some (.el e.cells 0) := Zia nl sz xs k 0 e h hnl
@[simp] theorem Z4s (nl : Bool) (sz : Nat) (xs : List V) (k : IntKind) (e : V) (h : xs[1]? = some e) (hnl : xs ≠ [] -> nl = false) : Zdw sz (.sl nl sz xs) (.int k 1) = some (.el e.cells 0) := Zia nl sz xs k 1 e h hnl
@[simp] theorem Z4i (nl : Bool) (sz : Nat) (xs : List V) (k : IntKind) (e : V) (h : xs[2]? = some e) (hnl : xs ≠ [] -> nl = false) : Zdw sz (.sl nl sz xs) (.int k 2) = some (.el e.cells 0) := Zia nl sz xs k 2 e h hnl
@[simp] theorem Z7i (n : Nat) : ((n : Int) + 1 = 0) = False := eq_false (by omega)
@[simp] theorem Z56 (n : Nat) : (0 < (n : Int) + 1) = True := eq_true (by omega)
@[simp] theorem Z4e (n : Nat) : (0 <= (n : Int) + 1) = True := eq_true (by omega)
@[simp] theorem Z5a (n : Nat) : (1 <= (n : Int) + 1) = True := eq_true (by omega)
@[simp] theorem Z65 (n : Nat) : ((n : Int) + 1 <= 0) = False := eq_false (by omega)
@[simp] theorem Z64 (n : Nat) : ((n : Int) + 1 < 0) = False := eq_false (by omega)
@[simp] theorem Z2v (cs : List V) : Zit cs [] = some cs := (rfl)
@[simp] theorem Zj2 (cs : List V) (off n : Nat) (v : V) (r : List (Nat × Nat × V)) : Zit cs ((off, n, v) :: r) = if v.cells.length = n /\ v.cells.all V.sc = true /\ off + n <= cs.length then Zit (Zao cs off v.cells) r else none := (rfl)
@[simp] theorem Z0s (off id o : Nat) : Zin off (.ptr id o) = some (.ptr id (o + off)) := (rfl)
@[simp] theorem Z2z (off : Nat) (cs : List V) (o : Nat) : Zin off (.el cs o) = some (.el cs (o + off)) := (rfl)
@[simp] theorem Z3d (off g o : Nat) : Zin off (.gp g o) = some (.gp g (o + off)) := (rfl)
@[simp] theorem Zvg (gl : Glob) (H : Hp) (n : Option Nat) (cs : List V) (o : Nat) : Zej gl H n (.el cs o) = Zak n cs o := (rfl)
@[simp] theorem Z4u (gl : Glob) (H : Hp) (n : Option Nat) (g o : Nat) : Zej gl H n (.gp g o) = (gl g).bind fun cs => Zak n cs o := (rfl)
@[simp] theorem Zlk (gl : Glob) (H : Hp) (n : Option Nat) (id o : Nat) : Zej gl H n (.ptr id o) = (Zan H id).bind fun cs => Zak n cs o := (rfl)
@[simp] theorem Zo8 (n : Option Nat) (off : Nat) (cs : List V) : vFld n off (.agg cs) = Zak n cs off := (rfl)
@[simp] theorem Z0k (cs : List V) (i : Nat) : Zan (st.new cs).H i = if i = st.nH then some cs else Zan st.H i := by
  by_cases h : i = st.nH <;> simp [Zan, h]
@[simp] theorem Zes (id : Nat) (cs : List V) (off : Nat) (ys : List V) (i : Nat) : Zan (st.setOb id cs off ys).H i = if i = id then some (Zao cs off ys) else Zan st.H i := by
  by_cases h : i = id <;> simp [Zan, h]
@[simp] theorem Zlp (id : Nat) (cs : List V) (off t : Nat) (i : Nat) : Zan (st.stoOb id cs off t).H i = if i = id then some (Zao cs off [st.tm t]) else Zan st.H i := by
  by_cases h : i = id <;> simp [Zan, h]
@[simp] theorem Zyn (args : List V) (i : Nat) : Zan (St.init args).H i = none := (rfl)
@[simp] theorem Zcw (cs : List V) (off : Nat) : Zak none cs off = cs[off]? := (rfl)
@[simp] theorem Zcv (k : Nat) (cs : List V) (off : Nat) : Zak (some k) cs off = if off + k <= cs.length then some (.agg ((cs.drop off).take k)) else none := (rfl)
@[simp] theorem Z5l (b : Bool) : aun .not (.bool b) = some (.bool !b) := (rfl)
@[simp] theorem Z7a (k : IntKind) (n : Int) : aun .neg (.int k n) = some (.int k (k.wrap (0 - n))) := (rfl)
variable {q : EqK} {k : IntKind} {x y : Int} {s t : Bytes}
@[simp] theorem b_add : abin .add q (.int k x) (.int k y) = some (.int k (k.wrap (x + y))) := by simp [abin, aint]
@[simp] theorem Z8q : abin .sub q (.int k x) (.int k y) = some (.int k (k.wrap (x - y))) := by simp [abin, aint]
@[simp] theorem Z8r : abin .mul q (.int k x) (.int k y) = some (.int k (k.wrap (x * y))) := by simp [abin, aint]
@[simp] theorem Z8t : abin .quo q (.int k x) (.int k y) = if y = 0 then none else some (.int k (k.wrap (x.tdiv y))) := by simp [abin, aint]
@[simp] theorem Z8m : abin .rem q (.int k x) (.int k y) = if y = 0 then none else some (.int k (x.tmod y)) := by simp [abin, aint]
@[simp] theorem Z8s : abin .eql q (.int k x) (.int k y) = some (.bool (decide (x = y))) := by simp [abin, aint]
@[simp] theorem Z8f : abin .neq q (.int k x) (.int k y) = some (.bool (!decide (x = y))) := by simp [abin, aint]
@[simp] theorem Z8a : abin .lss q (.int k x) (.int k y) = some (.bool (decide (x < y))) := by simp [abin, aint]
@[simp] theorem Z8e : abin .leq q (.int k x) (.int k y) = some (.bool (decide (x <= y))) := by simp [abin, aint]
@[simp] theorem Z8h : abin .gtr q (.int k x) (.int k y) = some (.bool (decide (y < x))) := by simp [abin, aint]
@[simp] theorem Z8p : abin .geq q (.int k x) (.int k y) = some (.bool (decide (y <= x))) := by simp [abin, aint]
@[simp] theorem Z8k : abin .eql q (.str s) (.str t) = some (.bool (decide (s = t))) := (rfl)
@[simp] theorem Z8n : abin .neq q (.str s) (.str t) = some (.bool (!decide (s = t))) := (rfl)
@[simp] theorem Z8o : abin .lss q (.str s) (.str t) = some (.bool (Op.bytesLess s t)) := (rfl)
@[simp] theorem Z8c : abin .gtr q (.str s) (.str t) = some (.bool (Op.bytesLess t s)) := by rw [<- Zpf]; rfl
@[simp] theorem Z8l : abin .geq q (.str s) (.str t) = some (.bool (!Op.bytesLess s t)) := (rfl)
@[simp] theorem Z8b : abin .add q (.str s) (.str t) = if s.length + t.length <= 4611686018427387904 then some (.str (s ++ t)) else none := (rfl)
@[simp] theorem Z7w (nl : Bool) (z z' : Nat) (xs : List V) : abin .eql .slice (.sl nl z xs) (.sl true z' []) = some (.bool nl) := by cases nl <;> rfl
@[simp] theorem Z7y (nl : Bool) (z z' : Nat) (xs : List V) : abin .neq .slice (.sl nl z xs) (.sl true z' []) = some (.bool !nl) := by cases nl <;> rfl
@[simp] theorem Z73 (ks : List (Option IntKind × Bool)) (xs ys : List V) : abin .eql (.flat ks) (.agg xs) (.agg ys) = (Zar ks xs ys).map .bool := (rfl)
@[simp] theorem Z7z (ks : List (Option IntKind × Bool)) (xs ys : List V) : abin .neq (.flat ks) (.agg xs) (.agg ys) = (Zar ks xs ys).map fun b => .bool !b := (rfl)
@[simp] theorem Z0p : Zar [] [] [] = some true := (rfl)
@[simp] theorem Zya (k : Option IntKind × Bool) (ks : List (Option IntKind × Bool)) (x y : V) (xs ys : List V) : Zar (k :: ks) (x :: xs) (y :: ys) = (kdEq k x y).bind fun b => (Zar ks xs ys).map (b && ·) := (rfl)
@[simp] theorem Z43 (k : IntKind) (t : Bool) (x y : Int) : kdEq (some k, t) (.int k x) (.int k y) = some (decide (x = y)) := by simp [kdEq]
@[simp] theorem Z4h (x y : Bytes) : kdEq (none, true) (.str x) (.str y) = some (decide (x = y)) := (rfl)
@[simp] theorem Z21 (x y : Bool) : kdEq (none, false) (.bool x) (.bool y) = some (x == y) := (rfl)
@[simp] theorem Zy7 (res : List RS) (r : V × Bool) : retQ res r .normal st = (∃ p, Zc8 res st = some p /\ p.1 = r.1 /\ (r.2 = true -> p.2 = true)) := (rfl)
@[simp] theorem Z4g (res : List RS) (r : V × Bool) : retQ res r .ret st = (∃ p, Zc8 res st = some p /\ p.1 = r.1 /\ (r.2 = true -> p.2 = true)) := (rfl)
@[simp] theorem Z2h (res : List RS) (r : V × Bool) (i : Nat) : retQ res r (.exit i) st = False := (rfl)
@[simp] theorem Z3h (t : Nat) : Zc8 [.t t] st = some (st.tm t, st.own (.slot t)) := (rfl)
@[simp] theorem Zx9 (a b : Nat) : ((a : Int) = (b : Int)) = (a = b) := propext Int.ofNat_inj
theorem w64 (n : Int) (h : -9223372036854775808 <= n /\ n <= 9223372036854775807) : IntKind.wrap .i64 n = n := Go.IntWalk.i64_in n h
@[simp] theorem Ztd (cs : List V) : (V.agg cs).cells = cs := (rfl)
@[simp] theorem Z0l (b : Bool) : (V.bool b).cells = [.bool b] := (rfl)
@[simp] theorem Z1i (k : IntKind) (n : Int) : (V.int k n).cells = [.int k n] := (rfl)
@[simp] theorem Z1p (s : Bytes) : (V.str s).cells = [.str s] := (rfl)
@[simp] theorem Z4j (nl : Bool) (z : Nat) (xs : List V) : (V.sl nl z xs).cells = [.sl nl z xs] := (rfl)
@[simp] theorem Z40 (f : Nat) (cs : List V) : (V.fn f cs).cells = [.fn f cs] := (rfl)
@[simp] theorem Z1k (i o : Nat) : (V.ptr i o).cells = [.ptr i o] := (rfl)
@[simp] theorem Zxp : V.nilptr.cells = [.nilptr] := (rfl)
@[simp] theorem Z0b : V.nilif.cells = [.nilif] := (rfl)
@[simp] theorem Z7u (cs : List V) : (V.agg cs).sc = false := (rfl)
@[simp] theorem Z78 (cs : List V) : (V.tup cs).sc = false := (rfl)
@[simp] theorem Z5e (b : Bool) : (V.bool b).sc = true := (rfl)
@[simp] theorem Z70 (k : IntKind) (n : Int) : (V.int k n).sc = true := (rfl)
@[simp] theorem Z71 (s : Bytes) : (V.str s).sc = true := (rfl)
@[simp] theorem Z8d (nl : Bool) (z : Nat) (xs : List V) : (V.sl nl z xs).sc = true := (rfl)
@[simp] theorem Z8i (f : Nat) (cs : List V) : (V.fn f cs).sc = true := (rfl)
@[simp] theorem Z7v (i o : Nat) : (V.ptr i o).sc = true := (rfl)
@[simp] theorem Z3f : V.nilptr.sc = true := (rfl)
@[simp] theorem Z4c : V.nilif.sc = true := (rfl)
@[simp] theorem Zzf {l : Bytes} {x : V} (h : x ∈ encB l) : x.sc = true := by
  simp only [encB, Xbb] at h
  obtain ⟨b, _, rfl⟩ := h; rfl
@[simp] theorem Zz7 (l : Bytes) : (encB l).length = l.length := by simp [encB]
@[simp] theorem Zxa {k : Nat} {cs : List V} (h : cs.length = k) : Zak (some k) cs 0 = some (.agg cs) := by simp [Zak, <- h]
@[simp] theorem Z0j {cs ys : List V} (h : ys.length = cs.length) : Zao cs 0 ys = ys := by simp [Zao, h]
@[simp] theorem Z0m (b : Bool) : (V.bool b).clean = true := (rfl)
@[simp] theorem Z0t (k : IntKind) (n : Int) : (V.int k n).clean = true := (rfl)
@[simp] theorem Z1q (s : Bytes) : (V.str s).clean = true := (rfl)
@[simp] theorem Z1g (cs : List V) : (V.agg cs).clean = Zab cs := (rfl)
@[simp] theorem Z4l (nl : Bool) (z : Nat) (xs : List V) : (V.sl nl z xs).clean = Zab xs := (rfl)
@[simp] theorem Z4z (f : Nat) (cs : List V) : (V.fn f cs).clean = Zab cs := (rfl)
@[simp] theorem Z20 (cs : List V) : (V.tup cs).clean = Zab cs := (rfl)
@[simp] theorem Z0n : Zab [] = true := (rfl)
@[simp] theorem Zn5 (v : V) (r : List V) : Zab (v :: r) = (v.clean && Zab r) := (rfl)
@[simp] theorem Zzv (l : Bytes) : Zab (encB l) = true := Zag.2 fun v hv => by
  simp only [encB, Xbb] at hv
  obtain ⟨b, _, rfl⟩ := hv; rfl
theorem Zgh {α : Type} {f : α -> V} (h : ∀ x, (f x).clean = true) (l : List α) : Zab (l.map f) = true := Zag.2 fun v hv => by
 obtain ⟨x, _, rfl⟩ := Xbb.1 hv; exact h x
@[simp] theorem Z4q (H : Hp) (sz : Nat) (nl : Bool) (ys : List V) : Zbn H sz (.sl nl sz ys) = some ys := by simp [Zbn]
@[simp] theorem Zsn (H : Hp) (b : Bytes) : Zbn H 1 (.str b) = some (encB b) := (rfl)
@[simp] theorem Zvo (H : Hp) (own : Bool) (sz z : Nat) (p : Option Pos) (xs : List V) (x : V) : vApp H own sz p (.sl true z xs) x = (Zbn H sz x).bind fun ys => if ys.length <= Lim then some ⟨.sl ys.isEmpty sz ys, true, none⟩ else none := by
  simp only [vApp]; cases Zbn H sz x <;> rfl
@[simp] theorem Zyc (H : Hp) (sz : Nat) (p : Option Pos) (xs : List V) (x : V) : vApp H true sz p (.sl false sz xs) x = (Zbn H sz x).bind fun ys => if xs.length + ys.length <= Lim then some ⟨.sl false sz (xs ++ ys), true, p⟩ else none := by
  simp only [vApp]; cases Zbn H sz x <;> simp
@[simp] theorem Zxc (c : Prop) [Decidable c] (q r : Pos) : (st.take (if c then none else some q)).own r = if ¬ c /\ r = q then false else st.own r := by
  by_cases h : c <;> simp [h]
@[simp] theorem Z44 (sz : Nat) : fits sz [] = true := (rfl)
@[simp] theorem Zrh (sz : Nat) (x : V) (r : List V) : fits sz (x :: r) = ((x.cells.length == sz && x.cells.all V.sc) && fits sz r) := (rfl)
@[simp] theorem Z4p (s : Bytes) (k : IntKind) (n : Nat) : vIdx (.str s) (.int k (n : Int)) = (s[n]?).map byteV := by simp [vIdx]
@[simp] theorem Z31 (s : Bytes) (k : IntKind) : vIdx (.str s) (.int k 0) = (s[0]?).map byteV := by simp [vIdx]
@[simp] theorem Z57 (s : Bytes) (k k' : IntKind) (l h : Int) : vSls (.str s) (some (.int k l)) (some (.int k' h)) = if 0 <= l /\ l <= h /\ h <= s.length then some (.str ((s.take h.toNat).drop l.toNat)) else none := by
  simp only [vSls, vOpt, cut3]
  by_cases hc : 0 <= l /\ l <= h /\ h <= s.length
  ·have : 0 <= h := by omega
   simp [hc, this]
  ·rw [if_neg hc, if_neg]
   ·rfl
   ·simp; omega
@[simp] theorem Z79 (s : Bytes) (k : IntKind) (l : Int) : vSls (.str s) (some (.int k l)) none = if 0 <= l /\ l <= s.length then some (.str (s.drop l.toNat)) else none := by
  simp only [vSls, vOpt, cut3]
  by_cases hc : 0 <= l /\ l <= s.length
  ·simp [hc]
  ·rw [if_neg hc, if_neg]
   ·rfl
   ·simp; omega
@[simp] theorem Z72 (s : Bytes) (k : IntKind) (h : Int) : vSls (.str s) none (some (.int k h)) = if 0 <= h /\ h <= s.length then some (.str (s.take h.toNat)) else none := by
  simp only [vSls, vOpt, cut3]
  by_cases hc : 0 <= h /\ h <= s.length
  ·simp [hc]
  ·rw [if_neg hc, if_neg]
   ·rfl
   ·simp; omega
@[simp] theorem Z7x (sz z : Nat) (nl : Bool) (xs : List V) (k : IntKind) (l : Int) : vSlc sz (.sl nl z xs) (some (.int k l)) none none = if z = sz /\ 0 <= l /\ l <= xs.length then some ⟨.sl nl sz (xs.drop l.toNat), false, none⟩ else none := by
  simp only [vSlc, vOpt, cut3]
  by_cases hc : z = sz /\ 0 <= l /\ l <= xs.length
  ·obtain ⟨rfl, h1, h2⟩ := hc
   simp [h1, h2]
  ·rw [if_neg hc]
   by_cases hz : z = sz
   ·rw [if_pos (by simp [hz]), if_neg]
    ·rfl
    ·simp; omega
   ·rw [if_neg (by simp [hz])]
@[simp] theorem Z77 (sz z : Nat) (nl : Bool) (xs : List V) (k : IntKind) (h : Int) : vSlc sz (.sl nl z xs) none (some (.int k h)) none = if z = sz /\ 0 <= h /\ h <= xs.length then some ⟨.sl nl sz (xs.take h.toNat), false, none⟩ else none := by
  simp only [vSlc, vOpt, cut3]
  by_cases hc : z = sz /\ 0 <= h /\ h <= xs.length
  ·obtain ⟨rfl, h1, h2⟩ := hc
   simp [h1, h2]
  ·rw [if_neg hc]
   by_cases hz : z = sz
   ·rw [if_pos (by simp [hz]), if_neg]
    ·rfl
    ·simp; omega
   ·rw [if_neg (by simp [hz])]
@[simp] theorem Z4v (l : Bytes) : (∀ a ∈ encB l, a.sc = true) = True := eq_true fun _ h => Zzf h
theorem drop_nil {α : Type} {l : List α} {k : Nat} (h : l.drop k = []) (hk : k <= l.length) : k = l.length := by
 have := List.drop_eq_nil_iff.1 h; omega
end Go.Abs
namespace Go.Abs
open Go.RowKit Go.ChangeShapes Go.WideShapes
open Go.Proofs.YtpmgdngjbdkdfaaDoor (Rows.uptoBulk Rows.uptoBulkAll)
mutual
def V.wt : V -> Nat
 | .str s => s.length + 1
 | .agg cs => wtL cs + 1
 | .sl _ _ xs => wtL xs + 1
 | _ => 1
def wtL : List V -> Nat
 | [] => 0
 | v :: r => v.wt + wtL r
end
theorem Zjm (a b : List V) : wtL (a ++ b) = wtL a + wtL b := by
 induction a with
 | nil => simp [wtL]
 | cons x a ih => simp only [Xbf, wtL, ih]; omega
theorem Zul {l : List V} {v : V} (h : v ∈ l) : v.wt <= wtL l := by
 induction l with
 | nil => cases h
 | cons x r ih =>
  simp only [wtL]
  rcases Xay.1 h with rfl | h
  ·omega
  ·have := ih h; omega
theorem Z16 (v : V) : 1 <= v.wt := by cases v <;> simp [V.wt]
theorem Zq7 (l : List V) : l.length <= wtL l := by
 induction l with
 | nil => simp
 | cons x r ih => simp only [wtL, Xau]; have := Z16 x; omega
def Zig (P : Program) : Nat -> TypeId -> Bool
 | 0, _ => false
 | m + 1, t => match P.underlying t with
  | some .bool | some (.int _) | some .string => true
  | some (.slice e) => Zig P m e
  | some (.array _ e) => Zig P m e
  | some (.struct fs) => fs.toList.all fun f => Zig P m f.type
  | _ => false
def Zdr (P : Program) (t : TypeId) : Bool := match P.underlying t with | some (.struct _) | some (.array _ _) => true | _ => false
def elV (P : Program) (t : TypeId) (ws : List V) : V := if Zdr P t then .agg ws else ws.headD Nil
def HasT (P : Program) : Nat -> TypeId -> List V -> Prop
 | 0, _, _ => False
 | m + 1, t, vs => match P.underlying t with
  | some .bool => ∃ b, vs = [.bool b]
  | some (.int k) => ∃ n, vs = [.int k n] /\ k.min <= n /\ n <= k.max
  | some .string => ∃ s, vs = [.str s]
  | some (.slice e) => vs = [.sl true (P.cellsOf e) []] \/ ∃ xs, vs = [.sl false (P.cellsOf e) xs] /\ ∀ x ∈ xs, ∃ ws, HasT P m e ws /\ x = elV P e ws
  | some (.array n e) => ∃ wss : List (List V), wss.length = n /\ (∀ ws ∈ wss, HasT P m e ws) /\ vs = wss.flatten
  | some (.struct fs) => ∃ wss : List (List V), wss.length = fs.size /\ (∀ (i : Nat) (f : Field) (ws : List V), fs[i]? = some f -> wss[i]? = some ws -> HasT P m f.type ws) /\ vs = wss.flatten
  | _ => False
def RL (W : World) (G : Nat -> Nat) (φ : Nat -> Option Nat) (vs : List V) (cs : List Value) : Prop :=
 vs.length = cs.length /\ ∀ (i : Nat) (c : V) (x : Value), vs[i]? = some c -> cs[i]? = some x -> Rep W G φ c x
theorem RL.append {W G φ a b cs} (h1 : RL W G φ a (cs.take a.length)) (h2 : RL W G φ b (cs.drop a.length)) (hl : a.length <= cs.length) : RL W G φ (a ++ b) cs := by
 refine ⟨?_, fun i c x hc hx => ?_⟩
 ·have := h2.1; simp at this ⊢; omega
 ·rw [Xcg] at hc
  split at hc
  ·rename_i hlt
   exact h1.2 i c x hc (by rw [Xc3, if_pos hlt]; exact hx)
  ·rename_i hge
   exact h2.2 (i - a.length) c x hc (by rw [Xb7]; rw [show a.length + (i - a.length) = i by omega]; exact hx)
theorem RL.flatten {W G φ} : ∀ {wss : List (List V)} {cs : List Value}, cs.length = (wss.map List.length).sum ->
  (∀ (i : Nat) (ws : List V), wss[i]? = some ws -> RL W G φ ws ((cs.drop ((wss.take i).map List.length).sum).take ws.length)) -> RL W G φ wss.flatten cs
 | [], cs, hl, _ => ⟨by simp at hl; rw [hl]; rfl, fun i c x hc => by simp at hc⟩
 | w :: r, cs, hl, h => by
  rw [Xce]
  simp only [Xal, Xfc] at hl
  refine RL.append (by simpa using h 0 w rfl) (RL.flatten (by simp; omega) fun i ws hi => ?_) (by omega)
  have := h (i + 1) ws (by simpa using hi)
  simpa [Xct, Xdh, Xd8] using this
section
variable {H : Type} {enc : TypeId × Value -> H} {P : Program} {w : World} {held : Bool} {φ : Nat -> Option Nat}
theorem Zrx {w : World} {b i : Nat} {s : Option Nat} {v : Value} (h : w.cell? ⟨b, i, s⟩ = some v) : s = none /\ i < G0 w b := by
 simp only [World.cell?] at h
 split at h
 ·rename_i c t f hc
  split at h
  ·simp at h
  ·rename_i hs
   refine ⟨by simpa using hs, ?_⟩
   simp only [G0, hc]
   exact (Xba.1 h).1
 ·simp at h
theorem Zf2 (n : Nat) (f : Nat -> List V) (D : Nat -> DataW H) (k : Nat) (h : ∀ i, i < n -> wtL (f i) <= Rows.uptoBulk (D (k + i))) : wtL ((List.range n).map f).flatten <= Rows.uptoBulkAll ((List.range n).map fun i => D (k + i)) := by
 induction n generalizing f k with
 | zero => simp [wtL]
 | succ n ih =>
  rw [List.range_succ_eq_map]
  simp only [Xal, Xce, Zjm, Rows.uptoBulkAll, Xdc]
  have h0 := h 0 (by omega)
  have := ih (fun i => f (i + 1)) (k + 1) fun i hi => by have := h (i + 1) (by omega); rwa [show k + (i + 1) = k + 1 + i by omega] at this
  have e : ((fun i => D (k + i)) ∘ Nat.succ) = fun i => D (k + 1 + i) := by funext i; simp [Function.comp, Nat.succ_eq_add_one]; congr 1; omega
  rw [e]
  have e2 : (f ∘ Nat.succ) = fun i => f (i + 1) := rfl
  rw [e2]
  omega
theorem RL.one {W G φ v x} (h : Rep W G φ v x) : RL W G φ [v] [x] := ⟨rfl, fun i c y hc hy => by
 cases i with
 | zero => simp at hc hy; subst hc; subst hy; exact h
 | succ i => simp at hc⟩
theorem Zmo {t : TypeId} {ws : List V} (h : Zdr P t = false -> ∃ v, ws = [v] /\ v.sc = true) : (elV P t ws).cells = ws := by
 unfold elV
 split
 ·rfl
 ·rename_i ha
  obtain ⟨v, rfl, hv⟩ := h (by simpa using ha)
  cases v <;> first | rfl | simp at hv
theorem Zl0 {t : TypeId} {ws : List V} (h : ∀ c ∈ ws, c.clean = true) : (elV P t ws).clean = true := by
 unfold elV
 split
 ·exact Zag.2 h
 ·cases ws with
  | nil => rfl
  | cons a r => exact h a (by simp)
theorem Zqg {K : Nat} {n : Nat} {f : Nat -> List V} {c : Nat -> Nat} (hn : K <= n) (hf : ∀ i, i < n -> (f i).length = c i) : ((((List.range n).map f).take K).map List.length).sum = ((List.range K).map c).sum := by
 rw [<- Xdy, List.take_range, Nat.min_eq_left hn, Xdc]
 congr 1
 exact Xej fun i hi => hf i (by have := Xbo.1 hi; omega)
theorem Zwo (K : Kids P (· < P.types.size)) (hz : ∀ t e, t < P.types.size -> P.underlying t = some (.slice e) -> 0 < P.cellsOf e) : ∀ (m fuel : Nat) (t : TypeId) (cs : List Value) (x : DataW H × List MemPlace), t < P.types.size -> Zig P m t = true ->
  DataW.trod enc P w 0 (fun _ => true) held fuel t cs = some x ->
  ∃ vs, RL w (G0 w) φ vs cs /\ (∀ c ∈ vs, c.sc = true /\ c.clean = true) /\ HasT P m t vs /\ (elV P t vs).wt <= Rows.uptoBulk x.1 /\ wtL vs <= Rows.uptoBulk x.1 /\ (Zdr P t = false -> ∃ v, vs = [v] /\ v.sc = true) := by
 intro m
 induction m with
 | zero => intro fuel t cs x _ hp; simp [Zig] at hp
 | succ m ih =>
  intro fuel t cs x ht hp h
  unfold Zig at hp
  split at hp
  ·rename_i hu
   obtain ⟨b, rfl, rfl⟩ := DataW.trod_bool hu h
   have ha : Zdr P t = false := by simp [Zdr, hu]
   exact ⟨[.bool b], RL.one (.bool b), by simp, by simp [HasT, hu], by simp [elV, ha, V.wt, Rows.uptoBulk], by simp [wtL, V.wt, Rows.uptoBulk], fun _ => ⟨_, rfl, rfl⟩⟩
  ·rename_i k hu
   obtain ⟨n, rfl, rfl, hw⟩ := DataW.trod_int hu h
   have ha : Zdr P t = false := by simp [Zdr, hu]
   simp only [Lit.wf, Xah, decide_eq_true_eq] at hw
   exact ⟨[.int k n], RL.one (.int k n), by simp, by simp [HasT, hu, hw], by simp [elV, ha, V.wt, Rows.uptoBulk], by simp [wtL, V.wt, Rows.uptoBulk], fun _ => ⟨_, rfl, rfl⟩⟩
  ·rename_i hu
   obtain ⟨s, rfl, rfl, hw⟩ := DataW.trod_string hu h
   have ha : Zdr P t = false := by simp [Zdr, hu]
   exact ⟨[.str s.data.toList], RL.one (.str _ s rfl), by simp, by simp [HasT, hu], by simp [elV, ha, V.wt, Rows.uptoBulk], by simp [wtL, V.wt, Rows.uptoBulk], fun _ => ⟨_, rfl, rfl⟩⟩
  ·rename_i e hu
   have ha : Zdr P t = false := by simp [Zdr, hu]
   have hte := K.slice ht hu
   have hz0 := hz t e ht hu
   rcases Deep.open_slice hu h with ⟨rfl, rfl⟩ | ⟨a, len, cap, mm, n, D, Pl, rfl, _, hl, _, hmm, rfl, hel⟩
   ·exact ⟨[.sl true (P.cellsOf e) []], RL.one (.slnil _), by simp, by simp [HasT, hu], by simp [elV, ha, V.wt, wtL, Rows.uptoBulk], by simp [wtL, V.wt, Rows.uptoBulk], fun _ => ⟨_, rfl, rfl⟩⟩
   ·simp only [if_true] at hmm
    subst hmm
    have hpick : ∀ i, i < mm -> ∃ ws : List V, ∃ cs', w.cells? 0 (a.add (i * P.cellsOf e)) (P.cellsOf e) = some cs' /\ RL w (G0 w) φ ws cs' /\ (∀ c ∈ ws, c.sc = true /\ c.clean = true) /\ HasT P m e ws /\ (elV P e ws).wt <= Rows.uptoBulk (D i) /\ (Zdr P e = false -> ∃ v, ws = [v] /\ v.sc = true) := fun i hi => by
     obtain ⟨cs', h1, h2⟩ := hel i hi
     obtain ⟨ws, q1, q2, q3, q4, _, q6⟩ := ih n e cs' _ hte hp h2
     exact ⟨ws, cs', h1, q1, q2, q3, q4, q6⟩
    obtain ⟨f, hf⟩ := Deep.choose_lt hpick
    have hbulk : wtL ((List.range len).map fun i => elV P e (f i)) + 1 <= Rows.uptoBulk (DataW.slice ((List.range len).map D) ((List.range (mm - len)).map fun j => D (len + j))) := by
     have key : ∀ k, k <= mm -> wtL ((List.range k).map fun i => elV P e (f i)) <= Rows.uptoBulkAll ((List.range k).map D) := by
      have app : ∀ (l r : List (DataW H)), Rows.uptoBulkAll (l ++ r) = Rows.uptoBulkAll l + Rows.uptoBulkAll r := by
       intro l r
       induction l with
       | nil => simp [Rows.uptoBulkAll]
       | cons x l ih => simp only [Xbf, Rows.uptoBulkAll, ih]; omega
      intro k
      induction k with
      | zero => intro _; simp [wtL]
      | succ k ihk =>
       intro hk
       obtain ⟨_, _, _, _, _, q4, _⟩ := hf k (by omega)
       rw [Xem, Xda, Xda, Zjm, app]
       have := ihk (by omega)
       simp only [Xal, Xa8, wtL, Rows.uptoBulkAll]
       omega
     simp only [Rows.uptoBulk]
     have := key len (by omega)
     omega
    have hcl : ∀ v ∈ ((List.range len).map fun i => elV P e (f i)), v.clean = true := fun v hv => by
     obtain ⟨i, hi, rfl⟩ := Xbb.1 hv
     obtain ⟨_, _, _, q2, _⟩ := hf i (by have := Xbo.1 hi; omega)
     exact Zl0 fun c hc => (q2 c hc).2
    refine ⟨[.sl false (P.cellsOf e) ((List.range len).map fun i => elV P e (f i))], RL.one ?_, by simpa using Zag.2 hcl, ?_, by simpa [elV, ha, V.wt] using hbulk, by simpa [wtL, V.wt] using hbulk, fun _ => ⟨_, rfl, rfl⟩⟩
    ·-- where it lies
     by_cases hc0 : mm = 0
     ·have hl0 : len = 0 := by omega
      subst hc0; subst hl0
      exact .sl0 _ a
     ·obtain ⟨cs0, p1, _⟩ := hf 0 (by omega)
      have hsp : a.spot = none := by
       obtain ⟨_, _, hc⟩ := World.cells?_some p1
       have h0 := hc 0 hz0
       simp only [Xeq, Addr.add, if_true] at h0
       have hlen : 0 < cs0.length := by obtain ⟨_, q, _⟩ := World.cells?_some p1; omega
       rw [Xad hlen] at h0
       obtain ⟨ab, ao, asp⟩ := a
       exact (Zrx h0).1
      obtain ⟨ab, ao, asp⟩ := a
      simp only at hsp
      subst hsp
      have hcell : ∀ i, i < mm -> ∀ j, j < P.cellsOf e -> ∃ cs', w.cells? 0 (Addr.add ⟨ab, ao, none⟩ (i * P.cellsOf e)) (P.cellsOf e) = some cs' /\ w.cell? ⟨ab, ao + (i * P.cellsOf e + j), none⟩ = cs'[j]? /\ j < cs'.length := fun i hi j hj => by
       obtain ⟨cs', p1, _⟩ := hf i hi
       obtain ⟨_, q, hc⟩ := World.cells?_some p1
       refine ⟨cs', p1, ?_, by omega⟩
       have := hc j hj
       rw [Zbz, Zbz] at this
       rw [<- this, Xcx]
      have hlenm : ((List.range len).map fun i => elV P e (f i)).length = len := by simp
      have hrep := Rep.sl (W := w) (G := G0 w) (φ := φ) (P.cellsOf e) ((List.range len).map fun i => elV P e (f i)) ab ao mm (fun k => (w.cell? ⟨ab, ao + k, none⟩).getD undef) (by simpa using hl) ?_ ?_ ?_ ?_
      ·rw [hlenm] at hrep; exact hrep
      ·rw [hlenm]
       have hlast : ao + (mm - 1 + 1) * P.cellsOf e <= G0 w ab := by
        obtain ⟨cs', p1, p2, p3⟩ := hcell (mm - 1) (by omega) (P.cellsOf e - 1) (by omega)
        rw [Xad p3] at p2
        have := (Zrx p2).2
        rw [Xb9]; omega
       have : len * P.cellsOf e <= (mm - 1 + 1) * P.cellsOf e := Xbl _ (by omega)
       omega
      ·intro v hv
       obtain ⟨i, hi, rfl⟩ := Xbb.1 hv
       obtain ⟨cs', p1, q1, q2, _, _, q6⟩ := hf i (by have := Xbo.1 hi; omega)
       rw [Zmo q6]
       exact ⟨by rw [q1.1]; exact (World.cells?_some p1).2.1, fun c hc => (q2 c hc).1⟩
      ·intro k hk
       rw [hlenm] at hk
       have hi : k / P.cellsOf e < len := (Nat.div_lt_iff_lt_mul hz0).2 hk
       have hk' : k = k / P.cellsOf e * P.cellsOf e + k % P.cellsOf e := by rw [Nat.mul_comm]; exact (Nat.div_add_mod k _).symm
       obtain ⟨cs', p1, p2, p3⟩ := hcell (k / P.cellsOf e) (by omega) (k % P.cellsOf e) (Nat.mod_lt _ hz0)
       rw [<- hk', Xad p3] at p2
       rw [p2]; rfl
      ·intro i v j c hi hj
       have hilt : i < len := by have := (Xae.1 hi).1; simpa using this
       simp only [Xbr, Xde hilt, Xas, Xac] at hi
       subst hi
       obtain ⟨cs', p1, q1, q2, _, _, q6⟩ := hf i (by omega)
       rw [Zmo q6] at hj
       have hjl : j < P.cellsOf e := by have := (Xae.1 hj).1; rw [q1.1, (World.cells?_some p1).2.1] at this; exact this
       obtain ⟨cs'', p1', p2, p3⟩ := hcell i (by omega) j hjl
       rw [p1] at p1'; cases p1'
       rw [p2, Xad p3]
       exact q1.2 j c _ hj (Xad p3)
    ·unfold HasT
     rw [hu]
     refine .inr ⟨_, rfl, fun v hv => ?_⟩
     obtain ⟨i, hi, rfl⟩ := Xbb.1 hv
     obtain ⟨_, _, _, _, q3, _⟩ := hf i (by have := Xbo.1 hi; omega)
     exact ⟨f i, q3, rfl⟩
  ·rename_i n e hu
   have ha : Zdr P t = true := by simp [Zdr, hu]
   obtain ⟨hte, hsz⟩ := K.array ht hu
   obtain ⟨xs, m', _, rfl, hl, hxl, hel⟩ := DataW.trod_array hu h
   have hpick : ∀ i, i < n -> ∃ ws : List V, RL w (G0 w) φ ws ((cs.drop (i * P.cellsOf e)).take (P.cellsOf e)) /\ (∀ c ∈ ws, c.sc = true /\ c.clean = true) /\ HasT P m e ws /\ wtL ws <= Rows.uptoBulk ((xs.map (·.1)).getD i .nil) := fun i hi => by
    have h1 := hel i hi
    rw [Xad (by omega)] at h1
    obtain ⟨ws, q1, q2, q3, _, q5, _⟩ := ih m' e _ _ hte hp h1
    refine ⟨ws, q1, q2, q3, ?_⟩
    simpa [List.getD, show i < xs.length by omega] using q5
   obtain ⟨f, hf⟩ := Deep.choose_lt hpick
   have hfl : ∀ i, i < n -> (f i).length = P.cellsOf e := fun i hi => by
    have := (hf i hi).1.1
    simp only [Xbt, Xcj, hl, hsz] at this
    have h2 : (i + 1) * P.cellsOf e <= n * P.cellsOf e := Xbl _ hi
    rw [Xb9] at h2
    omega
   have hsum : ∀ k, ((List.range k).map fun _ => P.cellsOf e).sum = k * P.cellsOf e := fun k => by
    induction k with
    | zero => simp
    | succ k ihk => rw [Xem, Xda, Xe6, ihk, Xb9]; simp
   have hbulk : wtL ((List.range n).map f).flatten + 1 <= Rows.uptoBulk (DataW.agg (xs.map (·.1))) := by
    have := Zf2 n f (fun i => (xs.map (·.1)).getD i .nil) 0 fun i hi => by simpa using (hf i hi).2.2.2
    have e1 : ((List.range n).map fun i => (xs.map (·.1)).getD (0 + i) DataW.nil) = xs.map (·.1) := by
     apply Xe3
     ·simp [hxl]
     ·intro i h1 h2
      simp at h1 h2
      simp [List.getD, h2]
    rw [e1] at this
    simp only [Rows.uptoBulk]; omega
   refine ⟨((List.range n).map f).flatten, RL.flatten ?_ fun i ws hi => ?_, fun c hc => ?_, ?_, by simpa [elV, ha, V.wt] using hbulk, Nat.le_of_lt hbulk, fun hh => by rw [ha] at hh; cases hh⟩
   ·have := Zqg (K := n) (n := n) (f := f) (c := fun _ => P.cellsOf e) (Xag _) hfl
    rw [Xa0 (by simp)] at this
    rw [this, hsum, hl, hsz]
   ·have hin : i < n := by have := (Xae.1 hi).1; simpa using this
    rw [Zqg (by omega) hfl, hsum]
    simp only [Xbr, Xde hin, Xas, Xac] at hi
    subst hi
    rw [hfl i hin]; exact (hf i hin).1
   ·obtain ⟨ws, hws, hc⟩ := List.mem_flatten.1 hc
    obtain ⟨i, hi, rfl⟩ := Xbb.1 hws
    exact (hf i (Xbo.1 hi)).2.1 c hc
   ·unfold HasT
    rw [hu]
    refine ⟨(List.range n).map f, by simp, fun ws hws => ?_, rfl⟩
    obtain ⟨i, hi, rfl⟩ := Xbb.1 hws
    exact (hf i (Xbo.1 hi)).2.2.1
  ·rename_i fs hu
   have ha : Zdr P t = true := by simp [Zdr, hu]
   obtain ⟨hte, hsz, hoff⟩ := K.struct ht hu
   obtain ⟨xs, m', _, rfl, hl, hxl, hel⟩ := DataW.trod_struct hu h
   let c : Nat -> Nat := fun i => match fs[i]? with | some f => P.cellsOf f.type | none => 0
   have hc : ∀ (i : Nat) (fd : Field), fs[i]? = some fd -> c i = P.cellsOf fd.type := fun i fd hi => by simp only [c, hi]
   have htake : ∀ k, k <= fs.size -> (fs.toList.take k).map (fun f => P.cellsOf f.type) = (List.range k).map c := fun k hk => by
    apply Xe3
    ·simp; omega
    ·intro i h1 h2
     simp at h1 h2
     have hi : fs[i]? = some fs[i] := by simp
     simp [hc i _ hi]
   have hoff' : ∀ (i : Nat) (fd : Field), fs[i]? = some fd -> fd.offset = ((List.range i).map c).sum := fun i fd hi => by
    have hlt : i < fs.size := (Xba.1 hi).1
    rw [hoff i fd (by simpa using hi), htake i (by omega)]
   have hsz' : P.cellsOf t = ((List.range fs.size).map c).sum := by
    rw [hsz, <- htake fs.size (Xag _), Xa0 (by simp)]
   have hsub : ∀ i, i < fs.size -> ((List.range i).map c).sum + c i <= P.cellsOf t := fun i hi => by
    have mono : ∀ k, i + 1 <= k -> ((List.range (i + 1)).map c).sum <= ((List.range k).map c).sum := by
     intro k hk
     induction hk with
     | refl => exact Xag _
     | step _ ih =>
      refine Xbp ih ?_
      rename_i k _
      have e : ((List.range (k + 1)).map c).sum = ((List.range k).map c).sum + c k := by rw [Xem, Xda, Xe6]; simp
      show _ <= ((List.range (k + 1)).map c).sum
      rw [e]; exact Nat.le_add_right _ _
    have := mono fs.size hi
    rw [<- hsz', Xem, Xda, Xe6] at this
    simpa using this
   have hpick : ∀ i, i < fs.size -> ∃ ws : List V, ∀ fd, fs[i]? = some fd -> RL w (G0 w) φ ws ((cs.drop fd.offset).take (P.cellsOf fd.type)) /\ (∀ c ∈ ws, c.sc = true /\ c.clean = true) /\ HasT P m fd.type ws /\ wtL ws <= Rows.uptoBulk ((xs.map (·.1)).getD i .nil) := fun i hi => by
    have hfd : fs[i]? = some fs[i] := by simp [hi]
    have h1 := hel i _ hfd
    rw [Xad (by omega)] at h1
    obtain ⟨ws, q1, q2, q3, _, q5, _⟩ := ih m' fs[i].type _ _ (hte _ (by simp)) (Xam.1 hp _ (by simp)) h1
    refine ⟨ws, fun fd hfd' => ?_⟩
    rw [hfd] at hfd'; cases hfd'
    refine ⟨q1, q2, q3, ?_⟩
    simpa [List.getD, show i < xs.length by omega] using q5
   obtain ⟨f, hf⟩ := Deep.choose_lt hpick
   have hget : ∀ i, i < fs.size -> fs[i]? = some (fs.getD i default) := fun i hi => by simp [Array.getD, hi]
   have hfl : ∀ i, i < fs.size -> (f i).length = c i := fun i hi => by
    have hfd := hget i hi
    have := (hf i hi _ hfd).1.1
    simp only [Xbt, Xcj, hl] at this
    rw [hoff' i _ hfd, <- hc i _ hfd] at this
    have h2 := hsub i hi
    omega
   have hbulk : wtL ((List.range fs.size).map f).flatten + 1 <= Rows.uptoBulk (DataW.agg (xs.map (·.1))) := by
    have := Zf2 fs.size f (fun i => (xs.map (·.1)).getD i .nil) 0 fun i hi => by simpa using (hf i hi _ (hget i hi)).2.2.2
    have e1 : ((List.range fs.size).map fun i => (xs.map (·.1)).getD (0 + i) DataW.nil) = xs.map (·.1) := by
     apply Xe3
     ·simp [hxl]
     ·intro i h1 h2
      simp at h1 h2
      simp [List.getD, h2]
    rw [e1] at this
    simp only [Rows.uptoBulk]; omega
   refine ⟨((List.range fs.size).map f).flatten, RL.flatten ?_ fun i ws hi => ?_, fun c hc => ?_, ?_, by simpa [elV, ha, V.wt] using hbulk, Nat.le_of_lt hbulk, fun hh => by rw [ha] at hh; cases hh⟩
   ·have := Zqg (K := fs.size) (n := fs.size) (f := f) (c := c) (Xag _) hfl
    rw [Xa0 (by simp)] at this
    rw [this, hl, hsz']
   ·have hin : i < fs.size := by have := (Xae.1 hi).1; simpa using this
    rw [Zqg (by omega) hfl]
    simp only [Xbr, Xde hin, Xas, Xac] at hi
    subst hi
    have hfd := hget i hin
    rw [hfl i hin, <- hoff' i _ hfd, hc i _ hfd]; exact (hf i hin _ hfd).1
   ·obtain ⟨ws, hws, hc⟩ := List.mem_flatten.1 hc
    obtain ⟨i, hi, rfl⟩ := Xbb.1 hws
    exact (hf i (Xbo.1 hi) _ (hget i (Xbo.1 hi))).2.1 c hc
   ·unfold HasT
    rw [hu]
    refine ⟨(List.range fs.size).map f, by simp, fun i fd ws hfd hws => ?_, rfl⟩
    have hin : i < fs.size := (Xba.1 hfd).1
    simp only [Xbr, Xde hin, Xas, Xac] at hws
    subst hws
    exact (hf i hin fd hfd).2.2.1
  ·simp at hp
theorem Trod.rep (K : Kids P (· < P.types.size)) (hz : ∀ t e, t < P.types.size -> P.underlying t = some (.slice e) -> 0 < P.cellsOf e) {m : Nat} {t : TypeId} {v : Value} {d : DataW H} {ps : List MemPlace} {base : Nat} (ht : t < P.types.size) (hp : Zig P m t = true)
  (h : DataW.Trod enc P w 0 (fun _ => true) held t v d ps) (hval : Value.okWide P w .any base t v) :
  ∃ vs, Rep w (G0 w) φ (elV P t vs) v /\ HasT P m t vs /\ (elV P t vs).wt <= Rows.uptoBulk d /\ (elV P t vs).clean = true := by
 obtain ⟨n, h⟩ := h
 obtain ⟨vs, h1, h2, h3, h4, _, h6⟩ := Zwo (φ := φ) K hz m n t _ _ ht hp h
 refine ⟨vs, ?_, h3, h4, Zl0 fun c hc => (h2 c hc).2⟩
 unfold elV
 by_cases ha : Zdr P t = true
 ·rw [if_pos ha]
  have : ∃ cs, v = .agg cs := by
   unfold Value.okWide at hval
   unfold Zdr at ha
   split at ha
   ·rename_i hu; rw [hu] at hval; obtain ⟨cs, rfl, _⟩ := hval; exact ⟨cs, rfl⟩
   ·rename_i hu; rw [hu] at hval; obtain ⟨cs, rfl, _⟩ := hval; exact ⟨cs, rfl⟩
   ·simp at ha
  obtain ⟨cs, rfl⟩ := this
  refine .agg vs cs (by simpa [Value.cells] using h1.1) (fun c hc => (h2 c hc).1) fun i c x hc hx => h1.2 i c x hc (by simpa [Value.cells] using hx)
 ·rw [if_neg ha]
  obtain ⟨u, rfl, hu⟩ := h6 (by simpa using ha)
  have hv : v.cells.toList = [v] := by
   cases v with
   | agg cs =>
    exfalso
    unfold Value.okWide at hval
    unfold Zdr at ha
    split at hval
    ·rename_i hu; simp [hu] at ha
    ·rename_i hu; simp [hu] at ha
    ·unfold Cell.okWide Cell.ok at hval
     split at hval <;> simp_all
   | _ => rfl
  rw [hv] at h1
  exact h1.2 0 u v rfl rfl
end
theorem Zsw {H : Type} {enc : TypeId × Value -> H} {P : Program} (K : Kids P (· < P.types.size)) (hz : ∀ t e, t < P.types.size -> P.underlying t = some (.slice e) -> 0 < P.cellsOf e) {f : Func} {s : ChangeSpec} {apart fresh handsOn again : Bool} {W W' : World} {args : Array Value} {ds : List (DataW H)} {before : List MemPlace} {tb : TypeId}
  (hvars : s.vars = []) (hfn : s.fn H ds = { results := [.lit (.bool true)], args := ds }) (hrt : f.resultTypes = #[tb]) (htb : P.underlying tb = some .bool) (hpt : ∀ t ∈ f.params.toList, t < P.types.size)
  (hW : DataW.Whole enc P f.params.toList s.vars apart W args.toList ds [] before) (hB : Below W.heap.size W W') : s.post enc P f apart fresh handsOn again W args (.bool true) W' := by
 have hlt := hW.lt
 have hW0 := hW
 obtain ⟨p, q, hA, hV, rfl, hfz, hnd⟩ := hW
 rw [hvars] at hV
 have hq : q = [] := hV
 subst hq
 have carry : ∀ {ts : List TypeId} {vs : List Value} {ds : List (DataW H)} {ps : List MemPlace}, DataW.TrodAll enc P W 0 (fun _ => true) true ts vs ds ps -> (∀ p ∈ ps, p.block < W.heap.size) -> DataW.TrodAll enc P W' 0 (fun _ => true) true ts vs ds ps := by
  intro ts
  induction ts with
  | nil => intro vs ds ps h _; cases vs <;> cases ds <;> first | exact h | exact h.elim
  | cons t ts ih =>
   intro vs ds ps h hb
   cases vs with
   | nil => exact h.elim
   | cons v vs =>
    cases ds with
    | nil => exact h.elim
    | cons d ds =>
     obtain ⟨p, q, ⟨n, h1⟩, h2, rfl⟩ := h
     exact ⟨p, q, ⟨n, DataW.trod_carry n _ _ _ h1 fun x hx => hB.same (hb x (Xc7 _ hx))⟩, ih h2 fun x hx => hb x (Xea _ hx), rfl⟩
 have hA' := carry hA fun x hx => hlt x (by simpa using hx)
 have hargs : ∀ sp : Nat -> Bool, (∀ x ∈ p, sp x.block = true) -> DataW.TrodAll enc P W' 0 sp true f.params.toList args.toList ds p := fun sp hsp => hA'.respare K hz hpt hsp
 have hres : ∀ (b : Nat) (sp : Nat -> Bool) (hd : Bool), DataW.TrodAll enc P W' b sp hd f.resultTypes.toList ((Value.bool true).resultList f.resultTypes.size) [.lit (.bool true)] [] := by
  intro b sp hd
  rw [hrt]
  exact trodAll_cons_mk (shut_bool htb _) trodAll_mk0
 have hsimp : s.fn H (ds ++ []) = { results := [.lit (.bool true)], args := ds } := by rw [Xaw]; exact hfn
 have hold : ∀ x ∈ p, (fun b => decide (b < W.heap.size)) x.block = true := fun x hx => by simpa using hlt x (by simpa using hx)
 refine ⟨ds, [], p ++ [], [], p, [], hW0, by rw [hsimp]; exact hres _ _ _, by rw [hsimp]; exact hargs _ hold, by rw [hsimp, hvars]; rfl, World.keptBut_mono (fun x f => f.elim) (hB.frame fun _ => False), fun _ => ?_⟩
 refine ⟨ok_one hrt rfl (okWide_bool_mk htb _), _, [], ([] ++ p) ++ [], ⟨[] ++ p, [], trodAll_append (hargs _ (fun _ _ => rfl)) (hres _ _ _), by rw [hvars]; rfl, rfl, ?_, ?_⟩, ?_⟩
 ·intro b off hp
  have hp' : MemPlace.cell b off ∈ p := by simpa using hp
  rw [hB.frozen (p := ⟨b, off, none⟩) (hlt (.cell b off) (by simpa using hp'))]
  exact hfz b off (by simpa using hp')
 ·intro ha
  simpa using hnd ha
 ·intro x hx _
  simpa using hx
end Go.Abs
namespace Go.Abs
open Go.RowKit
structure Ctr where
 α : Type
 args : α -> List V
 res : α -> V × Bool
 ok : α -> Prop
 inj : ∀ a b, args a = args b -> res a = res b
def Ctr.Holds (cx : Cx) (f : Nat) (c : Ctr) : Prop := ∀ a, c.ok a -> PC cx f (c.args a) (c.res a)
theorem PC.of {cx : Cx} {f : FuncId} {args : List V} {r : V × Bool} (hc : Ze5 cx.P f)
  (h : ∀ W G φ xs, OKW cx W G -> RepL W G φ args xs -> Calls cx.P f xs W fun e W' => ∃ G' y, e = .returned y /\ Below W.heap.size W W' /\ (∀ b, b < W.heap.size -> G' b = G b) /\ (∀ b, W'.heap.size <= b -> G' b = 0) /\
   Rep W' G' φ r.1 y /\ (r.2 = true -> ∀ ow q, (∀ b, W.heap.size <= b -> ow b = some q) -> OwnAt W' (fun b => W.heap.size <= b) ⟨G', φ, ow⟩ q r.1 y)) : PC cx f args r := ⟨hc, h⟩
theorem PC.pure {cx : Cx} {f : FuncId} {args : List V} {v : V} (hc : Ze5 cx.P f) (h : ∀ W G φ xs, OKW cx W G -> RepL W G φ args xs -> Calls cx.P f xs W fun e W' => ∃ y, e = .returned y /\ Below W.heap.size W W' /\ ∀ W' G' , Rep W' G' φ v y) : PC cx f args (v, false) :=
 .of hc fun W G φ xs hW hxs => (h W G φ xs hW hxs).mono fun e W' ⟨y, he, hB, hr⟩ => ⟨G, y, he, hB, fun _ _ => rfl, fun b hb => hW.Gz b (Xbp hB.size hb), hr _ _, fun h => by cases h⟩
theorem PC.texts {cx : Cx} {f : FuncId} {args : List V} {l : List Bytes} (hc : Ze5 cx.P f)
  (h : ∀ W G φ xs, OKW cx W G -> RepL W G φ args xs -> Calls cx.P f xs W fun e W' => ∃ (ss : List ByteArray) (t : TypeId), ss.map (·.data.toList) = l /\ e = .returned (.slice (some ⟨W.heap.size, 0, none⟩) ss.length ss.length) /\ W' = W.alloc (.cells (ss.map Value.string).toArray t)) :
  PC cx f args (.sl false 1 (l.map .str), true) := by
 refine .of hc fun W G φ xs hW hxs => (h W G φ xs hW hxs).mono fun e W' => ?_
 rintro ⟨ss, t, rfl, rfl, rfl⟩
 have hblk : (W.alloc (.cells (ss.map Value.string).toArray t)).heap[W.heap.size]? = some (.cells (ss.map Value.string).toArray t (0, 0)) := heap_alloc_new _ _
 have hcell : ∀ k, (W.alloc (.cells (ss.map Value.string).toArray t)).cell? ⟨W.heap.size, k, none⟩ = (ss.map Value.string)[k]? := fun k => by
  rw [cell_of_row _ W.heap.size k _ t (0, 0) hblk]; simp
 refine ⟨fun b => if b = W.heap.size then ss.length else G b, _, rfl, (Below.refl _ _).alloc (Xag _) _, fun b hb => if_neg (by omega), fun b hb => ?_, ?_, fun _ ow q how sz ys b off len cap sp hv hx => ?_⟩
 ·simp at hb
  dsimp only; rw [if_neg (by omega)]; exact hW.Gz b (by omega)
 ·have := Rep.sl (W := W.alloc (.cells (ss.map Value.string).toArray t)) (G := fun b => if b = W.heap.size then ss.length else G b) (φ := φ) 1 ((ss.map (·.data.toList)).map V.str) W.heap.size 0 ss.length (fun k => .string (ss.getD k default)) (by simp) (by simp) (fun x hx => ?_) (fun k hk => ?_) (fun i x j c hi hj => ?_)
  ·simpa using this
  ·obtain ⟨s, _, rfl⟩ := Xbb.1 hx; simp
  ·simp at hk
   rw [Xan, hcell]; simp [List.getD, hk]
  ·simp only [Xdc, Xbr, Xaa] at hi
   obtain ⟨s, hs, rfl⟩ := hi
   cases j with
   | zero => simp at hj; subst hj; simp [List.getD, hs]; exact .str _ _ rfl
   | succ j => simp at hj
 ·cases hx; exact .inl rfl
theorem Zru {cx : Cx} {f : FuncId} {args : List V} {xs : Array Value} {o : Bool} (h : PC cx f args (.bool true, o)) (hr : RepL cx.w0 (G0 cx.w0) (fun _ => none) args xs) :
  Calls cx.P f xs cx.w0 fun e W' => e = .returned (.bool true) /\ Below cx.w0.heap.size cx.w0 W' := by
 refine (h.2 cx.w0 (G0 cx.w0) (fun _ => none) xs ⟨.refl _ _, fun _ _ => rfl, fun b hb => by simp [G0, Xdi hb]⟩ hr).mono fun e W' => ?_
 rintro ⟨G', y, rfl, hB, _, _, hy, _⟩
 cases hy
 exact ⟨rfl, hB⟩
end Go.Abs
