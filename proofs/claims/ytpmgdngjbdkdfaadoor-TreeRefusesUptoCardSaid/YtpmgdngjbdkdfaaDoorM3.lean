/-
  Parts of the proof, one behind the other. Own work of this seat; some printed by its programs.
-/
import Derived.Test.YtpmgdngjbdkdfaaDoorM2
namespace Go.Abs
variable {GA : Abs.Spec} {gl : Glob} {Γ : Gam} {f : Nat} {ow : Cfg} {κ : Fc} {ι : List Nat} {s : St} {S : PS V} {d : Option Nat} {g : Option (Nat × Bool)} {a : List Nat} {r : V} {k : PS V -> Option V}
theorem Zus {X : Type} (S : PS X) (t k : Nat) : (S.disown t).obj k = S.obj k := by unfold PS.disown; split <;> rfl
theorem Zfq {X : Type} (S : PS X) (t : Nat) : (S.disown t).vals = S.vals := by unfold PS.disown; split <;> rfl
theorem Zjy {v : V} (h : v.sc = true) : v.cells = [v] := by cases v <;> first | rfl | cases h
theorem Z2y (h : Sat κ S ι s) {x : Opd} {t : Nat} (hk : op1 (BV Γ f) ow d (.sto x t) S k = some r) : Res1 κ GA gl d (.sto x t) g a s k r := by
 simp only [op1] at hk
 split at hk
 ·rename_i o off y hx hy
  obtain ⟨S2, hk, h2, htm⟩ := Zs8 h hk
  have hx : S2.opd x = some (.at (.ptr o off)) := by
   have : S2.opd x = S.opd x := by cases x <;> simp only [PS.opd, PS.get, htm]
   rw [this]; exact hx
  have hy : S2.get t = some (.at y) := by simp only [PS.get, htm]; exact hy
  clear h htm
  generalize S2 = S at *
  have h := h2
  clear h2
  split at hk
  ·rename_i ss hss
   split at hk
   ·rename_i a' i hs hone
    obtain ⟨id, hid, e1⟩ := h.opd hx
    obtain ⟨id', cs, q1, q2, q3⟩ := h.cob o ss hss
    rw [hid] at q1; cases q1
    have hty : AtS ι S.vals y (s.tm t) (s.own (.slot t)) := h.tm t _ hy
    have hsc := hty.one hone
    obtain ⟨c, hc, h1, h2, h3⟩ := Zxk q3 hs
    have hlt : off < cs.length := (Xae.1 hc).1
    have hseg := (Zlt (ow' := fun j => (s.stoOb id cs off t).own (.cell id j)) (ys := [s.tm t]) (q := [.one y]) q3 hs h3 ⟨s.tm t, [], rfl, by
      show AtS ι S.vals y (s.tm t) ((s.stoOb id cs off t).own (.cell id off))
      rw [Zgo, if_pos ⟨rfl, rfl⟩]; exact hty, hsc, rfl⟩ rfl (.inl fun s' hs' => by simp at hs'; rw [hs']; rfl) (fun j hj => by
      show (s.stoOb id cs off t).own (.cell id j) = _
      rw [Zgo, if_neg (by omega)])).2
    have h4 : Sat κ ((S.disown t).setOb o (spl ss i 1 [.one y])) ι (s.stoOb id cs off t) := by
     refine (h.disown t).objUpd (s' := s.stoOb id cs off t) hid rfl (fun u => ?_) rfl (fun id' hne => ⟨by simp only [St.stoOb, upd, if_neg hne]; rfl, fun j => by rw [Zgo, if_neg (by omega), take_own, if_neg (by simp)]⟩) (by rw [Zlp, if_pos rfl]) (by rw [Zfq]; exact hseg)
     rw [Zr0, take_own]
     by_cases e : u = t
     ·rw [if_pos e, if_pos (by rw [e])]
     ·rw [if_neg e, if_neg (by simpa using e)]
    exact ⟨_, ι, (s.stoOb id cs off t).put d Nil false, hk, by rw [Z6u, e1, Ztq, q2]; simp only [Xaj]; rw [if_pos ⟨hsc, hlt⟩], h4.put d (y := .at .nil) rfl⟩
   ·cases hk
  ·cases hk
 ·cases hk
theorem Zp8 {v : V} {kd : IntKind} (h : Zwb v = some kd) : v = .int kd 0 := by
 unfold Zwb at h; split at h <;> cases h; rfl
theorem Ztm {kd : IntKind} : ∀ l : List V, l.take (zrun kd l) = List.replicate (zrun kd l) (.int kd 0) /\ zrun kd l <= l.length
 | [] => ⟨rfl, Xag _⟩
 | v :: r => by
  simp only [zrun]
  split
  ·rename_i j hj
   split
   ·rename_i he
    have := of_decide_eq_true he
    subst this
    obtain ⟨h1, h2⟩ := Ztm (kd := j) r
    rw [Xct, h1, Zp8 hj]
    exact ⟨rfl, by simp; omega⟩
   ·exact ⟨rfl, Xb2 _⟩
  ·exact ⟨rfl, Xb2 _⟩
theorem Zl2 {vs : List V} {ow' : Nat -> Bool} : ∀ {m : Nat} {z : List V} {ss : List Seg} {j : Nat}, grp m z = some ss -> SegsS ι vs ss z ow' j /\ Zh5 ss
 | 0, _, _, _, h => by cases h
 | _ + 1, [], _, _, h => by cases h; exact ⟨rfl, fun _ h => by cases h⟩
 | m + 1, v :: z, ss, j, h => by
  have one : ∀ {at' : At} {q : List Seg}, v.sc = true -> (∀ o, AtS ι vs at' v o) -> (grp m z = some q) -> SegsS ι vs (.one at' :: q) (v :: z) ow' j /\ Zh5 (.one at' :: q) := by
   intro at' q hsc ha hq
   obtain ⟨h1, h2⟩ := Zl2 (j := j + 1) hq
   exact ⟨⟨v, z, rfl, ha _, hsc, h1⟩, fun s' hs' => (Xay.1 hs').elim (fun e => by rw [e]; rfl) (fun hs' => h2 s' hs')⟩
  simp only [grp] at h
  split at h
  ·rename_i kd hk
   have hv := Zp8 hk
   split at h
   ·simp only [Xaa] at h
    obtain ⟨q, hq, rfl⟩ := h
    obtain ⟨h1, h2⟩ := Ztm (kd := kd) z
    obtain ⟨h3, h4⟩ := Zl2 (j := j + (zrun kd z + 1)) hq
    have hl : (v :: z.take (zrun kd z)) = List.replicate (zrun kd z + 1) (.int kd 0) := by rw [h1, hv]; rfl
    refine ⟨⟨v :: z.take (zrun kd z), z.drop (zrun kd z), .agg (repl (zrun kd z + 1) (.int kd 0)), by simp, fun m' hm' => by (cases hm'; simp; omega), fun h => by (cases h), ?_, ⟨rfl, ?_⟩, ?_, ?_⟩, fun s' hs' => ?_⟩
    ·rw [hl, Xam]; intro x hx; rw [(Xci.1 hx).2]; rfl
    ·show Zab (List.replicate _ _) = true
     exact Zag.2 fun x hx => by rw [(Xci.1 hx).2]; rfl
    ·rw [hl, Zb1, Xet]; rfl
    ·have : (v :: z.take (zrun kd z)).length = zrun kd z + 1 := by simp; omega
     rw [this]; exact h3
    ·rcases Xay.1 hs' with rfl | hs'
     ·rfl
     ·exact h4 s' hs'
   ·simp only [Xaa] at h
    obtain ⟨q, hq, rfl⟩ := h
    subst hv
    exact one rfl (fun o => ⟨rfl, rfl, fun h => nomatch h⟩) hq
  ·split at h
   ·rename_i a' hsc ha
    simp only [Xaa] at h
    obtain ⟨q, hq, rfl⟩ := h
    exact one hsc (fun o => Zjb ha o vs) hq
   ·cases h
theorem Zt6 (h : Sat κ S ι s) {x : Opd} {at' : At} (hx : Zmm (S.opd x) = some at') : (at'.isVal = true -> AtV S.vals at' (evO s.tm x).nf) /\ (((at'.isVal = true \/ at'.one = true) /\ S.opd x = some (.at at')) \/ ∃ z, at' = .n z false false) := by
 unfold Zmm at hx
 split at hx
 ·rename_i b e
  split at hx
  ·rename_i hv
   cases hx
   have := h.opd e
   refine ⟨fun hv => ?_, .inl ⟨by simpa using hv, e⟩⟩
   cases at' <;> simp [At.isVal] at hv
   ·exact ⟨this.1.symm, this.2.1⟩
   ·exact this.1
  ·cases hx
 ·rename_i ss z e
  cases hx
  exact ⟨fun _ => (h.opd e).2 z rfl, .inr ⟨z, rfl⟩⟩
 ·cases hx
theorem Zi7 (h : Sat κ S ι s) {x : Opd} {at' : At} (hx : Zmm (S.opd x) = some at') {n : Nat} (hn : (evO s.tm x).cells.length = n) (hsc : (evO s.tm x).cells.all V.sc = true) (h1 : n = 1 -> (evO s.tm x).sc = true) (j : Nat) (ow' : Nat -> Bool) :
  SegsS ι S.vals [Zfm n at'] (evO s.tm x).cells ow' j /\ Zh5 [Zfm n at'] := by
 obtain ⟨hv, hc⟩ := Zt6 h hx
 by_cases e : n = 1
 ·subst e
  have hs := h1 rfl
  rw [Zjy hs]
  refine ⟨⟨evO s.tm x, [], rfl, ?_, hs, rfl⟩, fun s' hs' => by simp at hs'; rw [hs']; rfl⟩
  rcases hc with ⟨_, e2⟩ | ⟨z, rfl⟩
  ·exact AtS.noOwn (h.opd e2) _
  ·exact ⟨hv rfl, fun h => (nomatch h), fun h => (nomatch h)⟩
 ·have e2 : Zfm n at' = .many (some n) at'.plain := by unfold Zfm; split <;> first | rfl | exact absurd rfl e
  have hval : at'.isVal = true := by
   rcases hc with ⟨hv | ho, e3⟩ | ⟨z, rfl⟩
   ·exact hv
   ·have := AtS.one (h.opd e3) ho
    rw [Zjy this] at hn
    exact absurd hn.symm e
   ·rfl
  have hv := hv hval
  rw [e2]
  refine ⟨⟨(evO s.tm x).cells, [], (evO s.tm x).nf, by simp, fun m hm => by (cases hm; exact hn), fun h => by (cases h), hsc, ?_, by rw [Zbj], rfl⟩, fun s' hs' => by simp at hs'; rw [hs']; rfl⟩
  cases at' <;> first | exact hv | exact hv.elim
def Zk8 (tm : Nat -> V) (ps : List (Nat × Nat × Opd)) : Prop := ∀ p ∈ ps, (evO tm p.2.2).cells.length = p.2.1 /\ (evO tm p.2.2).cells.all V.sc = true /\ (p.2.1 = 1 -> (evO tm p.2.2).sc = true)
theorem Zir {tm : Nat -> V} : ∀ {ps : List (Nat × Nat × Opd)} {l : List V}, catV (ps.map fun p => Ziv p.2.1) (nfL ((ps.map (·.2.2)).map (evO tm))) = some l -> Zk8 tm ps /\ l = nfL ((ps.map fun p => (evO tm p.2.2).cells).flatten)
 | [], l, h => by cases h; exact ⟨fun _ h => (by cases h), rfl⟩
 | p :: ps, l, h => by
  simp only [Xal, nfL] at h
  by_cases e : p.2.1 = 1
  ·rw [show Ziv p.2.1 = none by rw [e]; rfl] at h
   simp only [catV] at h
   split at h
   ·rename_i hsc
    rw [Zne] at hsc
    simp only [Xaa] at h
    obtain ⟨m, hm, rfl⟩ := h
    obtain ⟨h1, rfl⟩ := Zir hm
    refine ⟨fun q hq => ?_, ?_⟩
    ·rcases Xay.1 hq with rfl | hq
     ·rw [Zjy hsc]; exact ⟨by rw [e]; rfl, by simp [hsc], fun _ => hsc⟩
     ·exact h1 q hq
    ·rw [Xal, Xce, Zbo, Zjy hsc]; rfl
   ·cases h
  ·rw [show Ziv p.2.1 = some p.2.1 by unfold Ziv; split <;> first | rfl | (exact absurd (by assumption) e)] at h
   simp only [catV] at h
   split at h
   ·rename_i hc
    rw [Zbj, Zaj, Zen] at hc
    simp only [Xaa] at h
    obtain ⟨m, hm, rfl⟩ := h
    obtain ⟨h1, rfl⟩ := Zir hm
    refine ⟨fun q hq => ?_, ?_⟩
    ·rcases Xay.1 hq with rfl | hq
     ·exact ⟨hc.1, hc.2, fun h => absurd h e⟩
     ·exact h1 q hq
    ·rw [Xal, Xce, Zbo, Zbj]
   ·cases h
theorem Zgy {X : Type} {S : PS X} {p : Nat × Nat × Opd} {ps : List (Nat × Nat × Opd)} {ats : List At} (h : Zdd S (p :: ps) = some ats) : ∃ x l, ats = x :: l /\ Zmm (S.opd p.2.2) = some x /\ Zdd S ps = some l := by
 simp only [Zdd] at h
 split at h
 ·rename_i x l h1 h2; cases h; exact ⟨x, l, rfl, h1, h2⟩
 ·cases h
theorem Zt2 (h : Sat κ S ι s) : ∀ {ps : List (Nat × Nat × Opd)} {ats : List At} {pre rest : List V} {e : Nat}, Zk8 s.tm ps -> Zdd S ps = some ats -> Zkt pre.length ps = some e -> e = pre.length + rest.length ->
  Zit (pre ++ rest) (ps.map fun p => (p.1, p.2.1, evO s.tm p.2.2)) = some (pre ++ (ps.map fun p => (evO s.tm p.2.2).cells).flatten) /\ SegsS ι S.vals (Zf7 ps ats) ((ps.map fun p => (evO s.tm p.2.2).cells).flatten) (fun _ => false) 0
 | [], ats, pre, rest, e, _, _, he, hr => by
  simp only [Zkt, Xac] at he
  have : rest = [] := Xa7 (by omega)
  subst this
  exact ⟨rfl, by cases ats <;> rfl⟩
 | p :: ps, ats, pre, rest, e, hp, ha, he, hr => by
  obtain ⟨x, l, rfl, h1, h2⟩ := Zgy ha
  simp only [Zkt] at he
  split at he
  ·rename_i hb
   have hoff := Xaf hb
   obtain ⟨q1, q2, q3⟩ := hp p (by simp)
   have mono : ∀ {ps : List (Nat × Nat × Opd)} {o e : Nat}, Zkt o ps = some e -> o <= e := by
    intro ps
    induction ps with
    | nil => intro o e h; simp [Zkt] at h; omega
    | cons p ps ih =>
     intro o e h
     simp only [Zkt] at h
     split at h
     ·have := ih h; omega
     ·cases h
   have hle := mono he
   have hrl : p.2.1 <= rest.length := by omega
   obtain ⟨g1, g2⟩ := Zt2 h (ps := ps) (ats := l) (pre := pre ++ (evO s.tm p.2.2).cells) (rest := rest.drop p.2.1) (e := e) (fun q hq => hp q (by simp [hq])) h2 (by rw [Xai, q1]; exact he) (by simp; omega)
   obtain ⟨g3, g4⟩ := Zi7 h h1 q1 q2 q3 0 (fun _ => false)
   refine ⟨?_, ?_⟩
   ·simp only [Xal, Zj2]
    rw [if_pos ⟨q1, q2, by simp; omega⟩, hoff]
    have hset : Zao (pre ++ rest) pre.length (evO s.tm p.2.2).cells = (pre ++ (evO s.tm p.2.2).cells) ++ rest.drop p.2.1 := by
     simp only [Zao, Xd1, q1]
     rw [Xcr, Xat (by omega)]
     simp
    rw [hset, g1]; simp
   ·simp only [Zf7, Xal, Xce]
    exact SegsS.app (p := [Zfm p.2.1 x]) (.inl g4) g3 (g2.shift fun i hi => rfl)
  ·cases he
theorem Zoj (h : Sat κ S ι s) : ∀ {ps : List (Nat × Nat × Opd)} {ats : List At} {ss q : List Seg} {z : List V}, Zk8 s.tm ps -> Zdd S ps = some ats -> SegsS ι S.vals ss z (fun _ => false) 0 -> Zqt ss ps ats = some q ->
  ∃ cs, Zit z (ps.map fun p => (p.1, p.2.1, evO s.tm p.2.2)) = some cs /\ SegsS ι S.vals q cs (fun _ => false) 0
 | [], ats, ss, q, z, _, _, hs, hq => by
  simp only [Zqt, Xac] at hq
  subst hq
  exact ⟨z, rfl, hs⟩
 | p :: ps, ats, ss, q, z, hp, ha, hs, hq => by
  obtain ⟨x, l, rfl, h1, h2⟩ := Zgy ha
  simp only [Zqt] at hq
  split at hq
  ·rename_i sg i hsg
   split at hq
   ·rename_i m hm
    obtain ⟨q1, q2, q3⟩ := hp p (by simp)
    obtain ⟨g3, g4⟩ := Zi7 h h1 q1 q2 q3 p.1 (fun _ => false)
    obtain ⟨g5, g6⟩ := Zlt (ow' := fun _ => false) (ys := (evO s.tm p.2.2).cells) hs hsg hm g3 q1 (.inl g4) (fun _ _ => rfl)
    obtain ⟨cs, g7, g8⟩ := Zoj h (fun q hq => hp q (by simp [hq])) h2 g6 hq
    exact ⟨cs, by simp only [Xal, Zj2]; rw [if_pos ⟨q1, q2, g5⟩]; exact g7, g8⟩
   ·cases hq
  ·cases hq
theorem Zwc (h : Sat κ S ι s) {z : List V} {ps : List (Nat × Nat × Opd)} (hk : op1 (BV Γ f) ow d (.build z ps) S k = some r) : Res1 κ GA gl d (.build z ps) g a s k r := by
 simp only [op1, bldP] at hk
 split at hk
 ·rename_i ats hats
  split at hk
  ·unfold bldR at hk
   split at hk
   ·rename_i hall
    have hp : Zk8 s.tm ps := by
     intro p hp
     simp only [Zx7, Xam, Xah] at hall
     obtain ⟨q1, q2⟩ := hall p hp
     have q1 := Xaf q1
     split at q2
     ·rename_i a' ha'
      have hsc := AtS.one (h.opd ha') q2
      rw [Zjy hsc, q1]
      exact ⟨rfl, by simp [hsc], fun _ => hsc⟩
     ·cases q2
    split at hk
    ·rename_i hm
     split at hm
     ·rename_i e he
      have hb := Xaf hm
      obtain ⟨g1, g2⟩ := Zt2 h (pre := []) (rest := z) hp hats he (by simp [hb])
      simp only [Xbg] at g1
      refine ⟨_, ι, _, hk, by rw [Zk7, g1]; rfl, h.put d (v := .agg ((ps.map fun p => (evO s.tm p.2.2).cells).flatten)) (o := false) ⟨⟨_, rfl, g2⟩, fun i hi => ?_⟩⟩
      cases hi
     ·cases hm
    ·split at hk
     ·rename_i ss hss
      split at hk
      ·rename_i q hq
       obtain ⟨cs, g1, g2⟩ := Zoj h hp hats (Zl2 hss).1 hq
       refine ⟨_, ι, _, hk, by rw [Zk7, g1]; rfl, h.put d (v := .agg cs) (o := false) ⟨⟨_, rfl, g2⟩, fun i hi => ?_⟩⟩
       cases hi
      ·cases hk
     ·cases hk
   ·cases hk
  ·
   obtain ⟨ys, S1, h1, h2, h3, h4, h5⟩ := h.matL hk
   simp only [BV, evp, Xab, Xaa] at h1
   obtain ⟨y, ⟨l, hl, rfl⟩, h1⟩ := h1
   rw [<- h4] at hl
   obtain ⟨hp, rfl⟩ := Zir hl
   have hats1 : Zdd S1 ps = some ats := by
    have : ∀ {ps : List (Nat × Nat × Opd)}, Zdd S1 ps = Zdd S ps := by
     intro ps
     induction ps with
     | nil => rfl
     | cons p ps ih => simp only [Zdd, ih, h3.opd]
    rw [this]; exact hats
   have hcl : (V.agg (nfL ((ps.map fun p => (evO s.tm p.2.2).cells).flatten))).clean = true := Zev hl (by rw [h4]; exact h5)
   split at h1
   ·rename_i hm
    split at hm
    ·rename_i e he
     have hb := Xaf hm
     obtain ⟨g1, g2⟩ := Zt2 h2 (pre := []) (rest := z) hp hats1 he (by simp [hb])
     simp only [Xbg] at g1
     refine ⟨_, ι, _, h1, by rw [Zk7, g1]; rfl, (h2.push hcl).put d (v := .agg ((ps.map fun p => (evO s.tm p.2.2).cells).flatten)) (o := false) ⟨⟨_, rfl, g2.mono (.refl _) (Ext.push S1 _).pre⟩, fun i hi => ?_⟩⟩
     cases hi; rw [Zam]; rfl
    ·cases hm
   ·split at h1
    ·rename_i ss hss
     split at h1
     ·rename_i q hq
      split at h1
      ·rename_i ns xs hsv
       simp only [BV, evp, Xab, Xaa] at h1
       obtain ⟨y, ⟨l, hl', rfl⟩, h1⟩ := h1
       obtain ⟨cs, g1, g2⟩ := Zoj h2 hp hats1 (Zl2 hss).1 hq
       have h6 := h2.push hcl
       have g3 := g2.mono (PreN.refl ι) (Ext.push S1 (V.agg (nfL ((ps.map fun p => (evO s.tm p.2.2).cells).flatten)))).pre
       obtain ⟨rfl, hc⟩ := h6.segVals g3 hsv hl'
       refine ⟨_, ι, _, h1, by rw [Zk7, g1]; rfl, (h6.push (x := .agg (nfL cs)) (Zev hl' hc)).put d (v := .agg cs) (o := false) ⟨⟨_, rfl, g3.mono (.refl _) (Ext.push _ _).pre⟩, fun i hi => ?_⟩⟩
       cases hi; rw [Zam]; rfl
      ·cases h1
     ·cases h1
    ·cases h1
 ·cases hk
theorem Sat.disown' (h : Sat κ S ι s) (t : Nat) : Sat κ (S.disown t) ι s where
 tm u y hy := by
  rw [Zfq]
  unfold PS.disown at hy
  split at hy
  ·rename_i z hz
   simp only [PS.get, Zcg] at hy
   split at hy
   ·rename_i e; subst e; cases hy; exact (h.tm _ _ hz).noOwn _
   ·exact h.tm u y hy
  ·exact h.tm u y hy
 ob k ss hk := by rw [Zus] at hk; rw [Zfq]; exact h.ob k ss hk
 nd := h.nd
 lt := h.lt
 len := (h.disown t).len
 lits := (h.disown t).lits
 cln := (h.disown t).cln
 g := (h.disown t).g
 pre := h.pre
 new := (h.disown t).new
 nH := h.nH
 fr := h.fr
theorem Zpt {H : Hp} {sz : Nat} {x : V} {ys : List V} (hc : x.nf.clean = true) (h : Zbn noH sz x.nf = some ys) : ∃ zs, Zbn H sz x = some zs /\ nfL zs = ys /\ Zab ys = true := by
 unfold Zbn at h
 split at h
 ·rename_i b s' l e
  obtain ⟨_, nl, rs, rfl, rfl, hn⟩ := Zf0 e
  rw [e] at hc
  split at h
  ·rename_i hs
   cases h
   refine ⟨rs, ?_, rfl, hc⟩
   have : s' = sz \/ rs = [] := by
    rcases hs with hs | hs
    ·exact .inl hs
    ·right; cases rs <;> first | rfl | cases hs
   simp only [Zbn]; rw [if_pos this]
  ·cases h
 ·rename_i b e
  rw [Zdy e]
  split at h
  ·rename_i hs
   cases h
   exact ⟨encB b, by subst hs; rw [Zsn], Zks b, Zeu b⟩
  ·cases h
 ·rename_i e
  rw [e] at hc; simp [V.clean] at hc
 ·cases h
theorem Z01 (h : Sat κ S ι s) {sz : Nat} {x y : Opd} (hk : op1 (BV Γ f) ow d (.app sz x y) S k = some r) : Res1 κ GA gl d (.app sz x y) g a s k r := by
 simp only [op1] at hk
 split at hk
 ·rename_i a' hx
  split at hk
  ·rename_i ho
   obtain ⟨ys, S1, h1, h2, h3, h4, h5⟩ := h.matL hk
   simp only [doX, BV, Xab] at h1
   obtain ⟨z, hz, h1⟩ := h1
   subst h4
   simp only [Xal, Xa8, nfL, evp, Zw1] at hz
   simp only [Xal, Xa8, nfL, Zab, Xah, Xcf] at h5
   have hown : Own (evO s.tm x) (ownO s.own x) := AtS.owned (h.opd hx) ho
   split at hz
   ·rename_i b s' xs zs e1 e2
    obtain ⟨_, nl, rs, e3, rfl, hn⟩ := Zf0 e1
    obtain ⟨ws, e4, rfl, e5⟩ := Zpt (H := s.H) h5.2 e2
    have hcx : Zab (nfL rs) = true := by rw [e1] at h5; exact h5.1
    split at hz
    ·rename_i hc
     obtain ⟨hc, rfl⟩ := hc
     cases hz
     rw [Zaj, Zaj] at hc
     have hcl : (V.sl false s' (nfL rs ++ nfL ws)).clean = true := Za9 hcx e5
     cases nl with
     | true =>
      obtain rfl := hn rfl
      refine ⟨_, ι, s.put d (.sl ws.isEmpty s' ws) true, h1, ?_, ?_⟩
      ·rw [Z17, e3]
       have : ws.length <= Lim := by simpa using hc
       rw [Zvo, e4]; simp [this]
      ·have hv : (V.sl ws.isEmpty s' ws).nf = .sl false s' (nfL [] ++ nfL ws) := by
        rw [Z1s (by simp)]; simp [nfL]
       cases x with
       | const v => exact h2.putN hv hcl (fun _ => .inl rfl) (fun _ => rfl)
       | tmp t => exact (h2.disown' t).putN hv hcl (fun _ => .inl rfl) (fun _ => rfl)
     | false =>
      have ho' : ownO s.own x = true := by
       rcases hown with h | ⟨z, h⟩
       ·exact h
       ·rw [e3] at h; cases h
      cases x with
      | const v => cases ho'
      | tmp t =>
       refine ⟨_, ι, (s.take (some (.slot t))).put d (.sl false s' (rs ++ ws)) true, h1, ?_, ?_⟩
       ·rw [Z17, e3, ho', Zyc, e4]
        simp [hc]
       ·exact (h2.disown t).putN (by show V.sl false s' (nfL (rs ++ ws)) = _; rw [Zbo]) hcl (fun _ => .inl rfl) (fun _ => rfl)
    ·cases hz
   ·cases hz
  ·cases hk
 ·cases hk
theorem Z3v (h : Sat κ S ι s) {x : Opd} (hk : op1 (BV Γ f) ow d (.b2s x) S k = some r) : Res1 κ GA gl d (.b2s x) g a s k r := by
 simp only [op1] at hk
 split at hk
 ·rename_i o j hx
  split at hk
  ·rename_i w n hw hn
   obtain ⟨id, m, cap, hid, e2, e3, e1, _⟩ := h.opd hx
   rw [hn] at e2; cases e2
   obtain ⟨cs, q1, q2, q3, q4⟩ := Zlg h hid hw
   simp only [doX, BV, Xab] at hk
   obtain ⟨z, hz, h1⟩ := hk
   simp only [evp] at hz
   unfold Z2d at hz
   simp only at hz
   split at hz
   ·rename_i hle
    simp only [Xaa] at hz
    obtain ⟨b, hb, rfl⟩ := hz
    rw [<- q2, <- Zb5] at hb
    rw [<- q2, Zaj] at hle
    refine ⟨_, ι, s.put d (.str b) false, h1, ?_, h.putN rfl rfl (fun h => nomatch h) (fun _ => rfl)⟩
    have hb' := Zdv hb
    rw [Zyt, e1]
    simp only [vB2s, q1, Xaj, Xbc]
    by_cases h0 : m.toNat = 0
    ·rw [if_pos h0]
     rw [h0, Xcd] at hb'
     cases hb'; rfl
    ·rw [if_neg h0, if_pos (by omega), hb']; rfl
   ·cases hz
  ·cases hk
 ·rename_i o off n cap hx
  split at hk
  ·rename_i ss hss
   split at hk
   ·rename_i sn a' q i hs
    obtain ⟨id, hid, e1⟩ := h.opd hx
    obtain ⟨id', cs, q1, q2, q3⟩ := h.cob o ss hss
    rw [hid] at q1; cases q1
    obtain ⟨p, q', cp, cg, cq, e1', e2, e3, e4, e5, e6, e7, e8, e9⟩ := Zbd q3 hs
    obtain ⟨l, cs', w, f1, f2, f3, f4, f5, f6, f7⟩ := e7
    rw [show cs' = [] from f7, Xaw] at f1
    subst f1; subst e3
    obtain ⟨h1, h2⟩ := h.matV f5 hk
    simp only [doX, BV, Xab] at h1
    obtain ⟨z, hz, h1⟩ := h1
    simp only [evp, Zv6, <- f6, Zaj] at hz
    split at hz
    ·rename_i hle
     simp only [Xaa] at hz
     obtain ⟨b, hb, rfl⟩ := hz
     rw [<- Zc7, <- Zb5] at hb
     refine ⟨_, ι, s.put d (.str b) false, h1, ?_, h.putN rfl rfl (fun h => nomatch h) (fun _ => rfl)⟩
     rw [Zyt, e1]
     simp only [vB2s, q2, Xaj]
     by_cases h0 : n = 0
     ·rw [if_pos h0]
      have hb' := Zdv hb
      rw [h0, Xcd] at hb'
      cases hb'; rfl
     rw [if_neg h0, if_pos (by simp; omega), e4]
     have : ((cp ++ (cg ++ cq)).drop (cp.length + q)).take n = (cg.drop q).take n := by
      rw [Xcr, Xat (by omega), show cp.length + q - cp.length = q by omega, Xbg, Xb5 (by omega), Xck (by simp; omega)]
     rw [this, Zdv hb]; rfl
    ·cases hz
   ·cases hk
  ·cases hk
 ·exact Za8 h rfl hk
theorem Z3z (h : Sat κ S ι s) {sz : Nat} {x : Opd} {lo hi mx : Option Opd} (hk : op1 (BV Γ f) ow d (.slc sz x lo hi mx) S k = some r) : Res1 κ GA gl d (.slc sz x lo hi mx) g a s k r := by
 simp only [op1] at hk
 split at hk
 ·rename_i o i j s' hx
  split at hk
  ·rename_i lo' va vb hs ha hb
   obtain rfl := Xaf hs
   obtain ⟨id, p, q, cap, hid, e2, e3, e4, e5, e1, e6⟩ := h.opd hx
   rw [ha] at e2; cases e2
   rw [hb] at e3; cases e3
   obtain ⟨ys, S1, h1, h2, h3, h4, h5⟩ := h.matL hk
   simp only [BV, Xab] at h1
   obtain ⟨z, hz, h1⟩ := h1
   obtain ⟨kd, m, e7, rfl, h6, h7, h8⟩ := Zhj h4 hz
   refine ⟨_, ι, _, h1, ?_, (h2.push (x := .int .i64 (p + m)) rfl).put d (v := .osl id ((p + m).toNat * s') (q.toNat - (p + m).toNat) (cap - m.toNat) s') (o := false) ⟨id, p + m, q, cap - m.toNat, hid, Zam _ _, (h3.pre.trans (Ext.push S1 (.int .i64 (p + m))).pre) _ _ hb, by omega, h8, rfl, by omega⟩⟩
   rw [Znh, e1]
   have r1 : (p + m).toNat = p.toNat + m.toNat := by omega
   simp only [Xdr, Xas, e7, vSlc, vOpt, cut3, Xcc, Xbz, Xbx, Xaq, false_implies, and_true]
   rw [if_pos trivial, if_pos (by omega)]
   simp only [Xas, r1, Xb9, Xbe]
   rw [show q.toNat - (p.toNat + m.toNat) = q.toNat - p.toNat - m.toNat by omega]
   simp [putR, St.take]
  ·rename_i hi' va vb hs ha hb
   obtain rfl := Xaf hs
   obtain ⟨id, p, q, cap, hid, e2, e3, e4, e5, e1, e6⟩ := h.opd hx
   rw [ha] at e2; cases e2
   rw [hb] at e3; cases e3
   obtain ⟨ys, S1, h1, h2, h3, h4, h5⟩ := h.matL hk
   simp only [BV, Xab] at h1
   obtain ⟨z, hz, h1⟩ := h1
   obtain ⟨kd, m, e7, rfl, h6, h7, h8⟩ := Zhj h4 hz
   refine ⟨_, ι, _, h1, ?_, (h2.push (x := .int .i64 (p + m)) rfl).put d (v := .osl id (p.toNat * s') ((p + m).toNat - p.toNat) cap s') (o := false) ⟨id, p, p + m, cap, hid, (h3.pre.trans (Ext.push S1 (.int .i64 (p + m))).pre) _ _ ha, Zam _ _, e4, by omega, rfl, by omega⟩⟩
   rw [Znh, e1]
   have r1 : (p + m).toNat - p.toNat = m.toNat := by omega
   simp only [Xdr, Xas, e7, vSlc, vOpt, cut3, Xcc, Xbz, Xbx, Xaq, false_implies, and_true]
   rw [if_pos trivial, if_pos (by omega)]
   simp only [Xas, r1, Xbe]
   simp [putR, St.take]
  ·cases hk
 ·rename_i o j s' hx
  split at hk
  ·rename_i lo' n hs hn
   split at hk
   rotate_left
   ·obtain rfl := Xaf hs
    obtain ⟨id, q, cap, hid, e2, e3, e1, e4⟩ := h.opd hx
    rw [hn] at e2; cases e2
    obtain ⟨ys, S1, h1, h2, h3, h4, h5⟩ := h.matL hk
    simp only [BV, Xab] at h1
    obtain ⟨z, hz, h1⟩ := h1
    obtain ⟨kd, m, e7, rfl, h6, h7, h8⟩ := Zhj h4 hz
    refine ⟨_, ι, _, h1, ?_, (h2.push (x := .int .i64 (0 + m)) rfl).put d (v := .osl id ((0 + m).toNat * s') (q.toNat - (0 + m).toNat) (cap - m.toNat) s') (o := false) ⟨id, 0 + m, q, cap - m.toNat, hid, Zam _ _, (h3.pre.trans (Ext.push S1 (.int .i64 (0 + m))).pre) _ _ hn, by omega, h8, rfl, by omega⟩⟩
    rw [Znh, e1]
    have r1 : (0 + m).toNat = m.toNat := by omega
    simp only [Xdr, Xas, e7, vSlc, vOpt, cut3, Xcc, Xbz, Xbx, Xaq, false_implies, and_true]
    rw [if_pos trivial, if_pos (by omega)]
    simp only [Xas, r1, Xan, Xbe]
    simp [putR, St.take]
   obtain rfl := Xaf hs
   obtain ⟨id, m, cap, hid, e2, e3, e1, e4⟩ := h.opd hx
   rw [hn] at e2; cases e2
   obtain ⟨ys, S1, h1, h2, h3, h4, h5⟩ := h.matL hk
   simp only [BV, Xab] at h1
   obtain ⟨q, hq, h1⟩ := h1
   obtain ⟨kd, p, e5, rfl, h6, h7⟩ := Zmc h4 hq
   refine ⟨_, ι, _, h1, ?_, (h2.push (x := .int kd p) rfl).put d (v := .osl id (p.toNat * s') (m.toNat - p.toNat) (cap - p.toNat) s') (o := false) ⟨id, m, kd, p, cap - p.toNat, hid, (h3.pre.trans (Ext.push S1 (.int kd p)).pre) _ _ hn, Zam _ _, h6, h7, rfl⟩⟩
   rw [Znh, e1]
   simp only [Xdr, Xas, e5, vSlc, vOpt, cut3, Xcc, Xbz, Xbx, Xaq, false_implies, and_true]
   rw [if_pos trivial, if_pos (by omega)]
   simp only [Xas]
   simp [putR, St.take, Int.max_eq_left e3]
  ·rename_i hi' n hs hn
   obtain rfl := Xaf hs
   obtain ⟨id, m, cap, hid, e2, e3, e1, e4⟩ := h.opd hx
   rw [hn] at e2; cases e2
   obtain ⟨ys, S1, h1, h2, h3, h4, h5⟩ := h.matL hk
   simp only [BV, Xab] at h1
   obtain ⟨q, hq, h1⟩ := h1
   obtain ⟨kd, p, e5, rfl, h6, h7⟩ := Ztj h4 hq
   refine ⟨_, ι, _, h1, ?_, (h2.push (x := .int .i64 p) rfl).put d (v := .osl id 0 p.toNat cap s') (o := false) ⟨id, p, cap, hid, Zam _ _, h6, rfl, by omega⟩⟩
   rw [Znh, e1]
   simp only [Xdr, Xas, e5, vSlc, vOpt, cut3, Xcc, Xbz, Xbx, Xaq, false_implies, and_true]
   rw [if_pos trivial, if_pos (by omega)]
   simp [putR, St.take]
  ·cases hk
 ·rename_i o off n c sz' hx
  split at hk
  ·rename_i l hb
   simp only [Xah] at hb
   obtain rfl := Xaf hb.1
   have hnc : n <= c := Xa2 hb.2
   obtain ⟨id, hid, e1⟩ := h.opd hx
   obtain ⟨ys, S1, h1, h2, h3, h4, h5⟩ := h.matL hk
   simp only [BV, Xab] at h1
   obtain ⟨q, hq, h1⟩ := h1
   obtain ⟨kd, p, e5, rfl, h6, h7⟩ := Zhh h4 hq
   refine ⟨_, ι, _, h1, ?_, (h2.push (x := .int kd p) rfl).put d (v := .osl id (off + p.toNat * sz') (n - p.toNat) (c - p.toNat) sz') (o := false) ⟨id, kd, p, c - p.toNat, hid, Zam _ _, h6, h7, rfl⟩⟩
   rw [Znh, e1]
   simp only [Xdr, Xas, e5, vSlc, vOpt, cut3, Xcc, Xbz, Xbx, Xaq, false_implies, and_true]
   rw [if_pos trivial, if_pos (by omega)]
   simp only [Xas]
   simp [putR, St.take]
  ·cases hk
 ·exact Za8 h rfl hk
theorem Z1o (h : Sat κ S ι s) {sz : Nat} (hk : op1 (BV Γ f) ow d (.nro sz) S k = some r) : Res1 κ GA gl d (.nro sz) g a s k r := by
 simp only [op1] at hk
 have h1 := h.push (x := .int .i64 0) rfl
 have h2 := h1.newOb (ss := [.many none (.c (.agg []) false)]) (cs := []) ⟨[], [], .agg [], rfl, fun m hm => (by cases hm), fun _ => rfl, rfl, ⟨rfl, rfl⟩, rfl, rfl⟩
 refine ⟨_, _, _, hk, Z48 sz, h2.1.put d (v := .osl s.nH 0 0 0 sz) (o := false) ⟨s.nH, 0, 0, h2.2, Zam S _, Xfb _, rfl, Xag _⟩⟩
theorem Zhd {v : V} (h : v.flatR = true) : v.nf = v /\ v.clean = true /\ v.sc = true := by cases v <;> simp [V.flatR] at h <;> exact ⟨rfl, rfl, rfl⟩
theorem Zd7 {v : V} (h : v.flatR = true) (n : Nat) : nfL (List.replicate n v) = List.replicate n v /\ Zab (List.replicate n v) = true /\ (List.replicate n v).all V.sc = true := by
 obtain ⟨h1, h2, h3⟩ := Zhd h
 induction n with
 | zero => exact ⟨rfl, rfl, rfl⟩
 | succ n ih =>
  simp only [Xdd, nfL, Zab, Xcu, h1, h2, h3, ih.1, ih.2.1, ih.2.2, Xb3, and_self]
theorem Z2o (h : Sat κ S ι s) {sz : Nat} {z : List V} {l c : Opd} (hk : op1 (BV Γ f) ow d (.mko sz z l c) S k = some r) : Res1 κ GA gl d (.mko sz z l c) g a s k r := by
 simp only [op1] at hk
 split at hk
 ·rename_i z0
  split at hk
  ·rename_i hfl
   obtain ⟨ys, S1, h1, h2, h3, h4, h5⟩ := h.matL hk
   subst h4
   simp only [Xal, Xa8, nfL, BV, Xab] at h1
   obtain ⟨y, hy, m, hm, h1⟩ := h1
   simp only [evp] at hy hm
   unfold vRmk at hy
   split at hy
   ·rename_i kn n kc cc e1 e2
    split at hy
    ·rename_i hc
     cases hy
     rw [e1] at hm
     simp only [Zkf, Zbn, true_or, if_true, Xaj, Xa5] at hm
     rw [if_pos hc.1] at hm
     cases hm
     obtain ⟨r1, r2, r3⟩ := Zd7 hfl n.toNat
     have hcl : (V.agg (List.replicate n.toNat z0)).clean = true := r2
     have k1 := (h2.push hcl).push (x := .int .i64 (n + 0)) rfl
     have k2 := k1.newOb (ss := [.many none (.n S1.nx false false)]) (cs := List.replicate n.toNat z0) ⟨List.replicate n.toNat z0, [], .agg (List.replicate n.toNat z0), by simp, fun m hm => (by cases hm), fun _ => rfl, r3, (Ext.push _ _).pre _ _ (Zam S1 _), r1, rfl⟩
     refine ⟨_, ι ++ [s.nH], (s.new (List.replicate n.toNat z0)).put d (.osl s.nH 0 n.toNat n.toNat 1) false, h1, ?_, ?_⟩
     ·rw [Z5v, Zbt e1, Zbt e2]
      simp only [St.mkOb]
      rw [if_pos ⟨hc.1, hc.2.1, hc.2.2, trivial, (Zhd hfl).2.2⟩]
      rfl
     ·have hob : S.ob.length = ((S1.push (V.agg (List.replicate n.toNat z0))).push (.int .i64 (n + 0))).ob.length := by simp only [PS.push, h3.ob]
      rw [hob]
      refine k2.1.put d (v := .osl s.nH 0 n.toNat n.toNat 1) (o := false) ⟨s.nH, n, n.toNat, k2.2, ?_, hc.1, rfl, Xag _⟩
      have := Zam (S1.push (V.agg (List.replicate n.toNat z0))) (.int .i64 (n + 0))
      rw [show (S1.push (V.agg (List.replicate n.toNat z0))).nx = S1.nx + 1 by simp [PS.push, PS.nx]] at this
      exact this.trans (by rw [Int.add_zero])
    ·cases hy
   ·cases hy
  ·cases hk
 ·cases hk
theorem Zqo {X : Type} (S : PS X) (o k : Nat) {qs : List Seg} (h : (S.dropOb o).obj k = some qs) : k ≠ o /\ S.obj k = some qs := by
 unfold PS.obj PS.dropOb at h
 split at h
 ·rename_i ss e
  cases h
  rw [Xd5] at e
  split at e
  ·split at e <;> cases e
  ·rename_i hne
   exact ⟨fun h => hne h.symm, by unfold PS.obj; rw [e]⟩
 ·cases h
theorem Sat.kill (h : Sat κ S ι s) {o id : Nat} (hι : ι[o]? = some id) : Sat κ (S.dropOb o) ι (s.kill id) where
 tm t y hy := h.tm t y hy
 ob k qs hk := by
  obtain ⟨hne, hk⟩ := Zqo S o k hk
  obtain ⟨id', h1, h2⟩ := h.ob k qs hk
  have hne' : id' ≠ id := fun he => by
   subst he
   exact hne ((Xd6 (Xae.1 h1).1 h.nd).1 (by rw [h1, hι]))
  exact ⟨id', h1, h2.to (.refl _) (.refl _) (by simp only [St.kill, upd, if_neg hne']) fun j => by simp only [St.kill, if_neg hne']⟩
 nd := h.nd
 lt := h.lt
 len := by simpa [PS.dropOb] using h.len
 lits := h.lits
 cln := h.cln
 g := h.g
 pre := h.pre
 new := h.new
 nH := h.nH
 fr id' h1 h2 := by
  have hne : id' ≠ id := by
   rintro rfl
   rcases h.given hι with h3 | h3
   ·exact h2 h3
   ·omega
  obtain ⟨k3, k4⟩ := h.fr id' h1 h2
  exact ⟨by simp only [St.kill, upd, if_neg hne]; exact k3, fun j => by simp only [St.kill, if_neg hne]; exact k4 j⟩
theorem Zv4 {sz : Nat} {ys fs : List V} (h : Zh4 sz (nfL ys) = some fs) : ∃ gs, Zh4 sz ys = some gs /\ nfL gs = fs /\ gs.all V.sc = true := by
 unfold Zh4 at h ⊢
 rw [Zhg] at h
 split at h
 ·rename_i hf
  cases h
  refine ⟨_, if_pos hf, ?_, ?_⟩
  ·rw [Zb1, List.map_flatMap, Zb1, List.flatMap_map]
   congr 1; funext v; rw [Zbj, Zb1]
  ·simp only [List.all_flatMap]
   unfold fits at hf
   refine Xam.2 fun x hx => ?_
   have := Xam.1 hf x hx
   simp only [Xah] at this
   exact this.2
 ·cases h
theorem Zq2 {H : Hp} {nl : Bool} {sz : Nat} {v u : V} {ts : List V} (h : Zfb nl H v = some u) (hs : ∀ id off len cap s, v = .osl id off len cap s -> s = sz) (ht : Zbn H sz u = some ts) : Zbn H sz v = some ts := by
 unfold Zfb at h
 split at h
 ·rename_i id off len cap s
  obtain rfl := hs _ _ _ _ _ rfl
  simp only [Zbn, if_true]
  split at h
  ·rename_i h0
   cases h
   rw [if_pos h0]
   simpa [Zbn] using ht
  ·rename_i h0
   rw [if_neg h0]
   simp only [Xab] at h
   obtain ⟨cs, hcs, h⟩ := h
   split at h
   ·rename_i hle
    cases h
    simp only [Zbn, true_or, if_true] at ht
    rw [hcs, Xaj, if_pos hle]; exact ht
   ·cases h
 ·cases h; exact ht
theorem Zzc (h : Sat κ S ι s) {x : Opd} {sz : Nat} (hk : Zxx sz (S.opd x) = true) {id off len cap s' : Nat} (he : evO s.tm x = .osl id off len cap s') : s' = sz := by
 cases hx : S.opd x with
 | none => rw [hx] at hk; cases hk
 | some y =>
  rw [hx] at hk
  have ha := h.opd hx
  rw [he] at ha
  cases y with
  | tup az => cases hk
  | agg ss z =>
   obtain ⟨⟨cs, hcs, _⟩, _⟩ := ha
   cases hcs
  | «at» b =>
   cases b with
   | osl o f n c s0 => obtain ⟨i, _, e⟩ := ha; cases e; exact Xaf hk
   | osc o f n i s0 => obtain ⟨i', kd, m, cp, _, _, _, _, e⟩ := ha; simp only [V.osl.injEq] at e; rw [e.2.2.2.2]; exact Xaf hk
   | osx o i s0 => obtain ⟨i', m, cp, _, _, _, e, _⟩ := ha; cases e; exact Xaf hk
   | osv o i j s0 => obtain ⟨i', m, m', cp, _, _, _, _, _, e, _⟩ := ha; cases e; exact Xaf hk
   | n i own sc =>
    have h2 := h.cln _ (Xak ha.1)
    simp [V.nf, V.clean] at h2
   | c v own =>
    have h2 := ha.2.1
    have h1 := ha.1
    rw [<- h1] at h2
    simp [V.nf, V.clean] at h2
   | _ => cases hk
theorem Zy6 (h : Sat κ S ι s) {sz : Nat} {x y : Opd} (hk : op1 (BV Γ f) ow d (.appo sz x y) S k = some r) : Res1 κ GA gl d (.appo sz x y) g a s k r := by
 simp only [op1] at hk
 split at hk
 ·rename_i o j s' hx
  split at hk
  ·rename_i w n hs hw hn
   simp only [Xah] at hs
   obtain ⟨hs, htl⟩ := hs
   obtain rfl := Xaf hs
   obtain ⟨id, m, cap, hid, e2, e3, e1, e4⟩ := h.opd hx
   rw [hn] at e2; cases e2
   obtain ⟨cs, q1, q2, q3, q4⟩ := Zlg h hid hw
   obtain ⟨ys, S1, u, h1, h2, h3, h4, h5, h6, _, _⟩ := Zpl h hk
   have h4 := h4 true
   have h6 := h6 true
   subst h4
   simp only [BV, Xab] at h1
   obtain ⟨z, hz, l, hl, h1⟩ := h1
   simp only [evp, Zms, Xab] at hz
   obtain ⟨ts, ht, fs, hf, hz⟩ := hz
   split at hz
   ·rename_i hc
    cases hz
    obtain ⟨zs, t1, rfl, t2⟩ := Zpt (H := s.H) h5 ht
    replace t1 := Zq2 h6 (fun _ _ _ _ _ he => Zzc h htl he) t1
    obtain ⟨gs, g1, rfl, g2⟩ := Zv4 hf
    simp only [evp, Zkf, ht, Xaj] at hl
    rw [if_pos e3] at hl
    cases hl
    rw [Zaj] at hc
    rw [<- q2, Zaj] at hc
    have hcl : (V.agg (w.cells.take (m.toNat * s') ++ nfL gs)).clean = true := by
     refine Za9 (Zbg (clean_cells q4) _) ?_
     unfold Zh4 at hf
     split at hf
     ·simp only [Xac] at hf
      rw [<- hf]
      refine Zag.2 fun v hv => ?_
      obtain ⟨u, hu, hv⟩ := Xb4.1 hv
      exact Zag.1 (clean_cells (Zag.1 t2 u hu)) v hv
     ·cases hf
    have k1 := ((h2.push hcl).push (x := .int .i64 (m + (nfL zs).length)) rfl).kill hid
    have hall : (cs.take (m.toNat * s') ++ gs).all V.sc = true := by
     rw [Xen, Xah]
     exact ⟨Xam.2 fun v hv => Xam.1 q3 v (Xbh hv), g2⟩
    have k2 := k1.newOb (ss := [.many none (.n S1.nx false false)]) (cs := cs.take (m.toNat * s') ++ gs) ⟨cs.take (m.toNat * s') ++ gs, [], .agg (w.cells.take (m.toNat * s') ++ nfL gs), by simp, fun m hm => (by cases hm), fun _ => rfl, hall, (Ext.push _ _).pre _ _ (Zam S1 _), by rw [Zbo, Zb5, q2]; rfl, rfl⟩
    refine ⟨_, ι ++ [s.nH], (s.turnOb id (cs.take (m.toNat * s') ++ gs)).put d (.osl s.nH 0 (m.toNat + zs.length) (m.toNat + zs.length) s') false, h1, ?_, ?_⟩
    ·rw [Z2q, e1]
     simp only [St.appOb, t1, q1, g1]
     rw [if_pos ⟨trivial, hc.2.1, hc.2.2.1, hc.2.2.2⟩]
     rfl
    ·have hob : S.ob.length = (((S1.push (V.agg (w.cells.take (m.toNat * s') ++ nfL gs))).push (.int .i64 (m + (nfL zs).length))).dropOb o).ob.length := by simp only [PS.push, PS.dropOb, h3.ob, List.length_set]
     rw [hob]
     refine k2.1.put d (v := .osl s.nH 0 (m.toNat + zs.length) (m.toNat + zs.length) s') (o := false) ⟨s.nH, m + (nfL zs).length, m.toNat + zs.length, k2.2, ?_, by omega, ?_, ?_⟩
     ·have := Zam (S1.push (V.agg (w.cells.take (m.toNat * s') ++ nfL gs))) (.int .i64 (m + (nfL zs).length))
      rw [show (S1.push (V.agg (w.cells.take (m.toNat * s') ++ nfL gs))).nx = S1.nx + 1 by simp [PS.push, PS.nx]] at this
      exact this
     ·rw [Zaj]; congr 1; omega
     ·rw [Zaj]; omega
   ·cases hz
  ·cases hk
 ·cases hk
theorem Zmz (h : Sat κ S ι s) {o id off n : Nat} {cs ys : List V} {q : List Seg} (hid : ι[o]? = some id) (hn : ys.length = n) (hq : SegsS ι S.vals q (Zao cs off ys) (fun j => (s.setOb id cs off ys).own (.cell id j)) 0) : Sat κ (S.setOb o q) ι (s.setOb id cs off ys) :=
 h.objUpd (s' := s.setOb id cs off ys) hid rfl (fun t => rfl) rfl (fun id' hne => ⟨by simp only [St.setOb, upd, if_neg hne], fun j => by rw [Zck, if_neg (by omega)]⟩) (by rw [Zes, if_pos rfl]) hq
theorem Zuf (h : Sat κ S ι s) {S1 : PS V} (h1 : Sat κ S1 ι s) (he : Ext S S1) {o id off q i n : Nat} {ss : List Seg} {sn : Option Nat} {a' : At} {w : V} {ys : List V} (hid : ι[o]? = some id) (hss : S.cob o = some ss) (hs : Zcz ss off 0 = some (.many sn a', q, i))
  (hw : AtV S.vals a' w) (hwc : w.clean = true) (hle : q + n <= w.cells.length) (hn : ys.length = n) (hsc : ys.all V.sc = true) (hyc : Zab (nfL ys) = true) :
  ∃ cs, Zan s.H id = some cs /\ off + n <= cs.length /\ Sat κ ((S1.push (.agg (Zao w.cells q (nfL ys)))).setOb o (spl ss i 1 [.many sn (.n S1.nx false false)])) ι (s.setOb id cs off ys) := by
 obtain ⟨id', cs, q1, q2, q3⟩ := h.cob o ss hss
 rw [hid] at q1; cases q1
 have hcl : (V.agg (Zao w.cells q (nfL ys))).clean = true := Zdj (clean_cells hwc) hyc _
 have hpre := he.pre.trans (Ext.push S1 (V.agg (Zao w.cells q (nfL ys)))).pre
 have := Zow (ow' := fun j => (s.setOb id cs off ys).own (.cell id j)) (ys := ys) (i' := S1.nx) (x := w) (q3.mono (.refl _) hpre) hs (fun w' hw' => by
  have := AtV.mono hpre hw
  cases a' with
  | c v o => exact hw'.1.symm.trans this.1
  | n i o sc => exact Option.some.inj (hw'.symm.trans this)
  | _ => exact hw'.elim) (by omega) hn hsc (Zam _ _) rfl (fun j hj => by rw [Zck, if_neg (by omega)])
 exact ⟨cs, q2, this.1, Zmz (h1.push hcl) hid hn this.2⟩
theorem Zhy (b : Bytes) (n : Nat) : (encB b).take n = encB (b.take n) := by simp only [encB, Xdy]
theorem Z37 (h : Sat κ S ι s) {x y : Opd} (hk : op1 (BV Γ f) ow d (.cpy x y) S k = some r) : Res1 κ GA gl d (.cpy x y) g a s k r := by
 simp only [op1] at hk
 split at hk
 ·rename_i o off n cap hx
  split at hk
  ·rename_i ss hss hpos
   split at hk
   ·rename_i sn a' q i hs
    have hpos' : 0 < n := Xa2 hpos
    obtain ⟨id, hid, e1⟩ := h.opd hx
    obtain ⟨cs0, w, p1, p2, p3⟩ := Zk2 h hid hss hs
    simp only [mat] at hk
    split at hk
    ·rename_i x' hx'
     obtain ⟨rfl, hwc⟩ := h.valV p2 hx'
     obtain ⟨ys, S1, h1, h2, h3, h4, h5⟩ := h.matL hk
     subst h4
     simp only [Xal, Xa8, nfL, BV, Xab] at h1
     obtain ⟨z, hz, m, hm, h1⟩ := h1
     simp only [evp] at hz hm
     unfold Z3c at hz
     split at hz
     ·rename_i b e2
      split at hz
      ·rename_i hle
       cases hz
       rw [e2] at hm
       simp only [Z29] at hm
       cases hm
       have hen : nfL ((encB b).take n) = (encB b).take n := by rw [Zhy, Zks]
       have hec : Zab (nfL ((encB b).take n)) = true := by rw [Zhy, Zks]; exact Zeu _
       have hes : ((encB b).take n).all V.sc = true := by
        rw [Zhy]
        exact Xam.2 fun v hv => by obtain ⟨u, _, rfl⟩ := Xbb.1 hv; rfl
       have hel : ((encB b).take n).length <= n := by rw [Xbt]; omega
       obtain ⟨cs, q1, q2, q3⟩ := Zuf h h2 h3 (ys := (encB b).take n) (n := ((encB b).take n).length) hid hss hs p2 hwc (by omega) rfl hes hec
       rw [p1] at q1; cases q1
       obtain ⟨p4, _⟩ := p3 0 n (by omega)
       rw [hen] at q3
       have hb : (encB b).length = b.length := by simp [encB]
       have h6 : Sat κ (((S1.push (.agg (Zao x'.cells q ((encB b).take n)))).setOb o (spl ss i 1 [.many sn (.n S1.nx false false)])).push (.int .i64 (min (b.length : Int) n))) ι (s.setOb id cs0 off ((encB b).take n)) := q3.push rfl
       refine ⟨_, ι, (s.setOb id cs0 off ((encB b).take n)).put d (.int .i64 (min ((encB b).length : Int) n)) false, h1, ?_, ?_⟩
       ·rw [Z6r, e1, Zdy e2]
        simp only [St.cpyOb, vSrc, p1]
        rw [if_pos ⟨by omega, hpos'⟩]
        rfl
       ·rw [hb]
        have h7 : (S1.push (.agg (Zao x'.cells q ((encB b).take n)))).nx = S1.nx + 1 := by simp [PS.push, PS.nx]
        have h8 := Zam ((S1.push (.agg (Zao x'.cells q ((encB b).take n)))).setOb o (spl ss i 1 [.many sn (.n S1.nx false false)])) (.int .i64 (min (b.length : Int) n))
        rw [show ((S1.push (.agg (Zao x'.cells q ((encB b).take n)))).setOb o (spl ss i 1 [.many sn (.n S1.nx false false)])).nx = S1.nx + 1 from h7] at h8
        exact h6.put d (y := .at (.n (S1.nx + 1) false true)) ⟨h8, (fun h => nomatch h), fun _ => rfl⟩
      ·cases hz
     ·cases hz
    ·cases hk
   ·cases hk
  ·cases hk
 ·cases hk
theorem Z0a (h : Sat κ S ι s) {o id off : Nat} {w : V} {ys : List V} (hid : ι[o]? = some id) (hw : rowVal (BV Γ f) S o = some w) (hle : off + ys.length <= w.cells.length) (hsc : ys.all V.sc = true) (hyc : Zab (nfL ys) = true) :
  ∃ cs, Zan s.H id = some cs /\ off + ys.length <= cs.length /\ Sat κ ((S.push (.agg (Zao w.cells off (nfL ys)))).setOb o [.many none (.n S.nx false false)]) ι (s.setOb id cs off ys) := by
 obtain ⟨cs, q1, q2, q3, q4⟩ := Zlg h hid hw
 have hcl : (V.agg (Zao w.cells off (nfL ys))).clean = true := Zdj (clean_cells q4) hyc _
 have hl : off + ys.length <= cs.length := by rw [<- q2, Zaj] at hle; exact hle
 refine ⟨cs, q1, hl, Zmz (h.push hcl) hid rfl ⟨Zao cs off ys, [], .agg (Zao w.cells off (nfL ys)), by simp, (fun m hm => by cases hm), fun _ => rfl, ?_, Zam _ _, ?_, rfl⟩⟩
 ·simp only [Zao, Xen, Xah]
  exact ⟨⟨Xam.2 fun x hx => Xam.1 q3 x (Xbh hx), hsc⟩, Xam.2 fun x hx => Xam.1 q3 x (Xbv hx)⟩
 ·rw [Zm2, q2]; rfl
theorem Z0u (h : Sat κ S ι s) {z : List V} {x : Opd} (hk : op1 (BV Γ f) ow d (.clr z x) S k = some r) : Res1 κ GA gl d (.clr z x) g a s k r := by
 simp only [op1] at hk
 split at hk
 ·rename_i o j i z0 hx
  split at hk
  ·rename_i w n p hw hn hp hz0
   obtain ⟨id, m, kd, p', cap, hid, e2, e3, e4, e5, e1⟩ := h.opd hx
   rw [hn] at e2; cases e2
   rw [hp] at e3; cases e3
   simp only [BV, Xab] at hk
   obtain ⟨y, hy, hk⟩ := hk
   simp only [evp, Z3u] at hy
   obtain ⟨r1, r2, r3⟩ := Zd7 hz0 (m.toNat - p'.toNat)
   split at hy
   ·rename_i hle
    cases hy
    obtain ⟨cs, q1, q2, q3⟩ := Z0a h (off := p'.toNat) (ys := List.replicate (m.toNat - p'.toNat) z0) hid hw (by simp; omega) r3 (by rw [r1]; exact r2)
    rw [r1] at q3
    refine ⟨_, ι, (s.setOb id cs p'.toNat (List.replicate (m.toNat - p'.toNat) z0)).put d Nil false, hk, ?_, q3.put d (y := .at .nil) rfl⟩
    rw [Z27, e1]
    simp only [St.clrOb, q1, Xcl]
    rw [if_pos ⟨by simpa using q2, by omega, (Zhd hz0).2.2⟩]
    rfl
   ·cases hy
  ·cases hk
 ·rename_i o off n cap z0 hx
  split at hk
  ·rename_i ss hss hb
   simp only [Xah] at hb
   have hpos' : 0 < n := Xa2 hb.1
   obtain ⟨r1, r2, r3⟩ := Zd7 hb.2 n
   split at hk
   ·rename_i sn a' q i hs
    obtain ⟨id, hid, e1⟩ := h.opd hx
    obtain ⟨cs0, w, p1, p2, p3⟩ := Zk2 h hid hss hs
    simp only [mat] at hk
    split at hk
    ·rename_i x' hx'
     obtain ⟨rfl, hwc⟩ := h.valV p2 hx'
     simp only [BV, Xab] at hk
     obtain ⟨y, hy, hk⟩ := hk
     simp only [evp] at hy
     unfold Z14 at hy
     split at hy
     ·rename_i hle
      cases hy
      obtain ⟨cs, q1, q2, q3⟩ := Zuf h h (.refl S) (ys := List.replicate n z0) hid hss hs p2 hwc hle (by simp) r3 (by rw [r1]; exact r2)
      rw [r1] at q3
      refine ⟨_, ι, (s.setOb id cs off (List.replicate n z0)).put d Nil false, hk, ?_, q3.put d (y := .at .nil) rfl⟩
      rw [Z27, e1]
      simp only [St.clrOb, q1]
      rw [if_pos ⟨q2, hpos', (Zhd hb.2).2.2⟩]
      rfl
     ·cases hy
    ·cases hk
   ·cases hk
  ·cases hk
 ·cases hk
theorem Ztu (xs : List V) : nfL (xs.flatMap V.cells) = (nfL xs).flatMap V.cells := by
 induction xs with
 | nil => rfl
 | cons x r ih => simp only [Xbj, Zbo, nfL, ih, Zbj]
theorem Z1x (h : Sat κ S ι s) {n : Nat} {x : Opd} (hk : op1 (BV Γ f) ow d (.s2a n x) S k = some r) : Res1 κ GA gl d (.s2a n x) g a s k r := by
 simp only [op1] at hk
 obtain ⟨ys, S1, h1, h2, h3, h4, h5⟩ := h.matL hk
 simp only [BV, Xab] at h1
 obtain ⟨z, hz, h1⟩ := h1
 subst h4
 simp only [Xal, Xa8, nfL, evp, Z2a] at hz
 simp only [Xal, Xa8, nfL, Zab, Xcf] at h5
 split at hz
 ·rename_i b xs e
  obtain ⟨_, nl, rs, e3, rfl, hn⟩ := Zf0 e
  split at hz
  ·rename_i hc
   cases hz
   rw [Zaj, Zhg] at hc
   have hne : rs ≠ [] := fun e => hc.2.1 (by rw [e]; rfl)
   have hnl : nl = false := by cases nl; rfl; exact absurd (hn rfl) hne
   subst hnl
   rw [e] at h5
   have hcl : (V.agg ((nfL rs).flatMap V.cells)).clean = true := by
    show Zab _ = true
    refine Zag.2 fun v hv => ?_
    obtain ⟨w, hw, hv⟩ := Xb4.1 hv
    exact Zag.1 (clean_cells (Zag.1 (show Zab (nfL rs) = true from h5) w hw)) v hv
   refine ⟨_, ι, s.put d (.el (rs.flatMap V.cells) 0) false, h1, by rw [Z5s, e3]; simp [vS2a, hc.1, hne, hc.2.2], (h2.push hcl).put d (y := .at (.el S1.nx 0)) ⟨_, Zam _ _, ?_⟩⟩
   show V.el (nfL (rs.flatMap V.cells)) 0 = _
   rw [Ztu]; rfl
  ·cases hz
 ·cases hz
theorem Z1r (h : Sat κ S ι s) {cs : List V} (hk : op1 (BV Γ f) ow d (.new cs) S k = some r) : Res1 κ GA gl d (.new cs) g a s k r := by
 simp only [op1] at hk
 split at hk
 ·rename_i ss hss
  obtain ⟨h1, h2⟩ := h.newOb (Zl2 (ι := ι) (vs := S.vals) (ow' := fun _ => false) (j := 0) hss).1
  exact ⟨_, ι ++ [s.nH], _, hk, Z6z cs, h1.put d (y := .at (.ptr S.ob.length 0)) (v := .ptr s.nH 0) (o := false) ⟨s.nH, h2, rfl⟩⟩
 ·cases hk
theorem Z0x (h : Sat κ S ι s) {x : Opd} (hk : op1 (BV Γ f) ow d (.box x) S k = some r) : Res1 κ GA gl d (.box x) g a s k r := by
 simp only [op1] at hk
 split at hk
 ·rename_i ss z hx
  obtain ⟨⟨cs, e1, h1⟩, _⟩ := h.opd hx
  obtain ⟨h2, h3⟩ := h.newOb (h1.noOwn (fun _ => false) 0 0)
  exact ⟨_, ι ++ [s.nH], _, hk, by rw [Zyg, e1, Ztd, if_pos h1.all_sc], h2.put d (y := .at (.ptr S.ob.length 0)) (v := .ptr s.nH 0) (o := false) ⟨s.nH, h3, rfl⟩⟩
 ·cases hk
 ·rename_i a' hx
  have ha := h.opd hx
  split at hk
  ·rename_i ho
   have hsc := AtS.one ha ho
   have hseg : SegsS ι S.vals [.one a'.noOwn] (evO s.tm x).cells (fun _ => false) 0 := by rw [Zjy hsc]; exact ⟨_, [], rfl, AtS.noOwn ha _, hsc, rfl⟩
   obtain ⟨h2, h3⟩ := h.newOb hseg
   exact ⟨_, ι ++ [s.nH], _, hk, by rw [Zyg, if_pos hseg.all_sc], h2.put d (y := .at (.ptr S.ob.length 0)) (v := .ptr s.nH 0) (o := false) ⟨s.nH, h3, rfl⟩⟩
  ·obtain ⟨S1, h1, h2, h3, h4⟩ := h.mat ha hk
   simp only [BV, Xab] at h1
   obtain ⟨z, hz, h1⟩ := h1
   simp only [evp] at hz
   split at hz
   ·rename_i hsc
    cases hz
    rw [Zbj, Zen] at hsc
    have h5 := h2.push h4
    have hseg : SegsS ι (S1.push (evO s.tm x).nf).vals [.many none (.n S1.nx false false)] (evO s.tm x).cells (fun _ => false) 0 := ⟨_, [], (evO s.tm x).nf, by simp, fun m hm => by (cases hm), fun _ => rfl, hsc, Zam _ _, by rw [Zbj], rfl⟩
    obtain ⟨h6, h7⟩ := h5.newOb hseg
    have hob : (S1.push (evO s.tm x).nf).ob.length = S.ob.length := by show S1.ob.length = _; rw [h3.ob]
    rw [hob] at h7
    exact ⟨_, ι ++ [s.nH], _, h1, by rw [Zyg, if_pos hsc], h6.put d (y := .at (.ptr S.ob.length 0)) (v := .ptr s.nH 0) (o := false) ⟨s.nH, h7, rfl⟩⟩
   ·cases hz
 ·cases hk
theorem Zg7 {q : KK} {a b : V} {p : Bool} (h : Zdi q a.nf b.nf = some p) : Zdi q a b = some p := by
 obtain ⟨f, ks⟩ := q
 cases f with
 | true =>
  cases ha : a.nf <;> rw [ha] at h <;> simp only [Zdi, reduceCtorEq] at h
  cases hb : b.nf <;> rw [hb] at h <;> simp only [Zdi, reduceCtorEq] at h
  obtain ⟨xs, rfl, rfl⟩ := Zjv ha
  obtain ⟨ys, rfl, rfl⟩ := Zjv hb
  exact Zf8 h
 | false =>
  have key : ∀ x y : V, Zdi (false, ks) x y = if x.sc = true /\ y.sc = true then Zar ks [x] [y] else none := fun x y => by cases x <;> cases y <;> rfl
  rw [key] at h ⊢
  rw [Zne, Zne] at h
  split at h
  ·rename_i hc
   rw [if_pos hc]
   exact Zf8 (a := [a]) (b := [b]) h
  ·cases h
def nfP (p : V × V) : V × V := (p.1.nf, p.2.nf)
theorem Zln (l : List (V × V)) : (mpV l).nf = mpV (l.map nfP) := by
 simp only [mpV, V.nf]
 congr 2
 rw [Zb1, Xdc, Xdc]
 rfl
theorem Zw9 : ∀ l : List (V × V), unM (l.map fun p => .tup [p.1, p.2]) = some l
 | [] => rfl
 | (k, v) :: r => by simp only [Xal, unM, Zw9 r, Xas]
theorem Zj4 (l : List (V × V)) : unMp (mpV l) = some l := Zw9 l
theorem Zp2 {q : KK} {k : V} : ∀ {l : List (V × V)} {r : Option V}, Zex q k.nf (l.map nfP) = some r -> ∃ r0, Zex q k l = some r0 /\ r = r0.map V.nf
 | [], r, h => by simp only [Xa8, Zex, Xac] at h; subst h; exact ⟨none, rfl, rfl⟩
 | p :: l, r, h => by
  simp only [Xal, Zex, Xab] at h
  obtain ⟨b, hb, h⟩ := h
  have hb' := Zg7 (a := k) (b := p.1) hb
  cases b with
  | true =>
   simp only [if_true, Xac] at h
   exact ⟨some p.2, by simp [Zex, hb'], h.symm⟩
  | false =>
   simp only [Xaq, if_false] at h
   obtain ⟨r0, h1, h2⟩ := Zp2 h
   exact ⟨r0, by simp [Zex, hb', h1], h2⟩
theorem Zr4 {q : KK} {k x : V} : ∀ {l l' : List (V × V)}, mPut q k.nf x.nf (l.map nfP) = some l' -> ∃ l0, mPut q k x l = some l0 /\ l' = l0.map nfP
 | [], l', h => by simp only [Xa8, mPut, Xac] at h; subst h; exact ⟨[(k, x)], rfl, rfl⟩
 | p :: l, l', h => by
  simp only [Xal, mPut, Xab] at h
  obtain ⟨b, hb, h⟩ := h
  have hb' := Zg7 (a := k) (b := p.1) hb
  cases b with
  | true =>
   simp only [if_true, Xac] at h
   subst h
   exact ⟨(k, x) :: l, by simp [mPut, hb'], rfl⟩
  | false =>
   simp only [Xaq, if_false, Xaa] at h
   obtain ⟨l1, h, rfl⟩ := h
   obtain ⟨l0, h1, h2⟩ := Zr4 h
   exact ⟨p :: l0, by simp [mPut, hb', h1], by rw [h2]; rfl⟩
def Zpc (l : List (V × V)) : Prop := ∀ p ∈ l, p.1.clean = true /\ p.2.clean = true
theorem Zik {l : List (V × V)} : (mpV l).clean = true <-> Zpc l := by
 simp only [mpV, V.clean, Zag, Xbb]
 constructor
 ·intro h p hp
  have := h _ ⟨p, hp, rfl⟩
  simp only [V.clean, Zab, Xcf, Xah] at this
  exact this
 ·rintro h v ⟨p, hp, rfl⟩
  simp only [V.clean, Zab, Xcf, Xah]
  exact h p hp
theorem Zh3 {q : KK} {k : V} : ∀ {l : List (V × V)} {r : Option V}, Zex q k l = some r -> Zpc l -> ∀ v, r = some v -> v.clean = true
 | [], r, h, _, v, hv => by simp only [Zex, Xac] at h; subst h; cases hv
 | p :: l, r, h, hc, v, hv => by
  simp only [Zex, Xab] at h
  obtain ⟨b, _, h⟩ := h
  cases b with
  | true =>
   simp only [if_true, Xac] at h
   subst h; cases hv
   exact (hc p (by simp)).2
  | false =>
   simp only [Xaq, if_false] at h
   exact Zh3 h (fun p hp => hc p (Xbn _ hp)) v hv
theorem Zjp {q : KK} {k x : V} (hk : k.clean = true) (hx : x.clean = true) : ∀ {l l' : List (V × V)}, mPut q k x l = some l' -> Zpc l -> Zpc l'
 | [], l', h, _ => by
  simp only [mPut, Xac] at h; subst h
  intro p hp
  rw [Xa9.1 hp]; exact ⟨hk, hx⟩
 | p :: l, l', h, hc => by
  simp only [mPut, Xab] at h
  obtain ⟨b, _, h⟩ := h
  cases b with
  | true =>
   simp only [if_true, Xac] at h
   subst h
   intro p' hp'
   rcases Xay.1 hp' with rfl | hp'
   ·exact ⟨hk, hx⟩
   ·exact hc p' (Xbn _ hp')
  | false =>
   simp only [Xaq, if_false, Xaa] at h
   obtain ⟨l1, h, rfl⟩ := h
   intro p' hp'
   rcases Xay.1 hp' with rfl | hp'
   ·exact hc _ (by simp)
   ·exact Zjp hk hx h (fun p hp => hc p (Xbn _ hp)) p' hp'
theorem Zrv {v : V} (h : v.nf = .nilmap) : v = .nilmap := by
 cases v <;> simp_all [V.nf]
 all_goals (rename_i nl sz xs; cases nl <;> cases xs <;> simp [V.nf] at h)
theorem Zrr (h : Sat κ S ι s) {m : Opd} {M : V} (hm : mapV (BV Γ f) S (S.opd m) = some M) : ∃ l, Zil s.H (evO s.tm m) = some l /\ M = (mpV l).nf /\ M.clean = true := by
 unfold mapV at hm
 split at hm
 ·rename_i o ho
  simp only [Xab] at hm
  obtain ⟨i, hi, hm⟩ := hm
  obtain ⟨id, l, h1, h2, h3⟩ := h.mpo hi
  obtain ⟨id', h4, h5⟩ := h.opd ho
  rw [h1] at h4; cases h4
  rw [hm] at h3; cases h3
  exact ⟨l, by rw [h5]; exact h2, rfl, h.cln _ (Xak hm)⟩
 ·rename_i w ho
  cases hm
  have h1 := h.opd ho
  exact ⟨[], by rw [Zrv h1.1]; rfl, rfl, rfl⟩
 ·cases hm
theorem Z6f : exec1 GA gl ⟨d, .nmp, g, a⟩ s = some (s.newMp.put d (.map s.nH) false) := rfl
theorem Z7d (q : KK) (z : V) (ok : Bool) (m k : Opd) : exec1 GA gl ⟨d, .mlk q z ok m k, g, a⟩ s = putV s d (vMlk s.H q z ok (evO s.tm m) (evO s.tm k)) := Za0 _
theorem Z5w (m : Opd) : exec1 GA gl ⟨d, .mln m, g, a⟩ s = putV s d (vMln s.H (evO s.tm m)) := Za0 _
theorem Z6o (q : KK) (m k x : Opd) : exec1 GA gl ⟨d, .mup q m k x, g, a⟩ s = (s.upMp q (evO s.tm m) (evO s.tm k) (evO s.tm x)).map fun s => s.put d Nil false := rfl
theorem Z2e (h : Sat κ S ι s) (hk : op1 (BV Γ f) ow d .nmp S k = some r) : Res1 κ GA gl d .nmp g a s k r := by
 simp only [op1] at hk
 have h1 := h.push (x := mpV []) rfl
 have h2 := h1.newObS (s' := s.newMp) (ss := [.one (.mpc S.nx)]) rfl (fun _ => rfl) rfl (fun id' hne => ⟨by simp only [St.newMp, upd, if_neg hne], fun j => by simp only [St.newMp, if_neg hne]⟩)
  (.mp [] (by simp [hMap, St.newMp, upd]) (Zam S _))
 exact ⟨_, _, _, hk, Z6f, h2.1.put d (v := .map s.nH) (o := false) ⟨s.nH, h2.2, rfl⟩⟩
theorem Z1j (h : Sat κ S ι s) {q : KK} {z : V} {ok : Bool} {m x : Opd} (hk : op1 (BV Γ f) ow d (.mlk q z ok m x) S k = some r) : Res1 κ GA gl d (.mlk q z ok m x) g a s k r := by
 simp only [op1] at hk
 split at hk
 ·rename_i M hM hz
  obtain ⟨l, hl, rfl, hc⟩ := Zrr h hM
  cases hx : S.opd x with
  | none => rw [hx] at hk; simp [mat, BV] at hk
  | some y =>
   rw [hx] at hk
   obtain ⟨S1, h1, h2, h3, h4⟩ := h.mat (h.opd hx) hk
   simp only [doX, BV, Xab] at h1
   obtain ⟨w, hw, h1⟩ := h1
   rw [Zln] at hw hc
   simp only [evp, Zvz, Zj4, Xaj] at hw
   split at hw
   ·rename_i hkk
    simp only [Xab] at hw
    obtain ⟨r1, hr1, hw⟩ := hw
    obtain ⟨r0, hr0, rfl⟩ := Zp2 hr1
    have hcl := Zh3 hr1 (Zik.1 hc)
    have hg : (r0.map V.nf).getD z.nf = (r0.getD z).nf := by cases r0 <;> rfl
    have hgc : ((r0.map V.nf).getD z.nf).clean = true := by
     cases r0 with
     | none => exact hz
     | some v => exact hcl _ rfl
    rw [hg] at hw hgc
    have hex : vMlk s.H q z ok (evO s.tm m) (evO s.tm x) = some (if ok then .tup [r0.getD z, .bool r0.isSome] else r0.getD z) := by
     simp only [vMlk, hl, Xaj, if_pos (Zg7 hkk), hr0, Xas]
    have hsome : (r0.map V.nf).isSome = r0.isSome := by cases r0 <;> rfl
    have key : (if ok = true then V.tup [r0.getD z, .bool r0.isSome] else r0.getD z).nf = w /\ w.clean = true /\ (Prim.one (.mlk q z.nf ok) = true -> (if ok = true then V.tup [r0.getD z, .bool r0.isSome] else r0.getD z).sc = true) := by
     cases ok with
     | true =>
      simp only [if_true, Xac, hsome] at hw ⊢
      subst hw
      refine ⟨rfl, ?_, fun h => by simp [Prim.one] at h⟩
      simp only [V.clean, Zab, hgc, Xb3]
     | false =>
      simp only [Xaq, if_false] at hw ⊢
      split at hw
      ·cases hw
      ·rename_i hns
       cases hw
       refine ⟨rfl, hgc, fun h => ?_⟩
       simp only [Prim.one, Bool.not_false, Xe1] at h
       cases hs : (r0.getD z).sc with
       | true => rfl
       | false => exact absurd ⟨h, by rw [Zne]; exact hs⟩ hns
    exact ⟨_, ι, _, h1, by rw [Z7d, hex]; rfl, h2.putN key.1 key.2.1 (fun h => nomatch h) key.2.2⟩
   ·cases hw
 ·cases hk
theorem Z2u (h : Sat κ S ι s) {m : Opd} (hk : op1 (BV Γ f) ow d (.mln m) S k = some r) : Res1 κ GA gl d (.mln m) g a s k r := by
 simp only [op1] at hk
 split at hk
 ·rename_i M hM
  obtain ⟨l, hl, rfl, hc⟩ := Zrr h hM
  simp only [doX, BV, Xab] at hk
  obtain ⟨w, hw, h1⟩ := hk
  rw [Zln] at hw
  simp only [evp, Zw0, Zj4, Xas, Xcp, Xac] at hw
  subst hw
  exact ⟨_, ι, s.put d (.int .i64 l.length) false, h1, by rw [Z5w]; simp only [vMln, hl]; rfl, h.putN rfl rfl (fun h => nomatch h) (fun _ => rfl)⟩
 ·cases hk
theorem Z15 (h : Sat κ S ι s) {q : KK} {m x y : Opd} (hk : op1 (BV Γ f) ow d (.mup q m x y) S k = some r) : Res1 κ GA gl d (.mup q m x y) g a s k r := by
 simp only [op1] at hk
 split at hk
 ·rename_i o ho
  split at hk
  ·rename_i M hM
   have hM0 := hM
   rw [ho] at hM
   unfold mapV at hM
   simp only [Xab] at hM
   obtain ⟨i, hi, hM⟩ := hM
   obtain ⟨id, l, g1, g2, g3⟩ := h.mpo hi
   obtain ⟨id', g4, g5⟩ := h.opd ho
   rw [g1] at g4; cases g4
   rw [hM] at g3; cases g3
   have hc := h.cln _ (Xak hM)
   obtain ⟨ys, S1, h1, h2, h3, h4, h5⟩ := h.matL hk
   simp only [Xal, Xa8, nfL] at h4
   subst h4
   simp only [BV, Xab] at h1
   obtain ⟨w, hw, h1⟩ := h1
   simp only [Zab, Xcf, Xah] at h5
   rw [Zln] at hw hc
   simp only [evp, Zwm, Zj4, Xaj] at hw
   split at hw
   ·rename_i hkk
    simp only [Xaa] at hw
    obtain ⟨l1, hl1, rfl⟩ := hw
    obtain ⟨l0, hl0, rfl⟩ := Zr4 hl1
    have hcl := Zjp h5.1 h5.2 hl1 (Zik.1 hc)
    rw [<- Zln] at h1
    have hcl2 : (mpV l0).nf.clean = true := by rw [Zln]; exact Zik.2 hcl
    have hu : s.upMp q (evO s.tm m) (evO s.tm x) (evO s.tm y) = some (s.setMp id l0) := by
     rw [g5]
     simp only [St.upMp, g2, Xaj, if_pos (Zg7 hkk), hl0, Xas]
    have hid : ι[o]? = some id := g1
    have h6 := (h2.push hcl2).objUpdS (o := o) (s' := s.setMp id l0) (ss := [.one (.mpc S1.nx)]) hid rfl (fun _ => rfl) rfl (fun id' hne => ⟨by simp only [St.setMp, upd, if_neg hne], fun j => by simp only [St.setMp, if_neg hne]⟩)
     (.mp l0 (by simp [hMap, St.setMp, upd]) (Zam S1 _))
    exact ⟨_, ι, _, h1, by rw [Z6o, hu]; rfl, h6.put d (y := .at .nil) (v := Nil) (o := false) rfl⟩
   ·cases hw
  ·cases hk
 ·cases hk
theorem Zw2 (h : Sat κ S ι s) (hΓ : GamOK GA gl Γ ow) {op : AOp} (hk : op1 (BV Γ f) ow d op S k = some r) : Res1 κ GA gl d op g a s k r := by
 cases op with
 | mv x => exact Z5t h hk
 | mvo t => exact Z3n h hk
 | pick c x y => exact Zzx h hk
 | un op x => exact Z6l h hk
 | bin op q x y => exact Z2t h hk
 | len sb x => exact Z0y h hk
 | iaddr sz x i => exact Zva h hk
 | iarr n sz x i => exact Zym h hk
 | faddr off x => exact Zws h hk
 | load n x => exact Zy0 h hΓ hk
 | ldp n x => exact Z25 h hΓ hk
 | ldo x => exact Z11 h hk
 | fld n off x => exact Z1d h hk
 | slca n sz x lo hi mx => exact Zz0 h hk
 | slc sz x lo hi mx => exact Z3z h hk
 | nro sz => exact Z1o h hk
 | mko sz z l c => exact Z2o h hk
 | appo sz x y => exact Zy6 h hk
 | cpy x y => exact Z37 h hk
 | clr z x => exact Z0u h hk
 | build z ps => exact Zwc h hk
 | app sz x y => exact Z01 h hk
 | b2s x => exact Z3v h hk
 | s2a n x => exact Z1x h hk
 | nilck x => exact Zwv h hk
 | call f' xs => exact Zzt h hΓ hk
 | callh f' xs => exact Zu0 h hΓ hk
 | callvh x xs => exact Zt7 h hΓ hk
 | new cs => exact Z1r h hk
 | box x => exact Z0x h hk
 | store n x y => exact Zvn h hk
 | sto x t => exact Z2y h hk
 | ext t i => exact Z00 h hk
 | callv x xs => cases hk
 | mnx m x y => exact Za8 h rfl hk
 | idx x i => exact Za8 h rfl hk
 | idxa l sz n x i => exact Za8 h rfl hk
 | sls x lo hi => exact Za8 h rfl hk
 | bsl sz xs => exact Za8 h rfl hk
 | mks sz z l c =>
  cases hp : Zif (.mks sz z l c) with
  | none =>
   have hk' : (match Zif (.mks sz z l c) with | some (p, os, own) => doP (BV Γ f) S p os d own k | none => (BV Γ f).fail) = some r := hk
   rw [hp] at hk'; cases hk'
  | some q =>
   obtain ⟨p, os, own⟩ := q
   have hk' : (match Zif (.mks sz z l c) with | some (p, os, own) => doP (BV Γ f) S p os d own k | none => (BV Γ f).fail) = some r := hk
   rw [hp] at hk'
   exact Za8 h hp hk'
 | s2b x => exact Za8 h rfl hk
 | i2i kd x => exact Za8 h rfl hk
 | s2s x => exact Za8 h rfl hk
 | mkf f' xs => exact Z10 h hk
 | mkm f' xs => exact Z02 h hk
 | nmp => exact Z2e h hk
 | mlk q z ok x y => exact Z1j h hk
 | mup q x y z => exact Z15 h hk
 | mln x => exact Z2u h hk
end Go.Abs
namespace Go.Abs
variable {GA : Abs.Spec} {gl : Glob} {Γ : Gam} {f : Nat} {ow : Cfg} {κ : Fc} {ι : List Nat} {s : St} {S : PS V} {r : V} {k : PS V -> Option V}
theorem Zf9 {x : V} {a b : Option V} (h : vif x a b = some r) : (x = .bool true /\ a = some r) \/ (x = .bool false /\ b = some r) := by
 unfold vif at h
 split at h
 ·exact .inl ⟨rfl, h⟩
 ·exact .inr ⟨rfl, h⟩
 ·cases h
theorem Sat.know (h : Sat κ S ι s) {i : Nat} {b : Bool} (hb : S.vals[i]? = some (.bool b)) : Sat κ (S.know i b) ι s where
 tm := h.tm
 ob := h.ob
 nd := h.nd
 lt := h.lt
 len := h.len
 lits j c hc := by
  simp only [PS.know, Zcg] at hc
  split at hc
  ·rename_i e; subst e; cases hc; exact hb
  ·exact h.lits j c hc
 cln := h.cln
 g := h.g
 pre := h.pre
 new := h.new
 nH := h.nH
 fr := h.fr
theorem Sat.skip (h : Sat κ S ι s) (d : Option Nat) : Sat κ (S.put d (.at .nil)) ι (s.put d Nil false) := h.put d (y := .at .nil) rfl
theorem Zz6 {X : Type} (S : PS X) (t : Nat) : S.opd (.tmp t) = S.get t := rfl
theorem Z2s (h : Sat κ S ι s) (hΓ : GamOK GA gl Γ ow) {o : AOper} (hk : opG (BV Γ f) ow o S k = some r) : ∃ S' ι' s', k S' = some r /\ exec GA gl o s = some s' /\ Sat κ S' ι' s' := by
 obtain ⟨d, op, g, a⟩ := o
 unfold opG at hk
 cases g with
 | none => exact Zw2 h hΓ hk
 | some p =>
  obtain ⟨t, w⟩ := p
  simp only at hk
  have skip : ∀ {S1 : PS V}, Sat κ S1 ι s -> (∀ b, s.tm t = .bool b -> (b == w) = false) -> k (S1.put d (.at .nil)) = some r -> ∃ S' ι' s', k S' = some r /\ exec GA gl ⟨d, op, some (t, w), a⟩ s = some s' /\ Sat κ S' ι' s' := by
   intro S1 h1 h2 h3
   refine ⟨_, ι, s.put d Nil false, h3, ?_, h1.skip d⟩
   rw [Zlh, if_neg]
   cases e : s.tm t <;> simp
   exact fun h => by have := h2 _ e; simp [h] at this
  have run : ∀ {S1 : PS V}, Sat κ S1 ι s -> s.tm t = .bool w -> op1 (BV Γ f) ow d op S1 k = some r -> ∃ S' ι' s', k S' = some r /\ exec GA gl ⟨d, op, some (t, w), a⟩ s = some s' /\ Sat κ S' ι' s' := by
   intro S1 h1 h2 h3
   obtain ⟨S', ι', s', q1, q2, q3⟩ := Zw2 (gl := gl) (g := some (t, w)) (a := a) h1 hΓ h3
   refine ⟨S', ι', s', q1, ?_, q3⟩
   rw [Zlh, h2, if_pos (by simp)]; exact q2
  split at hk
  ·rename_i hn
   have : s.tm t = Nil := h.tm t _ hn
   exact skip h (fun b hb => by rw [this] at hb; cases hb) hk
  ·rename_i y hy
   split at hk
   ·rename_i b hb
    have hb' : s.tm t = .bool b := Ze8 (x := .tmp t) h (by rw [Zz6]; exact hb)
    split at hk
    ·rename_i hx
     have : b = w := by cases b <;> cases w <;> first | rfl | cases hx
     exact run h (by rw [hb', this]) hk
    ·rename_i hx
     exact skip h (fun c hc => by rw [hb'] at hc; cases hc; cases b <;> cases w <;> first | rfl | cases hx) hk
   ·split at hk
    ·rename_i i o' sc hi
     have hat := h.tm t _ hi
     split at hk
     ·rename_i x hx
      have hxe : x = (s.tm t).nf := by have := hat.1; rw [hx] at this; exact Option.some.inj this
      split at hk
      ·rcases Zf9 hk with ⟨e, h1⟩ | ⟨e, h1⟩
       ·exact run (h.know (by rw [hx, e])) (Zb2 (hxe.symm.trans e)) h1
       ·exact skip (h.know (by rw [hx, e])) (fun b hb => by rw [Zb2 (hxe.symm.trans e)] at hb; cases hb; rfl) h1
      ·rcases Zf9 hk with ⟨e, h1⟩ | ⟨e, h1⟩
       ·exact skip (h.know (by rw [hx, e])) (fun b hb => by rw [Zb2 (hxe.symm.trans e)] at hb; cases hb; rfl) h1
       ·exact run (h.know (by rw [hx, e])) (Zb2 (hxe.symm.trans e)) h1
     ·cases hk
    ·cases hk
theorem Zta (hΓ : GamOK GA gl Γ ow) : ∀ {os : List AOper} {S : PS V} {ι : List Nat} {s : St}, Sat κ S ι s -> opsG (BV Γ f) ow os S k = some r -> ∃ S' ι' s', k S' = some r /\ execs GA gl os s = some s' /\ Sat κ S' ι' s'
 | [], S, ι, s, h, hk => ⟨S, ι, s, hk, rfl, h⟩
 | o :: os, S, ι, s, h, hk => by
  obtain ⟨S1, ι1, s1, h1, h2, h3⟩ := Z2s (gl := gl) h hΓ hk
  obtain ⟨S2, ι2, s2, h4, h5, h6⟩ := Zta hΓ h3 h1
  exact ⟨S2, ι2, s2, h4, by simp only [execs, h2]; exact h5, h6⟩
theorem Zcy : ∀ {n k o : Nat}, (k, o) ∈ idR n <-> k = o /\ k < n
 | 0, k, o => by simp [idR]
 | n + 1, k, o => by
  simp only [idR, Xa3, Zcy (n := n), Xa9, Xcy]
  omega
theorem Zw7 : ∀ {n k : Nat}, k < n -> lk (idR n) k = some k := by
 have app : ∀ {l m : List (Nat × Nat)} {k : Nat}, lk (l ++ m) k = match lk l k with | some x => some x | none => lk m k := by
  intro l
  induction l with
  | nil => intro m k; rfl
  | cons p l ih =>
   intro m k
   obtain ⟨a, b⟩ := p
   rw [Xbf, Zcg, Zcg]
   split
   ·rfl
   ·exact ih
 intro n
 induction n with
 | zero => intro k h; omega
 | succ n ih =>
  intro k h
  rw [idR, app]
  by_cases hk : k < n
  ·rw [ih hk]
  ·have : k = n := by omega
   subst this
   cases he : lk (idR k) k with
   | some x => have := (Zcy.1 (Zc2 he)).2; omega
   | none => simp only [Zcg, if_true]
theorem Zxr {α : Type} : ∀ {l : List (Nat × α)} {t : Nat} {a : α}, lk l t = some a -> (t, a) ∈ l
 | (k, b) :: l, t, a, h => by
  rw [Zcg] at h
  split at h
  ·rename_i e; cases h; rw [e]; simp
  ·exact Xbn _ (Zxr h)
theorem Zuu (h : Sat κ S ι s) {no : Nat} : ∀ {tm : List (Nat × Sy)} {ρ ρ' : List (Nat × Nat)} {acc acc' : List V}, mTm (BV Γ f) S no tm ρ acc = some (ρ', acc') -> RI no ρ ->
  RI no ρ' /\ (∀ p ∈ ρ, p ∈ ρ') /\ (∃ l, acc' = acc ++ l) /\ (Zab acc = true -> Zab acc' = true) /\ ∀ ι' vs, Agree ρ' ι ι' -> Pre acc' vs -> ∀ p ∈ tm, SyS ι' vs p.2 (s.tm p.1) (s.own (.slot p.1))
 | [], ρ, ρ', acc, acc', hg, hr => by cases hg; exact ⟨hr, fun _ h => h, ⟨[], by simp⟩, id, fun _ _ _ _ p hp => by cases hp⟩
 | (t, .at a) :: tm, ρ, ρ', acc, acc', hg, hr => by
  simp only [mTm] at hg
  have go : ∀ {b : At} {v : V} {o : Bool} {ρ1 : List (Nat × Nat)} {acc1 : List V}, mAt (BV Γ f) S no a b ρ acc = some (ρ1, acc1) -> v = s.tm t -> o = s.own (.slot t) -> AtS ι S.vals b v o -> mTm (BV Γ f) S no tm ρ1 acc1 = some (ρ', acc') ->
    RI no ρ' /\ (∀ p ∈ ρ, p ∈ ρ') /\ (∃ l, acc' = acc ++ l) /\ (Zab acc = true -> Zab acc' = true) /\ ∀ ι' vs, Agree ρ' ι ι' -> Pre acc' vs -> ∀ p ∈ (t, Sy.at a) :: tm, SyS ι' vs p.2 (s.tm p.1) (s.own (.slot p.1)) := by
   rintro b v o ρ1 acc1 hq rfl rfl hb hg
   obtain ⟨q1, q2, ⟨l1, e1⟩, q4, _⟩ := Zjx h hq hr
   obtain ⟨q5, q6⟩ := q4 _ _ hb
   obtain ⟨r1, r2, ⟨l2, e2⟩, r4, r5⟩ := Zuu h hg q1
   refine ⟨r1, fun p hp => r2 p (q2 p hp), ⟨l1 ++ l2, by rw [e2, e1, Xap]⟩, fun hc => r4 (q5 hc), fun ι' vs ha hv p hp => ?_⟩
   rcases Xay.1 hp with rfl | hp
   ·exact q6 ι' vs (ha.sub r2) (fun i x hi => hv i x (by rw [e2]; exact Pre.app _ _ i x hi))
   ·exact r5 ι' vs ha hv p hp
  split at hg
  ·rename_i b hb
   split at hg
   ·rename_i ρ1 acc1 hq
    exact go hq rfl rfl (h.tm t _ hb) hg
   ·cases hg
  ·rename_i ss z hb
   split at hg
   ·rename_i ρ1 acc1 hq
    exact go (b := .n z false false) hq rfl rfl ⟨(h.tm t _ hb).2 z rfl, (fun h => nomatch h), (fun h => nomatch h)⟩ hg
   ·cases hg
  ·cases hg
 | (t, .agg ss none) :: tm, ρ, ρ', acc, acc', hg, hr => by
  simp only [mTm] at hg
  split at hg
  ·rename_i qs z hb
   split at hg
   ·rename_i ρ1 acc1 h1
    obtain ⟨⟨cs, e, q1⟩, _⟩ := h.tm t _ hb
    obtain ⟨p1, p2, ⟨l1, e1⟩, p4, p5⟩ := Zgd h h1 hr q1
    obtain ⟨r1, r2, ⟨l2, e2⟩, r4, r5⟩ := Zuu h hg p1
    refine ⟨r1, fun p hp => r2 p (p2 p hp), ⟨l1 ++ l2, by rw [e2, e1, Xap]⟩, fun hc => r4 (p4 hc), fun ι' vs ha hv p hp => ?_⟩
    rcases Xay.1 hp with rfl | hp
    ·exact ⟨⟨cs, e, p5 ι' vs (ha.sub r2) (fun i x hi => hv i x (by rw [e2]; exact Pre.app _ _ i x hi))⟩, fun i hi => by cases hi⟩
    ·exact r5 ι' vs ha hv p hp
   ·cases hg
  ·cases hg
 | (_, .agg _ (some _)) :: _, _, _, _, _, hg, _ => by cases hg
 | (_, .tup _) :: _, _, _, _, _, hg, _ => by cases hg
theorem Zic (h : Sat κ S ι s) {m : Nat} {T : PT} (hk : jump (BV Γ f) m T S = some r) : ∃ xs ι', Γ f m xs = some r /\ xs.length = T.n /\ Sat κ (T.start xs) ι' s := by
 unfold jump at hk
 split at hk
 ·rename_i ρ1 acc1 h1
  split at hk
  ·rename_i ρ xs h2
   split at hk
   ·rename_i hn0
    simp only [Xah] at hn0
    obtain ⟨hn, ⟨hg1, hg2⟩, hg3⟩ := hn0
    have hg1 := Xaf hg1
    have hg2 := Xa2 hg2
    have hg3 := Xa2 hg3
    have hr0 : RI T.ob.length (idR S.g) := ⟨fun k o hm => by obtain ⟨rfl, hk⟩ := Zcy.1 hm; exact Zw7 hk, fun k k' o h1 h2 => (Zcy.1 h1).1.trans (Zcy.1 h2).1.symm, fun k o hm => by have := (Zcy.1 hm).2; omega⟩
    obtain ⟨r1, r2, ⟨l1, e1⟩, r4, r5⟩ := Zuu h h1 hr0
    obtain ⟨u1, u2, ⟨l2, e2⟩, u4, u5, u6⟩ := Zhm h h2 r1
    have hcov : Cov T.ob.length ρ ι := fun k hk => by
     obtain ⟨o, h3, h4⟩ := u5 k hk
     rw [Xan] at h3
     rw [<- h.len] at h4
     exact ⟨o, _, h3, Xad h4⟩
    have hag := Zgt (ι := ι) u1
    have hid : ∀ k, k < S.g -> (k, k) ∈ ρ := fun k hk => u2 _ (r2 _ (Zcy.2 ⟨rfl, hk⟩))
    refine ⟨xs, ιOf T.ob.length ρ ι, hk, Xaf hn, ?_⟩
    exact {
     tm := fun t y hy => r5 _ xs (hag.sub u2) (by rw [e2]; exact Pre.app _ _) (t, y) (Zxr hy)
     ob := fun k ss hs => by
      have hs' : T.ob[k]? = some (some ss) := by
       simp only [PS.obj, PT.start] at hs
       split at hs
       ·rename_i e; cases hs; exact e
       ·cases hs
      obtain ⟨o, id, f1, f2, f4⟩ := u6 k ss hs'
      rw [Xan] at f1
      exact ⟨id, hag _ _ _ f1 f2, f4 _ xs hag (.refl _)⟩
     nd := Zun u1 hcov h.nd
     lt := fun id hid => by
      obtain ⟨k, hk⟩ := Xco.1 hid
      obtain ⟨o, _, h4⟩ := Zew u1 hcov hk
      exact h.lt id (Xak h4)
     len := Ze0 _ _ _
     lits := fun i b hb => by cases hb
     cln := fun x hx => Zag.1 (u4 (r4 rfl)) x hx
     g := by show κ.ids.length = T.g; rw [hg1]; exact h.g
     pre := fun k id hk => by
      have hkg : k < S.g := by rw [<- h.g]; exact (Xae.1 hk).1
      exact hag _ _ _ (hid k hkg) (h.pre k id hk)
     new := fun k id hk hgk => by
      obtain ⟨o', h3, h4⟩ := Zew u1 hcov hk
      have hgk : S.g <= k := by rw [<- hg1]; exact hgk
      refine h.new o' id h4 ?_
      rcases Xa4 o' S.g with h5 | h5
      ·have := u1.inj _ _ _ (hid o' h5) h3; omega
      ·exact h5
     nH := h.nH
     fr := h.fr }
   ·cases hk
  ·cases hk
 ·cases hk
def labQ (GA : Abs.Spec) (gl : Glob) (m : Nat) : ACode -> Nat -> (Ex -> St -> Prop) -> St -> Prop
 | .seq a b, n, Q, s => if m < n + 1 + a.size then labQ GA gl m a (n + 1) (Zeb (awp GA gl b Q) Q) s else if m = n + 1 + a.size then awp GA gl b Q s else labQ GA gl m b (n + 1 + a.size) Q s
 | .cond _ a b, n, Q, s => if m < n + 1 + a.size then labQ GA gl m a (n + 1) Q s else labQ GA gl m b (n + 1 + a.size) Q s
 | .block id b, n, Q, s => labQ GA gl m b (n + 1) (fun e s => Q (e.inBlock id) s) s
 | .loop b, n, Q, s => if m = n then awp GA gl (.loop b) Q s else labQ GA gl m b (n + 1) (Zeb (awp GA gl (.loop b) Q) Q) s
 | _, _, _, _ => False
def ACode.isLoop : ACode -> Bool
 | .loop _ => true
 | _ => false
def JOK (κ : Fc) (GA : Abs.Spec) (gl : Glob) (Γ : Gam) (f : Nat) (L : List (Nat × PT)) (c : ACode) (n : Nat) (Q : Ex -> St -> Prop) (r : V) : Prop :=
 ∀ m T xs ι s, n <= m -> (n < m \/ c.isLoop = true) -> m < n + c.size -> lk L m = some T -> Γ f m xs = some r -> xs.length = T.n -> Sat κ (T.start xs) ι s -> labQ GA gl m c n Q s
theorem Zj9 (c : ACode) : 1 <= c.size := by cases c <;> simp [ACode.size]
theorem Zuv {b : ACode} {Q : Ex -> St -> Prop} (h : awp GA gl b (Zeb (awp GA gl (.loop b) Q) Q) s) : awp GA gl (.loop b) Q s := by
 obtain ⟨e, t, h1, h2⟩ := Zgr h
 cases e with
 | normal =>
  obtain ⟨k, hk⟩ : awp GA gl (.loop b) Q t := h1
  exact ⟨k + 1, h2 _ hk⟩
 | exit i => exact ⟨1, h2 _ h1⟩
 | ret => exact ⟨1, h2 _ h1⟩
theorem JOK.seqA {L : List (Nat × PT)} {a b : ACode} {n : Nat} {Q : Ex -> St -> Prop} (h : JOK κ GA gl Γ f L (.seq a b) n Q r) : JOK κ GA gl Γ f L a (n + 1) (Zeb (awp GA gl b Q) Q) r := fun m T xs ι s h1 _ h2 h3 h4 h5 h6 => by
 have := h m T xs ι s (by omega) (.inl (by omega)) (by simp only [ACode.size]; omega) h3 h4 h5 h6
 simp only [labQ] at this
 rwa [if_pos (by omega)] at this
theorem JOK.seqB {L : List (Nat × PT)} {a b : ACode} {n : Nat} {Q : Ex -> St -> Prop} (h : JOK κ GA gl Γ f L (.seq a b) n Q r) : JOK κ GA gl Γ f L b (n + 1 + a.size) Q r := fun m T xs ι s h1 h7 h2 h3 h4 h5 h6 => by
 have := h m T xs ι s (by omega) (.inl (by omega)) (by simp only [ACode.size]; omega) h3 h4 h5 h6
 simp only [labQ] at this
 rw [if_neg (by omega)] at this
 split at this
 ·rename_i e
  subst e
  rcases h7 with h7 | h7
  ·omega
  ·cases b <;> first | (cases h7; done) | skip
   simpa only [labQ, if_true] using this
 ·exact this
theorem JOK.condA {L : List (Nat × PT)} {c : Opd} {a b : ACode} {n : Nat} {Q : Ex -> St -> Prop} (h : JOK κ GA gl Γ f L (.cond c a b) n Q r) : JOK κ GA gl Γ f L a (n + 1) Q r := fun m T xs ι s h1 _ h2 h3 h4 h5 h6 => by
 have := h m T xs ι s (by omega) (.inl (by omega)) (by simp only [ACode.size]; omega) h3 h4 h5 h6
 simp only [labQ] at this
 rwa [if_pos (by omega)] at this
theorem JOK.condB {L : List (Nat × PT)} {c : Opd} {a b : ACode} {n : Nat} {Q : Ex -> St -> Prop} (h : JOK κ GA gl Γ f L (.cond c a b) n Q r) : JOK κ GA gl Γ f L b (n + 1 + a.size) Q r := fun m T xs ι s h1 _ h2 h3 h4 h5 h6 => by
 have := h m T xs ι s (by omega) (.inl (by omega)) (by simp only [ACode.size]; omega) h3 h4 h5 h6
 simp only [labQ] at this
 rwa [if_neg (by omega)] at this
theorem JOK.block {L : List (Nat × PT)} {i : Nat} {b : ACode} {n : Nat} {Q : Ex -> St -> Prop} (h : JOK κ GA gl Γ f L (.block i b) n Q r) : JOK κ GA gl Γ f L b (n + 1) (fun e s => Q (e.inBlock i) s) r := fun m T xs ι s h1 _ h2 h3 h4 h5 h6 => by
 have := h m T xs ι s (by omega) (.inl (by omega)) (by simp only [ACode.size]; omega) h3 h4 h5 h6
 simpa only [labQ] using this
theorem JOK.loop {L : List (Nat × PT)} {b : ACode} {n : Nat} {Q : Ex -> St -> Prop} (h : JOK κ GA gl Γ f L (.loop b) n Q r) : JOK κ GA gl Γ f L b (n + 1) (Zeb (awp GA gl (.loop b) Q) Q) r := fun m T xs ι s h1 _ h2 h3 h4 h5 h6 => by
 have := h m T xs ι s (by omega) (.inl (by omega)) (by simp only [ACode.size]; omega) h3 h4 h5 h6
 simp only [labQ] at this
 rwa [if_neg (by omega)] at this
theorem Zg4 (hΓ : GamOK GA gl Γ ow) {L : List (Nat × PT)} : ∀ {c : ACode} {n : Nat} {S : PS V} {k : Ex -> PS V -> Option V} {Q : Ex -> St -> Prop} {ι : List Nat} {s : St}, JOK κ GA gl Γ f L c n Q r -> Sat κ S ι s -> pe (BV Γ f) ow L c n S k = some r ->
  (∀ e S' ι' s', k e S' = some r -> Sat κ S' ι' s' -> Q e s') -> awp GA gl c Q s
 | .skip, n, S, k, Q, ι, s, _, h, hk, hQ => hQ .normal S ι s hk h
 | .region os d, n, S, k, Q, ι, s, _, h, hk, hQ => by
  obtain ⟨S', ι', s', h1, h2, h3⟩ := Zta (gl := gl) hΓ h hk
  simp only [awp, h2]
  exact hQ .normal S' ι' s' h1 h3
 | .seq a b, n, S, k, Q, ι, s, hJ, h, hk, hQ => by
  simp only [pe] at hk
  show awp GA gl a (Zeb (awp GA gl b Q) Q) s
  refine Zg4 hΓ hJ.seqA h hk fun e S' ι' s' h1 h2 => ?_
  cases e with
  | normal =>
   simp only at h1
   split at h1
   ·rename_i T hT
    obtain ⟨xs, ιj, q1, q2, q3⟩ := Zic h2 h1
    have := hJ _ T xs _ s' (by omega) (.inl (by omega)) (by simp only [ACode.size]; have := Zj9 b; omega) hT q1 q2 q3
    simp only [labQ] at this
    rw [if_neg (by omega)] at this
    simpa using this
   ·rename_i hT
    exact Zg4 hΓ hJ.seqB h2 h1 hQ
  | exit i => exact hQ (.exit i) S' ι' s' h1 h2
  | ret => exact hQ .ret S' ι' s' h1 h2
 | .cond c a b, n, S, k, Q, ι, s, hJ, h, hk, hQ => by
  simp only [pe] at hk
  split at hk
  ·rename_i hb
   simp only [awp, Ze8 h hb]
   exact Zg4 hΓ hJ.condA h hk hQ
  ·rename_i hb
   simp only [awp, Ze8 h hb]
   exact Zg4 hΓ hJ.condB h hk hQ
  ·split at hk
   ·rename_i i o' sc hi
    have hat := h.opd hi
    split at hk
    ·rename_i x hx
     have hxe : x = (evO s.tm c).nf := by have := hat.1; rw [hx] at this; exact Option.some.inj this
     rcases Zf9 hk with ⟨e, h1⟩ | ⟨e, h1⟩
     ·simp only [awp, Zb2 (hxe.symm.trans e)]
      exact Zg4 hΓ hJ.condA (h.know (by rw [hx, e])) h1 hQ
     ·simp only [awp, Zb2 (hxe.symm.trans e)]
      exact Zg4 hΓ hJ.condB (h.know (by rw [hx, e])) h1 hQ
    ·cases hk
   ·cases hk
 | .block i b, n, S, k, Q, ι, s, hJ, h, hk, hQ => by
  show awp GA gl b (fun e s => Q (e.inBlock i) s) s
  exact Zg4 hΓ hJ.block h hk fun e S' ι' s' h1 h2 => hQ _ S' ι' s' h1 h2
 | .loop b, n, S, k, Q, ι, s, hJ, h, hk, hQ => by
  simp only [pe] at hk
  split at hk
  ·rename_i T hT
   obtain ⟨xs, ιj, q1, q2, q3⟩ := Zic h hk
   have := hJ _ T xs _ s (Xag _) (.inr rfl) (by simp only [ACode.size]; omega) hT q1 q2 q3
   simpa only [labQ, if_true] using this
  ·cases hk
 | .exit i, n, S, k, Q, ι, s, _, h, hk, hQ => hQ (.exit i) S ι s hk h
 | .ret, n, S, k, Q, ι, s, _, h, hk, hQ => hQ .ret S ι s hk h
 | .fail, _, _, _, _, _, _, _, _, hk, _ => by cases hk
theorem Zxw (hΓ : GamOK GA gl Γ ow) {L : List (Nat × PT)} {c : ACode} {n : Nat} {S : PS V} {k : Ex -> PS V -> Option V} {Q : Ex -> St -> Prop} {ι : List Nat} {s : St}
  (hJ : ∀ m T xs ι s, n < m -> m < n + c.size -> lk L m = some T -> Γ f m xs = some r -> xs.length = T.n -> Sat κ (T.start xs) ι s -> labQ GA gl m c n Q s)
  (hL : ∀ T xs ι s, lk L n = some T -> Γ f n xs = some r -> xs.length = T.n -> Sat κ (T.start xs) ι s -> awp GA gl c Q s) (h : Sat κ S ι s) (hk : peL (BV Γ f) ow L c n S k = some r)
  (hQ : ∀ e S' ι' s', k e S' = some r -> Sat κ S' ι' s' -> Q e s') : awp GA gl c Q s := by
 unfold peL at hk
 split at hk
 ·rename_i b
  have hJ2 : JOK κ GA gl Γ f L (.loop b) n Q r := fun m T xs ι s h1 _ h2 h3 h4 h5 h6 => by
   rcases Xa4 n m with h7 | h7
   ·exact hJ m T xs ι s h7 h2 h3 h4 h5 h6
   ·have : m = n := by omega
    subst this
    simp only [labQ, if_true]; exact hL T xs ι s h3 h4 h5 h6
  refine Zuv (Zg4 hΓ hJ2.loop h hk fun e S' ι' s' h1 h2 => ?_)
  cases e with
  | normal =>
   simp only at h1
   split at h1
   ·rename_i T hT
    obtain ⟨xs, ιj, q1, q2, q3⟩ := Zic h2 h1
    exact hL T xs _ s' hT q1 q2 q3
   ·cases h1
  | exit i => exact hQ (.exit i) S' ι' s' h1 h2
  | ret => exact hQ .ret S' ι' s' h1 h2
 ·rename_i hno
  refine Zg4 hΓ (fun m T xs ι s h1 h7 h2 h3 h4 h5 h6 => ?_) h hk hQ
  rcases h7 with h7 | h7
  ·exact hJ m T xs ι s h7 h2 h3 h4 h5 h6
  ·cases c <;> first | exact absurd rfl (hno _) | (cases h7; done)
theorem Zfj (hΓ : GamOK GA gl Γ ow) {L : List (Nat × PT)} {m : Nat} : ∀ {c : ACode} {n : Nat} {S : PS V} {k : Ex -> PS V -> Option V} {Q : Ex -> St -> Prop} {ι : List Nat} {s : St}, JOK κ GA gl Γ f L c n Q r -> Sat κ S ι s -> peAt (BV Γ f) ow L m c n S k = some r ->
  (∀ e S' ι' s', k e S' = some r -> Sat κ S' ι' s' -> Q e s') -> labQ GA gl m c n Q s
 | .seq a b, n, S, k, Q, ι, s, hJ, h, hk, hQ => by
  simp only [peAt] at hk
  simp only [labQ]
  split at hk
  ·rename_i hlt
   have hlt' : m < n + 1 + a.size := Xa2 hlt
   rw [if_pos hlt']
   refine Zfj hΓ hJ.seqA h hk fun e S' ι' s' h1 h2 => ?_
   cases e with
   | normal =>
    simp only at h1
    split at h1
    ·rename_i T hT
     obtain ⟨xs, ιj, q1, q2, q3⟩ := Zic h2 h1
     have := hJ _ T xs _ s' (by omega) (.inl (by omega)) (by simp only [ACode.size]; have := Zj9 b; omega) hT q1 q2 q3
     simp only [labQ] at this
     rw [if_neg (by omega)] at this
     simpa using this
    ·rename_i hT
     exact Zg4 hΓ hJ.seqB h2 h1 hQ
   | exit i => exact hQ (.exit i) S' ι' s' h1 h2
   | ret => exact hQ .ret S' ι' s' h1 h2
  ·rename_i hlt
   have hlt' : ¬ m < n + 1 + a.size := fun e => by rw [show Nat.blt m (n + 1 + a.size) = true from Xec e] at hlt; cases hlt
   rw [if_neg hlt']
   split at hk
   ·rename_i he
    have he := Xaf he
    rw [if_pos he]
    refine Zxw hΓ (fun m' T xs ι s h1 h2 h3 h4 h5 h6 => ?_) (fun T xs ι s h3 h4 h5 h6 => ?_) h hk hQ
    ·exact hJ.seqB m' T xs ι s (by omega) (.inl h1) h2 h3 h4 h5 h6
    ·have := hJ _ T xs ι s (by omega) (.inl (by omega)) (by simp only [ACode.size]; have := Zj9 b; omega) h3 h4 h5 h6
     simp only [labQ] at this
     rw [if_neg (by omega)] at this
     simpa using this
   ·rename_i he
    rw [if_neg (fun e => by rw [e, Xdp] at he; cases he)]
    exact Zfj hΓ hJ.seqB h hk hQ
 | .cond c a b, n, S, k, Q, ι, s, hJ, h, hk, hQ => by
  simp only [peAt] at hk
  simp only [labQ]
  split at hk
  ·rename_i hlt
   rw [if_pos (show m < n + 1 + a.size from Xa2 hlt)]
   exact Zfj hΓ hJ.condA h hk hQ
  ·rename_i hlt
   rw [if_neg (fun e : m < n + 1 + a.size => by rw [show Nat.blt m (n + 1 + a.size) = true from Xec e] at hlt; cases hlt)]
   exact Zfj hΓ hJ.condB h hk hQ
 | .block i b, n, S, k, Q, ι, s, hJ, h, hk, hQ => by
  simp only [peAt] at hk
  simp only [labQ]
  exact Zfj hΓ hJ.block h hk fun e S' ι' s' h1 h2 => hQ _ S' ι' s' h1 h2
 | .loop b, n, S, k, Q, ι, s, hJ, h, hk, hQ => by
  simp only [peAt] at hk
  simp only [labQ]
  split at hk
  ·rename_i he
   rw [if_pos (Xaf he)]
   refine Zxw hΓ (fun m' T xs ι s h1 h2 h3 h4 h5 h6 => ?_) (fun T xs ι s h3 h4 h5 h6 => ?_) h hk hQ
   ·exact hJ m' T xs ι s (by omega) (.inl h1) h2 h3 h4 h5 h6
   ·have := hJ _ T xs ι s (Xag _) (.inr rfl) (by simp only [ACode.size]; omega) h3 h4 h5 h6
    simpa only [labQ, if_true] using this
  ·rename_i he
   rw [if_neg (fun e => by rw [e, Xdp] at he; cases he)]
   refine Zfj hΓ hJ.loop h hk fun e S' ι' s' h1 h2 => ?_
   cases e with
   | normal =>
    simp only at h1
    split at h1
    ·rename_i T hT
     obtain ⟨xs, ιj, q1, q2, q3⟩ := Zic h2 h1
     have := hJ _ T xs _ s' (Xag _) (.inr rfl) (by simp only [ACode.size]; omega) hT q1 q2 q3
     show awp GA gl (.loop b) Q s'
     simpa only [labQ, if_true] using this
    ·cases h1
   | exit i => exact hQ (.exit i) S' ι' s' h1 h2
   | ret => exact hQ .ret S' ι' s' h1 h2
 | .skip, _, _, _, _, _, _, _, _, hk, _ => by cases hk
 | .region _ _, _, _, _, _, _, _, _, _, hk, _ => by cases hk
 | .exit _, _, _, _, _, _, _, _, _, hk, _ => by cases hk
 | .ret, _, _, _, _, _, _, _, _, hk, _ => by cases hk
 | .fail, _, _, _, _, _, _, _, _, hk, _ => by cases hk
theorem Zn4 (h : Sat κ S ι s) : ∀ {rs : List RS} {S : PS V} {acc : List V}, Sat κ S ι s -> resL (BV Γ f) S rs acc = some r -> Zab acc = true -> ∃ vs, rvs s rs = some vs /\ r = oneV (acc ++ nfL vs) /\ Zab (acc ++ nfL vs) = true /\ vs.length = rs.length
 | [], S, acc, _, hk, hc => ⟨[], rfl, by simp only [resL, BV, Xac] at hk; rw [<- hk]; simp [nfL], by simpa [nfL] using hc, rfl⟩
 | .t t :: rs, S, acc, h1, hk, hc => by
  simp only [resL, resR] at hk
  cases hg : S.get t with
  | none => rw [hg] at hk; cases hk
  | some y =>
   rw [hg] at hk
   obtain ⟨S1, h2, h3, _, h4⟩ := h1.mat (h1.tm t _ hg) hk
   obtain ⟨vs, q1, q2, q3, q4⟩ := Zn4 h h3 h2 (Za9 hc (by simp only [Zab, h4, Xb3]))
   exact ⟨s.tm t :: vs, by simp only [rvs, rv, Xaj, q1, Xas], by rw [q2]; simp [nfL], by simpa [nfL] using q3, by simp [q4]⟩
 | .c t n :: rs, S, acc, h1, hk, hc => by
  simp only [resL, resR] at hk
  split at hk
  ·rename_i o off hg
   split at hk
   ·rename_i ss hss
    obtain ⟨id, hid, e1⟩ := h1.tm t _ hg
    obtain ⟨id', cs, q1, q2, q3⟩ := h1.cob o ss hss
    rw [hid] at q1; cases q1
    obtain ⟨v, y, S1, f1, f2, f3, _, f5⟩ := Zsz h1 q3 hk
    obtain ⟨S2, h2, h3, _, h4⟩ := f3.mat f5 f2
    obtain ⟨vs, q5, q6, q7, q8⟩ := Zn4 h h3 h2 (Za9 hc (by simp only [Zab, h4, Xb3]))
    exact ⟨v :: vs, by simp only [rvs, rv, e1, q2, Xaj, f1, Xas, q5], by rw [q6]; simp [nfL], by simpa [nfL] using q7, by simp [q8]⟩
   ·cases hk
  ·cases hk
def endY (res : List RS) (own : Bool) (r : V) (e : Ex) (s : St) : Prop := endQ res own r e s /\ r.clean = true
theorem Zzm (h : Sat κ S ι s) {own : Bool} {res : List RS} {e : Ex} (hk : resK (BV Γ f) own res e S = some r) : endY res own r e s := by
 have main : resL (BV Γ f) S res [] = some r -> (own = true -> ∃ t, res = [.t t] /\ Own (s.tm t) (s.own (.slot t))) -> Zv9 res own r s /\ r.clean = true := by
  intro hk ho
  obtain ⟨vs, h1, h2, h3, h4⟩ := Zn4 h h hk rfl
  simp only [Xbg] at h2 h3
  by_cases h6 : ∃ t n, res = [.c t n]
  ·obtain ⟨t, n, rfl⟩ := h6
   have hown : own = false := by
    cases own with
    | false => rfl
    | true => obtain ⟨t, e, _⟩ := ho rfl; cases e
   subst hown
   simp only [rvs] at h1
   cases hv : rv s (.c t n) with
   | none => rw [hv] at h1; cases h1
   | some p =>
    rw [hv] at h1
    simp only [Xaj, Xas, Xac] at h1
    subst h1
    exact ⟨⟨p, hv, h2.symm, fun h => nomatch h⟩, by have e : r = p.1.nf := h2; rw [e]; simpa [nfL, Zab] using h3⟩
  by_cases h5 : ∃ t, res = [.t t]
  ·obtain ⟨t, rfl⟩ := h5
   simp only [rvs, rv, Xaj, Xas, Xac] at h1
   subst h1
   have hr : r = (s.tm t).nf := h2
   refine ⟨⟨(s.tm t, s.own (.slot t)), rfl, hr.symm, fun h => ?_⟩, ?_⟩
   ·obtain ⟨t', e, h6⟩ := ho h
    cases e; exact h6
   ·rw [hr]; simpa [nfL, Zab] using h3
  ·have hown : own = false := by
    cases own with
    | false => rfl
    | true => obtain ⟨t, e, _⟩ := ho rfl; exact absurd ⟨t, e⟩ h5
   have hl : vs.length ≠ 1 := by
    intro hl
    rw [h4] at hl
    match res, hl with
    | [.t t], _ => exact h5 ⟨t, rfl⟩
    | [.c t n], _ => exact h6 ⟨t, n, rfl⟩
   have hr : r = .tup (nfL vs) := by
    rw [h2]
    match vs, hl with
    | [], _ => rfl
    | x :: y :: l, _ => rfl
   have hres : Zc8 res s = some (.tup vs, false) := by
    unfold Zc8
    split
    ·exact absurd h4 (by simp; omega)
    ·rw [h1]; rfl
   subst hown
   exact ⟨⟨_, hres, by rw [hr]; rfl, fun h => nomatch h⟩, by rw [hr]; exact h3⟩
 have main2 : ∀ e', resK (BV Γ f) own res e' S = some r -> (∀ i, e' ≠ .exit i) -> Zv9 res own r s /\ r.clean = true := by
  intro e' hk' hne
  unfold resK at hk'
  split at hk'
  ·exact absurd rfl (hne _)
  ·split at hk'
   ·exact main hk' fun h => nomatch h
   ·split at hk'
    ·rename_i t
     split at hk'
     ·rename_i a hg
      split at hk'
      ·rename_i ho
       exact main hk' fun _ => ⟨t, rfl, AtS.owned (h.tm t _ hg) ho⟩
      ·cases hk'
     ·cases hk'
    ·cases hk'
 cases e with
 | exit i => cases hk
 | normal => exact main2 _ hk fun _ h => nomatch h
 | ret => exact main2 _ hk fun _ h => nomatch h
theorem Zi8 : ∀ {n t : Nat} {y : Sy}, lk (params n) t = some y -> t < n /\ y = .at (.n t false false)
 | 0, _, _, h => by cases h
 | n + 1, t, y, h => by
  have app : ∀ {l m : List (Nat × Sy)}, lk (l ++ m) t = some y -> lk l t = some y \/ lk m t = some y := by
   intro l
   induction l with
   | nil => intro m h; exact .inr h
   | cons p l ih =>
    intro m h
    obtain ⟨k, b⟩ := p
    rw [Xbf, Zcg] at h
    rw [Zcg]
    split at h
    ·rename_i e; rw [if_pos e]; exact .inl h
    ·rename_i e; rw [if_neg e]; exact ih h
  rcases app h with h | h
  ·obtain ⟨h1, h2⟩ := Zi8 h; exact ⟨by omega, h2⟩
  ·rw [Zcg] at h
   split at h
   ·rename_i e; cases h; subst e; exact ⟨by omega, rfl⟩
   ·cases h
theorem Zv8 {args : List V} {n : Nat} (hl : args.length = n) (hc : Zab (nfL args) = true) : Sat ⟨[], ⟨fun _ => none, 0, fun _ _ => false⟩⟩ ((Zzd n).start (nfL args)) [] (St.init args) where
 tm t y hy := by
  obtain ⟨h1, rfl⟩ := Zi8 hy
  refine ⟨?_, fun h => (nomatch h), fun h => (nomatch h)⟩
  show (nfL args)[t]? = _
  rw [Zez, Zy8, Xad (by omega)]
  simp [List.getD, hl, h1]
 ob k ss hk := by simp [PS.obj, PT.start, Zzd] at hk
 nd := List.nodup_nil
 lt _ h := by cases h
 len := rfl
 lits _ _ h := by cases h
 cln x hx := Zag.1 hc x hx
 g := rfl
 pre _ _ h := by simp at h
 new _ _ h := by simp at h
 nH := Xb2 _
 fr _ h := absurd h (Nat.not_lt_zero _)
def rvps (s : St) : List RS -> Option (List (V × Bool))
 | [] => some []
 | r :: rs => (rv s r).bind fun p => (rvps s rs).map (p :: ·)
theorem Zp4 {s : St} : ∀ {rs : List RS} {ps : List (V × Bool)}, rvps s rs = some ps -> rvs s rs = some (ps.map (·.1))
 | [], ps, h => by cases h; rfl
 | r :: rs, ps, h => by
  simp only [rvps, Xab, Xaa] at h
  obtain ⟨p, h1, ps', h2, rfl⟩ := h
  simp only [rvs, h1, Xaj, Zp4 h2, Xas, Xal]
theorem Zn9 : ∀ {rs : List RS} {S : PS V} {kk : List At -> PS V -> Option V}, Sat κ S ι s -> resA (BV Γ f) S rs kk = some r -> ∃ az S' ps, kk az S' = some r /\ Sat κ S' ι s /\ Ext S S' /\ rvps s rs = some ps /\ AtsO ι S'.vals az ps
 | [], S, kk, h, hk => ⟨[], S, [], hk, h, .refl S, rfl, rfl⟩
 | .t t :: rs, S, kk, h, hk => by
  simp only [resA] at hk
  obtain ⟨a, S1, h1, h2, h3, h4⟩ := Zud h (v := s.tm t) (o := s.own (.slot t)) (fun z hz => h.tm t z hz) hk
  obtain ⟨az, S2, ps, h5, h6, h7, h8, h9⟩ := Zn9 h2 h1
  exact ⟨_, S2, (s.tm t, s.own (.slot t)) :: ps, h5, h6, h3.trans h7, by simp only [rvps, rv, Xaj, h8, Xas], _, _, rfl, h4.mono (.refl _) h7.pre, h9⟩
 | .c t n :: rs, S, kk, h, hk => by
  simp only [resA] at hk
  split at hk
  ·rename_i o off hg
   split at hk
   ·rename_i ss hss
    obtain ⟨id, hid, e1⟩ := h.tm t _ hg
    obtain ⟨id', cs, q1, q2, q3⟩ := h.cob o ss hss
    rw [hid] at q1; cases q1
    obtain ⟨v, y, S1, f1, f2, f3, f4, f5⟩ := Zsz h q3 hk
    obtain ⟨a, S2, h1, h2, h3, h4⟩ := Zud f3 (v := v) (o := false) (fun z hz => by cases hz; exact f5) f2
    obtain ⟨az, S3, ps, h5, h6, h7, h8, h9⟩ := Zn9 h2 h1
    exact ⟨_, S3, (v, false) :: ps, h5, h6, f4.trans (h3.trans h7), by simp only [rvps, rv, e1, q2, Xaj, f1, Xas, h8], _, _, rfl, h4.mono (.refl _) h7.pre, h9⟩
   ·cases hk
  ·cases hk
theorem Zrw (h : Sat κ S ι s) {az : List At} {ps : List (V × Bool)} (ha : AtsO ι S.vals az ps) {rt : RT} {xs : List V} (hf : fitR (BV Γ f) S az rt = some xs) {v : V} {o : Bool}
  (hvo : (∃ p, ps = [p] /\ v = p.1 /\ o = p.2) \/ (ps.length ≠ 1 /\ v = .tup (ps.map (·.1)) /\ ∀ p ∈ ps, p.2 = false)) : ∃ ι', RetS κ rt xs v o s.hs ι' := by
 unfold fitR at hf
 split at hf
 ·rename_i hb
  simp only [Xah] at hb
  have hg1 := Xa2 hb.1
  have hg2 := Xa2 hb.2
  split at hf
  ·rename_i ρ1 acc1 h1
   split at hf
   ·rename_i ρ xs2 h2
    split at hf
    ·rename_i hx
     cases hf
     have hr0 : RI rt.ob.length (idR S.g) := ⟨fun k o hm => by obtain ⟨rfl, hk⟩ := Zcy.1 hm; exact Zw7 hk, fun k k' o h1 h2 => (Zcy.1 h1).1.trans (Zcy.1 h2).1.symm, fun k o hm => by have := (Zcy.1 hm).2; omega⟩
     obtain ⟨r1, r2, ⟨l1, e1⟩, r4, r5⟩ := Ztw h h1 hr0 ha
     obtain ⟨u1, u2, ⟨l2, e2⟩, u4, u5, u6⟩ := Zhm h h2 r1
     have hcov : Cov rt.ob.length ρ ι := fun k hk => by
      obtain ⟨o, h3, h4⟩ := u5 k hk
      rw [Xan] at h3
      rw [<- h.len] at h4
      exact ⟨o, _, h3, Xad h4⟩
     have hag := Zgt (ι := ι) u1
     have hid : ∀ k, k < S.g -> (k, k) ∈ ρ := fun k hk => u2 _ (r2 _ (Zcy.2 ⟨rfl, hk⟩))
     have hres := r5 _ xs (hag.sub u2) (by rw [e2]; exact Pre.app _ _)
     refine ⟨ιOf rt.ob.length ρ ι, ?_⟩
     exact {
      n := Xaf hx
      cl := u4 (r4 rfl)
      pre := fun k id hk => by
       have hkg : k < S.g := by rw [<- h.g]; exact (Xae.1 hk).1
       exact hag _ _ _ (hid k hkg) (h.pre k id hk)
      len := Ze0 _ _ _
      nd := Zun u1 hcov h.nd
      lt := fun id hid => by
       obtain ⟨k, hk⟩ := Xco.1 hid
       obtain ⟨o, _, h4⟩ := Zew u1 hcov hk
       exact h.lt id (Xak h4)
      new := fun k id hk hgk => by
       obtain ⟨o', h3, h4⟩ := Zew u1 hcov hk
       rw [h.g] at hgk
       refine h.new o' id h4 ?_
       rcases Xa4 o' S.g with h5 | h5
       ·have := u1.inj _ _ _ (hid o' h5) h3; omega
       ·exact h5
      nH := h.nH
      res := by
       rcases hvo with ⟨p, rfl, rfl, rfl⟩ | ⟨h3, rfl, h5⟩
       ·have hl := hres.len
        match hrt : rt.res, hl with
        | [T], _ =>
         rw [hrt] at hres
         obtain ⟨p', ps', e, h6, _⟩ := hres
         cases e
         exact h6
       ·have hl := hres.len
        have key := hres.ats h5
        unfold ResS
        split
        ·rename_i T e; rw [e] at hl; exact absurd hl.symm h3
        ·exact ⟨_, rfl, key⟩
      ob := fun k ss hk => by
       obtain ⟨o', id, h3, h4, h6⟩ := u6 k ss hk
       rw [Xan] at h3
       exact ⟨id, hag _ _ _ h3 h4, h6 _ xs hag (.refl _)⟩
      fr := h.fr }
    ·cases hf
   ·cases hf
  ·cases hf
 ·cases hf
def endH (κ : Fc) (rts : List RT) (res : List RS) (r : V) : Ex -> St -> Prop
 | .exit _, _ => False
 | _, s => ∃ v o, Zc8 res s = some (v, o) /\ RetR κ rts r v o s.hs
theorem Zrl {az : List At} : ∀ {l : List RT} {j : Nat}, retT (BV Γ f) S az j l = some r -> ∃ m rt xs, l[m]? = some rt /\ fitR (BV Γ f) S az rt = some xs /\ r = oneV (.int .i64 ((j + m : Nat) : Int) :: dumV xs)
 | [], j, h => by cases h
 | rt :: l, j, h => by
  simp only [retT] at h
  split at h
  ·rename_i xs hf
   cases h
   exact ⟨0, rt, xs, rfl, hf, by cases xs <;> rfl⟩
  ·obtain ⟨m, rt', xs, h1, h2, h3⟩ := Zrl (j := j + 1) (by exact_mod_cast h)
   exact ⟨m + 1, rt', xs, by simpa using h1, h2, by rw [h3, show j + 1 + m = j + (m + 1) by omega]⟩
theorem Zzi (h : Sat κ S ι s) {rts : List RT} {res : List RS} {e : Ex} (hk : resH (BV Γ f) rts res e S = some r) : endH κ rts res r e s := by
 have main : (resA (BV Γ f) S res fun az S1 => retP (BV Γ f) S1 (oneA az) rts) = some r -> ∃ v o, Zc8 res s = some (v, o) /\ RetR κ rts r v o s.hs := by
  intro hk
  obtain ⟨az, S1, ps, h1, h2, _, h3, h4⟩ := Zn9 h hk
  have hl : rvps s res = some ps -> res.length = ps.length := by
   have : ∀ {rs : List RS} {ps : List (V × Bool)}, rvps s rs = some ps -> rs.length = ps.length := by
    intro rs
    induction rs with
    | nil => intro ps h; cases h; rfl
    | cons r rs ih =>
     intro ps h
     simp only [rvps, Xab, Xaa] at h
     obtain ⟨p, _, ps', h2, rfl⟩ := h
     simp [ih h2]
   exact this
  have hl := hl h3
  obtain ⟨az', ps', v, o, e1, hat, hvo, hres⟩ : ∃ az' ps' v o, oneA az = az' /\ AtsO ι S1.vals az' ps' /\ ((∃ p, ps' = [p] /\ v = p.1 /\ o = p.2) \/ (ps'.length ≠ 1 /\ v = .tup (ps'.map (·.1)) /\ ∀ p ∈ ps', p.2 = false)) /\ Zc8 res s = some (v, o) := by
   by_cases hp1 : ps.length = 1
   ·match ps, hp1, hl with
    | [p], _, hl =>
     match res, hl, h3 with
     | [rr], _, h3 =>
      simp only [rvps, Xab, Xaa] at h3
      obtain ⟨p', h5, ps', h6, h7⟩ := h3
      cases h6; cases h7
      match az, h4.len, h4 with
      | [a], _, h4 => exact ⟨_, _, p.1, p.2, rfl, h4, .inl ⟨p, rfl, rfl, rfl⟩, h5⟩
   ·refine ⟨az.map At.noOwn, ps.map fun p => (p.1, false), .tup (ps.map (·.1)), false, ?_, h4.noOwn, .inr ⟨by simpa using hp1, by simp [Function.comp_def], fun p hp => ?_⟩, ?_⟩
    ·match az, h4.len with
     | [a], hl2 => exact absurd hl2.symm hp1
     | [], _ => rfl
     | _ :: _ :: _, _ => rfl
    ·obtain ⟨q, _, rfl⟩ := Xbb.1 hp; rfl
    ·unfold Zc8
     split
     ·exact absurd hl (by simpa using Ne.symm hp1)
     ·rw [Zp4 h3]; rfl
  rw [e1] at h1
  refine ⟨v, o, hres, ?_⟩
  unfold retP at h1
  split at h1
  ·rename_i rt
   split at h1
   ·rename_i xs hf
    cases h1
    obtain ⟨ι', hR⟩ := Zrw h2 hat hf hvo
    exact ⟨0, _, xs, ι', rfl, rfl, hR⟩
   ·cases h1
  ·rename_i hno
   obtain ⟨m, rt, xs, h5, h6, h7⟩ := Zrl (j := 0) h1
   obtain ⟨ι', hR⟩ := Zrw h2 hat h6 hvo
   refine ⟨m, rt, xs, ι', h5, ?_, hR⟩
   rw [h7, Xan]
   unfold Ztb
   split
   ·rename_i hl1
    match rts, hl1, hno with
    | [rt], _, hno => exact absurd rfl (hno rt)
   ·rfl
 cases e with
 | exit i => cases hk
 | normal => exact main hk
 | ret => exact main hk
def endF (κ : Fc) (E : FE) (res : List RS) (r : V) : Ex -> St -> Prop := match E.ret with | none => endY res E.own r | some rts => endH κ rts res r
theorem Zon (h : Sat κ S ι s) {E : FE} {res : List RS} {e : Ex} (hk : resE (BV Γ f) E res e S = some r) : endF κ E res r e s := by
 unfold resE at hk
 unfold endF
 split at hk
 ·rename_i he; rw [he]; exact Zzm h hk
 ·rename_i rts he; rw [he]; exact Zzi h hk
def Zwi (GA : Abs.Spec) (gl : Glob) (F : AFn) (E : FE) (l : Nat) (xs : List V) (r : V) : Prop := ∀ κ T ι s, lk E.lab l = some T -> xs.length = T.n -> Sat κ (T.start xs) ι s -> labQ GA gl l F.body 2 (endF κ E F.res r) s
theorem Z06 (hΓ : GamOK GA gl Γ ow) {F : AFn} {E : FE} (hf : E.k = f) (hJ : ∀ l xs, 2 <= l -> Γ f l xs = some r -> Zwi GA gl F E l xs r) {l : Nat} {xs : List V} (hk : peF (BV Γ f) ow F E l xs = some r) :
  (l = 0 -> E.k = E.f /\ E.ret = none /\ ∀ args, nfL args = xs -> Zab xs = true -> args.length <= F.n /\ awp GA gl F.body (endY F.res E.own r) (St.init args)) /\
  (l = 1 -> ∀ rts, E.ret = some rts -> ∀ args ι hs, args.length = E.ar -> Sat ⟨ι, hs⟩ (E.ent.start xs) ι (St.initH args hs) -> args.length <= F.n /\ awp GA gl F.body (endH ⟨ι, hs⟩ rts F.res r) (St.initH args hs)) /\
  (2 <= l -> Zwi GA gl F E l xs r) := by
 have J : ∀ κ, JOK κ GA gl Γ f E.lab F.body 2 (endF κ E F.res r) r := fun κ m T xs ι s h1 _ h2 h3 h4 h5 h6 => hJ m xs h1 h4 κ T ι s h3 h5 h6
 unfold peF at hk
 split at hk
 ·refine ⟨fun _ => ?_, (fun h => by cases h), fun h => absurd h (by omega)⟩
  split at hk
  ·rename_i hb
   simp only [Xah] at hb
   obtain ⟨⟨⟨b1, b2⟩, b3⟩, b4⟩ := hb
   have h1 := Xaf b1
   have h2 := Xa2 b2
   have hret : E.ret = none := by cases he : E.ret with
    | none => rfl
    | some _ => rw [he] at b4; cases b4
   refine ⟨Xaf b3, hret, fun args ha hc => ?_⟩
   subst ha
   rw [Zaj] at h1
   refine ⟨by omega, ?_⟩
   have := Zg4 hΓ (J ⟨[], ⟨fun _ => none, 0, fun _ _ => false⟩⟩) (Zv8 h1 hc) hk fun e S' ι' s' q1 q2 => Zon q2 q1
   unfold endF at this
   rw [hret] at this
   exact this
  ·cases hk
 ·refine ⟨(fun h => by cases h), fun _ rts hret args ι hs hl hS => ?_, fun h => absurd h (by omega)⟩
  split at hk
  ·rename_i hb
   simp only [Xah] at hb
   obtain ⟨⟨b1, b2⟩, b3⟩ := hb
   have h2 := Xa2 b2
   refine ⟨by omega, ?_⟩
   have := Zg4 hΓ (J ⟨ι, hs⟩) hS hk fun e S' ι' s' q1 q2 => Zon q2 q1
   unfold endF at this
   rw [hret] at this
   exact this
  ·cases hk
 ·rename_i l
  refine ⟨fun h => (by cases h), fun h => absurd h (by omega), fun _ κ T ι s hT hn hs => ?_⟩
  rw [hT] at hk
  simp only [hn, Xdp] at hk
  exact Zfj hΓ (J κ) hs hk fun e S' ι' s' q1 q2 => Zon q2 q1
end Go.Abs
namespace Go.Abs
structure RelB {X D1 D2 : Type} (B1 : Bld X D1) (B2 : Bld X D2) (R : D1 -> D2 -> Prop) : Prop where
 c : B1.c = B2.c
 fail : R B1.fail B2.fail
 prim : ∀ p xs i k1 k2, (∀ x, R (k1 x) (k2 x)) -> R (B1.prim p xs i k1) (B2.prim p xs i k2)
 ite : ∀ x a1 a2 b1 b2, R a1 a2 -> R b1 b2 -> R (B1.ite x a1 b1) (B2.ite x a2 b2)
 call : ∀ f xs i k1 k2, (∀ x, R (k1 x) (k2 x)) -> R (B1.call f xs i k1) (B2.call f xs i k2)
 callv : ∀ v xs i k1 k2, (∀ x, R (k1 x) (k2 x)) -> R (B1.callv v xs i k1) (B2.callv v xs i k2)
 callh : ∀ f xs i k1 k2, (∀ x, R (k1 x) (k2 x)) -> R (B1.callh f xs i k1) (B2.callh f xs i k2)
 jmp : ∀ l xs, R (B1.jmp l xs) (B2.jmp l xs)
 ret : ∀ xs, R (B1.ret xs) (B2.ret xs)
 amb : ∀ x a1 a2 b1 b2, R a1 a2 -> R b1 b2 -> R (B1.amb x a1 b1) (B2.amb x a2 b2)
variable {X D1 D2 : Type} {B1 : Bld X D1} {B2 : Bld X D2} {R : D1 -> D2 -> Prop} {S : PS X}
theorem RelB.valA (h : RelB B1 B2 R) (S : PS X) (a : At) : S.valA B1 a = S.valA B2 a := by
 cases a <;> simp only [PS.valA, h.c]
theorem RelB.segVals (h : RelB B1 B2 R) (S : PS X) : ∀ ss : List Seg, segVals B1 S ss = segVals B2 S ss
 | [] => rfl
 | .one a :: r => by simp only [Abs.segVals, h.valA, RelB.segVals h S r]
 | .many (some n) a :: r => by simp only [Abs.segVals, h.valA, RelB.segVals h S r]
 | .many none a :: r => rfl
theorem RelB.mat (h : RelB B1 B2 R) {S : PS X} {y : Option Sy} {k1 : X -> PS X -> D1} {k2 : X -> PS X -> D2} (hk : ∀ x S, R (k1 x S) (k2 x S)) : R (mat B1 S y k1) (mat B2 S y k2) := by
 unfold Abs.mat
 split
 ·rw [h.valA]; split <;> first | exact hk _ _ | exact h.fail
 ·split <;> first | exact hk _ _ | exact h.fail
 ·rw [h.segVals]; split
  ·exact h.prim _ _ _ _ _ fun x => hk _ _
  ·exact h.fail
 ·exact h.fail
 ·exact h.fail
theorem RelB.matL (h : RelB B1 B2 R) : ∀ {xs : List Opd} {S : PS X} {k1 : List X -> PS X -> D1} {k2 : List X -> PS X -> D2}, (∀ x S, R (k1 x S) (k2 x S)) -> R (matL B1 S xs k1) (matL B2 S xs k2)
 | [], _, _, _, hk => hk _ _
 | o :: xs, S, k1, k2, hk => by
  simp only [Abs.matL]
  exact h.mat fun x S1 => RelB.matL h fun ys S2 => hk _ _
theorem RelB.doX (h : RelB B1 B2 R) {S : PS X} {p : Prim} {xs : List X} {d : Option Nat} {own : Bool} {k1 : PS X -> D1} {k2 : PS X -> D2} (hk : ∀ S, R (k1 S) (k2 S)) : R (doX B1 S p xs d own k1) (doX B2 S p xs d own k2) :=
 h.prim _ _ _ _ _ fun _ => hk _
theorem RelB.doP (h : RelB B1 B2 R) {S : PS X} {p : Prim} {xs : List Opd} {d : Option Nat} {own : Bool} {k1 : PS X -> D1} {k2 : PS X -> D2} (hk : ∀ S, R (k1 S) (k2 S)) : R (doP B1 S p xs d own k1) (doP B2 S p xs d own k2) :=
 h.matL fun _ _ => h.doX hk
theorem RelB.ldIn (h : RelB B1 B2 R) {S : PS X} {a : At} {n : Option Nat} {r : Nat} {k1 : Sy -> PS X -> D1} {k2 : Sy -> PS X -> D2} (hk : ∀ y S, R (k1 y S) (k2 y S)) : R (ldIn B1 S a n r k1) (ldIn B2 S a n r k2) :=
 h.mat fun _ _ => h.prim _ _ _ _ _ fun _ => hk _ _
theorem RelB.ldSegs (h : RelB B1 B2 R) {S : PS X} {ss : List Seg} {i m : Nat} {k1 : Sy -> PS X -> D1} {k2 : Sy -> PS X -> D2} {a1 : D1} {a2 : D2} (hk : ∀ y S, R (k1 y S) (k2 y S)) (ha : R a1 a2) : R (ldSegs B1 S ss i m k1 a1) (ldSegs B2 S ss i m k2 a2) := by
 unfold Abs.ldSegs
 split
 ·rw [h.segVals]; split
  ·exact h.prim _ _ _ _ _ fun _ => hk _ _
  ·exact hk _ _
 ·exact ha
theorem RelB.ldY (h : RelB B1 B2 R) {S : PS X} {ss : List Seg} {off : Nat} {n : Option Nat} {k1 : Sy -> PS X -> D1} {k2 : Sy -> PS X -> D2} (hk : ∀ y S, R (k1 y S) (k2 y S)) : R (ldY B1 S ss off n k1) (ldY B2 S ss off n k2) := by
 unfold Abs.ldY
 repeat' first | exact hk _ _ | exact h.fail | exact h.ldIn hk | exact h.ldSegs hk h.fail | exact h.ldSegs hk (h.ldIn hk) | split
theorem RelB.ldAt (h : RelB B1 B2 R) {S : PS X} {ss : List Seg} {off : Nat} {n : Option Nat} {d : Option Nat} {k1 : PS X -> D1} {k2 : PS X -> D2} (hk : ∀ S, R (k1 S) (k2 S)) : R (ldAt B1 S ss off n d k1) (ldAt B2 S ss off n d k2) :=
 h.ldY fun _ _ => hk _
theorem RelB.asSegs (h : RelB B1 B2 R) {S : PS X} {n : Nat} {y : Sy} {mny : Bool} {k1 : List Seg -> PS X -> D1} {k2 : List Seg -> PS X -> D2} (hk : ∀ q S, R (k1 q S) (k2 q S)) : R (asSegs B1 S n y mny k1) (asSegs B2 S n y mny k2) := by
 unfold Abs.asSegs
 repeat' first | exact hk _ _ | exact h.fail | exact h.mat fun _ _ => h.prim _ _ _ _ _ fun _ => hk _ _ | split
theorem RelB.stAt (h : RelB B1 B2 R) {S : PS X} {o : Nat} {ss : List Seg} {off n : Nat} {y : Sy} {d : Option Nat} {k1 : PS X -> D1} {k2 : PS X -> D2} (hk : ∀ S, R (k1 S) (k2 S)) : R (stAt B1 S o ss off n y d k1) (stAt B2 S o ss off n y d k2) := by
 unfold Abs.stAt
 split
 ·split
  ·exact h.asSegs fun _ _ => hk _
  ·split
   ·exact h.mat fun _ _ => h.mat fun _ _ => h.prim _ _ _ _ _ fun _ => hk _
   ·exact h.fail
 ·exact h.fail
theorem RelB.bldP (h : RelB B1 B2 R) {S : PS X} {z : List V} {ps : List (Nat × Nat × Opd)} {d : Option Nat} {k1 : PS X -> D1} {k2 : PS X -> D2} (hk : ∀ S, R (k1 S) (k2 S)) : R (bldP B1 S z ps d k1) (bldP B2 S z ps d k2) := by
 unfold Abs.bldP
 split
 ·split
  ·unfold Abs.bldR
   repeat' first | exact hk _ | exact h.fail | split
  refine h.matL fun _ _ => h.prim _ _ _ _ _ fun _ => ?_
  split
  ·exact hk _
  ·split
   ·split
    ·rw [h.segVals]; split
     ·exact h.prim _ _ _ _ _ fun _ => hk _
     ·exact h.fail
    ·exact h.fail
   ·exact h.fail
 ·exact h.fail
theorem RelB.onO (h : RelB B1 B2 R) {S : PS X} {x : Opd} {k1 : Sy -> D1} {k2 : Sy -> D2} (hk : ∀ y, R (k1 y) (k2 y)) : R (onO B1 S x k1) (onO B2 S x k2) := by
 unfold Abs.onO
 split
 ·exact hk _
 ·exact h.fail
theorem RelB.mAt (h : RelB B1 B2 R) (S : PS X) (no : Nat) (T y : At) (ρ : List (Nat × Nat)) (acc : List X) : mAt B1 S no T y ρ acc = mAt B2 S no T y ρ acc := by
 unfold Abs.mAt
 simp only [h.valA, h.c]
theorem RelB.mSegs (h : RelB B1 B2 R) (S : PS X) (no : Nat) : ∀ (ss qs : List Seg) (ρ : List (Nat × Nat)) (acc : List X), mSegs B1 S no ss qs ρ acc = mSegs B2 S no ss qs ρ acc
 | [], [], _, _ => rfl
 | .one a :: r, .one b :: q, ρ, acc => by simp only [Abs.mSegs, h.mAt, RelB.mSegs h S no r q]
 | .many (some n) a :: r, .many (some m) b :: q, ρ, acc => by simp only [Abs.mSegs, h.mAt, RelB.mSegs h S no r q]
 | .many none a :: r, .many none b :: q, ρ, acc => by simp only [Abs.mSegs, h.mAt, RelB.mSegs h S no r q]
 | [], _ :: _, _, _ => by simp [Abs.mSegs]
 | _ :: _, [], _, _ => by simp [Abs.mSegs]
 | .one _ :: _, .many _ _ :: _, _, _ => by simp [Abs.mSegs]
 | .many _ _ :: _, .one _ :: _, _, _ => by simp [Abs.mSegs]
 | .many none _ :: _, .many (some _) _ :: _, _, _ => by simp [Abs.mSegs]
 | .many (some _) _ :: _, .many none _ :: _, _, _ => by simp [Abs.mSegs]
theorem RelB.mObs (h : RelB B1 B2 R) (S : PS X) (no : Nat) : ∀ (T : List (Option (List Seg))) (k : Nat) (ρ : List (Nat × Nat)) (acc : List X), mObs B1 S no T k ρ acc = mObs B2 S no T k ρ acc
 | [], _, _, _ => rfl
 | q :: r, k, ρ, acc => by simp only [Abs.mObs, h.mSegs, RelB.mObs h S no r]
theorem RelB.mAts (h : RelB B1 B2 R) (S : PS X) (no : Nat) : ∀ (T az : List At) (ρ : List (Nat × Nat)) (acc : List X), mAts B1 S no T az ρ acc = mAts B2 S no T az ρ acc
 | [], [], _, _ => rfl
 | a :: r, b :: q, ρ, acc => by simp only [Abs.mAts, h.mAt, RelB.mAts h S no r q]
 | [], _ :: _, _, _ => rfl
 | _ :: _, [], _, _ => rfl
theorem RelB.mArgs (h : RelB B1 B2 R) (S : PS X) (no : Nat) (az : List At) : ∀ (tm : List (Nat × Sy)) (ρ : List (Nat × Nat)) (acc : List X), mArgs B1 S no az tm ρ acc = mArgs B2 S no az tm ρ acc
 | [], _, _ => rfl
 | (t, .at a) :: r, ρ, acc => by simp only [Abs.mArgs, h.mAt, RelB.mArgs h S no az r]
 | (_, .agg _ _) :: _, _, _ => rfl
 | (_, .tup _) :: _, _, _ => rfl
theorem RelB.fitE (h : RelB B1 B2 R) (S : PS X) (E : FE) (az : List At) : fitE B1 S E az = fitE B2 S E az := by
 unfold Abs.fitE
 simp only [h.mArgs, h.mObs]
theorem RelB.pickE (h : RelB B1 B2 R) (S : PS X) (az : List At) : ∀ l : List FE, pickE B1 S az l = pickE B2 S az l
 | [] => rfl
 | E :: l => by simp only [Abs.pickE, h.fitE, RelB.pickE h S az l]
theorem RelB.unp (h : RelB B1 B2 R) {v : X} : ∀ {n i nx : Nat} {k1 : List X -> D1} {k2 : List X -> D2}, (∀ l, R (k1 l) (k2 l)) -> R (unp B1 v n i nx k1) (unp B2 v n i nx k2)
 | 0, _, _, _, _, hk => hk _
 | n + 1, i, nx, k1, k2, hk => h.prim _ _ _ _ _ fun x => RelB.unp h fun xs => hk _
theorem RelB.unpR (h : RelB B1 B2 R) {tag : Bool} {v : X} {n nx : Nat} {k1 : List X -> D1} {k2 : List X -> D2} (hk : ∀ l, R (k1 l) (k2 l)) : R (unpR B1 tag v n nx k1) (unpR B2 tag v n nx k2) := by
 unfold Abs.unpR
 repeat' first | exact hk _ | exact h.unp hk | split
theorem RelB.putRs (h : RelB B1 B2 R) {S : PS X} {d : Option Nat} {k1 : PS X -> D1} {k2 : PS X -> D2} (hk : ∀ S, R (k1 S) (k2 S)) (o : Option (List At)) : R (putRs B1 S d k1 o) (putRs B2 S d k2 o) := by
 unfold Abs.putRs
 repeat' first | exact hk _ | exact h.fail | split
theorem RelB.callRs (h : RelB B1 B2 R) {S : PS X} {g : Nat} {ρ : List (Nat × Nat)} {d : Option Nat} {tag : Bool} {v : X} {rt : RT} {k1 : PS X -> D1} {k2 : PS X -> D2} (hk : ∀ S, R (k1 S) (k2 S)) : R (callRs B1 S g ρ d tag v rt k1) (callRs B2 S g ρ d tag v rt k2) := by
 unfold Abs.callRs
 split
 ·exact h.unpR fun _ => h.putRs hk _
 ·exact h.fail
theorem RelB.swR (h : RelB B1 B2 R) {t : X} {k1 : PS X -> RT -> D1} {k2 : PS X -> RT -> D2} (hk : ∀ S rt, R (k1 S rt) (k2 S rt)) : ∀ {l : List RT} {S : PS X} {j : Int}, R (swR B1 t k1 S j l) (swR B2 t k2 S j l)
 | [], _, _ => h.fail
 | [_], _, _ => hk _ _
 | x :: y :: l, S, j => by
  simp only [Abs.swR]
  rw [h.c]
  exact h.prim _ _ _ _ _ fun b => h.ite _ _ _ _ _ (hk _ _) (RelB.swR h hk (l := y :: l))
theorem RelB.callE (h : RelB B1 B2 R) {S : PS X} {d : Option Nat} {k1 : PS X -> D1} {k2 : PS X -> D2} (hk : ∀ S, R (k1 S) (k2 S)) (q : Option (FE × List (Nat × Nat) × List X)) : R (callE B1 S d k1 q) (callE B2 S d k2 q) := by
 unfold Abs.callE
 split
 ·split
  ·exact h.callh _ _ _ _ _ fun _ => h.callRs hk
  ·exact h.callh _ _ _ _ _ fun _ => h.prim _ _ _ _ _ fun _ => h.swR fun _ _ => h.callRs hk
  ·exact h.fail
 ·exact h.fail
theorem RelB.atO (h : RelB B1 B2 R) {S : PS X} {y : Option Sy} {k1 : At -> PS X -> D1} {k2 : At -> PS X -> D2} (hk : ∀ a S, R (k1 a S) (k2 a S)) : R (atO B1 S y k1) (atO B2 S y k2) := by
 unfold Abs.atO
 split
 ·exact hk _ _
 ·exact hk _ _
 ·rw [h.segVals]; split
  ·exact h.prim _ _ _ _ _ fun _ => hk _ _
  ·exact h.fail
 ·exact h.fail
theorem RelB.atsO (h : RelB B1 B2 R) : ∀ {xs : List Opd} {S : PS X} {k1 : List At -> PS X -> D1} {k2 : List At -> PS X -> D2}, (∀ a S, R (k1 a S) (k2 a S)) -> R (atsO B1 S xs k1) (atsO B2 S xs k2)
 | [], _, _, _, hk => hk _ _
 | x :: xs, _, _, _, hk => by
  simp only [Abs.atsO]
  exact h.atO fun _ _ => RelB.atsO h fun _ _ => hk _ _
theorem RelB.coal (h : RelB B1 B2 R) {S : PS X} {o off n : Nat} {k1 : PS X -> D1} {k2 : PS X -> D2} (hk : ∀ S, R (k1 S) (k2 S)) : R (coal B1 S o off n k1) (coal B2 S o off n k2) := by
 unfold Abs.coal
 repeat' first | exact hk _ | exact h.fail | exact h.prim _ _ _ _ _ fun _ => hk _ | (rw [h.segVals]; split) | split
theorem RelB.splitO (h : RelB B1 B2 R) {S : PS X} {o off : Nat} {k1 : PS X -> D1} {k2 : PS X -> D2} (hk : ∀ S, R (k1 S) (k2 S)) : R (splitO B1 S o off k1) (splitO B2 S o off k2) := by
 unfold Abs.splitO
 repeat' first | exact hk _ | exact h.fail | exact h.prim _ _ _ _ _ fun _ => h.prim _ _ _ _ _ fun _ => h.prim _ _ _ _ _ fun _ => hk _ | (rw [h.valA]; split) | split
theorem RelB.rowVal (h : RelB B1 B2 R) (S : PS X) (o : Nat) : rowVal B1 S o = rowVal B2 S o := by
 unfold Abs.rowVal
 simp only [h.valA]
theorem RelB.snapO (h : RelB B1 B2 R) {S : PS X} {y : Option Sy} {k1 : X -> PS X -> D1} {k2 : X -> PS X -> D2} (hk : ∀ x S, R (k1 x S) (k2 x S)) : R (snapO B1 S y k1) (snapO B2 S y k2) := by
 unfold Abs.snapO
 repeat' first
  | exact h.fail
  | exact h.mat fun _ _ => h.prim _ _ _ _ _ fun _ => hk _ _
  | exact h.mat fun _ _ => hk _ _
  | exact h.prim _ _ _ _ _ fun _ => hk _ _
  | (rw [h.c]; exact h.prim _ _ _ _ _ fun _ => hk _ _)
  | (rw [h.rowVal]; split)
  | split
theorem RelB.snapA (h : RelB B1 B2 R) : ∀ {xs : List Opd} {fl : Bool} {S : PS X} {k1 : List X -> PS X -> D1} {k2 : List X -> PS X -> D2}, (∀ x S, R (k1 x S) (k2 x S)) -> R (snapA B1 fl S xs k1) (snapA B2 fl S xs k2)
 | [], _, _, _, _, hk => hk _ _
 | o :: xs, fl, S, _, _, hk => by
  simp only [Abs.snapA]
  split
  ·exact h.fail
  ·exact h.snapO fun _ _ => RelB.snapA h fun _ _ => hk _ _
theorem RelB.mapV (h : RelB B1 B2 R) (S : PS X) (y : Option Sy) : mapV B1 S y = mapV B2 S y := by
 unfold Abs.mapV
 split <;> simp only [h.c]
theorem RelB.op1 (h : RelB B1 B2 R) {ow : Cfg} {S : PS X} {d : Option Nat} {op : AOp} {k1 : PS X -> D1} {k2 : PS X -> D2} (hk : ∀ S, R (k1 S) (k2 S)) : R (op1 B1 ow d op S k1) (op1 B2 ow d op S k2) := by
 cases op <;> simp only [Abs.op1] <;> repeat' first
  | exact hk _
  | exact h.fail
  | exact h.onO fun _ => hk _
  | exact h.doP hk
  | exact h.bldP hk
  | exact h.ldAt hk
  | exact h.stAt hk
  | exact h.mat fun _ _ => h.amb _ _ _ _ _ (hk _) (hk _)
  | exact h.snapO fun _ _ => h.prim _ _ _ _ _ fun _ => h.prim _ _ _ _ _ fun _ => hk _
  | exact h.mat fun _ _ => h.doX hk
  | exact h.doX hk
  | exact h.atsO fun _ _ => by rw [h.pickE]; exact h.callE hk _
  | refine h.splitO fun _ => ?_
  | (rw [h.c]; exact h.doX hk)
  | exact h.coal fun _ => h.matL fun _ _ => h.prim _ _ _ _ _ fun _ => hk _
  | exact h.mat fun _ _ => h.prim _ _ _ _ _ fun _ => hk _
  | exact h.mat fun _ _ => h.mat fun _ _ => h.prim _ _ _ _ _ fun _ => hk _
  | exact h.matL fun _ _ => h.prim _ _ _ _ _ fun _ => hk _
  | exact h.matL fun _ _ => h.call _ _ _ _ _ fun _ => hk _
  | exact h.matL fun _ _ => h.doX hk
  | exact h.call _ _ _ _ _ fun _ => hk _
  | exact h.callv _ _ _ _ _ fun _ => hk _
  | (rw [h.pickE]; exact h.callE hk _)
  | exact h.snapA fun _ _ => h.call _ _ _ _ _ fun _ => h.prim _ _ _ _ _ fun _ => hk _
  | (rw [h.valA]; split)
  | (rw [h.rowVal]; split)
  | (rw [h.mapV]; split)
  | (rw [h.c]; exact hk _)
  | split
  | refine h.matL fun _ _ => ?_
  | refine h.atsO fun _ _ => ?_
  | refine h.mat fun _ _ => ?_
  | (rw [h.c]; refine h.prim _ _ _ _ _ fun _ => ?_)
  | refine h.prim _ _ _ _ _ fun _ => ?_
theorem RelB.opG (h : RelB B1 B2 R) {ow : Cfg} {S : PS X} {o : AOper} {k1 : PS X -> D1} {k2 : PS X -> D2} (hk : ∀ S, R (k1 S) (k2 S)) : R (opG B1 ow o S k1) (opG B2 ow o S k2) := by
 unfold Abs.opG
 repeat' first
  | exact hk _
  | exact h.fail
  | exact h.op1 hk
  | exact h.ite _ _ _ _ _ (h.op1 hk) (hk _)
  | exact h.ite _ _ _ _ _ (hk _) (h.op1 hk)
  | split
theorem RelB.opsG (h : RelB B1 B2 R) {ow : Cfg} : ∀ {os : List AOper} {S : PS X} {k1 : PS X -> D1} {k2 : PS X -> D2}, (∀ S, R (k1 S) (k2 S)) -> R (opsG B1 ow os S k1) (opsG B2 ow os S k2)
 | [], _, _, _, hk => hk _
 | o :: os, _, _, _, hk => h.opG fun _ => RelB.opsG h hk
theorem RelB.mTm (h : RelB B1 B2 R) (S : PS X) (no : Nat) : ∀ (tm : List (Nat × Sy)) (ρ : List (Nat × Nat)) (acc : List X), mTm B1 S no tm ρ acc = mTm B2 S no tm ρ acc
 | [], _, _ => rfl
 | (t, .at a) :: r, ρ, acc => by simp only [Abs.mTm, h.mAt, RelB.mTm h S no r]
 | (t, .agg ss none) :: r, ρ, acc => by simp only [Abs.mTm, h.mSegs, RelB.mTm h S no r]
 | (_, .agg _ (some _)) :: _, _, _ => rfl
 | (_, .tup _) :: _, _, _ => rfl
theorem RelB.jump (h : RelB B1 B2 R) {m : Nat} {T : PT} {S : PS X} : R (jump B1 m T S) (jump B2 m T S) := by
 unfold Abs.jump
 rw [h.mTm]
 split
 ·rw [h.mObs]
  split
  ·split
   ·exact h.jmp _ _
   ·exact h.fail
  ·exact h.fail
 ·exact h.fail
theorem RelB.pe (h : RelB B1 B2 R) {ow : Cfg} {L : List (Nat × PT)} : ∀ {c : ACode} {n : Nat} {S : PS X} {k1 : Ex -> PS X -> D1} {k2 : Ex -> PS X -> D2}, (∀ e S, R (k1 e S) (k2 e S)) -> R (pe B1 ow L c n S k1) (pe B2 ow L c n S k2)
 | .skip, _, _, _, _, hk => hk _ _
 | .region _ _, _, _, _, _, hk => h.opsG fun _ => hk _ _
 | .seq a b, n, S, k1, k2, hk => by
  simp only [Abs.pe]
  refine RelB.pe h fun e S' => ?_
  cases e with
  | normal =>
   simp only
   split
   ·exact h.jump
   ·exact RelB.pe h hk
  | exit i => exact hk _ _
  | ret => exact hk _ _
 | .cond c a b, n, S, k1, k2, hk => by
  simp only [Abs.pe]
  split
  ·exact RelB.pe h hk
  ·exact RelB.pe h hk
  ·split
   ·split
    ·exact h.ite _ _ _ _ _ (RelB.pe h hk) (RelB.pe h hk)
    ·exact h.fail
   ·exact h.fail
 | .block i b, n, S, k1, k2, hk => by
  simp only [Abs.pe]
  exact RelB.pe h (c := b) fun e S' => hk (e.inBlock i) S'
 | .loop b, n, S, k1, k2, hk => by
  simp only [Abs.pe]
  split
  ·exact h.jump
  ·exact h.fail
 | .exit i, _, _, _, _, hk => hk _ _
 | .ret, _, _, _, _, hk => hk _ _
 | .fail, _, _, _, _, _ => h.fail
theorem RelB.peL (h : RelB B1 B2 R) {ow : Cfg} {L : List (Nat × PT)} {c : ACode} {n : Nat} {S : PS X} {k1 : Ex -> PS X -> D1} {k2 : Ex -> PS X -> D2} (hk : ∀ e S, R (k1 e S) (k2 e S)) : R (peL B1 ow L c n S k1) (peL B2 ow L c n S k2) := by
 unfold Abs.peL
 split
 ·refine h.pe fun e S' => ?_
  cases e with
  | normal =>
   simp only
   split
   ·exact h.jump
   ·exact h.fail
  | exit i => exact hk _ _
  | ret => exact hk _ _
 ·exact h.pe hk
theorem RelB.peAt (h : RelB B1 B2 R) {ow : Cfg} {L : List (Nat × PT)} {m : Nat} : ∀ {c : ACode} {n : Nat} {S : PS X} {k1 : Ex -> PS X -> D1} {k2 : Ex -> PS X -> D2}, (∀ e S, R (k1 e S) (k2 e S)) -> R (peAt B1 ow L m c n S k1) (peAt B2 ow L m c n S k2)
 | .seq a b, n, S, k1, k2, hk => by
  simp only [Abs.peAt]
  split
  ·refine RelB.peAt h fun e S' => ?_
   cases e with
   | normal =>
    simp only
    split
    ·exact h.jump
    ·exact h.pe hk
   | exit i => exact hk _ _
   | ret => exact hk _ _
  ·split
   ·exact h.peL hk
   ·exact RelB.peAt h hk
 | .cond _ a b, n, S, k1, k2, hk => by
  simp only [Abs.peAt]
  split
  ·exact RelB.peAt h hk
  ·exact RelB.peAt h hk
 | .block i b, n, S, k1, k2, hk => by
  simp only [Abs.peAt]
  exact RelB.peAt h (c := b) fun e S' => hk (e.inBlock i) S'
 | .loop b, n, S, k1, k2, hk => by
  simp only [Abs.peAt]
  split
  ·exact h.peL hk
  ·refine RelB.peAt h fun e S' => ?_
   cases e with
   | normal =>
    simp only
    split
    ·exact h.jump
    ·exact h.fail
   | exit i => exact hk _ _
   | ret => exact hk _ _
 | .skip, _, _, _, _, _ => h.fail
 | .region _ _, _, _, _, _, _ => h.fail
 | .exit _, _, _, _, _, _ => h.fail
 | .ret, _, _, _, _, _ => h.fail
 | .fail, _, _, _, _, _ => h.fail
theorem RelB.resL (h : RelB B1 B2 R) : ∀ {rs : List RS} {S : PS X} {acc : List X}, R (resL B1 S rs acc) (resL B2 S rs acc)
 | [], _, _ => h.ret _
 | .t t :: rs, S, acc => by
  simp only [Abs.resL, resR]
  exact h.mat fun _ _ => RelB.resL h
 | .c t n :: rs, S, acc => by
  simp only [Abs.resL, resR]
  split
  ·split
   ·exact h.ldY fun _ _ => h.mat fun _ _ => RelB.resL h
   ·exact h.fail
  ·exact h.fail
theorem RelB.resK (h : RelB B1 B2 R) {own : Bool} {res : List RS} (e : Ex) (S : PS X) : R (resK B1 own res e S) (resK B2 own res e S) := by
 unfold Abs.resK
 repeat' first | exact h.fail | exact h.resL | split
theorem RelB.resA (h : RelB B1 B2 R) : ∀ {rs : List RS} {S : PS X} {k1 : List At -> PS X -> D1} {k2 : List At -> PS X -> D2}, (∀ a S, R (k1 a S) (k2 a S)) -> R (resA B1 S rs k1) (resA B2 S rs k2)
 | [], _, _, _, hk => hk _ _
 | .t t :: rs, S, _, _, hk => by
  simp only [Abs.resA]
  exact h.atO fun _ _ => RelB.resA h fun _ _ => hk _ _
 | .c t n :: rs, S, _, _, hk => by
  simp only [Abs.resA]
  split
  ·split
   ·exact h.ldY fun _ _ => h.atO fun _ _ => RelB.resA h fun _ _ => hk _ _
   ·exact h.fail
  ·exact h.fail
theorem RelB.fitR (h : RelB B1 B2 R) (S : PS X) (az : List At) (rt : RT) : fitR B1 S az rt = fitR B2 S az rt := by
 unfold Abs.fitR
 simp only [h.mAts, h.mObs]
theorem RelB.retT (h : RelB B1 B2 R) {S : PS X} {az : List At} : ∀ {l : List RT} {j : Int}, R (retT B1 S az j l) (retT B2 S az j l)
 | [], _ => h.fail
 | rt :: l, j => by
  have hd : ∀ xs, dum B1 xs = dum B2 xs := fun xs => by cases xs <;> simp only [dum, h.c]
  simp only [Abs.retT]
  rw [h.fitR]
  split
  ·rw [h.c, hd]; exact h.ret _
  ·exact RelB.retT h
theorem RelB.retP (h : RelB B1 B2 R) {S : PS X} {az : List At} {l : List RT} : R (retP B1 S az l) (retP B2 S az l) := by
 unfold Abs.retP
 split
 ·rw [h.fitR]
  split
  ·exact h.ret _
  ·exact h.fail
 ·exact h.retT
theorem RelB.resE (h : RelB B1 B2 R) {E : FE} {res : List RS} (e : Ex) (S : PS X) : R (resE B1 E res e S) (resE B2 E res e S) := by
 unfold Abs.resE
 split
 ·exact h.resK e S
 ·unfold Abs.resH
  split
  ·exact h.fail
  ·exact h.resA fun _ _ => h.retP
theorem RelB.peF (h : RelB B1 B2 R) {ow : Cfg} {F : AFn} {E : FE} {l : Nat} {xs : List X} : R (peF B1 ow F E l xs) (peF B2 ow F E l xs) := by
 unfold Abs.peF
 repeat' first | exact h.fail | exact h.pe h.resE | exact h.peAt h.resE | split
noncomputable def step (P : Program) (tabs : List FE) (ext : Nat -> List V -> Option V) (ow : Cfg) (Γ : Gam) : Gam := fun f l xs =>
 match tabs.find? (fun E => Nat.beq E.k f) with
 | some E => match cFnR P (E.pl && E.ret.isNone) E.ret.isSome E.f with
  | some F => peF (BV Γ f) ow F E l xs
  | none => none
 | none => match l with
  | 0 => ext f xs
  | _ + 1 => none
variable {P : Program} {tabs : List FE} {ext : Nat -> List V -> Option V} {ow : Cfg}
noncomputable def rounds (P : Program) (tabs : List FE) (ext : Nat -> List V -> Option V) (ow : Cfg) : Nat -> Gam
 | 0 => fun _ _ _ => none
 | n + 1 => step P tabs ext ow (rounds P tabs ext ow n)
open Classical in
noncomputable def val (P : Program) (tabs : List FE) (ext : Nat -> List V -> Option V) (ow : Cfg) : Gam := fun f l xs =>
 if h : ∃ n r, rounds P tabs ext ow n f l xs = some r then some h.choose_spec.choose else none
def Le (Γ Γ' : Gam) : Prop := ∀ f l xs r, Γ f l xs = some r -> Γ' f l xs = some r
theorem Zov {Γ Γ' : Gam} (h : Le Γ Γ') (f : Nat) : RelB (BV Γ f) (BV Γ' f) (fun a b => ∀ r, a = some r -> b = some r) where
 c := rfl
 fail _ h := by cases h
 prim p xs i k1 k2 hk r hr := by
  simp only [BV, Xab] at hr ⊢
  obtain ⟨x, h1, h2⟩ := hr
  exact ⟨x, h1, hk x r h2⟩
 ite x a1 a2 b1 b2 h1 h2 r hr := by
  simp only [BV] at hr ⊢
  rcases Zf9 hr with ⟨rfl, h3⟩ | ⟨rfl, h3⟩
  ·exact h1 r h3
  ·exact h2 r h3
 call g xs i k1 k2 hk r hr := by
  simp only [BV, Xab] at hr ⊢
  obtain ⟨x, h1, h2⟩ := hr
  exact ⟨x, h _ _ _ _ h1, hk x r h2⟩
 callv v xs i k1 k2 hk r hr := by
  simp only [BV, Xab] at hr ⊢
  obtain ⟨x, h1, h2⟩ := hr
  refine ⟨x, ?_, hk x r h2⟩
  unfold Zeg at h1 ⊢
  split at h1
  ·exact h _ _ _ _ h1
  ·cases h1
 callh g xs i k1 k2 hk r hr := by
  simp only [BV, Xab] at hr ⊢
  obtain ⟨x, h1, h2⟩ := hr
  exact ⟨x, h _ _ _ _ h1, hk x r h2⟩
 jmp l xs r hr := h _ _ _ _ hr
 ret xs r hr := hr
 amb x a1 a2 b1 b2 h1 h2 r hr := by
  simp only [BV] at hr ⊢
  rcases Zh9 hr with ⟨c, sz, rfl, h3, h4⟩ | ⟨c, sz, y, l, rfl, h3⟩
  ·rw [h1 r h3, h2 r h4]; simp [vamb]
  ·exact h2 r h3
theorem Zmx {Γ Γ' : Gam} (h : Le Γ Γ') : Le (step P tabs ext ow Γ) (step P tabs ext ow Γ') := fun f l xs r hr => by
 unfold step at hr ⊢
 split at hr
 ·split at hr
  ·exact (Zov h f).peF r hr
  ·cases hr
 ·split at hr
  ·exact hr
  ·cases hr
theorem Zhk : ∀ n, Le (rounds P tabs ext ow n) (rounds P tabs ext ow (n + 1))
 | 0 => fun _ _ _ _ h => by cases h
 | n + 1 => Zmx (Zhk n)
theorem Zdx {n m : Nat} (h : n <= m) : Le (rounds P tabs ext ow n) (rounds P tabs ext ow m) := by
 induction h with
 | refl => exact fun _ _ _ _ h => h
 | step _ ih => exact fun f l xs r hr => Zhk _ f l xs r (ih f l xs r hr)
theorem Zc0 {f l : Nat} {xs : List V} {r : V} : val P tabs ext ow f l xs = some r <-> ∃ n, rounds P tabs ext ow n f l xs = some r := by
 unfold val
 constructor
 ·intro h
  split at h
  ·rename_i hex
   cases h
   exact ⟨hex.choose, hex.choose_spec.choose_spec⟩
  ·cases h
 ·rintro ⟨n, hn⟩
  have hex : ∃ n r, rounds P tabs ext ow n f l xs = some r := ⟨n, r, hn⟩
  rw [dif_pos hex]
  have h1 := hex.choose_spec.choose_spec
  have h2 := Zdx (Xd0 n hex.choose) _ _ _ _ hn
  have h3 := Zdx (Xdf n hex.choose) _ _ _ _ h1
  rw [h2] at h3
  exact h3.symm
noncomputable def BN (G : Nat -> Gam) (f : Nat) : Bld V (Nat -> Option V) where
 c v := v
 fail _ := none
 prim p xs _ k n := (evp p xs).bind fun x => k x n
 ite x a b n := vif x (a n) (b n)
 call g xs _ k n := (G n g 0 xs).bind fun x => k x n
 callv x xs _ k n := (Zeg (G n) x xs).bind fun x => k x n
 callh g xs _ k n := (G n g 1 xs).bind fun x => k x n
 jmp l xs n := G n f l xs
 ret xs _ := some (oneV xs)
 amb x a b n := vamb x (a n) (b n)
theorem Z33 (G : Nat -> Gam) (f n : Nat) : RelB (BN G f) (BV (G n) f) (fun a b => a n = b) where
 c := rfl
 fail := rfl
 prim p xs i k1 k2 hk := by show (evp p xs).bind _ = (evp p xs).bind _; congr 1; funext x; exact hk x
 ite x a1 a2 b1 b2 h1 h2 := by show vif x (a1 n) (b1 n) = vif x a2 b2; rw [h1, h2]
 call g xs i k1 k2 hk := by show (G n g 0 xs).bind _ = (G n g 0 xs).bind _; congr 1; funext x; exact hk x
 callv v xs i k1 k2 hk := by show (Zeg (G n) v xs).bind _ = (Zeg (G n) v xs).bind _; congr 1; funext x; exact hk x
 callh g xs i k1 k2 hk := by show (G n g 1 xs).bind _ = (G n g 1 xs).bind _; congr 1; funext x; exact hk x
 jmp l xs := rfl
 ret xs := rfl
 amb x a1 a2 b1 b2 h1 h2 := by show vamb x (a1 n) (b1 n) = vamb x a2 b2; rw [h1, h2]
theorem Zyq (f : Nat) : RelB (BV (val P tabs ext ow) f) (BN (rounds P tabs ext ow) f) (fun a b => ∀ r, a = some r -> ∃ N, ∀ n, N <= n -> b n = some r) where
 c := rfl
 fail _ h := by cases h
 prim p xs i k1 k2 hk r hr := by
  simp only [BV, Xab] at hr
  obtain ⟨x, h1, h2⟩ := hr
  obtain ⟨N, hN⟩ := hk x r h2
  exact ⟨N, fun n hn => by simp only [BN, h1, Xaj]; exact hN n hn⟩
 ite x a1 a2 b1 b2 h1 h2 r hr := by
  simp only [BV] at hr
  rcases Zf9 hr with ⟨rfl, h3⟩ | ⟨rfl, h3⟩
  ·exact h1 r h3
  ·exact h2 r h3
 call g xs i k1 k2 hk r hr := by
  simp only [BV, Xab] at hr
  obtain ⟨x, h1, h2⟩ := hr
  obtain ⟨N, hN⟩ := hk x r h2
  obtain ⟨M, hM⟩ := Zc0.1 h1
  exact ⟨max N M, fun n hn => by simp only [BN, Zdx (show M <= n by omega) _ _ _ _ hM, Xaj]; exact hN n (by omega)⟩
 callv v xs i k1 k2 hk r hr := by
  simp only [BV, Xab] at hr
  obtain ⟨x, h1, h2⟩ := hr
  obtain ⟨N, hN⟩ := hk x r h2
  unfold Zeg at h1
  split at h1
  ·obtain ⟨M, hM⟩ := Zc0.1 h1
   exact ⟨max N M, fun n hn => by simp only [BN, Zeg, Zdx (show M <= n by omega) _ _ _ _ hM, Xaj]; exact hN n (by omega)⟩
  ·cases h1
 callh g xs i k1 k2 hk r hr := by
  simp only [BV, Xab] at hr
  obtain ⟨x, h1, h2⟩ := hr
  obtain ⟨N, hN⟩ := hk x r h2
  obtain ⟨M, hM⟩ := Zc0.1 h1
  exact ⟨max N M, fun n hn => by simp only [BN, Zdx (show M <= n by omega) _ _ _ _ hM, Xaj]; exact hN n (by omega)⟩
 jmp l xs r hr := by
  obtain ⟨M, hM⟩ := Zc0.1 hr
  exact ⟨M, fun n hn => Zdx hn _ _ _ _ hM⟩
 ret xs r hr := ⟨0, fun n _ => hr⟩
 amb x a1 a2 b1 b2 h1 h2 r hr := by
  simp only [BV] at hr
  rcases Zh9 hr with ⟨c, sz, rfl, h3, h4⟩ | ⟨c, sz, y, l, rfl, h3⟩
  ·obtain ⟨N, hN⟩ := h1 r h3
   obtain ⟨M, hM⟩ := h2 r h4
   exact ⟨max N M, fun n hn => by show vamb (.sl c sz []) (a2 n) (b2 n) = some r; rw [hN n (by omega), hM n (by omega)]; simp [vamb]⟩
  ·obtain ⟨M, hM⟩ := h2 r h3
   exact ⟨M, fun n hn => by show vamb (.sl c sz (y :: l)) (a2 n) (b2 n) = some r; rw [hM n hn]; rfl⟩
theorem Zvb : val P tabs ext ow = step P tabs ext ow (val P tabs ext ow) := by
 funext f l xs
 apply Option.ext
 intro r
 constructor
 ·intro h
  obtain ⟨n, hn⟩ := Zc0.1 h
  cases n with
  | zero => cases hn
  | succ n => exact Zmx (fun f l xs r h => Zc0.2 ⟨n, h⟩) f l xs r hn
 ·intro h
  unfold step at h
  split at h
  ·rename_i E hE
   split at h
   ·rename_i F hF
    obtain ⟨N, hN⟩ := (Zyq f).peF r h
    refine Zc0.2 ⟨N + 1, ?_⟩
    show step P tabs ext ow (rounds P tabs ext ow N) f l xs = some r
    unfold step
    rw [hE]; simp only [hF]
    rw [<- (Z33 (rounds P tabs ext ow) f N).peF]; exact hN N (Xag _)
   ·cases h
  ·rename_i hE
   split at h
   ·refine Zc0.2 ⟨1, ?_⟩
    show step P tabs ext ow _ f 0 xs = some r
    unfold step
    rw [hE]; exact h
   ·cases h
end Go.Abs
namespace Go.Abs
def Good (cx : Cx) (ow : Cfg) (f : Nat) (xs : List V) (r : V) : Prop := Zab xs = true -> ∀ args, nfL args = xs -> r.clean = true /\ ∃ v o, PC cx f args (v, o) /\ v.nf = r /\ (ow.ow f = true -> Own v o)
def Zue (cx : Cx) (ext : Nat -> List V -> Option V) (ow : Cfg) : Prop := ∀ f xs r, ext f xs = some r -> Good cx ow f xs r
open Classical in
noncomputable def Zok (cx : Cx) (Γ : Gam) (ow : Cfg) : Nat -> List V -> Option (V × Bool) := fun f args =>
 if h : ∃ p : V × Bool, Zab args = true /\ PC cx f args p /\ Γ f 0 (nfL args) = some p.1.nf /\ (ow.ow f = true -> Own p.1 p.2) then some h.choose else none
theorem Zop (cx : Cx) (Γ : Gam) (ow : Cfg) : ∀ f args r, Zok cx Γ ow f args = some r -> PC cx f args r := by
 intro f args p hp
 unfold Zok at hp
 split at hp
 ·rename_i hex
  cases hp
  exact hex.choose_spec.2.1
 ·cases hp
variable {cx : Cx} {tabs : List FE} {ext : Nat -> List V -> Option V} {ow : Cfg}
noncomputable def Zsb (cx : Cx) (tabs : List FE) (ext : Nat -> List V -> Option V) (ow : Cfg) : Abs.Spec := hL cx.P cx.gl (Zok cx (val cx.P tabs ext ow) ow)
structure TabOK (cx : Cx) (tabs : List FE) (ow : Cfg) : Prop where
 own : ∀ E ∈ tabs, E.ret = none -> ow.ow E.k = E.own
 he : ∀ f, ∀ E ∈ ow.he f, tabs.find? (fun E' => Nat.beq E'.k E.k) = some E /\ E.f = f
 gl : ∀ g cs, ow.gl g = some cs -> cx.gl g = some cs /\ nfL cs = cs /\ Zab cs = true
theorem Z2g {tabs : List FE} {k : Nat} {E : FE} (h : tabs.find? (fun E => Nat.beq E.k k) = some E) : E.k = k /\ E ∈ tabs :=
 ⟨Xaf (by simpa using Xe5 h), Xdu h⟩
def Z5h (cx : Cx) (tabs : List FE) (ext : Nat -> List V -> Option V) (ow : Cfg) (E : FE) (xs : List V) (r : V) : Prop :=
 ∀ rts, E.ret = some rts -> ∀ args ι hs, args.length = E.ar -> Sat ⟨ι, hs⟩ (E.ent.start xs) ι (St.initH args hs) -> ∃ v o hs', (Zsb cx tabs ext ow).h E.f args hs = some (v, o, hs') /\ RetR ⟨ι, hs⟩ rts r v o hs'
theorem Zl3 (hgl : GlOK cx) (hm : cx.P.follows .mixedOrders = true) (hext : Zue cx ext ow) (hT : TabOK cx tabs ow) : ∀ (n k l : Nat) (xs : List V) (r : V), rounds cx.P tabs ext ow n k l xs = some r ->
  (l = 0 -> Good cx ow k xs r) /\ (l = 1 -> ∀ E, tabs.find? (fun E => Nat.beq E.k k) = some E -> Z5h cx tabs ext ow E xs r) /\
  (2 <= l -> ∀ E F, tabs.find? (fun E => Nat.beq E.k k) = some E -> cFnR cx.P (E.pl && E.ret.isNone) E.ret.isSome E.f = some F -> Zwi (Zsb cx tabs ext ow) cx.gl F E l xs r)
 | 0, _, _, _, _, h => by cases h
 | n + 1, k, l, xs, r, h => by
  have ih := Zl3 hgl hm hext hT n
  have hle : Le (rounds cx.P tabs ext ow n) (val cx.P tabs ext ow) := fun f l xs r h => Zc0.2 ⟨n, h⟩
  have hsound : Sound cx (Zsb cx tabs ext ow) := Zu7 hgl hm (Zop cx _ ow)
  have hΓ : GamOK (Zsb cx tabs ext ow) cx.gl (rounds cx.P tabs ext ow n) ow := by
   refine ⟨fun f args r hc hr => ?_, fun f args r hr => ?_, fun f E hE rts hret xs r hr args ι hs hl _ hS => ?_, hT.gl⟩
   ·obtain ⟨h1, v, o, h3, h4, h5⟩ := (ih f 0 _ r hr).1 rfl hc args rfl
    have hv := hle f 0 _ r hr
    have hex : ∃ p : V × Bool, Zab args = true /\ PC cx f args p /\ val cx.P tabs ext ow f 0 (nfL args) = some p.1.nf /\ (ow.ow f = true -> Own p.1 p.2) := ⟨(v, o), Zb4 hc, h3, by rw [hv, h4], h5⟩
    have h6 := hex.choose_spec
    refine ⟨hex.choose.1, hex.choose.2, by show Zok cx _ ow f args = _; unfold Zok; rw [dif_pos hex], ?_, h1, h6.2.2.2⟩
    exact (Option.some.inj (hv.symm.trans h6.2.2.1)).symm
   ·have hr' : Zok cx (val cx.P tabs ext ow) ow f args = some r := hr
    unfold Zok at hr'
    split at hr'
    ·rename_i hex; exact hex.choose_spec.1
    ·cases hr'
   ·obtain ⟨h1, h2⟩ := hT.he f E hE
    rw [<- h2]
    exact (ih E.k 1 xs r hr).2.1 rfl E h1 rts hret args ι hs hl hS
  have h' : step cx.P tabs ext ow (rounds cx.P tabs ext ow n) k l xs = some r := h
  unfold step at h'
  split at h'
  ·rename_i E hE
   obtain ⟨hEk, hEm⟩ := Z2g hE
   split at h'
   ·rename_i F hF
    have hJ : ∀ l xs, 2 <= l -> rounds cx.P tabs ext ow n k l xs = some r -> Zwi (Zsb cx tabs ext ow) cx.gl F E l xs r := fun l xs hl hr => (ih k l xs r hr).2.2 hl E F hE hF
    obtain ⟨q1, q2, q3⟩ := Z06 (gl := cx.gl) hΓ hEk hJ h'
    refine ⟨fun hl hc => ?_, fun hl E' hE' rts hret args ι hs hlen hS => ?_, fun hl E' F' hE' hF' => ?_⟩
    ·obtain ⟨e1, e2, e3⟩ := q1 hl
     intro args ha
     obtain ⟨h1, h2⟩ := e3 args ha hc
     obtain ⟨e, t, h3, h4⟩ := Zgr h2
     obtain ⟨h5, h6⟩ := h3
     have he : Zv9 F.res E.own r t := by cases e <;> first | exact h5 | exact h5.elim
     obtain ⟨p, hp, hp1, hp2⟩ := he
     have hca : Zab args = true := Zb4 (by rw [ha]; exact hc)
     have hk : k = E.f := hEk.symm.trans e1
     subst hk
     refine ⟨h6, p.1, p.2, Zrk hgl hm hsound (show cFnR cx.P (E.pl && true) false E.f = some F by have := hF; rw [e2] at this; exact this) h1 hca (Zkl (by rw [hp1]; exact h6)) (h4 _ ?_), hp1, fun ho => hp2 (by rw [<- hT.own E hEm e2, hEk]; exact ho)⟩
     cases e with
     | normal => exact ⟨p, hp, rfl, fun h => h⟩
     | ret => exact ⟨p, hp, rfl, fun h => h⟩
     | exit i => exact h5.elim
    ·rw [hE] at hE'; cases hE'
     obtain ⟨h1, h2⟩ := q2 hl rts hret args ι hs hlen hS
     obtain ⟨e, t, h3, h4⟩ := Zgr h2
     have h5 : ∃ v o, Zc8 F.res t = some (v, o) /\ RetR ⟨ι, hs⟩ rts r v o t.hs := by cases e <;> first | exact h3 | exact h3.elim
     obtain ⟨v, o, h6, h7⟩ := h5
     refine ⟨v, o, t.hs, Z6g ⟨F, by have := hF; rw [hret, show (E.pl && (some rts).isNone) = false from Xfa _] at this; exact this, h1, h4 _ ?_⟩, h7⟩
     cases e with
     | normal => exact ⟨h6, rfl⟩
     | ret => exact ⟨h6, rfl⟩
     | exit i => exact h3.elim
    ·rw [hE] at hE'; cases hE'
     rw [hF] at hF'; cases hF'
     exact q3 hl
   ·cases h'
  ·rename_i hE
   split at h'
   ·exact ⟨fun _ => hext k xs r h', fun hl => (by cases hl), fun hl => absurd hl (by omega)⟩
   ·cases h'
theorem Zuz (hgl : GlOK cx) (hm : cx.P.follows .mixedOrders = true) (hext : Zue cx ext ow) (hT : TabOK cx tabs ow) {f : Nat} {xs : List V} {r : V} (h : val cx.P tabs ext ow f 0 xs = some r) : Good cx ow f xs r := by
 obtain ⟨n, hn⟩ := Zc0.1 h
 exact (Zl3 hgl hm hext hT n f 0 xs r hn).1 rfl
theorem Zac {P : Program} {f l : Nat} {xs : List V} {r : Option V} (h : step P tabs ext ow (val P tabs ext ow) f l xs = r) : val P tabs ext ow f l xs = r := by rw [<- h, <- Zvb]
def Zgx : List FE -> Bool
 | [] => true
 | E :: r => !(r.any fun E' => Nat.beq E'.k E.k) && Zgx r
def Zqm (tabs : List FE) (eo : Nat -> Bool) (gl : Nat -> Option (List V)) : Cfg where
 ow f := match tabs.find? (fun E => Nat.beq E.k f) with | some E => E.own | none => eo f
 he f := tabs.filter fun E => Nat.beq E.f f && E.ret.isSome
 gl := gl
theorem Zf1 : ∀ {tabs : List FE}, Zgx tabs = true -> ∀ E ∈ tabs, tabs.find? (fun E' => Nat.beq E'.k E.k) = some E
 | [], _, E, h => by cases h
 | A :: r, hk, E, h => by
  simp only [Zgx, Xah, Xbk] at hk
  rw [Xeo]
  rcases Xay.1 h with rfl | h
  ·rw [Xdp]
  ·cases hb : Nat.beq A.k E.k with
   | true =>
    have := Xcs.1 hk.1 E h
    rw [Xaf hb, Xdp] at this
    exact absurd rfl this
   | false => exact Zf1 hk.2 E h
theorem Zvc {eo : Nat -> Bool} {gl : Nat -> Option (List V)} (hk : Zgx tabs = true) (hg : ∀ g cs, gl g = some cs -> cx.gl g = some cs /\ nfL cs = cs /\ Zab cs = true) : TabOK cx tabs (Zqm tabs eo gl) where
 own E hE _ := by show (match tabs.find? _ with | some E => E.own | none => eo _) = _; rw [Zf1 hk E hE]
 he f E hE := by
  obtain ⟨h1, h2⟩ := Xdo.1 hE
  simp only [Xah] at h2
  exact ⟨Zf1 hk E h1, Xaf h2.1⟩
 gl := hg
abbrev pr (p : Prim) (xs : List V) (k : V -> Option V) : Option V := (evp p xs).bind k
abbrev ca (Γ : Gam) (f : Nat) (xs : List V) (k : V -> Option V) : Option V := (Γ f 0 xs).bind k
abbrev cv (Γ : Gam) (v : V) (xs : List V) (k : V -> Option V) : Option V := (Zeg Γ v xs).bind k
abbrev ch (Γ : Gam) (f : Nat) (xs : List V) (k : V -> Option V) : Option V := (Γ f 1 xs).bind k
end Go.Abs
namespace Go.Abs
open Go.RowKit
open Classical in
noncomputable def Zmk (cs : List FC) : Nat -> List V -> Option V := fun f xs =>
 match cs.find? (fun c => c.f == f && c.mt xs) with
 | some c => if h : ∃ y, c.rel xs y then some h.choose else none
 | none => none
theorem Zvy {cx : Cx} {cs : List FC} {ow : Cfg} (h : ∀ c ∈ cs, c.Holds cx) (ho : ∀ c ∈ cs, ow.ow c.f = true -> c.own = true) : Zue cx (Zmk cs) ow := by
 intro f xs r hr
 unfold Zmk at hr
 split at hr
 ·rename_i c hc
  have hm := Xdu hc
  have h2 := Xe5 hc
  simp only [Xah, beq_iff_eq] at h2
  obtain ⟨rfl, _⟩ := h2
  split at hr
  ·rename_i hex
   cases hr
   have h3 := hex.choose_spec
   intro _ args ha
   subst ha
   obtain ⟨v, o, q1, q2, q3⟩ := h c hm args _ h3
   exact ⟨(c.clean _ _ h3).2, v, o, q1, q2, fun hw => q3 (ho c hm hw)⟩
  ·cases hr
 ·cases hr
theorem Zkw {cs : List FC} {c : FC} {xs : List V} {y : V} (hf : cs.find? (fun d => d.f == c.f && d.mt xs) = some c) (hr : c.rel xs y) : Zmk cs c.f xs = some y := by
 unfold Zmk
 rw [hf]
 have hex : ∃ y, c.rel xs y := ⟨y, hr⟩
 simp only [dif_pos hex]
 exact congrArg some (c.fn _ _ _ hex.choose_spec hr)
variable {P : Program} {tabs : List FE} {ow : Cfg} {ext : Nat -> List V -> Option V}
theorem Znk {f : Nat} {xs : List V} {r : V} (hn : tabs.find? (fun E => Nat.beq E.k f) = none) (h : ext f xs = some r) : val P tabs ext ow f 0 xs = some r := by
 apply Zac
 unfold step
 rw [hn]; exact h
theorem Zqe {cx : Cx} (hgl : GlOK cx) (hm : cx.P.follows .mixedOrders = true) (hext : Zue cx ext ow) (hT : TabOK cx tabs ow) {f : Nat} {args : List V} {ys : List V} {xs : Array Value} (ha : nfL args = ys) (hc : Zab ys = true)
  (h : val cx.P tabs ext ow f 0 ys = some (.bool true)) (hx : RepL cx.w0 (G0 cx.w0) (fun _ => none) args xs) : Calls cx.P f xs cx.w0 fun e W' => e = .returned (.bool true) /\ Below cx.w0.heap.size cx.w0 W' := by
 obtain ⟨_, v, o, h1, h2, _⟩ := Zuz hgl hm hext hT h hc args ha
 rw [Zb2 h2] at h1
 exact Zru h1 hx
section
variable {k : IntKind} {a b : Int} {s t : Bytes}
theorem Z69 : evp (.bin .lss .no) [.int k a, .int k b] = some (.bool (decide (a < b))) := by simp [evp, abin, aint]
theorem Z54 : evp (.bin .leq .no) [.int k a, .int k b] = some (.bool (decide (a <= b))) := by simp [evp, abin, aint]
theorem Z6q : evp (.bin .gtr .no) [.int k a, .int k b] = some (.bool (decide (b < a))) := by simp [evp, abin, aint]
theorem Z7l : evp (.bin .geq .no) [.int k a, .int k b] = some (.bool (decide (b <= a))) := by simp [evp, abin, aint]
theorem Z51 : evp (.bin .eql .no) [.int k a, .int k b] = some (.bool (decide (a = b))) := by simp [evp, abin, aint]
theorem Z6x : evp (.bin .neq .no) [.int k a, .int k b] = some (.bool (!decide (a = b))) := by simp [evp, abin, aint]
theorem Z5j : evp (.bin .add .no) [.int k a, .int k b] = some (.int k (k.wrap (a + b))) := by simp [evp, abin, aint]
theorem Z6c : evp (.bin .sub .no) [.int k a, .int k b] = some (.int k (k.wrap (a - b))) := by simp [evp, abin, aint]
theorem Z3w : evp (.bin .eql .no) [.str s, .str t] = some (.bool (decide (s = t))) := by simp [evp, abin, astr]
theorem Z1a : evp (.bin .neq .no) [.str s, .str t] = some (.bool (!decide (s = t))) := by simp [evp, abin, astr]
theorem Z3e : evp (.bin .lss .no) [.str s, .str t] = some (.bool (Op.bytesLess s t)) := by simp [evp, abin, astr]
theorem Z22 (h : s.length + t.length <= 4611686018427387904) : evp (.bin .add .no) [.str s, .str t] = some (.str (s ++ t)) := by simp [evp, abin, astr, h]
theorem Z3b {x y : Bool} : evp (.bin .eql .bool) [.bool x, .bool y] = some (.bool (x == y)) := by cases x <;> cases y <;> rfl
theorem Z3m {x y : Bool} : evp (.bin .neq .bool) [.bool x, .bool y] = some (.bool (!(x == y))) := by cases x <;> cases y <;> rfl
theorem Z7e {x : Bool} : evp (.un .not) [.bool x] = some (.bool !x) := rfl
theorem Z1c : evp (.len true) [.str s] = some (.int .i64 s.length) := rfl
theorem Zu4 {n : Bool} {sz : Nat} {xs : List V} : evp (.len false) [.sl n sz xs] = some (.int .i64 xs.length) := rfl
theorem Z5c {x y : Option V} : vif (.bool true) x y = x := rfl
theorem Z5f {x y : Option V} : vif (.bool false) x y = y := rfl
theorem Z7k {p : Prop} [Decidable p] {x y : Option V} : vif (.bool (decide p)) x y = if p then x else y := by by_cases h : p <;> simp [h, vif]
theorem Z66 {p : Prop} [Decidable p] {x y : Option V} : vif (.bool (!decide p)) x y = if p then y else x := by by_cases h : p <;> simp [h, vif]
theorem Z6y {c : Bool} {x y : Option V} : vif (.bool c) x y = if c = true then x else y := by cases c <;> rfl
theorem Z7p {i : Nat} {xs : List V} : evp (.ext i) [.tup xs] = xs[i]? := rfl
theorem Zmi {h : Nat} (hh : h <= s.length) : evp (.sls false true) [.str s, .int .i64 h] = some (.str (s.take h)) := by
 simp only [evp, Zuk, vSls, vOpt]
 simp [cut3, hh]
theorem Zrs {l : Nat} (hl : l <= s.length) : evp (.sls true false) [.str s, .int .i64 l] = some (.str (s.drop l)) := by
 simp only [evp, Zuk, vSls, vOpt]
 simp [cut3, hl]
theorem Zxh {l h : Nat} (hl : l <= h) (hh : h <= s.length) : evp (.sls true true) [.str s, .int .i64 l, .int .i64 h] = some (.str ((s.take h).drop l)) := by
 simp only [evp, Zuk, vSls, vOpt]
 simp [cut3, hl, hh]
theorem Zk1 {i : Nat} {c : UInt8} (h : s[i]? = some c) : evp .idx [.str s, .int .i64 i] = some (byteV c) := by simp [evp, vIdx, h]
theorem Zmq {n : Bool} {sz i : Nat} {xs : List V} {x : V} (h : xs[i]? = some x) : evp (.elem sz) [.sl n sz xs, .int .i64 i] = some x := by simp [evp, Zzz, h]
theorem Zwf {n : Bool} {sz : Nat} {xs ys : List V} {m : Bool} (h : xs.length + ys.length <= Lim) : evp (.app sz) [.sl n sz xs, .sl m sz ys] = some (.sl false sz (xs ++ ys)) := by simp [evp, Zw1, Zbn, h]
theorem Z2r {p : Prop} [Decidable p] (h : ¬ p) : some (V.bool false) = some (V.bool (decide p)) := by simp [h]
end
theorem yy :
  (∀ {p : Prim} {xs : List V} {k : V -> Option V}, pr p xs k = (evp p xs).bind k) /\ (∀ {Γ : Gam} {f : Nat} {xs : List V} {k : V -> Option V}, ca Γ f xs k = (Γ f 0 xs).bind k) /\ (∀ {Γ : Gam} {f : Nat} {xs : List V} {k : V -> Option V}, ch Γ f xs k = (Γ f 1 xs).bind k) /\
  (∀ {v : V} {k : V -> Option V}, (some v).bind k = k v) /\
  (∀ {k : IntKind} {a b : Int}, evp (.bin .lss .no) [.int k a, .int k b] = some (.bool (decide (a < b)))) /\ (∀ {k : IntKind} {a b : Int}, evp (.bin .leq .no) [.int k a, .int k b] = some (.bool (decide (a <= b)))) /\
  (∀ {k : IntKind} {a b : Int}, evp (.bin .gtr .no) [.int k a, .int k b] = some (.bool (decide (b < a)))) /\ (∀ {k : IntKind} {a b : Int}, evp (.bin .geq .no) [.int k a, .int k b] = some (.bool (decide (b <= a)))) /\
  (∀ {k : IntKind} {a b : Int}, evp (.bin .eql .no) [.int k a, .int k b] = some (.bool (decide (a = b)))) /\ (∀ {k : IntKind} {a b : Int}, evp (.bin .neq .no) [.int k a, .int k b] = some (.bool (!decide (a = b)))) /\
  (∀ {k : IntKind} {a b : Int}, evp (.bin .add .no) [.int k a, .int k b] = some (.int k (k.wrap (a + b)))) /\ (∀ {k : IntKind} {a b : Int}, evp (.bin .sub .no) [.int k a, .int k b] = some (.int k (k.wrap (a - b)))) /\
  (∀ {s t : Bytes}, evp (.bin .eql .no) [.str s, .str t] = some (.bool (decide (s = t)))) /\ (∀ {s t : Bytes}, evp (.bin .neq .no) [.str s, .str t] = some (.bool (!decide (s = t)))) /\ (∀ {s t : Bytes}, evp (.bin .lss .no) [.str s, .str t] = some (.bool (Op.bytesLess s t))) /\
  (∀ {x y : Bool}, evp (.bin .eql .bool) [.bool x, .bool y] = some (.bool (x == y))) /\ (∀ {x y : Bool}, evp (.bin .neq .bool) [.bool x, .bool y] = some (.bool (!(x == y)))) /\ (∀ {x : Bool}, evp (.un .not) [.bool x] = some (.bool !x)) /\
  (∀ {s : Bytes}, evp (.len true) [.str s] = some (.int .i64 s.length)) /\ (∀ {n : Bool} {sz : Nat} {xs : List V}, evp (.len false) [.sl n sz xs] = some (.int .i64 xs.length)) /\ (∀ {i : Nat} {xs : List V}, evp (.ext i) [.tup xs] = xs[i]?) /\
  (∀ {x y : Option V}, vif (.bool true) x y = x) /\ (∀ {x y : Option V}, vif (.bool false) x y = y) /\ (∀ {p : Prop} [Decidable p] {x y : Option V}, vif (.bool (decide p)) x y = if p then x else y) /\ (∀ {p : Prop} [Decidable p] {x y : Option V}, vif (.bool (!decide p)) x y = if p then y else x) /\
  (!true) = false /\ (!false) = true /\ (∀ {α : Type} {f : α -> V} {l : List α}, (l.map f).length = l.length) /\ (∀ {x : V} {l : List V}, (x :: l)[0]? = some x) /\ (∀ {x : V} {l : List V} {i : Nat}, (x :: l)[i + 1]? = l[i]?) :=
 ⟨rfl, rfl, rfl, rfl, Z69, Z54, Z6q, Z7l, Z51, Z6x, Z5j, Z6c, Z3w, Z1a, Z3e, Z3b, Z3m, Z7e, Z1c, Zu4, Z7p, Z5c, Z5f, Z7k, Z66, rfl, rfl, Xcp .., rfl, rfl⟩
end Go.Abs
