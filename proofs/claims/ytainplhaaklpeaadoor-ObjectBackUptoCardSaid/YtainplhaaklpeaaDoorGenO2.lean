/-
  Functions of the program as Lean functions over plain data, and the proofs that the loaded code comes to them. Printed by a program of this seat (wip/gen/gen.py).
-/
import Derived.Test.YtainplhaaklpeaaDoorProg
import Derived.Test.YtainplhaaklpeaaDoorGenO
namespace Go.Proofs.YtainplhaaklpeaaDoor
open Go.Abs Go.RowKit

def F.seichelaw07_ObjectCommits : Nat := 11
def F.seichelaw07_ObjectBack : Nat := 12
def F.seichelaw07_greatCommit : Nat := 46
def F.object_PutCommit : Nat := 47
def F.seicheref07_GoodCommit : Nat := 48
def F.seicheref07_Commit : Nat := 50
def F.object_GetCommit : Nat := 51
def F.seicheref07_GetCommit : Nat := 52
def F.seicheref07_SameCommit : Nat := 53
def c_seicheref07_GoodCommit : ACode := (.seq (.region [
  ⟨(some 1), (.box (.tmp 0)), none, []⟩, 
  ⟨(some 2), (.mv (.const (.bool false))), none, []⟩] false) (.seq (.region [
  ⟨(some 3), (.faddr 33 (.tmp 1)), none, []⟩, 
  ⟨(some 4), (.load none (.tmp 3)), none, []⟩, 
  ⟨(some 5), (.len true (.tmp 4)), none, []⟩, 
  ⟨(some 6), (.bin .leq .no (.tmp 5) (.const (.int .i64 64))), none, []⟩, 
  ⟨(some 7), (.mv (.tmp 6)), none, []⟩, 
  ⟨(some 8), (.faddr 32 (.tmp 1)), (some (7, true)), []⟩, 
  ⟨(some 9), (.load none (.tmp 8)), (some (7, true)), []⟩, 
  ⟨(some 10), (.len false (.tmp 9)), (some (7, true)), []⟩, 
  ⟨(some 11), (.bin .leq .no (.tmp 10) (.const (.int .i64 2))), (some (7, true)), []⟩, 
  ⟨(some 12), (.pick (.tmp 7) (.tmp 11) (.const (.bool false))), none, []⟩, 
  ⟨(some 2), (.mv (.tmp 12)), none, []⟩] false) .ret))
theorem cf_seicheref07_GoodCommit : cFn Go.Proofs.Tryd.prog F.seicheref07_GoodCommit = some ⟨13, c_seicheref07_GoodCommit, [.t 2]⟩ := by kernel_rfl
def g.seicheref07_GoodCommit (p0 : T.Commit) : Option Bool :=
  if ((p0.Note.length : Nat) : Int) ≤ 64 then
    some (decide (((p0.Parents.length : Nat) : Int) ≤ 2))
  else
    some false
theorem ok.seicheref07_GoodCommit {Γ : Abs.Spec} {gl : Glob} {r : Bool} {p0 : T.Commit} {v : List V}
    (hv : nfL v = [(V.agg (C.Commit p0))]) (hD : g.seicheref07_GoodCommit p0 = some r) : awp Γ gl c_seicheref07_GoodCommit (endQ [.t 2] false (V.bool r)) (St.init v) := by
  obtain ⟨v0, v, rfl, h0, hv⟩ := nfL_cons hv
  obtain rfl := nfL_nil hv
  have hR : ∀ s, EndsX [.t 2] false (V.bool r) s → endQ [.t 2] false (V.bool r) .ret s := fun _ h => h
  unfold g.seicheref07_GoodCommit at hD
  unfold c_seicheref07_GoodCommit
  refine x_seq ?_
  refine x_start (b := false) ?_
  refine x_box (l := (C.Commit p0)) (cells_of rfl h0) (C.Commit_sc p0) fun csi2 i2 hidi2 hcsi2 hci2 => ?_
  refine x_mv' (show _ = (V.bool false) from rfl) ?_
  refine x_done ?_
  refine x_tN ?_
  refine x_seq ?_
  refine x_start (b := false) ?_
  refine x_faddr (show _ = (V.ptr i2 0) from rfl) ?_
  refine x_load (show _ = (V.ptr i2 33) from rfl) hci2 (ld_Commit_33_n p0) fun v3 hv3 => ?_
  refine x_lens (nf_str hv3) ?_
  refine x_bin (show _ = (V.int .i64 ((p0.Note.length : Nat) : Int)) from rfl) (show _ = (V.int .i64 64) from rfl) b_leq ?_
  refine x_mv' (show _ = (V.bool (decide (((p0.Note.length : Nat) : Int) ≤ 64))) from rfl) ?_
  by_cases hp4 : ((p0.Note.length : Nat) : Int) ≤ 64
  · rw [if_pos hp4] at hD
    refine x_gy (show _ = (V.bool (decide (((p0.Note.length : Nat) : Int) ≤ 64))) from rfl) (decide_eq_true hp4) ?_
    refine x_faddr (show _ = (V.ptr i2 0) from rfl) ?_
    refine x_gy (show _ = (V.bool (decide (((p0.Note.length : Nat) : Int) ≤ 64))) from rfl) (decide_eq_true hp4) ?_
    refine x_load (show _ = (V.ptr i2 32) from rfl) hci2 (ld_Commit_32_n p0) fun v5 hv5 => ?_
    refine x_gy (show _ = (V.bool (decide (((p0.Note.length : Nat) : Int) ≤ 64))) from rfl) (decide_eq_true hp4) ?_
    refine x_len hv5 ?_
    refine x_gy (show _ = (V.bool (decide (((p0.Note.length : Nat) : Int) ≤ 64))) from rfl) (decide_eq_true hp4) ?_
    refine x_bin (show _ = (V.int .i64 ((p0.Parents.length : Nat) : Int)) from rfl) (show _ = (V.int .i64 2) from rfl) b_leq ?_
    refine x_pickt' (show _ = (V.bool (decide (((p0.Note.length : Nat) : Int) ≤ 64))) from rfl) (decide_eq_true hp4) (show _ = (V.bool (decide (((p0.Parents.length : Nat) : Int) ≤ 2))) from rfl) ?_
    refine x_mv' (show _ = (V.bool (decide (((p0.Parents.length : Nat) : Int) ≤ 2))) from rfl) ?_
    refine x_done ?_
    refine x_tN ?_
    refine x_retc ?_
    obtain rfl := Option.some.inj hD
    exact hR _ (ends_t (nf_of rfl (show _ = (V.bool (decide (((p0.Parents.length : Nat) : Int) ≤ 2))) from rfl)) (fun h => nomatch h))
  · rw [if_neg hp4] at hD
    refine x_gn (show _ = (V.bool (decide (((p0.Note.length : Nat) : Int) ≤ 64))) from rfl) (decide_eq_false hp4) ?_
    refine x_gn (show _ = (V.bool (decide (((p0.Note.length : Nat) : Int) ≤ 64))) from rfl) (decide_eq_false hp4) ?_
    refine x_gn (show _ = (V.bool (decide (((p0.Note.length : Nat) : Int) ≤ 64))) from rfl) (decide_eq_false hp4) ?_
    refine x_gn (show _ = (V.bool (decide (((p0.Note.length : Nat) : Int) ≤ 64))) from rfl) (decide_eq_false hp4) ?_
    refine x_pickf' (show _ = (V.bool (decide (((p0.Note.length : Nat) : Int) ≤ 64))) from rfl) (decide_eq_false hp4) (show _ = (V.bool false) from rfl) ?_
    refine x_mv' (show _ = (V.bool false) from rfl) ?_
    refine x_done ?_
    refine x_tN ?_
    refine x_retc ?_
    obtain rfl := Option.some.inj hD
    exact hR _ (ends_t (nf_of rfl (show _ = (V.bool false) from rfl)) (fun h => nomatch h))
def K.seicheref07_GoodCommit : FC := fc F.seicheref07_GoodCommit (fun _ => true) false (fun (a : T.Commit) => [(V.agg (C.Commit a))]) (fun (y : Bool) => (V.bool y)) (fun a => g.seicheref07_GoodCommit a)
  (fun a => (cleanL_mk (E.Commit_clean _) rfl))
  (fun y => rfl)
  (fun a0 b0 h => by
    obtain ⟨h0, h⟩ := List.cons.inj h
    obtain rfl : a0 = b0 := E.Commit_inj h0
    rfl)
theorem H.seicheref07_GoodCommit (w : World) (_hw : EnvOK w) : K.seicheref07_GoodCommit.Holds (cxD w) :=
  FC.holds_of (cs := []) (glD w) mixed cf_seicheref07_GoodCommit (fun _ _ ⟨_, _, h, _⟩ => by subst h; exact Nat.le_of_ble_eq_true rfl) fun v y ⟨a, r, hv, hD, hy⟩ => by
    subst hy
    exact ok.seicheref07_GoodCommit hv hD
theorem ld_Commit_0_34 (x : T.Commit) : ldCells (some 34) (C.Commit x) 0 = some (V.agg (C.Commit x)) := by
  exact ld_all (C.Commit_len x)
theorem ld_Commit_0_32 (x : T.Commit) : ldCells (some 32) (C.Commit x) 0 = some (V.agg (encB (x.Root).1)) := by
  unfold C.Commit
  rw [ld_left (le_len (len_app (enc_len x.Root) (show [(V.sl false 32 (List.map E.A32_u8 x.Parents))].length = 1 from rfl)) (by decide))]
  rw [ld_left (le_len (enc_len x.Root) (by decide))]
  exact (ld_arr x.Root)
def c_object_PutCommit_l1 : ACode := (.seq (.region [
  ⟨(some 20), (.bin .lss .no (.tmp 19) (.tmp 18)), none, []⟩] false) (.seq (.cond (.tmp 20) .skip (.exit 0)) (.seq (.block 1 (.seq (.region [
  ⟨(some 21), (.iaddr 32 (.tmp 17) (.tmp 19)), none, []⟩, 
  ⟨(some 22), (.load (some 32) (.tmp 21)), none, []⟩, 
  ⟨(some 6), (.new (repl 32 (.int .u8 0))), none, []⟩, 
  ⟨none, (.store 32 (.tmp 6) (.tmp 22)), none, []⟩] false) (.region [
  ⟨(some 23), (.mvo 4), none, []⟩, 
  ⟨(some 24), (.slca 32 1 (.tmp 6) none none none), none, []⟩, 
  ⟨(some 25), (.b2s (.tmp 24)), none, []⟩, 
  ⟨(some 26), (.bsl 1 [(.tmp 25)]), none, []⟩, 
  ⟨(some 27), (.app 1 (.tmp 23) (.tmp 26)), none, []⟩, 
  ⟨(some 4), (.mvo 27), none, []⟩] false))) (.region [
  ⟨(some 28), (.bin .add .no (.tmp 19) (.const (.int .i64 1))), none, []⟩, 
  ⟨(some 19), (.mv (.tmp 28)), none, []⟩] false))))
def c_object_PutCommit : ACode := (.seq (.region [
  ⟨(some 1), (.box (.tmp 0)), none, []⟩, 
  ⟨(some 2), (.mv (.const (.str []))), none, []⟩, 
  ⟨(some 3), (.mv (.const (.int .i64 0))), none, []⟩] false) (.seq (.seq (.region [
  ⟨(some 7), (.load (some 34) (.tmp 1)), none, []⟩, 
  ⟨(some 8), (.call F.object_GoodCommit [(.tmp 7)]), none, []⟩, 
  ⟨(some 9), (.un .not (.tmp 8)), none, []⟩] false) (.cond (.tmp 9) (.seq (.region [
  ⟨(some 2), (.mv (.const (.str []))), none, []⟩, 
  ⟨(some 3), (.mv (.const (.int .i64 1))), none, []⟩] false) .ret) .skip)) (.seq (.region [
  ⟨(some 10), (.faddr 33 (.tmp 1)), none, []⟩, 
  ⟨(some 11), (.load none (.tmp 10)), none, []⟩, 
  ⟨(some 12), (.faddr 0 (.tmp 1)), none, []⟩, 
  ⟨(some 13), (.slca 32 1 (.tmp 12) none none none), none, []⟩, 
  ⟨(some 14), (.b2s (.tmp 13)), none, []⟩, 
  ⟨(some 15), (.bsl 1 [(.tmp 11), (.tmp 14)]), none, []⟩, 
  ⟨(some 4), (.mvo 15), none, []⟩] true) (.seq (.seq (.region [
  ⟨(some 16), (.faddr 32 (.tmp 1)), none, []⟩, 
  ⟨(some 17), (.load none (.tmp 16)), none, []⟩, 
  ⟨(some 18), (.len false (.tmp 17)), none, []⟩, 
  ⟨(some 19), (.mv (.const (.int .i64 0))), none, []⟩] false) (.block 0 (.loop c_object_PutCommit_l1))) (.seq (.region [
  ⟨(some 29), (.mv (.tmp 4)), none, []⟩, 
  ⟨(some 30), (.call F.code_Join [(.tmp 29)]), none, []⟩, 
  ⟨(some 2), (.mv (.tmp 30)), none, []⟩, 
  ⟨(some 3), (.mv (.const (.int .i64 0))), none, []⟩] false) .ret)))))
theorem cf_object_PutCommit : cFn Go.Proofs.Tryd.prog F.object_PutCommit = some ⟨31, c_object_PutCommit, [.t 2, .t 3]⟩ := by kernel_rfl
def L.object_PutCommit_l1 (k0 : (List Bytes) → Option (Bytes × Int)) : List (Arr 32) → (List Bytes) → Option (Bytes × Int)
  | [], t4_76 =>
    k0 t4_76
  | a79 :: rest, t4_76 =>
    (appL t4_76 ([(a79).1] : (List Bytes))).bind fun l90 =>
    L.object_PutCommit_l1 k0 rest l90
theorem ok.object_PutCommit_l1 {Γ : Abs.Spec} {gl : Glob} (hC_object_GoodCommit : CallsX Γ K.object_GoodCommit) (hC_code_Join : CallsX Γ K.code_Join) {Q : Ex → St → Prop} {r : (Bytes × Int)} {l54 : List (Arr 32)} {k0 : (List Bytes) → Option (Bytes × Int)}
    (hk0 : ∀ (s : St) (t4_97 : (List Bytes)), ((s.tm 4).nf = (V.sl false 1 (List.map V.str t4_97))) → (OwnS s 4) → k0 t4_97 = some r → Q (.exit 0) s)
    (hR : ∀ s, EndsX [.t 2, .t 3] false (V.tup [(V.str r.1), (V.int .i64 r.2)]) s → Q .ret s)
    (hlen : l54.length ≤ Lim) : ∀ (rest : List (Arr 32)) (k55 : Nat) (s : St) (t4_76 : (List Bytes)), l54.drop k55 = rest → k55 ≤ l54.length →
    ((s.tm 17).nf = V.sl false 32 (List.map E.A32_u8 l54)) → (s.tm 18 = V.int .i64 ((l54.length : Nat) : Int)) → (s.tm 19 = V.int .i64 ((k55 : Nat) : Int)) → ((s.tm 4).nf = (V.sl false 1 (List.map V.str t4_76))) → (OwnS s 4) →
    L.object_PutCommit_l1 k0 rest t4_76 = some r → awp Γ gl (.loop c_object_PutCommit_l1) Q s := by
  intro rest
  induction rest with
  | nil =>
    intro k55 s t4_76 hdrop hkl hX hN hI h75 h75o hD
    have hkz := drop_nil hdrop hkl
    have hp0 : ¬ (((k55 : Nat) : Int) < ((l54.length : Nat) : Int)) := by omega
    refine awp_roundK fun K hK => ?_
    rw [L.object_PutCommit_l1] at hD
    refine x_seq ?_
    refine x_start (b := false) ?_
    refine x_bin hI hN b_lss ?_
    refine x_done ?_
    refine x_tN ?_
    refine x_seq ?_
    refine x_cf (show _ = (V.bool (decide (((k55 : Nat) : Int) < ((l54.length : Nat) : Int)))) from rfl) (decide_eq_false hp0) ?_
    refine x_exitc ?_
    refine x_tE ?_
    refine x_tE ?_
    refine hk0 _ _ ?_ ?_ hD
    · exact h75
    · exact h75o
  | cons a79 rest ih =>
    intro k55 s t4_76 hdrop hkl hX hN hI h75 h75o hD
    obtain ⟨hlt, -, hget, hdrop1, -⟩ := drop_cons hdrop
    have hp1 : ((k55 : Nat) : Int) < ((l54.length : Nat) : Int) := by omega
    have hwk := wi_succ (k := k55) (by unfold Lim at hlen; omega)
    refine awp_roundK fun K hK => ?_
    rw [L.object_PutCommit_l1] at hD
    refine x_seq ?_
    refine x_start (b := false) ?_
    refine x_bin hI hN b_lss ?_
    refine x_done ?_
    refine x_tN ?_
    refine x_seq ?_
    refine x_ct (show _ = (V.bool (decide (((k55 : Nat) : Int) < ((l54.length : Nat) : Int)))) from rfl) (decide_eq_true hp1) ?_
    refine x_skip ?_
    refine x_tN ?_
    refine x_seq ?_
    refine x_block ?_
    refine x_seq ?_
    refine x_start (b := false) ?_
    refine x_iaddr hX hI (at_k hget) fun v84 (hv84 : v84.nf = V.el (encB (a79).1) 0) => ?_
    refine x_load_el hv84 (ld_arr a79) fun v85 hv85 => ?_
    refine x_new (l := (encB ((Arr.zero 32)).1)) (nf_zero _) fun i86 hidi86 hci86 => ?_
    refine x_store (ws := (encB (a79).1)) (l' := (encB (a79).1)) (show _ = (V.ptr i86 0) from rfl) hci86 (cells_of rfl hv85) ⟨(enc_len a79), (encB_sc a79.1), le_len (enc_len (Arr.zero 32)) (by decide)⟩ (setAt_full (Eq.trans (enc_len a79) (Eq.symm (enc_len (Arr.zero 32))))) fun csv87 ysv87 hcsv87 hnv87 hcv87 hsv87 => ?_
    refine x_done ?_
    refine x_tN ?_
    refine x_start (b := false) ?_
    refine x_mvo h75 fun v88 ov88 hv88 hwv88 => ?_
    refine x_slca (show _ = (V.ptr i86 0) from rfl) ?_
    refine x_b2sO (show _ = (V.osl i86 0 32 32 1) from rfl) hcv87 (ld_le (ld_arr a79)) (ld_take (ld_arr a79)) ?_
    refine x_bsl (E := V.str) (l := ([(a79).1] : (List Bytes))) (cons_eq (nf_of rfl (show _ = (V.str (a79).1) from rfl)) rfl) (fits_map (E := V.str) (sz := 1) (fun x => ⟨rfl, rfl⟩) _) fun v89 ov89 hv89 hov89 => ?_
    obtain ⟨l90, hx91, hD⟩ := Option.bind_eq_some_iff.1 hD
    refine x_app hv88 (hwv88 h75o) (tail_sl hv89) hx91 fun v92 ov92 fv92 hv92 hov92 hfv92 => ?_
    refine x_mvo hv92 fun v93 ov93 hv93 hwv93 => ?_
    refine x_done ?_
    refine x_bN ?_
    refine x_tN ?_
    refine x_start (b := false) ?_
    refine x_bin hI (show _ = (V.int .i64 1) from rfl) b_add ?_
    refine x_mv' (show _ = (V.int .i64 (wi (((k55 : Nat) : Int) + 1))) from rfl) ?_
    refine x_done ?_
    refine x_tN ?_
    refine hK _ ?_
    refine ih (k55 + 1) _ _ hdrop1 hlt ?_ ?_ ?_ ?_ ?_ hD
    · exact hX
    · exact hN
    · exact (Eq.trans (show _ = (V.int .i64 (wi (((k55 : Nat) : Int) + 1))) from rfl) (congrArg (V.int .i64) hwk))
    · exact hv93
    · exact (hwv93 hov92)
def g.object_PutCommit (p0 : T.Commit) : Option (Bytes × Int) :=
  (g.object_GoodCommit p0).bind fun r18 =>
  if r18 = true then
    if p0.Parents.length ≤ Lim then L.object_PutCommit_l1 (fun (t4_99 : (List Bytes)) => (g.code_Join t4_99).bind fun r102 =>
    some (r102, 0)) p0.Parents ([p0.Note, (p0.Root).1] : (List Bytes)) else none
  else
    some (([] : Bytes), 1)
theorem ok.object_PutCommit {Γ : Abs.Spec} {gl : Glob} (hC_object_GoodCommit : CallsX Γ K.object_GoodCommit) (hC_code_Join : CallsX Γ K.code_Join) {r : (Bytes × Int)} {p0 : T.Commit} {v : List V}
    (hv : nfL v = [(V.agg (C.Commit p0))]) (hD : g.object_PutCommit p0 = some r) : awp Γ gl c_object_PutCommit (endQ [.t 2, .t 3] false (V.tup [(V.str r.1), (V.int .i64 r.2)])) (St.init v) := by
  obtain ⟨v0, v, rfl, h0, hv⟩ := nfL_cons hv
  obtain rfl := nfL_nil hv
  have hR : ∀ s, EndsX [.t 2, .t 3] false (V.tup [(V.str r.1), (V.int .i64 r.2)]) s → endQ [.t 2, .t 3] false (V.tup [(V.str r.1), (V.int .i64 r.2)]) .ret s := fun _ h => h
  unfold g.object_PutCommit at hD
  unfold c_object_PutCommit
  refine x_seq ?_
  refine x_start (b := false) ?_
  refine x_box (l := (C.Commit p0)) (cells_of rfl h0) (C.Commit_sc p0) fun csi2 i2 hidi2 hcsi2 hci2 => ?_
  refine x_mv' (show _ = (V.str ([] : Bytes)) from rfl) ?_
  refine x_mv' (show _ = (V.int .i64 0) from rfl) ?_
  refine x_done ?_
  refine x_tN ?_
  refine x_seq ?_
  refine x_seq ?_
  refine x_start (b := false) ?_
  refine x_load (show _ = (V.ptr i2 0) from rfl) hci2 (ld_Commit_0_34 p0) fun v16 hv16 => ?_
  obtain ⟨r18, hx19, hD⟩ := Option.bind_eq_some_iff.1 hD
  refine x_callF hC_object_GoodCommit (a := (p0)) (cons_eq hv16 rfl) hx19 fun v17 ov17 (hv17 : v17.nf = (V.bool r18)) hov17 => ?_
  refine x_un (nf_bool hv17) (aun_not _) ?_
  refine x_done ?_
  refine x_tN ?_
  by_cases hp20 : r18 = true
  · rw [if_pos hp20] at hD
    refine x_cf (show _ = (V.bool (!r18)) from rfl) (bnot_t hp20) ?_
    refine x_skip ?_
    refine x_tN ?_
    refine x_seq ?_
    refine x_start (b := true) ?_
    refine x_faddr (show _ = (V.ptr i2 0) from rfl) ?_
    refine x_load (show _ = (V.ptr i2 33) from rfl) hci2 (ld_Commit_33_n p0) fun v24 hv24 => ?_
    refine x_faddr (show _ = (V.ptr i2 0) from rfl) ?_
    refine x_slca (show _ = (V.ptr i2 0) from rfl) ?_
    refine x_b2sO (show _ = (V.osl i2 0 32 32 1) from rfl) hci2 (ld_le (ld_Commit_0_32 p0)) (ld_take (ld_Commit_0_32 p0)) ?_
    refine x_bsl (E := V.str) (l := ([p0.Note, (p0.Root).1] : (List Bytes))) (cons_eq (nf_of rfl (nf_str hv24)) (cons_eq (nf_of rfl (show _ = (V.str (p0.Root).1) from rfl)) rfl)) (fits_map (E := V.str) (sz := 1) (fun x => ⟨rfl, rfl⟩) _) fun v25 ov25 hv25 hov25 => ?_
    refine x_mvo hv25 fun v26 ov26 hv26 hwv26 => ?_
    refine x_done ?_
    refine x_tN ?_
    refine x_seq ?_
    refine x_seq ?_
    refine x_start (b := false) ?_
    refine x_faddr (show _ = (V.ptr i2 0) from rfl) ?_
    refine x_load (show _ = (V.ptr i2 32) from rfl) hci2 (ld_Commit_32_n p0) fun v53 hv53 => ?_
    refine x_len hv53 ?_
    refine x_mv' (show _ = (V.int .i64 0) from rfl) ?_
    refine x_done ?_
    refine x_tN ?_
    refine x_block ?_
    by_cases hlen105 : p0.Parents.length ≤ Lim
    · rw [if_pos hlen105] at hD
      refine ok.object_PutCommit_l1 (l54 := p0.Parents) hC_object_GoodCommit hC_code_Join (fun s104 t4_99 h98 h98o hD => ?_) (fun _ hE => ?_) hlen105 _ 0 _ _ rfl (Nat.zero_le _) ?_ ?_ ?_ ?_ ?_ hD
      · refine x_bE ?_
        refine x_tN ?_
        refine x_seq ?_
        refine x_start (b := false) ?_
        refine x_mv h98 fun v100 hv100 => ?_
        obtain ⟨r102, hx103, hD⟩ := Option.bind_eq_some_iff.1 hD
        refine x_callF hC_code_Join (a := (t4_99)) (cons_eq hv100 rfl) hx103 fun v101 ov101 (hv101 : v101.nf = (V.str r102)) hov101 => ?_
        refine x_mv' (nf_str hv101) ?_
        refine x_mv' (show _ = (V.int .i64 0) from rfl) ?_
        refine x_done ?_
        refine x_tN ?_
        refine x_retc ?_
        obtain rfl := Option.some.inj hD
        exact hR _ (ends_tup (rvs_cons (rv_t (nf_of rfl (show _ = (V.str r102) from rfl))) (rvs_cons (rv_t (nf_of rfl (show _ = (V.int .i64 0) from rfl))) rvs_nil)) (by decide))
      · refine x_bR ?_; refine x_tR ?_; exact hR _ hE
      · exact hv53
      · exact (show _ = (V.int .i64 ((p0.Parents.length : Nat) : Int)) from rfl)
      · exact (show _ = (V.int .i64 0) from rfl)
      · exact hv26
      · exact (hwv26 hov25)
    · rw [if_neg hlen105] at hD; cases hD
  · rw [if_neg hp20] at hD
    refine x_ct (show _ = (V.bool (!r18)) from rfl) (bnot_f (Bool.eq_false_iff.2 hp20)) ?_
    refine x_seq ?_
    refine x_start (b := false) ?_
    refine x_mv' (show _ = (V.str ([] : Bytes)) from rfl) ?_
    refine x_mv' (show _ = (V.int .i64 1) from rfl) ?_
    refine x_done ?_
    refine x_tN ?_
    refine x_retc ?_
    refine x_tR ?_
    obtain rfl := Option.some.inj hD
    exact hR _ (ends_tup (rvs_cons (rv_t (nf_of rfl (show _ = (V.str ([] : Bytes)) from rfl))) (rvs_cons (rv_t (nf_of rfl (show _ = (V.int .i64 1) from rfl))) rvs_nil)) (by decide))
def K.object_PutCommit : FC := fc F.object_PutCommit (fun _ => true) false (fun (a : T.Commit) => [(V.agg (C.Commit a))]) (fun (y : (Bytes × Int)) => (V.tup [(V.str y.1), (V.int .i64 y.2)])) (fun a => g.object_PutCommit a)
  (fun a => (cleanL_mk (E.Commit_clean _) rfl))
  (fun y => (cleanL_mk rfl (cleanL_mk rfl rfl)))
  (fun a0 b0 h => by
    obtain ⟨h0, h⟩ := List.cons.inj h
    obtain rfl : a0 = b0 := E.Commit_inj h0
    rfl)
theorem H.object_PutCommit (w : World) (hw : EnvOK w) : K.object_PutCommit.Holds (cxD w) :=
  FC.holds_of (cs := [K.object_GoodCommit, K.code_Join]) (glD w) mixed cf_object_PutCommit (fun _ _ ⟨_, _, h, _⟩ => by subst h; exact Nat.le_of_ble_eq_true rfl) fun v y ⟨a, r, hv, hD, hy⟩ => by
    subst hy
    exact ok.object_PutCommit (specOf_calls (H.object_GoodCommit w hw) (fun _ _ ⟨_, _, h, _⟩ => by subst h; rfl)) (specOf_calls (H.code_Join w hw) (fun _ _ ⟨_, _, h, _⟩ => by subst h; rfl)) hv hD
theorem set_Commit_33_1 (x : T.Commit) (v : Bytes) : setAt (C.Commit x) 33 [(V.str v)] = C.Commit ({ x with Note := v } : T.Commit) := by
  unfold C.Commit
  rw [set_right 33 (len_app (enc_len x.Root) (show [(V.sl false 32 (List.map E.A32_u8 x.Parents))].length = 1 from rfl))]
  rw [(setAt_full (Eq.trans (show [(V.str v)].length = 1 from rfl) (Eq.symm (show [(V.str x.Note)].length = 1 from rfl))))]
theorem set_Commit_0_32 (x : T.Commit) (v : (Arr 32)) : setAt (C.Commit x) 0 (encB (v).1) = C.Commit ({ x with Root := v } : T.Commit) := by
  unfold C.Commit
  rw [set_left (Nat.le_trans (Nat.le_of_eq (congrArg (0 + ·) (enc_len v))) (le_len (len_app (enc_len x.Root) (show [(V.sl false 32 (List.map E.A32_u8 x.Parents))].length = 1 from rfl)) (by decide)))]
  rw [set_left (Nat.le_trans (Nat.le_of_eq (congrArg (0 + ·) (enc_len v))) (le_len (enc_len x.Root) (by decide)))]
  rw [(setAt_full (Eq.trans (enc_len v) (Eq.symm (enc_len x.Root))))]
theorem set_Commit_32_1 (x : T.Commit) (v : (List (Arr 32))) : setAt (C.Commit x) 32 [(V.sl false 32 (List.map E.A32_u8 v))] = C.Commit ({ x with Parents := v } : T.Commit) := by
  unfold C.Commit
  rw [set_left (Nat.le_trans (Nat.le_of_eq (congrArg (32 + ·) (show [(V.sl false 32 (List.map E.A32_u8 v))].length = 1 from rfl))) (le_len (len_app (enc_len x.Root) (show [(V.sl false 32 (List.map E.A32_u8 x.Parents))].length = 1 from rfl)) (by decide)))]
  rw [set_right 32 (enc_len x.Root)]
  rw [(setAt_full (Eq.trans (show [(V.sl false 32 (List.map E.A32_u8 v))].length = 1 from rfl) (Eq.symm (show [(V.sl false 32 (List.map E.A32_u8 x.Parents))].length = 1 from rfl))))]
def c_object_GetCommit_j1 : ACode := (.seq (.region [
  ⟨(some 23), (.build [(.int .u8 0), (.int .u8 0), (.int .u8 0), (.int .u8 0), (.int .u8 0), (.int .u8 0), (.int .u8 0), (.int .u8 0), (.int .u8 0), (.int .u8 0), (.int .u8 0), (.int .u8 0), (.int .u8 0), (.int .u8 0), (.int .u8 0), (.int .u8 0), (.int .u8 0), (.int .u8 0), (.int .u8 0), (.int .u8 0), (.int .u8 0), (.int .u8 0), (.int .u8 0), (.int .u8 0), (.int .u8 0), (.int .u8 0), (.int .u8 0), (.int .u8 0), (.int .u8 0), (.int .u8 0), (.int .u8 0), (.int .u8 0), (.sl true 32 []), (.str [])] []), none, []⟩, 
  ⟨none, (.store 34 (.tmp 2) (.tmp 23)), none, []⟩, 
  ⟨(some 3), (.mv (.const (.int .i64 4))), none, []⟩] false) .ret)
def c_object_GetCommit_l1 : ACode := (.seq (.region [
  ⟨(some 32), (.bin .lss .no (.tmp 31) (.tmp 30)), none, []⟩] false) (.seq (.cond (.tmp 32) .skip (.exit 0)) (.seq (.block 1 (.seq (.region [
  ⟨(some 33), (.mv (.tmp 31)), none, []⟩, 
  ⟨(some 34), (.iaddr 1 (.tmp 29) (.tmp 31)), none, []⟩, 
  ⟨(some 35), (.load none (.tmp 34)), none, []⟩, 
  ⟨(some 7), (.mv (.tmp 33)), none, []⟩, 
  ⟨(some 8), (.mv (.tmp 35)), none, []⟩] false) (.seq (.region [
  ⟨(some 37), (.mv (.tmp 8)), none, []⟩, 
  ⟨(some 38), (.call F.object_id [(.tmp 37)]), none, []⟩, 
  ⟨(some 36), (.mv (.tmp 38)), none, []⟩, 
  ⟨(some 39), (.ext (.tmp 36) 0), none, []⟩, 
  ⟨(some 40), (.ext (.tmp 36) 1), none, []⟩, 
  ⟨(some 9), (.new (repl 32 (.int .u8 0))), none, []⟩, 
  ⟨none, (.store 32 (.tmp 9) (.tmp 39)), none, []⟩, 
  ⟨(some 10), (.mv (.tmp 40)), none, []⟩] false) (.seq (.seq (.region [
  ⟨(some 41), (.mv (.tmp 10)), none, []⟩, 
  ⟨(some 42), (.un .not (.tmp 41)), none, []⟩] false) (.cond (.tmp 42) (.seq (.region [
  ⟨(some 43), (.build [(.int .u8 0), (.int .u8 0), (.int .u8 0), (.int .u8 0), (.int .u8 0), (.int .u8 0), (.int .u8 0), (.int .u8 0), (.int .u8 0), (.int .u8 0), (.int .u8 0), (.int .u8 0), (.int .u8 0), (.int .u8 0), (.int .u8 0), (.int .u8 0), (.int .u8 0), (.int .u8 0), (.int .u8 0), (.int .u8 0), (.int .u8 0), (.int .u8 0), (.int .u8 0), (.int .u8 0), (.int .u8 0), (.int .u8 0), (.int .u8 0), (.int .u8 0), (.int .u8 0), (.int .u8 0), (.int .u8 0), (.int .u8 0), (.sl true 32 []), (.str [])] []), none, []⟩, 
  ⟨none, (.store 34 (.tmp 2) (.tmp 43)), none, []⟩, 
  ⟨(some 3), (.mv (.const (.int .i64 4))), none, []⟩] false) .ret) .skip)) (.seq (.region [
  ⟨(some 44), (.mv (.tmp 7)), none, []⟩, 
  ⟨(some 45), (.bin .eql .no (.tmp 44) (.const (.int .i64 0))), none, []⟩] false) (.cond (.tmp 45) (.region [
  ⟨(some 46), (.load (some 32) (.tmp 9)), none, []⟩, 
  ⟨(some 47), (.faddr 0 (.tmp 6)), none, []⟩, 
  ⟨none, (.store 32 (.tmp 47) (.tmp 46)), none, []⟩] false) (.region [
  ⟨(some 48), (.faddr 32 (.tmp 6)), none, []⟩, 
  ⟨(some 49), (.ldo (.tmp 48)), none, []⟩, 
  ⟨(some 50), (.load (some 32) (.tmp 9)), none, []⟩, 
  ⟨(some 51), (.bsl 32 [(.tmp 50)]), none, []⟩, 
  ⟨(some 52), (.app 32 (.tmp 49) (.tmp 51)), none, []⟩, 
  ⟨(some 53), (.faddr 32 (.tmp 6)), none, []⟩, 
  ⟨none, (.sto (.tmp 53) 52), none, []⟩] false))))))) (.region [
  ⟨(some 54), (.bin .add .no (.tmp 31) (.const (.int .i64 1))), none, []⟩, 
  ⟨(some 31), (.mv (.tmp 54)), none, []⟩] false))))
def c_object_GetCommit : ACode := (.seq (.region [
  ⟨(some 2), (.new [(.int .u8 0), (.int .u8 0), (.int .u8 0), (.int .u8 0), (.int .u8 0), (.int .u8 0), (.int .u8 0), (.int .u8 0), (.int .u8 0), (.int .u8 0), (.int .u8 0), (.int .u8 0), (.int .u8 0), (.int .u8 0), (.int .u8 0), (.int .u8 0), (.int .u8 0), (.int .u8 0), (.int .u8 0), (.int .u8 0), (.int .u8 0), (.int .u8 0), (.int .u8 0), (.int .u8 0), (.int .u8 0), (.int .u8 0), (.int .u8 0), (.int .u8 0), (.int .u8 0), (.int .u8 0), (.int .u8 0), (.int .u8 0), (.sl true 32 []), (.str [])]), none, []⟩, 
  ⟨(some 3), (.mv (.const (.int .i64 0))), none, []⟩] false) (.seq (.region [
  ⟨(some 12), (.mv (.tmp 0)), none, []⟩, 
  ⟨(some 13), (.call F.code_Split [(.tmp 12)]), none, []⟩, 
  ⟨(some 11), (.mv (.tmp 13)), none, []⟩, 
  ⟨(some 14), (.ext (.tmp 11) 0), none, []⟩, 
  ⟨(some 15), (.ext (.tmp 11) 1), none, []⟩, 
  ⟨(some 4), (.mvo 14), none, []⟩, 
  ⟨(some 5), (.mv (.tmp 15)), none, []⟩] false) (.seq (.seq (.region [
  ⟨(some 16), (.mv (.tmp 5)), none, []⟩, 
  ⟨(some 17), (.bin .neq .no (.tmp 16) (.const (.int .i64 0))), none, []⟩, 
  ⟨(some 18), (.mv (.tmp 17)), none, []⟩, 
  ⟨(some 19), (.mv (.tmp 4)), (some (18, false)), []⟩, 
  ⟨(some 20), (.len false (.tmp 19)), (some (18, false)), []⟩, 
  ⟨(some 21), (.bin .lss .no (.tmp 20) (.const (.int .i64 2))), (some (18, false)), []⟩, 
  ⟨(some 22), (.pick (.tmp 18) (.const (.bool true)) (.tmp 21)), none, []⟩] false) (.cond (.tmp 22) c_object_GetCommit_j1 .skip)) (.seq (.region [
  ⟨(some 24), (.mv (.tmp 4)), none, []⟩, 
  ⟨(some 25), (.iaddr 1 (.tmp 24) (.const (.int .i64 0))), none, []⟩, 
  ⟨(some 26), (.load none (.tmp 25)), none, []⟩, 
  ⟨(some 27), (.build [(.int .u8 0), (.int .u8 0), (.int .u8 0), (.int .u8 0), (.int .u8 0), (.int .u8 0), (.int .u8 0), (.int .u8 0), (.int .u8 0), (.int .u8 0), (.int .u8 0), (.int .u8 0), (.int .u8 0), (.int .u8 0), (.int .u8 0), (.int .u8 0), (.int .u8 0), (.int .u8 0), (.int .u8 0), (.int .u8 0), (.int .u8 0), (.int .u8 0), (.int .u8 0), (.int .u8 0), (.int .u8 0), (.int .u8 0), (.int .u8 0), (.int .u8 0), (.int .u8 0), (.int .u8 0), (.int .u8 0), (.int .u8 0), (.sl true 32 []), (.str [])] [(33, (1, (.tmp 26)))]), none, []⟩, 
  ⟨(some 6), (.new [(.int .u8 0), (.int .u8 0), (.int .u8 0), (.int .u8 0), (.int .u8 0), (.int .u8 0), (.int .u8 0), (.int .u8 0), (.int .u8 0), (.int .u8 0), (.int .u8 0), (.int .u8 0), (.int .u8 0), (.int .u8 0), (.int .u8 0), (.int .u8 0), (.int .u8 0), (.int .u8 0), (.int .u8 0), (.int .u8 0), (.int .u8 0), (.int .u8 0), (.int .u8 0), (.int .u8 0), (.int .u8 0), (.int .u8 0), (.int .u8 0), (.int .u8 0), (.int .u8 0), (.int .u8 0), (.int .u8 0), (.int .u8 0), (.sl true 32 []), (.str [])]), none, []⟩, 
  ⟨none, (.store 34 (.tmp 6) (.tmp 27)), none, []⟩] false) (.seq (.seq (.region [
  ⟨(some 28), (.mv (.tmp 4)), none, []⟩, 
  ⟨(some 29), (.slc 1 (.tmp 28) (some (.const (.int .i64 1))) none none), none, []⟩, 
  ⟨(some 30), (.len false (.tmp 29)), none, []⟩, 
  ⟨(some 31), (.mv (.const (.int .i64 0))), none, []⟩] false) (.block 0 (.loop c_object_GetCommit_l1))) (.seq (.seq (.region [
  ⟨(some 55), (.load (some 34) (.tmp 6)), none, []⟩, 
  ⟨(some 56), (.call F.object_GoodCommit [(.tmp 55)]), none, []⟩, 
  ⟨(some 57), (.un .not (.tmp 56)), none, []⟩] false) (.cond (.tmp 57) (.seq (.region [
  ⟨(some 58), (.build [(.int .u8 0), (.int .u8 0), (.int .u8 0), (.int .u8 0), (.int .u8 0), (.int .u8 0), (.int .u8 0), (.int .u8 0), (.int .u8 0), (.int .u8 0), (.int .u8 0), (.int .u8 0), (.int .u8 0), (.int .u8 0), (.int .u8 0), (.int .u8 0), (.int .u8 0), (.int .u8 0), (.int .u8 0), (.int .u8 0), (.int .u8 0), (.int .u8 0), (.int .u8 0), (.int .u8 0), (.int .u8 0), (.int .u8 0), (.int .u8 0), (.int .u8 0), (.int .u8 0), (.int .u8 0), (.int .u8 0), (.int .u8 0), (.sl true 32 []), (.str [])] []), none, []⟩, 
  ⟨none, (.store 34 (.tmp 2) (.tmp 58)), none, []⟩, 
  ⟨(some 3), (.mv (.const (.int .i64 4))), none, []⟩] false) .ret) .skip)) (.seq (.region [
  ⟨(some 59), (.load (some 34) (.tmp 6)), none, []⟩, 
  ⟨none, (.store 34 (.tmp 2) (.tmp 59)), none, []⟩, 
  ⟨(some 3), (.mv (.const (.int .i64 0))), none, []⟩] false) .ret)))))))
theorem cf_object_GetCommit : cFn Go.Proofs.Tryd.prog F.object_GetCommit = some ⟨60, c_object_GetCommit, [.c 2 (some 34), .t 3]⟩ := by kernel_rfl
def L.object_GetCommit_j1 (x32 : T.Commit) : Option (T.Commit × Int) :=
  some (({ Root := (Arr.zero 32), Parents := [], Note := [] } : T.Commit), 4)
theorem ok.object_GetCommit_j1 {Γ : Abs.Spec} {gl : Glob} (hC_code_Split : CallsX Γ K.code_Split) (hC_object_id : CallsX Γ K.object_id) (hC_object_GoodCommit : CallsX Γ K.object_GoodCommit) {Q : Ex → St → Prop} {r : (T.Commit × Int)}
    (hR : ∀ s, EndsX [.c 2 (some 34), .t 3] false (V.tup [(V.agg (C.Commit r.1)), (V.int .i64 r.2)]) s → Q .ret s)
    {s : St} {i33 : Nat} {x32 : T.Commit} (hli33 : i33 < s.nH) (hci33 : Cells s i33 (C.Commit x32)) (hoi33_32 : OwnC s i33 32) (h34 : s.tm 2 = (V.ptr i33 0))
    (hD : L.object_GetCommit_j1 x32 = some r) : awp Γ gl c_object_GetCommit_j1 Q s := by
  unfold L.object_GetCommit_j1 at hD
  refine x_seq ?_
  refine x_start (b := false) ?_
  refine x_build (ws := []) (l := C.Commit ({ Root := (Arr.zero 32), Parents := [], Note := [] } : T.Commit)) rfl (fill_from (by kernel_rfl : _ = C.Commit ({ Root := (Arr.zero 32), Parents := [], Note := [] } : T.Commit)) fill_nil) fun v35 hv35 hnv35 => ?_
  refine x_store (ws := (C.Commit ({ Root := (Arr.zero 32), Parents := [], Note := [] } : T.Commit))) (l' := (C.Commit ({ Root := (Arr.zero 32), Parents := [], Note := [] } : T.Commit))) h34 hci33 (cells_of rfl hv35) ⟨(C.Commit_len ({ Root := (Arr.zero 32), Parents := [], Note := [] } : T.Commit)), (C.Commit_sc ({ Root := (Arr.zero 32), Parents := [], Note := [] } : T.Commit)), le_len (C.Commit_len x32) (by decide)⟩ (setAt_full (Eq.trans (C.Commit_len ({ Root := (Arr.zero 32), Parents := [], Note := [] } : T.Commit)) (Eq.symm (C.Commit_len x32)))) fun csv36 ysv36 hcsv36 hnv36 hcv36 hsv36 => ?_
  refine x_mv' (show _ = (V.int .i64 4) from rfl) ?_
  refine x_done ?_
  refine x_tN ?_
  refine x_retc ?_
  obtain rfl := Option.some.inj hD
  exact hR _ (ends_tup (rvs_cons (rv_c h34 hcv36 (ld_Commit_0_34 ({ Root := (Arr.zero 32), Parents := [], Note := [] } : T.Commit))) (rvs_cons (rv_t (nf_of rfl (show _ = (V.int .i64 4) from rfl))) rvs_nil)) (by decide))
def L.object_GetCommit_l1 (k0 : T.Commit → T.Commit → Option (T.Commit × Int)) : List Bytes → Nat → T.Commit → T.Commit → Option (T.Commit × Int)
  | [], k126, x172, x174 =>
    k0 x172 x174
  | a184 :: rest, k126, x172, x174 =>
    (g.object_id a184).bind fun r198 =>
    if r198.2 = true then
      if ((k126 : Nat) : Int) = 0 then
        L.object_GetCommit_l1 k0 rest (k126 + 1) x172 ({ x174 with Root := r198.1 } : T.Commit)
      else
        (appL x174.Parents ([r198.1] : (List (Arr 32)))).bind fun l215 =>
        L.object_GetCommit_l1 k0 rest (k126 + 1) x172 ({ x174 with Parents := l215 } : T.Commit)
    else
      some (({ Root := (Arr.zero 32), Parents := [], Note := [] } : T.Commit), 4)
theorem ok.object_GetCommit_l1 {Γ : Abs.Spec} {gl : Glob} (hC_code_Split : CallsX Γ K.code_Split) (hC_object_id : CallsX Γ K.object_id) (hC_object_GoodCommit : CallsX Γ K.object_GoodCommit) {Q : Ex → St → Prop} {r : (T.Commit × Int)} {l125 : List Bytes} {k0 : T.Commit → T.Commit → Option (T.Commit × Int)}
    (hk0 : ∀ (s : St) (i228 : Nat) (i230 : Nat) (x227 : T.Commit) (x229 : T.Commit), (i228 < s.nH) → (Cells s i228 (C.Commit x227)) → (OwnC s i228 32) → (i230 < s.nH) → (Cells s i230 (C.Commit x229)) → (OwnC s i230 32) → (i228 ≠ i230) → (s.tm 2 = (V.ptr i228 0)) → (s.tm 6 = (V.ptr i230 0)) → k0 x227 x229 = some r → Q (.exit 0) s)
    (hR : ∀ s, EndsX [.c 2 (some 34), .t 3] false (V.tup [(V.agg (C.Commit r.1)), (V.int .i64 r.2)]) s → Q .ret s)
    (hlen : l125.length ≤ Lim) : ∀ (rest : List Bytes) (k126 : Nat) (s : St) (i173 : Nat) (i175 : Nat) (x172 : T.Commit) (x174 : T.Commit), l125.drop k126 = rest → k126 ≤ l125.length →
    ((s.tm 29).nf = V.sl false 1 (List.map V.str l125)) → (s.tm 30 = V.int .i64 ((l125.length : Nat) : Int)) → (s.tm 31 = V.int .i64 ((k126 : Nat) : Int)) → (i173 < s.nH) → (Cells s i173 (C.Commit x172)) → (OwnC s i173 32) → (i175 < s.nH) → (Cells s i175 (C.Commit x174)) → (OwnC s i175 32) → (i173 ≠ i175) → (s.tm 2 = (V.ptr i173 0)) → (s.tm 6 = (V.ptr i175 0)) →
    L.object_GetCommit_l1 k0 rest k126 x172 x174 = some r → awp Γ gl (.loop c_object_GetCommit_l1) Q s := by
  intro rest
  induction rest with
  | nil =>
    intro k126 s i173 i175 x172 x174 hdrop hkl hX hN hI hli173 hci173 hoi173_32 hli175 hci175 hoi175_32 hnei173i175 h176 h177 hD
    have hkz := drop_nil hdrop hkl
    have hp0 : ¬ (((k126 : Nat) : Int) < ((l125.length : Nat) : Int)) := by omega
    refine awp_roundK fun K hK => ?_
    rw [L.object_GetCommit_l1] at hD
    refine x_seq ?_
    refine x_start (b := false) ?_
    refine x_bin hI hN b_lss ?_
    refine x_done ?_
    refine x_tN ?_
    refine x_seq ?_
    refine x_cf (show _ = (V.bool (decide (((k126 : Nat) : Int) < ((l125.length : Nat) : Int)))) from rfl) (decide_eq_false hp0) ?_
    refine x_exitc ?_
    refine x_tE ?_
    refine x_tE ?_
    refine hk0 _ i173 i175 _ _ ?_ ?_ ?_ ?_ ?_ ?_ ?_ ?_ ?_ hD
    · exact hli173
    · exact hci173
    · exact hoi173_32
    · exact hli175
    · exact hci175
    · exact hoi175_32
    · exact hnei173i175
    · exact h176
    · exact h177
  | cons a184 rest ih =>
    intro k126 s i173 i175 x172 x174 hdrop hkl hX hN hI hli173 hci173 hoi173_32 hli175 hci175 hoi175_32 hnei173i175 h176 h177 hD
    obtain ⟨hlt, -, hget, hdrop1, -⟩ := drop_cons hdrop
    have hp1 : ((k126 : Nat) : Int) < ((l125.length : Nat) : Int) := by omega
    have hwk := wi_succ (k := k126) (by unfold Lim at hlen; omega)
    refine awp_roundK fun K hK => ?_
    rw [L.object_GetCommit_l1] at hD
    refine x_seq ?_
    refine x_start (b := false) ?_
    refine x_bin hI hN b_lss ?_
    refine x_done ?_
    refine x_tN ?_
    refine x_seq ?_
    refine x_ct (show _ = (V.bool (decide (((k126 : Nat) : Int) < ((l125.length : Nat) : Int)))) from rfl) (decide_eq_true hp1) ?_
    refine x_skip ?_
    refine x_tN ?_
    refine x_seq ?_
    refine x_block ?_
    refine x_seq ?_
    refine x_start (b := false) ?_
    refine x_mv' hI ?_
    refine x_iaddr hX hI (at_k hget) fun v187 (hv187 : v187.nf = V.el [(V.str a184)] 0) => ?_
    refine x_load_el hv187 (show _ = some (V.str a184) from rfl) fun v188 hv188 => ?_
    refine x_mv' (show _ = (V.int .i64 ((k126 : Nat) : Int)) from rfl) ?_
    refine x_mv' (nf_str hv188) ?_
    refine x_done ?_
    refine x_tN ?_
    refine x_seq ?_
    refine x_start (b := false) ?_
    refine x_mv' (show _ = (V.str a184) from rfl) ?_
    obtain ⟨r198, hx199, hD⟩ := Option.bind_eq_some_iff.1 hD
    refine x_callF hC_object_id (a := (a184)) (cons_eq (nf_of rfl (show _ = (V.str a184) from rfl)) rfl) hx199 fun v197 ov197 (hv197 : v197.nf = (V.tup [(V.agg (encB (r198.1).1)), (V.bool r198.2)])) hov197 => ?_
    refine x_mv hv197 fun v200 hv200 => ?_
    refine x_ext hv200 (show _ = some (V.agg (encB (r198.1).1)) from rfl) fun v201 hv201 => ?_
    refine x_ext hv200 (show _ = some (V.bool r198.2) from rfl) fun v202 hv202 => ?_
    refine x_new (l := (encB ((Arr.zero 32)).1)) (nf_zero _) fun i203 hidi203 hci203 => ?_
    refine x_store (ws := (encB (r198.1).1)) (l' := (encB (r198.1).1)) (show _ = (V.ptr i203 0) from rfl) hci203 (cells_of rfl hv201) ⟨(enc_len r198.1), (encB_sc r198.1.1), le_len (enc_len (Arr.zero 32)) (by decide)⟩ (setAt_full (Eq.trans (enc_len r198.1) (Eq.symm (enc_len (Arr.zero 32))))) fun csv204 ysv204 hcsv204 hnv204 hcv204 hsv204 => ?_
    refine x_mv' (nf_bool hv202) ?_
    refine x_done ?_
    refine x_tN ?_
    refine x_seq ?_
    refine x_seq ?_
    refine x_start (b := false) ?_
    refine x_mv' (show _ = (V.bool r198.2) from rfl) ?_
    refine x_un (show _ = (V.bool r198.2) from rfl) (aun_not _) ?_
    refine x_done ?_
    refine x_tN ?_
    by_cases hp208 : r198.2 = true
    · rw [if_pos hp208] at hD
      refine x_cf (show _ = (V.bool (!r198.2)) from rfl) (bnot_t hp208) ?_
      refine x_skip ?_
      refine x_tN ?_
      refine x_seq ?_
      refine x_start (b := false) ?_
      refine x_mv' (show _ = (V.int .i64 ((k126 : Nat) : Int)) from rfl) ?_
      refine x_bin (show _ = (V.int .i64 ((k126 : Nat) : Int)) from rfl) (show _ = (V.int .i64 0) from rfl) b_eql ?_
      refine x_done ?_
      refine x_tN ?_
      by_cases hp209 : ((k126 : Nat) : Int) = 0
      · rw [if_pos hp209] at hD
        refine x_ct (show _ = (V.bool (decide (((k126 : Nat) : Int) = 0))) from rfl) (decide_eq_true hp209) ?_
        refine x_start (b := false) ?_
        refine x_load (show _ = (V.ptr i203 0) from rfl) hcv204 (ld_arr r198.1) fun v210 hv210 => ?_
        refine x_faddr h177 ?_
        refine x_store (ws := (encB (r198.1).1)) (l' := (C.Commit ({ x174 with Root := r198.1 } : T.Commit))) (show _ = (V.ptr i175 0) from rfl) (cells_setOb (Nat.ne_of_lt (Nat.lt_of_lt_of_eq hli175 hidi203.symm)) (cells_new hli175 hci175)) (cells_of rfl hv210) ⟨(enc_len r198.1), (encB_sc r198.1.1), le_len (C.Commit_len x174) (by decide)⟩ (set_Commit_0_32 x174 r198.1) fun csv211 ysv211 hcsv211 hnv211 hcv211 hsv211 => ?_
        refine x_done ?_
        refine x_bN ?_
        refine x_tN ?_
        refine x_start (b := false) ?_
        refine x_bin hI (show _ = (V.int .i64 1) from rfl) b_add ?_
        refine x_mv' (show _ = (V.int .i64 (wi (((k126 : Nat) : Int) + 1))) from rfl) ?_
        refine x_done ?_
        refine x_tN ?_
        refine hK _ ?_
        refine ih (k126 + 1) _ i173 i175 _ _ hdrop1 hlt ?_ ?_ ?_ ?_ ?_ ?_ ?_ ?_ ?_ ?_ ?_ ?_ hD
        · exact hX
        · exact hN
        · exact (Eq.trans (show _ = (V.int .i64 (wi (((k126 : Nat) : Int) + 1))) from rfl) (congrArg (V.int .i64) hwk))
        · exact (Nat.lt_succ_of_lt hli173)
        · exact (cells_setOb hnei173i175 (cells_setOb (Nat.ne_of_lt (Nat.lt_of_lt_of_eq hli173 hidi203.symm)) (cells_new hli173 hci173)))
        · exact (ownC_setObo hnei173i175 (ownC_setObo (Nat.ne_of_lt (Nat.lt_of_lt_of_eq hli173 hidi203.symm)) (ownC_new hli173 hoi173_32)))
        · exact (Nat.lt_succ_of_lt hli175)
        · exact hcv211
        · exact (ownC_setOb hcsv211 (by rw [hnv211]; decide) (cs_le hcsv211 (cells_setOb (Nat.ne_of_lt (Nat.lt_of_lt_of_eq hli175 hidi203.symm)) (cells_new hli175 hci175)) (le_len (C.Commit_len x174) (by decide))) (ownC_setObo (Nat.ne_of_lt (Nat.lt_of_lt_of_eq hli175 hidi203.symm)) (ownC_new hli175 hoi175_32)))
        · exact hnei173i175
        · exact h176
        · exact h177
      · rw [if_neg hp209] at hD
        refine x_cf (show _ = (V.bool (decide (((k126 : Nat) : Int) = 0))) from rfl) (decide_eq_false hp209) ?_
        refine x_start (b := false) ?_
        refine x_faddr h177 ?_
        refine x_ldo (show _ = (V.ptr i175 32) from rfl) (cells_setOb (Nat.ne_of_lt (Nat.lt_of_lt_of_eq hli175 hidi203.symm)) (cells_new hli175 hci175)) (ld_get (ld_Commit_32_n x174)) fun v212 ov212 hv212 hwv212 => ?_
        refine x_load (show _ = (V.ptr i203 0) from rfl) hcv204 (ld_arr r198.1) fun v213 hv213 => ?_
        refine x_bsl (E := E.A32_u8) (l := ([r198.1] : (List (Arr 32)))) (cons_eq hv213 rfl) (fits_map (E := E.A32_u8) (sz := 32) (fun x => E.A32_u8_fit x) _) fun v214 ov214 hv214 hov214 => ?_
        obtain ⟨l215, hx216, hD⟩ := Option.bind_eq_some_iff.1 hD
        refine x_app hv212 (hwv212 (ownC_setObo (Nat.ne_of_lt (Nat.lt_of_lt_of_eq hli175 hidi203.symm)) (ownC_new hli175 hoi175_32))) (tail_sl hv214) hx216 fun v217 ov217 fv217 hv217 hov217 hfv217 => ?_
        refine x_faddr h177 ?_
        refine x_sto (l' := (C.Commit ({ x174 with Parents := l215 } : T.Commit))) (show _ = (V.ptr i175 32) from rfl) (cells_setOb (Nat.ne_of_lt (Nat.lt_of_lt_of_eq hli175 hidi203.symm)) (cells_new hli175 hci175)) hv217 rfl (lt_len (C.Commit_len x174) (by decide)) (set_Commit_32_1 x174 l215) fun csv218 hcsv218 hcv218 howv218 => ?_
        refine x_done ?_
        refine x_bN ?_
        refine x_tN ?_
        refine x_start (b := false) ?_
        refine x_bin hI (show _ = (V.int .i64 1) from rfl) b_add ?_
        refine x_mv' (show _ = (V.int .i64 (wi (((k126 : Nat) : Int) + 1))) from rfl) ?_
        refine x_done ?_
        refine x_tN ?_
        refine hK _ ?_
        refine ih (k126 + 1) _ i173 i175 _ _ hdrop1 hlt ?_ ?_ ?_ ?_ ?_ ?_ ?_ ?_ ?_ ?_ ?_ ?_ hD
        · exact hX
        · exact hN
        · exact (Eq.trans (show _ = (V.int .i64 (wi (((k126 : Nat) : Int) + 1))) from rfl) (congrArg (V.int .i64) hwk))
        · exact (Nat.lt_succ_of_lt hli173)
        · exact (cells_stoOb hnei173i175 (cells_setOb (Nat.ne_of_lt (Nat.lt_of_lt_of_eq hli173 hidi203.symm)) (cells_new hli173 hci173)))
        · exact (ownC_stoObo hnei173i175 (ownC_ow hfv217 (ownC_take (.inl hnei173i175) (ownC_setObo (Nat.ne_of_lt (Nat.lt_of_lt_of_eq hli173 hidi203.symm)) (ownC_new hli173 hoi173_32))) :))
        · exact (Nat.lt_succ_of_lt hli175)
        · exact hcv218
        · exact (howv218 hov217)
        · exact hnei173i175
        · exact h176
        · exact h177
    · rw [if_neg hp208] at hD
      refine x_ct (show _ = (V.bool (!r198.2)) from rfl) (bnot_f (Bool.eq_false_iff.2 hp208)) ?_
      refine x_seq ?_
      refine x_start (b := false) ?_
      refine x_build (ws := []) (l := C.Commit ({ Root := (Arr.zero 32), Parents := [], Note := [] } : T.Commit)) rfl (fill_from (by kernel_rfl : _ = C.Commit ({ Root := (Arr.zero 32), Parents := [], Note := [] } : T.Commit)) fill_nil) fun v219 hv219 hnv219 => ?_
      refine x_store (ws := (C.Commit ({ Root := (Arr.zero 32), Parents := [], Note := [] } : T.Commit))) (l' := (C.Commit ({ Root := (Arr.zero 32), Parents := [], Note := [] } : T.Commit))) h176 (cells_setOb (Nat.ne_of_lt (Nat.lt_of_lt_of_eq hli173 hidi203.symm)) (cells_new hli173 hci173)) (cells_of rfl hv219) ⟨(C.Commit_len ({ Root := (Arr.zero 32), Parents := [], Note := [] } : T.Commit)), (C.Commit_sc ({ Root := (Arr.zero 32), Parents := [], Note := [] } : T.Commit)), le_len (C.Commit_len x172) (by decide)⟩ (setAt_full (Eq.trans (C.Commit_len ({ Root := (Arr.zero 32), Parents := [], Note := [] } : T.Commit)) (Eq.symm (C.Commit_len x172)))) fun csv220 ysv220 hcsv220 hnv220 hcv220 hsv220 => ?_
      refine x_mv' (show _ = (V.int .i64 4) from rfl) ?_
      refine x_done ?_
      refine x_tN ?_
      refine x_retc ?_
      refine x_tR ?_
      refine x_bR ?_
      refine x_tR ?_
      refine x_tR ?_
      obtain rfl := Option.some.inj hD
      exact hR _ (ends_tup (rvs_cons (rv_c h176 hcv220 (ld_Commit_0_34 ({ Root := (Arr.zero 32), Parents := [], Note := [] } : T.Commit))) (rvs_cons (rv_t (nf_of rfl (show _ = (V.int .i64 4) from rfl))) rvs_nil)) (by decide))
def g.object_GetCommit (p0 : Bytes) : Option (T.Commit × Int) :=
  (g.code_Split p0).bind fun r11 =>
  if r11.2 = 0 then
    if ((r11.1.length : Nat) : Int) < 2 then
      L.object_GetCommit_j1 ({ Root := (Arr.zero 32), Parents := [], Note := [] } : T.Commit)
    else
      (at? r11.1 0).bind fun a49 =>
      (cut r11.1 1 (r11.1.length : Nat)).bind fun q122 =>
      if q122.length ≤ Lim then L.object_GetCommit_l1 (fun (x233 : T.Commit) (x235 : T.Commit) => (g.object_GoodCommit x235).bind fun r256 =>
      if r256 = true then
        some (x235, 0)
      else
        some (({ Root := (Arr.zero 32), Parents := [], Note := [] } : T.Commit), 4)) q122 0 ({ Root := (Arr.zero 32), Parents := [], Note := [] } : T.Commit) ({ Root := (Arr.zero 32), Parents := [], Note := a49 } : T.Commit) else none
  else
    L.object_GetCommit_j1 ({ Root := (Arr.zero 32), Parents := [], Note := [] } : T.Commit)
theorem ok.object_GetCommit {Γ : Abs.Spec} {gl : Glob} (hC_code_Split : CallsX Γ K.code_Split) (hC_object_id : CallsX Γ K.object_id) (hC_object_GoodCommit : CallsX Γ K.object_GoodCommit) {r : (T.Commit × Int)} {p0 : Bytes} {v : List V}
    (hv : nfL v = [(V.str p0)]) (hD : g.object_GetCommit p0 = some r) : awp Γ gl c_object_GetCommit (endQ [.c 2 (some 34), .t 3] false (V.tup [(V.agg (C.Commit r.1)), (V.int .i64 r.2)])) (St.init v) := by
  obtain ⟨v0, v, rfl, h0, hv⟩ := nfL_cons hv
  obtain rfl := nfL_nil hv
  have hR : ∀ s, EndsX [.c 2 (some 34), .t 3] false (V.tup [(V.agg (C.Commit r.1)), (V.int .i64 r.2)]) s → endQ [.c 2 (some 34), .t 3] false (V.tup [(V.agg (C.Commit r.1)), (V.int .i64 r.2)]) .ret s := fun _ h => h
  unfold g.object_GetCommit at hD
  unfold c_object_GetCommit
  refine x_seq ?_
  refine x_start (b := false) ?_
  refine x_new (l := (C.Commit ({ Root := (Arr.zero 32), Parents := [], Note := [] } : T.Commit))) (by kernel_rfl) fun i2 hidi2 hci2 => ?_
  refine x_mv' (show _ = (V.int .i64 0) from rfl) ?_
  refine x_done ?_
  refine x_tN ?_
  refine x_seq ?_
  refine x_start (b := false) ?_
  refine x_mv' (nf_str h0) ?_
  obtain ⟨r11, hx12, hD⟩ := Option.bind_eq_some_iff.1 hD
  refine x_callF hC_code_Split (a := (p0)) (cons_eq (nf_of rfl (show _ = (V.str p0) from rfl)) rfl) hx12 fun v10 ov10 (hv10 : v10.nf = (V.tup [(V.sl false 1 (List.map V.str r11.1)), (V.int .i64 r11.2)])) hov10 => ?_
  refine x_mv hv10 fun v13 hv13 => ?_
  refine x_ext hv13 (show _ = some (V.sl false 1 (List.map V.str r11.1)) from rfl) fun v14 hv14 => ?_
  refine x_ext hv13 (show _ = some (V.int .i64 r11.2) from rfl) fun v15 hv15 => ?_
  refine x_mvo hv14 fun v16 ov16 hv16 hwv16 => ?_
  refine x_mv' (nf_int hv15) ?_
  refine x_done ?_
  refine x_tN ?_
  refine x_seq ?_
  refine x_seq ?_
  refine x_start (b := false) ?_
  refine x_mv' (show _ = (V.int .i64 r11.2) from rfl) ?_
  refine x_bin (show _ = (V.int .i64 r11.2) from rfl) (show _ = (V.int .i64 0) from rfl) b_neq ?_
  refine x_mv' (show _ = (V.bool (!(decide (r11.2 = 0)))) from rfl) ?_
  by_cases hp37 : r11.2 = 0
  · rw [if_pos hp37] at hD
    refine x_gy (show _ = (V.bool (!(decide (r11.2 = 0)))) from rfl) (bnot_t (decide_eq_true hp37)) ?_
    refine x_mv hv16 fun v38 hv38 => ?_
    refine x_gy (show _ = (V.bool (!(decide (r11.2 = 0)))) from rfl) (bnot_t (decide_eq_true hp37)) ?_
    refine x_len hv38 ?_
    refine x_gy (show _ = (V.bool (!(decide (r11.2 = 0)))) from rfl) (bnot_t (decide_eq_true hp37)) ?_
    refine x_bin (show _ = (V.int .i64 ((r11.1.length : Nat) : Int)) from rfl) (show _ = (V.int .i64 2) from rfl) b_lss ?_
    refine x_pickf' (show _ = (V.bool (!(decide (r11.2 = 0)))) from rfl) (bnot_t (decide_eq_true hp37)) (show _ = (V.bool (decide (((r11.1.length : Nat) : Int) < 2))) from rfl) ?_
    refine x_done ?_
    refine x_tN ?_
    by_cases hp39 : ((r11.1.length : Nat) : Int) < 2
    · rw [if_pos hp39] at hD
      refine x_ct (show _ = (V.bool (decide (((r11.1.length : Nat) : Int) < 2))) from rfl) (decide_eq_true hp39) ?_
      refine ok.object_GetCommit_j1 (i33 := i2) hC_code_Split hC_object_id hC_object_GoodCommit (fun _ hE => ?_) ?_ ?_ ?_ ?_ hD
      · refine x_tR ?_; exact hR _ hE
      · exact (Nat.lt_succ_of_le (Nat.le_of_eq hidi2))
      · exact hci2
      · exact (ownC_nil (sz := 32) hidi2 (by rfl))
      · exact (show _ = (V.ptr i2 0) from rfl)
    · rw [if_neg hp39] at hD
      refine x_cf (show _ = (V.bool (decide (((r11.1.length : Nat) : Int) < 2))) from rfl) (decide_eq_false hp39) ?_
      refine x_skip ?_
      refine x_tN ?_
      refine x_seq ?_
      refine x_start (b := false) ?_
      refine x_mv hv16 fun v48 hv48 => ?_
      obtain ⟨a49, hx50, hD⟩ := Option.bind_eq_some_iff.1 hD
      refine x_iaddr hv48 (show _ = (V.int .i64 0) from rfl) hx50 fun v51 (hv51 : v51.nf = V.el [(V.str a49)] 0) => ?_
      refine x_load_el hv51 (show _ = some (V.str a49) from rfl) fun v52 hv52 => ?_
      refine x_build (ws := [(33, 1, (V.str a49))]) (l := C.Commit ({ Root := (Arr.zero 32), Parents := [], Note := a49 } : T.Commit)) (part_eq (nf_of rfl (nf_str hv52)) rfl) (fill_from (by kernel_rfl : _ = C.Commit ({ Root := (Arr.zero 32), Parents := [], Note := [] } : T.Commit)) (fill_step (set_Commit_33_1 ({ Root := (Arr.zero 32), Parents := [], Note := [] } : T.Commit) a49) ⟨(show [(V.str a49)].length = 1 from rfl), rfl, le_len (C.Commit_len ({ Root := (Arr.zero 32), Parents := [], Note := [] } : T.Commit)) (by decide)⟩ fill_nil)) fun v53 hv53 hnv53 => ?_
      refine x_new (l := (C.Commit ({ Root := (Arr.zero 32), Parents := [], Note := [] } : T.Commit))) (by kernel_rfl) fun i54 hidi54 hci54 => ?_
      refine x_store (ws := (C.Commit ({ Root := (Arr.zero 32), Parents := [], Note := a49 } : T.Commit))) (l' := (C.Commit ({ Root := (Arr.zero 32), Parents := [], Note := a49 } : T.Commit))) (show _ = (V.ptr i54 0) from rfl) hci54 (cells_of rfl hv53) ⟨(C.Commit_len ({ Root := (Arr.zero 32), Parents := [], Note := a49 } : T.Commit)), (C.Commit_sc ({ Root := (Arr.zero 32), Parents := [], Note := a49 } : T.Commit)), le_len (C.Commit_len ({ Root := (Arr.zero 32), Parents := [], Note := [] } : T.Commit)) (by decide)⟩ (setAt_full (Eq.trans (C.Commit_len ({ Root := (Arr.zero 32), Parents := [], Note := a49 } : T.Commit)) (Eq.symm (C.Commit_len ({ Root := (Arr.zero 32), Parents := [], Note := [] } : T.Commit))))) fun csv55 ysv55 hcsv55 hnv55 hcv55 hsv55 => ?_
      refine x_done ?_
      refine x_tN ?_
      refine x_seq ?_
      refine x_seq ?_
      refine x_start (b := false) ?_
      refine x_mv hv16 fun v121 hv121 => ?_
      obtain ⟨q122, hx123, hD⟩ := Option.bind_eq_some_iff.1 hD
      refine x_slc (ka := .i64) (kb := .i64) hv121 (show _ = (V.int .i64 1) from rfl) rfl hx123 fun v124 hv124 => ?_
      refine x_len hv124 ?_
      refine x_mv' (show _ = (V.int .i64 0) from rfl) ?_
      refine x_done ?_
      refine x_tN ?_
      refine x_block ?_
      by_cases hlen264 : q122.length ≤ Lim
      · rw [if_pos hlen264] at hD
        refine ok.object_GetCommit_l1 (l125 := q122) hC_code_Split hC_object_id hC_object_GoodCommit (fun s263 i234 i236 x233 x235 hli234 hci234 hoi234_32 hli236 hci236 hoi236_32 hnei234i236 h237 h238 hD => ?_) (fun _ hE => ?_) hlen264 _ 0 _ i2 i54 _ _ rfl (Nat.zero_le _) ?_ ?_ ?_ ?_ ?_ ?_ ?_ ?_ ?_ ?_ ?_ ?_ hD
        · refine x_bE ?_
          refine x_tN ?_
          refine x_seq ?_
          refine x_seq ?_
          refine x_start (b := false) ?_
          refine x_load h238 hci236 (ld_Commit_0_34 x235) fun v254 hv254 => ?_
          obtain ⟨r256, hx257, hD⟩ := Option.bind_eq_some_iff.1 hD
          refine x_callF hC_object_GoodCommit (a := (x235)) (cons_eq hv254 rfl) hx257 fun v255 ov255 (hv255 : v255.nf = (V.bool r256)) hov255 => ?_
          refine x_un (nf_bool hv255) (aun_not _) ?_
          refine x_done ?_
          refine x_tN ?_
          by_cases hp258 : r256 = true
          · rw [if_pos hp258] at hD
            refine x_cf (show _ = (V.bool (!r256)) from rfl) (bnot_t hp258) ?_
            refine x_skip ?_
            refine x_tN ?_
            refine x_seq ?_
            refine x_start (b := false) ?_
            refine x_load h238 hci236 (ld_Commit_0_34 x235) fun v259 hv259 => ?_
            refine x_store (ws := (C.Commit x235)) (l' := (C.Commit x235)) h237 hci234 (cells_of rfl hv259) ⟨(C.Commit_len x235), (C.Commit_sc x235), le_len (C.Commit_len x233) (by decide)⟩ (setAt_full (Eq.trans (C.Commit_len x235) (Eq.symm (C.Commit_len x233)))) fun csv260 ysv260 hcsv260 hnv260 hcv260 hsv260 => ?_
            refine x_mv' (show _ = (V.int .i64 0) from rfl) ?_
            refine x_done ?_
            refine x_tN ?_
            refine x_retc ?_
            obtain rfl := Option.some.inj hD
            exact hR _ (ends_tup (rvs_cons (rv_c h237 hcv260 (ld_Commit_0_34 x235)) (rvs_cons (rv_t (nf_of rfl (show _ = (V.int .i64 0) from rfl))) rvs_nil)) (by decide))
          · rw [if_neg hp258] at hD
            refine x_ct (show _ = (V.bool (!r256)) from rfl) (bnot_f (Bool.eq_false_iff.2 hp258)) ?_
            refine x_seq ?_
            refine x_start (b := false) ?_
            refine x_build (ws := []) (l := C.Commit ({ Root := (Arr.zero 32), Parents := [], Note := [] } : T.Commit)) rfl (fill_from (by kernel_rfl : _ = C.Commit ({ Root := (Arr.zero 32), Parents := [], Note := [] } : T.Commit)) fill_nil) fun v261 hv261 hnv261 => ?_
            refine x_store (ws := (C.Commit ({ Root := (Arr.zero 32), Parents := [], Note := [] } : T.Commit))) (l' := (C.Commit ({ Root := (Arr.zero 32), Parents := [], Note := [] } : T.Commit))) h237 hci234 (cells_of rfl hv261) ⟨(C.Commit_len ({ Root := (Arr.zero 32), Parents := [], Note := [] } : T.Commit)), (C.Commit_sc ({ Root := (Arr.zero 32), Parents := [], Note := [] } : T.Commit)), le_len (C.Commit_len x233) (by decide)⟩ (setAt_full (Eq.trans (C.Commit_len ({ Root := (Arr.zero 32), Parents := [], Note := [] } : T.Commit)) (Eq.symm (C.Commit_len x233)))) fun csv262 ysv262 hcsv262 hnv262 hcv262 hsv262 => ?_
            refine x_mv' (show _ = (V.int .i64 4) from rfl) ?_
            refine x_done ?_
            refine x_tN ?_
            refine x_retc ?_
            refine x_tR ?_
            obtain rfl := Option.some.inj hD
            exact hR _ (ends_tup (rvs_cons (rv_c h237 hcv262 (ld_Commit_0_34 ({ Root := (Arr.zero 32), Parents := [], Note := [] } : T.Commit))) (rvs_cons (rv_t (nf_of rfl (show _ = (V.int .i64 4) from rfl))) rvs_nil)) (by decide))
        · refine x_bR ?_; refine x_tR ?_; exact hR _ hE
        · exact hv124
        · exact (show _ = (V.int .i64 ((q122.length : Nat) : Int)) from rfl)
        · exact (show _ = (V.int .i64 0) from rfl)
        · exact (Nat.lt_succ_of_lt (Nat.lt_succ_of_le (Nat.le_of_eq hidi2)))
        · exact (cells_setOb (Nat.ne_of_lt (Nat.lt_of_lt_of_eq (Nat.lt_succ_of_le (Nat.le_of_eq hidi2)) hidi54.symm)) (cells_new (Nat.lt_succ_of_le (Nat.le_of_eq hidi2)) hci2))
        · exact (ownC_setObo (Nat.ne_of_lt (Nat.lt_of_lt_of_eq (Nat.lt_succ_of_le (Nat.le_of_eq hidi2)) hidi54.symm)) (ownC_new (Nat.lt_succ_of_le (Nat.le_of_eq hidi2)) (ownC_nil (sz := 32) hidi2 (by rfl))))
        · exact (Nat.lt_succ_of_le (Nat.le_of_eq hidi54))
        · exact hcv55
        · exact (hsv55 32 (hnv53 32 32 rfl (by simp)))
        · exact (Nat.ne_of_lt (Nat.lt_of_lt_of_eq (Nat.lt_succ_of_le (Nat.le_of_eq hidi2)) hidi54.symm))
        · exact (show _ = (V.ptr i2 0) from rfl)
        · exact (show _ = (V.ptr i54 0) from rfl)
      · rw [if_neg hlen264] at hD; cases hD
  · rw [if_neg hp37] at hD
    refine x_gn (show _ = (V.bool (!(decide (r11.2 = 0)))) from rfl) (bnot_f (decide_eq_false hp37)) ?_
    refine x_gn (show _ = (V.bool (!(decide (r11.2 = 0)))) from rfl) (bnot_f (decide_eq_false hp37)) ?_
    refine x_gn (show _ = (V.bool (!(decide (r11.2 = 0)))) from rfl) (bnot_f (decide_eq_false hp37)) ?_
    refine x_pickt' (show _ = (V.bool (!(decide (r11.2 = 0)))) from rfl) (bnot_f (decide_eq_false hp37)) (show _ = (V.bool true) from rfl) ?_
    refine x_done ?_
    refine x_tN ?_
    refine x_ct (show _ = (V.bool true) from rfl) rfl ?_
    refine ok.object_GetCommit_j1 (i33 := i2) hC_code_Split hC_object_id hC_object_GoodCommit (fun _ hE => ?_) ?_ ?_ ?_ ?_ hD
    · refine x_tR ?_; exact hR _ hE
    · exact (Nat.lt_succ_of_le (Nat.le_of_eq hidi2))
    · exact hci2
    · exact (ownC_nil (sz := 32) hidi2 (by rfl))
    · exact (show _ = (V.ptr i2 0) from rfl)
def K.object_GetCommit : FC := fc F.object_GetCommit (fun _ => true) false (fun (a : Bytes) => [(V.str a)]) (fun (y : (T.Commit × Int)) => (V.tup [(V.agg (C.Commit y.1)), (V.int .i64 y.2)])) (fun a => g.object_GetCommit a)
  (fun a => (cleanL_mk rfl rfl))
  (fun y => (cleanL_mk (E.Commit_clean _) (cleanL_mk rfl rfl)))
  (fun a0 b0 h => by
    obtain ⟨h0, h⟩ := List.cons.inj h
    obtain rfl : a0 = b0 := V.str.inj h0
    rfl)
theorem H.object_GetCommit (w : World) (hw : EnvOK w) : K.object_GetCommit.Holds (cxD w) :=
  FC.holds_of (cs := [K.code_Split, K.object_id, K.object_GoodCommit]) (glD w) mixed cf_object_GetCommit (fun _ _ ⟨_, _, h, _⟩ => by subst h; exact Nat.le_of_ble_eq_true rfl) fun v y ⟨a, r, hv, hD, hy⟩ => by
    subst hy
    exact ok.object_GetCommit (specOf_calls (H.code_Split w hw) (fun _ _ ⟨_, _, h, _⟩ => by subst h; rfl)) (specOf_calls (H.object_id w hw) (fun _ _ ⟨_, _, h, _⟩ => by subst h; rfl)) (specOf_calls (H.object_GoodCommit w hw) (fun _ _ ⟨_, _, h, _⟩ => by subst h; rfl)) hv hD
def c_seicheref07_Commit_l1 : ACode := (.seq (.region [
  ⟨(some 16), (.bin .lss .no (.tmp 15) (.tmp 14)), none, []⟩] false) (.seq (.cond (.tmp 16) .skip (.exit 0)) (.seq (.block 1 (.seq (.region [
  ⟨(some 17), (.iaddr 32 (.tmp 13) (.tmp 15)), none, []⟩, 
  ⟨(some 18), (.load (some 32) (.tmp 17)), none, []⟩, 
  ⟨(some 5), (.new (repl 32 (.int .u8 0))), none, []⟩, 
  ⟨none, (.store 32 (.tmp 5) (.tmp 18)), none, []⟩] false) (.region [
  ⟨(some 19), (.mvo 3), none, []⟩, 
  ⟨(some 20), (.slca 32 1 (.tmp 5) none none none), none, []⟩, 
  ⟨(some 21), (.b2s (.tmp 20)), none, []⟩, 
  ⟨(some 22), (.bsl 1 [(.tmp 21)]), none, []⟩, 
  ⟨(some 23), (.app 1 (.tmp 19) (.tmp 22)), none, []⟩, 
  ⟨(some 3), (.mvo 23), none, []⟩] false))) (.region [
  ⟨(some 24), (.bin .add .no (.tmp 15) (.const (.int .i64 1))), none, []⟩, 
  ⟨(some 15), (.mv (.tmp 24)), none, []⟩] false))))
def c_seicheref07_Commit : ACode := (.seq (.region [
  ⟨(some 1), (.box (.tmp 0)), none, []⟩, 
  ⟨(some 2), (.mv (.const (.str []))), none, []⟩] false) (.seq (.region [
  ⟨(some 6), (.faddr 33 (.tmp 1)), none, []⟩, 
  ⟨(some 7), (.load none (.tmp 6)), none, []⟩, 
  ⟨(some 8), (.faddr 0 (.tmp 1)), none, []⟩, 
  ⟨(some 9), (.slca 32 1 (.tmp 8) none none none), none, []⟩, 
  ⟨(some 10), (.b2s (.tmp 9)), none, []⟩, 
  ⟨(some 11), (.bsl 1 [(.tmp 7), (.tmp 10)]), none, []⟩, 
  ⟨(some 3), (.mvo 11), none, []⟩] true) (.seq (.seq (.region [
  ⟨(some 12), (.faddr 32 (.tmp 1)), none, []⟩, 
  ⟨(some 13), (.load none (.tmp 12)), none, []⟩, 
  ⟨(some 14), (.len false (.tmp 13)), none, []⟩, 
  ⟨(some 15), (.mv (.const (.int .i64 0))), none, []⟩] false) (.block 0 (.loop c_seicheref07_Commit_l1))) (.seq (.region [
  ⟨(some 25), (.mv (.tmp 3)), none, []⟩, 
  ⟨(some 26), (.call F.seicheref01_Join [(.tmp 25)]), none, []⟩, 
  ⟨(some 2), (.mv (.tmp 26)), none, []⟩] false) .ret))))
theorem cf_seicheref07_Commit : cFn Go.Proofs.Tryd.prog F.seicheref07_Commit = some ⟨27, c_seicheref07_Commit, [.t 2]⟩ := by kernel_rfl
def L.seicheref07_Commit_l1 (k0 : (List Bytes) → Option Bytes) : List (Arr 32) → (List Bytes) → Option Bytes
  | [], t3_58 =>
    k0 t3_58
  | a61 :: rest, t3_58 =>
    (appL t3_58 ([(a61).1] : (List Bytes))).bind fun l72 =>
    L.seicheref07_Commit_l1 k0 rest l72
theorem ok.seicheref07_Commit_l1 {Γ : Abs.Spec} {gl : Glob} (hC_seicheref01_Join : CallsX Γ K.seicheref01_Join) {Q : Ex → St → Prop} {r : Bytes} {l36 : List (Arr 32)} {k0 : (List Bytes) → Option Bytes}
    (hk0 : ∀ (s : St) (t3_79 : (List Bytes)), ((s.tm 3).nf = (V.sl false 1 (List.map V.str t3_79))) → (OwnS s 3) → k0 t3_79 = some r → Q (.exit 0) s)
    (hR : ∀ s, EndsX [.t 2] false (V.str r) s → Q .ret s)
    (hlen : l36.length ≤ Lim) : ∀ (rest : List (Arr 32)) (k37 : Nat) (s : St) (t3_58 : (List Bytes)), l36.drop k37 = rest → k37 ≤ l36.length →
    ((s.tm 13).nf = V.sl false 32 (List.map E.A32_u8 l36)) → (s.tm 14 = V.int .i64 ((l36.length : Nat) : Int)) → (s.tm 15 = V.int .i64 ((k37 : Nat) : Int)) → ((s.tm 3).nf = (V.sl false 1 (List.map V.str t3_58))) → (OwnS s 3) →
    L.seicheref07_Commit_l1 k0 rest t3_58 = some r → awp Γ gl (.loop c_seicheref07_Commit_l1) Q s := by
  intro rest
  induction rest with
  | nil =>
    intro k37 s t3_58 hdrop hkl hX hN hI h57 h57o hD
    have hkz := drop_nil hdrop hkl
    have hp0 : ¬ (((k37 : Nat) : Int) < ((l36.length : Nat) : Int)) := by omega
    refine awp_roundK fun K hK => ?_
    rw [L.seicheref07_Commit_l1] at hD
    refine x_seq ?_
    refine x_start (b := false) ?_
    refine x_bin hI hN b_lss ?_
    refine x_done ?_
    refine x_tN ?_
    refine x_seq ?_
    refine x_cf (show _ = (V.bool (decide (((k37 : Nat) : Int) < ((l36.length : Nat) : Int)))) from rfl) (decide_eq_false hp0) ?_
    refine x_exitc ?_
    refine x_tE ?_
    refine x_tE ?_
    refine hk0 _ _ ?_ ?_ hD
    · exact h57
    · exact h57o
  | cons a61 rest ih =>
    intro k37 s t3_58 hdrop hkl hX hN hI h57 h57o hD
    obtain ⟨hlt, -, hget, hdrop1, -⟩ := drop_cons hdrop
    have hp1 : ((k37 : Nat) : Int) < ((l36.length : Nat) : Int) := by omega
    have hwk := wi_succ (k := k37) (by unfold Lim at hlen; omega)
    refine awp_roundK fun K hK => ?_
    rw [L.seicheref07_Commit_l1] at hD
    refine x_seq ?_
    refine x_start (b := false) ?_
    refine x_bin hI hN b_lss ?_
    refine x_done ?_
    refine x_tN ?_
    refine x_seq ?_
    refine x_ct (show _ = (V.bool (decide (((k37 : Nat) : Int) < ((l36.length : Nat) : Int)))) from rfl) (decide_eq_true hp1) ?_
    refine x_skip ?_
    refine x_tN ?_
    refine x_seq ?_
    refine x_block ?_
    refine x_seq ?_
    refine x_start (b := false) ?_
    refine x_iaddr hX hI (at_k hget) fun v66 (hv66 : v66.nf = V.el (encB (a61).1) 0) => ?_
    refine x_load_el hv66 (ld_arr a61) fun v67 hv67 => ?_
    refine x_new (l := (encB ((Arr.zero 32)).1)) (nf_zero _) fun i68 hidi68 hci68 => ?_
    refine x_store (ws := (encB (a61).1)) (l' := (encB (a61).1)) (show _ = (V.ptr i68 0) from rfl) hci68 (cells_of rfl hv67) ⟨(enc_len a61), (encB_sc a61.1), le_len (enc_len (Arr.zero 32)) (by decide)⟩ (setAt_full (Eq.trans (enc_len a61) (Eq.symm (enc_len (Arr.zero 32))))) fun csv69 ysv69 hcsv69 hnv69 hcv69 hsv69 => ?_
    refine x_done ?_
    refine x_tN ?_
    refine x_start (b := false) ?_
    refine x_mvo h57 fun v70 ov70 hv70 hwv70 => ?_
    refine x_slca (show _ = (V.ptr i68 0) from rfl) ?_
    refine x_b2sO (show _ = (V.osl i68 0 32 32 1) from rfl) hcv69 (ld_le (ld_arr a61)) (ld_take (ld_arr a61)) ?_
    refine x_bsl (E := V.str) (l := ([(a61).1] : (List Bytes))) (cons_eq (nf_of rfl (show _ = (V.str (a61).1) from rfl)) rfl) (fits_map (E := V.str) (sz := 1) (fun x => ⟨rfl, rfl⟩) _) fun v71 ov71 hv71 hov71 => ?_
    obtain ⟨l72, hx73, hD⟩ := Option.bind_eq_some_iff.1 hD
    refine x_app hv70 (hwv70 h57o) (tail_sl hv71) hx73 fun v74 ov74 fv74 hv74 hov74 hfv74 => ?_
    refine x_mvo hv74 fun v75 ov75 hv75 hwv75 => ?_
    refine x_done ?_
    refine x_bN ?_
    refine x_tN ?_
    refine x_start (b := false) ?_
    refine x_bin hI (show _ = (V.int .i64 1) from rfl) b_add ?_
    refine x_mv' (show _ = (V.int .i64 (wi (((k37 : Nat) : Int) + 1))) from rfl) ?_
    refine x_done ?_
    refine x_tN ?_
    refine hK _ ?_
    refine ih (k37 + 1) _ _ hdrop1 hlt ?_ ?_ ?_ ?_ ?_ hD
    · exact hX
    · exact hN
    · exact (Eq.trans (show _ = (V.int .i64 (wi (((k37 : Nat) : Int) + 1))) from rfl) (congrArg (V.int .i64) hwk))
    · exact hv75
    · exact (hwv75 hov74)
def g.seicheref07_Commit (p0 : T.Commit) : Option Bytes :=
  if p0.Parents.length ≤ Lim then L.seicheref07_Commit_l1 (fun (t3_81 : (List Bytes)) => (g.seicheref01_Join t3_81).bind fun r84 =>
  some r84) p0.Parents ([p0.Note, (p0.Root).1] : (List Bytes)) else none
theorem ok.seicheref07_Commit {Γ : Abs.Spec} {gl : Glob} (hC_seicheref01_Join : CallsX Γ K.seicheref01_Join) {r : Bytes} {p0 : T.Commit} {v : List V}
    (hv : nfL v = [(V.agg (C.Commit p0))]) (hD : g.seicheref07_Commit p0 = some r) : awp Γ gl c_seicheref07_Commit (endQ [.t 2] false (V.str r)) (St.init v) := by
  obtain ⟨v0, v, rfl, h0, hv⟩ := nfL_cons hv
  obtain rfl := nfL_nil hv
  have hR : ∀ s, EndsX [.t 2] false (V.str r) s → endQ [.t 2] false (V.str r) .ret s := fun _ h => h
  unfold g.seicheref07_Commit at hD
  unfold c_seicheref07_Commit
  refine x_seq ?_
  refine x_start (b := false) ?_
  refine x_box (l := (C.Commit p0)) (cells_of rfl h0) (C.Commit_sc p0) fun csi2 i2 hidi2 hcsi2 hci2 => ?_
  refine x_mv' (show _ = (V.str ([] : Bytes)) from rfl) ?_
  refine x_done ?_
  refine x_tN ?_
  refine x_seq ?_
  refine x_start (b := true) ?_
  refine x_faddr (show _ = (V.ptr i2 0) from rfl) ?_
  refine x_load (show _ = (V.ptr i2 33) from rfl) hci2 (ld_Commit_33_n p0) fun v6 hv6 => ?_
  refine x_faddr (show _ = (V.ptr i2 0) from rfl) ?_
  refine x_slca (show _ = (V.ptr i2 0) from rfl) ?_
  refine x_b2sO (show _ = (V.osl i2 0 32 32 1) from rfl) hci2 (ld_le (ld_Commit_0_32 p0)) (ld_take (ld_Commit_0_32 p0)) ?_
  refine x_bsl (E := V.str) (l := ([p0.Note, (p0.Root).1] : (List Bytes))) (cons_eq (nf_of rfl (nf_str hv6)) (cons_eq (nf_of rfl (show _ = (V.str (p0.Root).1) from rfl)) rfl)) (fits_map (E := V.str) (sz := 1) (fun x => ⟨rfl, rfl⟩) _) fun v7 ov7 hv7 hov7 => ?_
  refine x_mvo hv7 fun v8 ov8 hv8 hwv8 => ?_
  refine x_done ?_
  refine x_tN ?_
  refine x_seq ?_
  refine x_seq ?_
  refine x_start (b := false) ?_
  refine x_faddr (show _ = (V.ptr i2 0) from rfl) ?_
  refine x_load (show _ = (V.ptr i2 32) from rfl) hci2 (ld_Commit_32_n p0) fun v35 hv35 => ?_
  refine x_len hv35 ?_
  refine x_mv' (show _ = (V.int .i64 0) from rfl) ?_
  refine x_done ?_
  refine x_tN ?_
  refine x_block ?_
  by_cases hlen87 : p0.Parents.length ≤ Lim
  · rw [if_pos hlen87] at hD
    refine ok.seicheref07_Commit_l1 (l36 := p0.Parents) hC_seicheref01_Join (fun s86 t3_81 h80 h80o hD => ?_) (fun _ hE => ?_) hlen87 _ 0 _ _ rfl (Nat.zero_le _) ?_ ?_ ?_ ?_ ?_ hD
    · refine x_bE ?_
      refine x_tN ?_
      refine x_seq ?_
      refine x_start (b := false) ?_
      refine x_mv h80 fun v82 hv82 => ?_
      obtain ⟨r84, hx85, hD⟩ := Option.bind_eq_some_iff.1 hD
      refine x_callF hC_seicheref01_Join (a := (t3_81)) (cons_eq hv82 rfl) hx85 fun v83 ov83 (hv83 : v83.nf = (V.str r84)) hov83 => ?_
      refine x_mv' (nf_str hv83) ?_
      refine x_done ?_
      refine x_tN ?_
      refine x_retc ?_
      obtain rfl := Option.some.inj hD
      exact hR _ (ends_t (nf_of rfl (show _ = (V.str r84) from rfl)) (fun h => nomatch h))
    · refine x_bR ?_; refine x_tR ?_; exact hR _ hE
    · exact hv35
    · exact (show _ = (V.int .i64 ((p0.Parents.length : Nat) : Int)) from rfl)
    · exact (show _ = (V.int .i64 0) from rfl)
    · exact hv8
    · exact (hwv8 hov7)
  · rw [if_neg hlen87] at hD; cases hD
def K.seicheref07_Commit : FC := fc F.seicheref07_Commit (fun _ => true) false (fun (a : T.Commit) => [(V.agg (C.Commit a))]) (fun (y : Bytes) => (V.str y)) (fun a => g.seicheref07_Commit a)
  (fun a => (cleanL_mk (E.Commit_clean _) rfl))
  (fun y => rfl)
  (fun a0 b0 h => by
    obtain ⟨h0, h⟩ := List.cons.inj h
    obtain rfl : a0 = b0 := E.Commit_inj h0
    rfl)
theorem H.seicheref07_Commit (w : World) (hw : EnvOK w) : K.seicheref07_Commit.Holds (cxD w) :=
  FC.holds_of (cs := [K.seicheref01_Join]) (glD w) mixed cf_seicheref07_Commit (fun _ _ ⟨_, _, h, _⟩ => by subst h; exact Nat.le_of_ble_eq_true rfl) fun v y ⟨a, r, hv, hD, hy⟩ => by
    subst hy
    exact ok.seicheref07_Commit (specOf_calls (H.seicheref01_Join w hw) (fun _ _ ⟨_, _, h, _⟩ => by subst h; rfl)) hv hD
def c_seicheref07_GetCommit_j1 : ACode := (.seq (.region [
  ⟨(some 35), (.build [(.int .u8 0), (.int .u8 0), (.int .u8 0), (.int .u8 0), (.int .u8 0), (.int .u8 0), (.int .u8 0), (.int .u8 0), (.int .u8 0), (.int .u8 0), (.int .u8 0), (.int .u8 0), (.int .u8 0), (.int .u8 0), (.int .u8 0), (.int .u8 0), (.int .u8 0), (.int .u8 0), (.int .u8 0), (.int .u8 0), (.int .u8 0), (.int .u8 0), (.int .u8 0), (.int .u8 0), (.int .u8 0), (.int .u8 0), (.int .u8 0), (.int .u8 0), (.int .u8 0), (.int .u8 0), (.int .u8 0), (.int .u8 0), (.sl true 32 []), (.str [])] []), none, []⟩, 
  ⟨none, (.store 34 (.tmp 2) (.tmp 35)), none, []⟩, 
  ⟨(some 3), (.mv (.const (.bool false))), none, []⟩] false) .ret)
def c_seicheref07_GetCommit_l1 : ACode := (.seq (.region [
  ⟨(some 40), (.bin .lss .no (.tmp 39) (.tmp 38)), none, []⟩] false) (.seq (.cond (.tmp 40) .skip (.exit 0)) (.seq (.block 1 (.seq (.region [
  ⟨(some 41), (.iaddr 1 (.tmp 37) (.tmp 39)), none, []⟩, 
  ⟨(some 42), (.load none (.tmp 41)), none, []⟩, 
  ⟨(some 7), (.mv (.tmp 42)), none, []⟩] false) (.seq (.region [
  ⟨(some 43), (.mv (.tmp 7)), none, []⟩, 
  ⟨(some 44), (.len true (.tmp 43)), none, []⟩, 
  ⟨(some 45), (.bin .neq .no (.tmp 44) (.const (.int .i64 32))), none, []⟩] false) (.cond (.tmp 45) (.seq (.region [
  ⟨(some 46), (.build [(.int .u8 0), (.int .u8 0), (.int .u8 0), (.int .u8 0), (.int .u8 0), (.int .u8 0), (.int .u8 0), (.int .u8 0), (.int .u8 0), (.int .u8 0), (.int .u8 0), (.int .u8 0), (.int .u8 0), (.int .u8 0), (.int .u8 0), (.int .u8 0), (.int .u8 0), (.int .u8 0), (.int .u8 0), (.int .u8 0), (.int .u8 0), (.int .u8 0), (.int .u8 0), (.int .u8 0), (.int .u8 0), (.int .u8 0), (.int .u8 0), (.int .u8 0), (.int .u8 0), (.int .u8 0), (.int .u8 0), (.int .u8 0), (.sl true 32 []), (.str [])] []), none, []⟩, 
  ⟨none, (.store 34 (.tmp 2) (.tmp 46)), none, []⟩, 
  ⟨(some 3), (.mv (.const (.bool false))), none, []⟩] false) .ret) .skip)))) (.region [
  ⟨(some 47), (.bin .add .no (.tmp 39) (.const (.int .i64 1))), none, []⟩, 
  ⟨(some 39), (.mv (.tmp 47)), none, []⟩] false))))
def c_seicheref07_GetCommit_l2 : ACode := (.seq (.region [
  ⟨(some 60), (.bin .lss .no (.tmp 59) (.tmp 58)), none, []⟩] false) (.seq (.cond (.tmp 60) .skip (.exit 2)) (.seq (.block 3 (.seq (.region [
  ⟨(some 61), (.iaddr 1 (.tmp 57) (.tmp 59)), none, []⟩, 
  ⟨(some 62), (.load none (.tmp 61)), none, []⟩, 
  ⟨(some 10), (.mv (.tmp 62)), none, []⟩] false) (.region [
  ⟨(some 63), (.faddr 32 (.tmp 8)), none, []⟩, 
  ⟨(some 64), (.ldo (.tmp 63)), none, []⟩, 
  ⟨(some 65), (.mv (.tmp 10)), none, []⟩, 
  ⟨(some 66), (.call F.seicheref07_digest [(.tmp 65)]), none, []⟩, 
  ⟨(some 67), (.bsl 32 [(.tmp 66)]), none, []⟩, 
  ⟨(some 68), (.app 32 (.tmp 64) (.tmp 67)), none, []⟩, 
  ⟨(some 69), (.faddr 32 (.tmp 8)), none, []⟩, 
  ⟨none, (.sto (.tmp 69) 68), none, []⟩] true))) (.region [
  ⟨(some 70), (.bin .add .no (.tmp 59) (.const (.int .i64 1))), none, []⟩, 
  ⟨(some 59), (.mv (.tmp 70)), none, []⟩] false))))
def c_seicheref07_GetCommit : ACode := (.seq (.region [
  ⟨(some 2), (.new [(.int .u8 0), (.int .u8 0), (.int .u8 0), (.int .u8 0), (.int .u8 0), (.int .u8 0), (.int .u8 0), (.int .u8 0), (.int .u8 0), (.int .u8 0), (.int .u8 0), (.int .u8 0), (.int .u8 0), (.int .u8 0), (.int .u8 0), (.int .u8 0), (.int .u8 0), (.int .u8 0), (.int .u8 0), (.int .u8 0), (.int .u8 0), (.int .u8 0), (.int .u8 0), (.int .u8 0), (.int .u8 0), (.int .u8 0), (.int .u8 0), (.int .u8 0), (.int .u8 0), (.int .u8 0), (.int .u8 0), (.int .u8 0), (.sl true 32 []), (.str [])]), none, []⟩, 
  ⟨(some 3), (.mv (.const (.bool false))), none, []⟩] false) (.seq (.region [
  ⟨(some 12), (.mv (.tmp 0)), none, []⟩, 
  ⟨(some 13), (.call F.seicheref01_Split [(.tmp 12)]), none, []⟩, 
  ⟨(some 11), (.mv (.tmp 13)), none, []⟩, 
  ⟨(some 14), (.ext (.tmp 11) 0), none, []⟩, 
  ⟨(some 15), (.ext (.tmp 11) 1), none, []⟩, 
  ⟨(some 4), (.mvo 14), none, []⟩, 
  ⟨(some 5), (.mv (.tmp 15)), none, []⟩] false) (.seq (.seq (.region [
  ⟨(some 16), (.mv (.tmp 5)), none, []⟩, 
  ⟨(some 17), (.un .not (.tmp 16)), none, []⟩, 
  ⟨(some 18), (.mv (.tmp 17)), none, []⟩, 
  ⟨(some 19), (.mv (.tmp 4)), (some (18, false)), []⟩, 
  ⟨(some 20), (.len false (.tmp 19)), (some (18, false)), []⟩, 
  ⟨(some 21), (.bin .lss .no (.tmp 20) (.const (.int .i64 2))), (some (18, false)), []⟩, 
  ⟨(some 22), (.pick (.tmp 18) (.const (.bool true)) (.tmp 21)), none, []⟩, 
  ⟨(some 23), (.mv (.tmp 22)), none, []⟩, 
  ⟨(some 24), (.mv (.tmp 4)), (some (23, false)), []⟩, 
  ⟨(some 25), (.len false (.tmp 24)), (some (23, false)), []⟩, 
  ⟨(some 26), (.bin .gtr .no (.tmp 25) (.const (.int .i64 4))), (some (23, false)), []⟩, 
  ⟨(some 27), (.pick (.tmp 23) (.const (.bool true)) (.tmp 26)), none, []⟩, 
  ⟨(some 28), (.mv (.tmp 27)), none, []⟩, 
  ⟨(some 29), (.mv (.tmp 4)), (some (28, false)), []⟩, 
  ⟨(some 30), (.iaddr 1 (.tmp 29) (.const (.int .i64 0))), (some (28, false)), []⟩, 
  ⟨(some 31), (.load none (.tmp 30)), (some (28, false)), []⟩, 
  ⟨(some 32), (.len true (.tmp 31)), (some (28, false)), []⟩, 
  ⟨(some 33), (.bin .gtr .no (.tmp 32) (.const (.int .i64 64))), (some (28, false)), []⟩, 
  ⟨(some 34), (.pick (.tmp 28) (.const (.bool true)) (.tmp 33)), none, []⟩] false) (.cond (.tmp 34) c_seicheref07_GetCommit_j1 .skip)) (.seq (.seq (.region [
  ⟨(some 36), (.mv (.tmp 4)), none, []⟩, 
  ⟨(some 37), (.slc 1 (.tmp 36) (some (.const (.int .i64 1))) none none), none, []⟩, 
  ⟨(some 38), (.len false (.tmp 37)), none, []⟩, 
  ⟨(some 39), (.mv (.const (.int .i64 0))), none, []⟩] false) (.block 0 (.loop c_seicheref07_GetCommit_l1))) (.seq (.region [
  ⟨(some 48), (.mv (.tmp 4)), none, []⟩, 
  ⟨(some 49), (.iaddr 1 (.tmp 48) (.const (.int .i64 0))), none, []⟩, 
  ⟨(some 50), (.load none (.tmp 49)), none, []⟩, 
  ⟨(some 51), (.mv (.tmp 4)), none, []⟩, 
  ⟨(some 52), (.iaddr 1 (.tmp 51) (.const (.int .i64 1))), none, []⟩, 
  ⟨(some 53), (.load none (.tmp 52)), none, []⟩, 
  ⟨(some 54), (.call F.seicheref07_digest [(.tmp 53)]), none, []⟩, 
  ⟨(some 55), (.build [(.int .u8 0), (.int .u8 0), (.int .u8 0), (.int .u8 0), (.int .u8 0), (.int .u8 0), (.int .u8 0), (.int .u8 0), (.int .u8 0), (.int .u8 0), (.int .u8 0), (.int .u8 0), (.int .u8 0), (.int .u8 0), (.int .u8 0), (.int .u8 0), (.int .u8 0), (.int .u8 0), (.int .u8 0), (.int .u8 0), (.int .u8 0), (.int .u8 0), (.int .u8 0), (.int .u8 0), (.int .u8 0), (.int .u8 0), (.int .u8 0), (.int .u8 0), (.int .u8 0), (.int .u8 0), (.int .u8 0), (.int .u8 0), (.sl true 32 []), (.str [])] [(33, (1, (.tmp 50))), (0, (32, (.tmp 54)))]), none, []⟩, 
  ⟨(some 8), (.new [(.int .u8 0), (.int .u8 0), (.int .u8 0), (.int .u8 0), (.int .u8 0), (.int .u8 0), (.int .u8 0), (.int .u8 0), (.int .u8 0), (.int .u8 0), (.int .u8 0), (.int .u8 0), (.int .u8 0), (.int .u8 0), (.int .u8 0), (.int .u8 0), (.int .u8 0), (.int .u8 0), (.int .u8 0), (.int .u8 0), (.int .u8 0), (.int .u8 0), (.int .u8 0), (.int .u8 0), (.int .u8 0), (.int .u8 0), (.int .u8 0), (.int .u8 0), (.int .u8 0), (.int .u8 0), (.int .u8 0), (.int .u8 0), (.sl true 32 []), (.str [])]), none, []⟩, 
  ⟨none, (.store 34 (.tmp 8) (.tmp 55)), none, []⟩] true) (.seq (.seq (.region [
  ⟨(some 56), (.mv (.tmp 4)), none, []⟩, 
  ⟨(some 57), (.slc 1 (.tmp 56) (some (.const (.int .i64 2))) none none), none, []⟩, 
  ⟨(some 58), (.len false (.tmp 57)), none, []⟩, 
  ⟨(some 59), (.mv (.const (.int .i64 0))), none, []⟩] false) (.block 2 (.loop c_seicheref07_GetCommit_l2))) (.seq (.region [
  ⟨(some 71), (.load (some 34) (.tmp 8)), none, []⟩, 
  ⟨none, (.store 34 (.tmp 2) (.tmp 71)), none, []⟩, 
  ⟨(some 3), (.mv (.const (.bool true))), none, []⟩] false) .ret)))))))
theorem cf_seicheref07_GetCommit : cFn Go.Proofs.Tryd.prog F.seicheref07_GetCommit = some ⟨72, c_seicheref07_GetCommit, [.c 2 (some 34), .t 3]⟩ := by kernel_rfl
def L.seicheref07_GetCommit_j1 (x56 : T.Commit) : Option (T.Commit × Bool) :=
  some (({ Root := (Arr.zero 32), Parents := [], Note := [] } : T.Commit), false)
theorem ok.seicheref07_GetCommit_j1 {Γ : Abs.Spec} {gl : Glob} (hC_seicheref01_Split : CallsX Γ K.seicheref01_Split) (hC_seicheref07_digest : CallsX Γ K.seicheref07_digest) {Q : Ex → St → Prop} {r : (T.Commit × Bool)}
    (hR : ∀ s, EndsX [.c 2 (some 34), .t 3] false (V.tup [(V.agg (C.Commit r.1)), (V.bool r.2)]) s → Q .ret s)
    {s : St} {i57 : Nat} {x56 : T.Commit} (hli57 : i57 < s.nH) (hci57 : Cells s i57 (C.Commit x56)) (hoi57_32 : OwnC s i57 32) (h58 : s.tm 2 = (V.ptr i57 0))
    (hD : L.seicheref07_GetCommit_j1 x56 = some r) : awp Γ gl c_seicheref07_GetCommit_j1 Q s := by
  unfold L.seicheref07_GetCommit_j1 at hD
  refine x_seq ?_
  refine x_start (b := false) ?_
  refine x_build (ws := []) (l := C.Commit ({ Root := (Arr.zero 32), Parents := [], Note := [] } : T.Commit)) rfl (fill_from (by kernel_rfl : _ = C.Commit ({ Root := (Arr.zero 32), Parents := [], Note := [] } : T.Commit)) fill_nil) fun v59 hv59 hnv59 => ?_
  refine x_store (ws := (C.Commit ({ Root := (Arr.zero 32), Parents := [], Note := [] } : T.Commit))) (l' := (C.Commit ({ Root := (Arr.zero 32), Parents := [], Note := [] } : T.Commit))) h58 hci57 (cells_of rfl hv59) ⟨(C.Commit_len ({ Root := (Arr.zero 32), Parents := [], Note := [] } : T.Commit)), (C.Commit_sc ({ Root := (Arr.zero 32), Parents := [], Note := [] } : T.Commit)), le_len (C.Commit_len x56) (by decide)⟩ (setAt_full (Eq.trans (C.Commit_len ({ Root := (Arr.zero 32), Parents := [], Note := [] } : T.Commit)) (Eq.symm (C.Commit_len x56)))) fun csv60 ysv60 hcsv60 hnv60 hcv60 hsv60 => ?_
  refine x_mv' (show _ = (V.bool false) from rfl) ?_
  refine x_done ?_
  refine x_tN ?_
  refine x_retc ?_
  obtain rfl := Option.some.inj hD
  exact hR _ (ends_tup (rvs_cons (rv_c h58 hcv60 (ld_Commit_0_34 ({ Root := (Arr.zero 32), Parents := [], Note := [] } : T.Commit))) (rvs_cons (rv_t (nf_of rfl (show _ = (V.bool false) from rfl))) rvs_nil)) (by decide))
def L.seicheref07_GetCommit_l1 (k0 : T.Commit → Option (T.Commit × Bool)) : List Bytes → T.Commit → Option (T.Commit × Bool)
  | [], x126 =>
    k0 x126
  | a134 :: rest, x126 =>
    if ((a134.length : Nat) : Int) = 32 then
      L.seicheref07_GetCommit_l1 k0 rest x126
    else
      some (({ Root := (Arr.zero 32), Parents := [], Note := [] } : T.Commit), false)
theorem ok.seicheref07_GetCommit_l1 {Γ : Abs.Spec} {gl : Glob} (hC_seicheref01_Split : CallsX Γ K.seicheref01_Split) (hC_seicheref07_digest : CallsX Γ K.seicheref07_digest) {Q : Ex → St → Prop} {r : (T.Commit × Bool)} {t4_111 : (List Bytes)} {l109 : List Bytes} {k0 : T.Commit → Option (T.Commit × Bool)}
    (hk0 : ∀ (s : St) (i147 : Nat) (x146 : T.Commit), (i147 < s.nH) → (Cells s i147 (C.Commit x146)) → (OwnC s i147 32) → (s.tm 2 = (V.ptr i147 0)) → ((s.tm 4).nf = (V.sl false 1 (List.map V.str t4_111))) → k0 x146 = some r → Q (.exit 0) s)
    (hR : ∀ s, EndsX [.c 2 (some 34), .t 3] false (V.tup [(V.agg (C.Commit r.1)), (V.bool r.2)]) s → Q .ret s)
    (hlen : l109.length ≤ Lim) : ∀ (rest : List Bytes) (k110 : Nat) (s : St) (i127 : Nat) (x126 : T.Commit), l109.drop k110 = rest → k110 ≤ l109.length →
    ((s.tm 37).nf = V.sl false 1 (List.map V.str l109)) → (s.tm 38 = V.int .i64 ((l109.length : Nat) : Int)) → (s.tm 39 = V.int .i64 ((k110 : Nat) : Int)) → (i127 < s.nH) → (Cells s i127 (C.Commit x126)) → (OwnC s i127 32) → (s.tm 2 = (V.ptr i127 0)) → ((s.tm 4).nf = (V.sl false 1 (List.map V.str t4_111))) →
    L.seicheref07_GetCommit_l1 k0 rest x126 = some r → awp Γ gl (.loop c_seicheref07_GetCommit_l1) Q s := by
  intro rest
  induction rest with
  | nil =>
    intro k110 s i127 x126 hdrop hkl hX hN hI hli127 hci127 hoi127_32 h128 h129 hD
    have hkz := drop_nil hdrop hkl
    have hp0 : ¬ (((k110 : Nat) : Int) < ((l109.length : Nat) : Int)) := by omega
    refine awp_roundK fun K hK => ?_
    rw [L.seicheref07_GetCommit_l1] at hD
    refine x_seq ?_
    refine x_start (b := false) ?_
    refine x_bin hI hN b_lss ?_
    refine x_done ?_
    refine x_tN ?_
    refine x_seq ?_
    refine x_cf (show _ = (V.bool (decide (((k110 : Nat) : Int) < ((l109.length : Nat) : Int)))) from rfl) (decide_eq_false hp0) ?_
    refine x_exitc ?_
    refine x_tE ?_
    refine x_tE ?_
    refine hk0 _ i127 _ ?_ ?_ ?_ ?_ ?_ hD
    · exact hli127
    · exact hci127
    · exact hoi127_32
    · exact h128
    · exact h129
  | cons a134 rest ih =>
    intro k110 s i127 x126 hdrop hkl hX hN hI hli127 hci127 hoi127_32 h128 h129 hD
    obtain ⟨hlt, -, hget, hdrop1, -⟩ := drop_cons hdrop
    have hp1 : ((k110 : Nat) : Int) < ((l109.length : Nat) : Int) := by omega
    have hwk := wi_succ (k := k110) (by unfold Lim at hlen; omega)
    refine awp_roundK fun K hK => ?_
    rw [L.seicheref07_GetCommit_l1] at hD
    refine x_seq ?_
    refine x_start (b := false) ?_
    refine x_bin hI hN b_lss ?_
    refine x_done ?_
    refine x_tN ?_
    refine x_seq ?_
    refine x_ct (show _ = (V.bool (decide (((k110 : Nat) : Int) < ((l109.length : Nat) : Int)))) from rfl) (decide_eq_true hp1) ?_
    refine x_skip ?_
    refine x_tN ?_
    refine x_seq ?_
    refine x_block ?_
    refine x_seq ?_
    refine x_start (b := false) ?_
    refine x_iaddr hX hI (at_k hget) fun v137 (hv137 : v137.nf = V.el [(V.str a134)] 0) => ?_
    refine x_load_el hv137 (show _ = some (V.str a134) from rfl) fun v138 hv138 => ?_
    refine x_mv' (nf_str hv138) ?_
    refine x_done ?_
    refine x_tN ?_
    refine x_seq ?_
    refine x_start (b := false) ?_
    refine x_mv' (show _ = (V.str a134) from rfl) ?_
    refine x_lens (show _ = (V.str a134) from rfl) ?_
    refine x_bin (show _ = (V.int .i64 ((a134.length : Nat) : Int)) from rfl) (show _ = (V.int .i64 32) from rfl) b_neq ?_
    refine x_done ?_
    refine x_tN ?_
    by_cases hp139 : ((a134.length : Nat) : Int) = 32
    · rw [if_pos hp139] at hD
      refine x_cf (show _ = (V.bool (!(decide (((a134.length : Nat) : Int) = 32)))) from rfl) (bnot_t (decide_eq_true hp139)) ?_
      refine x_skip ?_
      refine x_bN ?_
      refine x_tN ?_
      refine x_start (b := false) ?_
      refine x_bin hI (show _ = (V.int .i64 1) from rfl) b_add ?_
      refine x_mv' (show _ = (V.int .i64 (wi (((k110 : Nat) : Int) + 1))) from rfl) ?_
      refine x_done ?_
      refine x_tN ?_
      refine hK _ ?_
      refine ih (k110 + 1) _ i127 _ hdrop1 hlt ?_ ?_ ?_ ?_ ?_ ?_ ?_ ?_ hD
      · exact hX
      · exact hN
      · exact (Eq.trans (show _ = (V.int .i64 (wi (((k110 : Nat) : Int) + 1))) from rfl) (congrArg (V.int .i64) hwk))
      · exact hli127
      · exact hci127
      · exact hoi127_32
      · exact h128
      · exact h129
    · rw [if_neg hp139] at hD
      refine x_ct (show _ = (V.bool (!(decide (((a134.length : Nat) : Int) = 32)))) from rfl) (bnot_f (decide_eq_false hp139)) ?_
      refine x_seq ?_
      refine x_start (b := false) ?_
      refine x_build (ws := []) (l := C.Commit ({ Root := (Arr.zero 32), Parents := [], Note := [] } : T.Commit)) rfl (fill_from (by kernel_rfl : _ = C.Commit ({ Root := (Arr.zero 32), Parents := [], Note := [] } : T.Commit)) fill_nil) fun v140 hv140 hnv140 => ?_
      refine x_store (ws := (C.Commit ({ Root := (Arr.zero 32), Parents := [], Note := [] } : T.Commit))) (l' := (C.Commit ({ Root := (Arr.zero 32), Parents := [], Note := [] } : T.Commit))) h128 hci127 (cells_of rfl hv140) ⟨(C.Commit_len ({ Root := (Arr.zero 32), Parents := [], Note := [] } : T.Commit)), (C.Commit_sc ({ Root := (Arr.zero 32), Parents := [], Note := [] } : T.Commit)), le_len (C.Commit_len x126) (by decide)⟩ (setAt_full (Eq.trans (C.Commit_len ({ Root := (Arr.zero 32), Parents := [], Note := [] } : T.Commit)) (Eq.symm (C.Commit_len x126)))) fun csv141 ysv141 hcsv141 hnv141 hcv141 hsv141 => ?_
      refine x_mv' (show _ = (V.bool false) from rfl) ?_
      refine x_done ?_
      refine x_tN ?_
      refine x_retc ?_
      refine x_bR ?_
      refine x_tR ?_
      refine x_tR ?_
      obtain rfl := Option.some.inj hD
      exact hR _ (ends_tup (rvs_cons (rv_c h128 hcv141 (ld_Commit_0_34 ({ Root := (Arr.zero 32), Parents := [], Note := [] } : T.Commit))) (rvs_cons (rv_t (nf_of rfl (show _ = (V.bool false) from rfl))) rvs_nil)) (by decide))
def L.seicheref07_GetCommit_l2 (k0 : T.Commit → T.Commit → Option (T.Commit × Bool)) : List Bytes → T.Commit → T.Commit → Option (T.Commit × Bool)
  | [], x256, x258 =>
    k0 x256 x258
  | a268 :: rest, x256, x258 =>
    (g.seicheref07_digest a268).bind fun r275 =>
    (appL x258.Parents ([r275] : (List (Arr 32)))).bind fun l278 =>
    L.seicheref07_GetCommit_l2 k0 rest x256 ({ x258 with Parents := l278 } : T.Commit)
theorem ok.seicheref07_GetCommit_l2 {Γ : Abs.Spec} {gl : Glob} (hC_seicheref01_Split : CallsX Γ K.seicheref01_Split) (hC_seicheref07_digest : CallsX Γ K.seicheref07_digest) {Q : Ex → St → Prop} {r : (T.Commit × Bool)} {l232 : List Bytes} {k0 : T.Commit → T.Commit → Option (T.Commit × Bool)}
    (hk0 : ∀ (s : St) (i289 : Nat) (i291 : Nat) (x288 : T.Commit) (x290 : T.Commit), (i289 < s.nH) → (Cells s i289 (C.Commit x288)) → (OwnC s i289 32) → (i291 < s.nH) → (Cells s i291 (C.Commit x290)) → (OwnC s i291 32) → (i289 ≠ i291) → (s.tm 2 = (V.ptr i289 0)) → (s.tm 8 = (V.ptr i291 0)) → k0 x288 x290 = some r → Q (.exit 2) s)
    (hR : ∀ s, EndsX [.c 2 (some 34), .t 3] false (V.tup [(V.agg (C.Commit r.1)), (V.bool r.2)]) s → Q .ret s)
    (hlen : l232.length ≤ Lim) : ∀ (rest : List Bytes) (k233 : Nat) (s : St) (i257 : Nat) (i259 : Nat) (x256 : T.Commit) (x258 : T.Commit), l232.drop k233 = rest → k233 ≤ l232.length →
    ((s.tm 57).nf = V.sl false 1 (List.map V.str l232)) → (s.tm 58 = V.int .i64 ((l232.length : Nat) : Int)) → (s.tm 59 = V.int .i64 ((k233 : Nat) : Int)) → (i257 < s.nH) → (Cells s i257 (C.Commit x256)) → (OwnC s i257 32) → (i259 < s.nH) → (Cells s i259 (C.Commit x258)) → (OwnC s i259 32) → (i257 ≠ i259) → (s.tm 2 = (V.ptr i257 0)) → (s.tm 8 = (V.ptr i259 0)) →
    L.seicheref07_GetCommit_l2 k0 rest x256 x258 = some r → awp Γ gl (.loop c_seicheref07_GetCommit_l2) Q s := by
  intro rest
  induction rest with
  | nil =>
    intro k233 s i257 i259 x256 x258 hdrop hkl hX hN hI hli257 hci257 hoi257_32 hli259 hci259 hoi259_32 hnei257i259 h260 h261 hD
    have hkz := drop_nil hdrop hkl
    have hp0 : ¬ (((k233 : Nat) : Int) < ((l232.length : Nat) : Int)) := by omega
    refine awp_roundK fun K hK => ?_
    rw [L.seicheref07_GetCommit_l2] at hD
    refine x_seq ?_
    refine x_start (b := false) ?_
    refine x_bin hI hN b_lss ?_
    refine x_done ?_
    refine x_tN ?_
    refine x_seq ?_
    refine x_cf (show _ = (V.bool (decide (((k233 : Nat) : Int) < ((l232.length : Nat) : Int)))) from rfl) (decide_eq_false hp0) ?_
    refine x_exitc ?_
    refine x_tE ?_
    refine x_tE ?_
    refine hk0 _ i257 i259 _ _ ?_ ?_ ?_ ?_ ?_ ?_ ?_ ?_ ?_ hD
    · exact hli257
    · exact hci257
    · exact hoi257_32
    · exact hli259
    · exact hci259
    · exact hoi259_32
    · exact hnei257i259
    · exact h260
    · exact h261
  | cons a268 rest ih =>
    intro k233 s i257 i259 x256 x258 hdrop hkl hX hN hI hli257 hci257 hoi257_32 hli259 hci259 hoi259_32 hnei257i259 h260 h261 hD
    obtain ⟨hlt, -, hget, hdrop1, -⟩ := drop_cons hdrop
    have hp1 : ((k233 : Nat) : Int) < ((l232.length : Nat) : Int) := by omega
    have hwk := wi_succ (k := k233) (by unfold Lim at hlen; omega)
    refine awp_roundK fun K hK => ?_
    rw [L.seicheref07_GetCommit_l2] at hD
    refine x_seq ?_
    refine x_start (b := false) ?_
    refine x_bin hI hN b_lss ?_
    refine x_done ?_
    refine x_tN ?_
    refine x_seq ?_
    refine x_ct (show _ = (V.bool (decide (((k233 : Nat) : Int) < ((l232.length : Nat) : Int)))) from rfl) (decide_eq_true hp1) ?_
    refine x_skip ?_
    refine x_tN ?_
    refine x_seq ?_
    refine x_block ?_
    refine x_seq ?_
    refine x_start (b := false) ?_
    refine x_iaddr hX hI (at_k hget) fun v271 (hv271 : v271.nf = V.el [(V.str a268)] 0) => ?_
    refine x_load_el hv271 (show _ = some (V.str a268) from rfl) fun v272 hv272 => ?_
    refine x_mv' (nf_str hv272) ?_
    refine x_done ?_
    refine x_tN ?_
    refine x_start (b := true) ?_
    refine x_faddr h261 ?_
    refine x_ldo (show _ = (V.ptr i259 32) from rfl) hci259 (ld_get (ld_Commit_32_n x258)) fun v273 ov273 hv273 hwv273 => ?_
    refine x_mv' (show _ = (V.str a268) from rfl) ?_
    obtain ⟨r275, hx276, hD⟩ := Option.bind_eq_some_iff.1 hD
    refine x_callF hC_seicheref07_digest (a := (a268)) (cons_eq (nf_of rfl (show _ = (V.str a268) from rfl)) rfl) hx276 fun v274 ov274 (hv274 : v274.nf = (V.agg (encB (r275).1))) hov274 => ?_
    refine x_bsl (E := E.A32_u8) (l := ([r275] : (List (Arr 32)))) (cons_eq hv274 rfl) (fits_map (E := E.A32_u8) (sz := 32) (fun x => E.A32_u8_fit x) _) fun v277 ov277 hv277 hov277 => ?_
    obtain ⟨l278, hx279, hD⟩ := Option.bind_eq_some_iff.1 hD
    refine x_app hv273 (hwv273 hoi259_32) (tail_sl hv277) hx279 fun v280 ov280 fv280 hv280 hov280 hfv280 => ?_
    refine x_faddr h261 ?_
    refine x_sto (l' := (C.Commit ({ x258 with Parents := l278 } : T.Commit))) (show _ = (V.ptr i259 32) from rfl) hci259 hv280 rfl (lt_len (C.Commit_len x258) (by decide)) (set_Commit_32_1 x258 l278) fun csv281 hcsv281 hcv281 howv281 => ?_
    refine x_done ?_
    refine x_bN ?_
    refine x_tN ?_
    refine x_start (b := false) ?_
    refine x_bin hI (show _ = (V.int .i64 1) from rfl) b_add ?_
    refine x_mv' (show _ = (V.int .i64 (wi (((k233 : Nat) : Int) + 1))) from rfl) ?_
    refine x_done ?_
    refine x_tN ?_
    refine hK _ ?_
    refine ih (k233 + 1) _ i257 i259 _ _ hdrop1 hlt ?_ ?_ ?_ ?_ ?_ ?_ ?_ ?_ ?_ ?_ ?_ ?_ hD
    · exact hX
    · exact hN
    · exact (Eq.trans (show _ = (V.int .i64 (wi (((k233 : Nat) : Int) + 1))) from rfl) (congrArg (V.int .i64) hwk))
    · exact hli257
    · exact (cells_stoOb hnei257i259 hci257)
    · exact (ownC_stoObo hnei257i259 (ownC_ow hfv280 (ownC_take (.inl hnei257i259) hoi257_32) :))
    · exact hli259
    · exact hcv281
    · exact (howv281 hov280)
    · exact hnei257i259
    · exact h260
    · exact h261
def g.seicheref07_GetCommit (p0 : Bytes) : Option (T.Commit × Bool) :=
  (g.seicheref01_Split p0).bind fun r11 =>
  if r11.2 = true then
    if ((r11.1.length : Nat) : Int) < 2 then
      L.seicheref07_GetCommit_j1 ({ Root := (Arr.zero 32), Parents := [], Note := [] } : T.Commit)
    else
      if 4 < ((r11.1.length : Nat) : Int) then
        L.seicheref07_GetCommit_j1 ({ Root := (Arr.zero 32), Parents := [], Note := [] } : T.Commit)
      else
        (at? r11.1 0).bind fun a67 =>
        if 64 < ((a67.length : Nat) : Int) then
          L.seicheref07_GetCommit_j1 ({ Root := (Arr.zero 32), Parents := [], Note := [] } : T.Commit)
        else
          (cut r11.1 1 (r11.1.length : Nat)).bind fun q106 =>
          if q106.length ≤ Lim then L.seicheref07_GetCommit_l1 (fun (x150 : T.Commit) => (at? r11.1 0).bind fun a171 =>
          (at? r11.1 1).bind fun a176 =>
          (g.seicheref07_digest a176).bind fun r181 =>
          (cut r11.1 2 (r11.1.length : Nat)).bind fun q229 =>
          if q229.length ≤ Lim then L.seicheref07_GetCommit_l2 (fun (x294 : T.Commit) (x296 : T.Commit) => some (x296, true)) q229 x150 ({ Root := r181, Parents := [], Note := a171 } : T.Commit) else none) q106 ({ Root := (Arr.zero 32), Parents := [], Note := [] } : T.Commit) else none
  else
    L.seicheref07_GetCommit_j1 ({ Root := (Arr.zero 32), Parents := [], Note := [] } : T.Commit)
theorem ok.seicheref07_GetCommit {Γ : Abs.Spec} {gl : Glob} (hC_seicheref01_Split : CallsX Γ K.seicheref01_Split) (hC_seicheref07_digest : CallsX Γ K.seicheref07_digest) {r : (T.Commit × Bool)} {p0 : Bytes} {v : List V}
    (hv : nfL v = [(V.str p0)]) (hD : g.seicheref07_GetCommit p0 = some r) : awp Γ gl c_seicheref07_GetCommit (endQ [.c 2 (some 34), .t 3] false (V.tup [(V.agg (C.Commit r.1)), (V.bool r.2)])) (St.init v) := by
  obtain ⟨v0, v, rfl, h0, hv⟩ := nfL_cons hv
  obtain rfl := nfL_nil hv
  have hR : ∀ s, EndsX [.c 2 (some 34), .t 3] false (V.tup [(V.agg (C.Commit r.1)), (V.bool r.2)]) s → endQ [.c 2 (some 34), .t 3] false (V.tup [(V.agg (C.Commit r.1)), (V.bool r.2)]) .ret s := fun _ h => h
  unfold g.seicheref07_GetCommit at hD
  unfold c_seicheref07_GetCommit
  refine x_seq ?_
  refine x_start (b := false) ?_
  refine x_new (l := (C.Commit ({ Root := (Arr.zero 32), Parents := [], Note := [] } : T.Commit))) (by kernel_rfl) fun i2 hidi2 hci2 => ?_
  refine x_mv' (show _ = (V.bool false) from rfl) ?_
  refine x_done ?_
  refine x_tN ?_
  refine x_seq ?_
  refine x_start (b := false) ?_
  refine x_mv' (nf_str h0) ?_
  obtain ⟨r11, hx12, hD⟩ := Option.bind_eq_some_iff.1 hD
  refine x_callF hC_seicheref01_Split (a := (p0)) (cons_eq (nf_of rfl (show _ = (V.str p0) from rfl)) rfl) hx12 fun v10 ov10 (hv10 : v10.nf = (V.tup [(V.sl false 1 (List.map V.str r11.1)), (V.bool r11.2)])) hov10 => ?_
  refine x_mv hv10 fun v13 hv13 => ?_
  refine x_ext hv13 (show _ = some (V.sl false 1 (List.map V.str r11.1)) from rfl) fun v14 hv14 => ?_
  refine x_ext hv13 (show _ = some (V.bool r11.2) from rfl) fun v15 hv15 => ?_
  refine x_mvo hv14 fun v16 ov16 hv16 hwv16 => ?_
  refine x_mv' (nf_bool hv15) ?_
  refine x_done ?_
  refine x_tN ?_
  refine x_seq ?_
  refine x_seq ?_
  refine x_start (b := false) ?_
  refine x_mv' (show _ = (V.bool r11.2) from rfl) ?_
  refine x_un (show _ = (V.bool r11.2) from rfl) (aun_not _) ?_
  refine x_mv' (show _ = (V.bool (!r11.2)) from rfl) ?_
  by_cases hp61 : r11.2 = true
  · rw [if_pos hp61] at hD
    refine x_gy (show _ = (V.bool (!r11.2)) from rfl) (bnot_t hp61) ?_
    refine x_mv hv16 fun v62 hv62 => ?_
    refine x_gy (show _ = (V.bool (!r11.2)) from rfl) (bnot_t hp61) ?_
    refine x_len hv62 ?_
    refine x_gy (show _ = (V.bool (!r11.2)) from rfl) (bnot_t hp61) ?_
    refine x_bin (show _ = (V.int .i64 ((r11.1.length : Nat) : Int)) from rfl) (show _ = (V.int .i64 2) from rfl) b_lss ?_
    refine x_pickf' (show _ = (V.bool (!r11.2)) from rfl) (bnot_t hp61) (show _ = (V.bool (decide (((r11.1.length : Nat) : Int) < 2))) from rfl) ?_
    refine x_mv' (show _ = (V.bool (decide (((r11.1.length : Nat) : Int) < 2))) from rfl) ?_
    by_cases hp63 : ((r11.1.length : Nat) : Int) < 2
    · rw [if_pos hp63] at hD
      refine x_gn (show _ = (V.bool (decide (((r11.1.length : Nat) : Int) < 2))) from rfl) (decide_eq_true hp63) ?_
      refine x_gn (show _ = (V.bool (decide (((r11.1.length : Nat) : Int) < 2))) from rfl) (decide_eq_true hp63) ?_
      refine x_gn (show _ = (V.bool (decide (((r11.1.length : Nat) : Int) < 2))) from rfl) (decide_eq_true hp63) ?_
      refine x_pickt' (show _ = (V.bool (decide (((r11.1.length : Nat) : Int) < 2))) from rfl) (decide_eq_true hp63) (show _ = (V.bool true) from rfl) ?_
      refine x_mv' (show _ = (V.bool true) from rfl) ?_
      refine x_gn (show _ = (V.bool true) from rfl) rfl ?_
      refine x_gn (show _ = (V.bool true) from rfl) rfl ?_
      refine x_gn (show _ = (V.bool true) from rfl) rfl ?_
      refine x_gn (show _ = (V.bool true) from rfl) rfl ?_
      refine x_gn (show _ = (V.bool true) from rfl) rfl ?_
      refine x_pickt' (show _ = (V.bool true) from rfl) rfl (show _ = (V.bool true) from rfl) ?_
      refine x_done ?_
      refine x_tN ?_
      refine x_ct (show _ = (V.bool true) from rfl) rfl ?_
      refine ok.seicheref07_GetCommit_j1 (i57 := i2) hC_seicheref01_Split hC_seicheref07_digest (fun _ hE => ?_) ?_ ?_ ?_ ?_ hD
      · refine x_tR ?_; exact hR _ hE
      · exact (Nat.lt_succ_of_le (Nat.le_of_eq hidi2))
      · exact hci2
      · exact (ownC_nil (sz := 32) hidi2 (by rfl))
      · exact (show _ = (V.ptr i2 0) from rfl)
    · rw [if_neg hp63] at hD
      refine x_gy (show _ = (V.bool (decide (((r11.1.length : Nat) : Int) < 2))) from rfl) (decide_eq_false hp63) ?_
      refine x_mv hv16 fun v64 hv64 => ?_
      refine x_gy (show _ = (V.bool (decide (((r11.1.length : Nat) : Int) < 2))) from rfl) (decide_eq_false hp63) ?_
      refine x_len hv64 ?_
      refine x_gy (show _ = (V.bool (decide (((r11.1.length : Nat) : Int) < 2))) from rfl) (decide_eq_false hp63) ?_
      refine x_bin (show _ = (V.int .i64 ((r11.1.length : Nat) : Int)) from rfl) (show _ = (V.int .i64 4) from rfl) b_gtr ?_
      refine x_pickf' (show _ = (V.bool (decide (((r11.1.length : Nat) : Int) < 2))) from rfl) (decide_eq_false hp63) (show _ = (V.bool (decide (4 < ((r11.1.length : Nat) : Int)))) from rfl) ?_
      refine x_mv' (show _ = (V.bool (decide (4 < ((r11.1.length : Nat) : Int)))) from rfl) ?_
      by_cases hp65 : 4 < ((r11.1.length : Nat) : Int)
      · rw [if_pos hp65] at hD
        refine x_gn (show _ = (V.bool (decide (4 < ((r11.1.length : Nat) : Int)))) from rfl) (decide_eq_true hp65) ?_
        refine x_gn (show _ = (V.bool (decide (4 < ((r11.1.length : Nat) : Int)))) from rfl) (decide_eq_true hp65) ?_
        refine x_gn (show _ = (V.bool (decide (4 < ((r11.1.length : Nat) : Int)))) from rfl) (decide_eq_true hp65) ?_
        refine x_gn (show _ = (V.bool (decide (4 < ((r11.1.length : Nat) : Int)))) from rfl) (decide_eq_true hp65) ?_
        refine x_gn (show _ = (V.bool (decide (4 < ((r11.1.length : Nat) : Int)))) from rfl) (decide_eq_true hp65) ?_
        refine x_pickt' (show _ = (V.bool (decide (4 < ((r11.1.length : Nat) : Int)))) from rfl) (decide_eq_true hp65) (show _ = (V.bool true) from rfl) ?_
        refine x_done ?_
        refine x_tN ?_
        refine x_ct (show _ = (V.bool true) from rfl) rfl ?_
        refine ok.seicheref07_GetCommit_j1 (i57 := i2) hC_seicheref01_Split hC_seicheref07_digest (fun _ hE => ?_) ?_ ?_ ?_ ?_ hD
        · refine x_tR ?_; exact hR _ hE
        · exact (Nat.lt_succ_of_le (Nat.le_of_eq hidi2))
        · exact hci2
        · exact (ownC_nil (sz := 32) hidi2 (by rfl))
        · exact (show _ = (V.ptr i2 0) from rfl)
      · rw [if_neg hp65] at hD
        refine x_gy (show _ = (V.bool (decide (4 < ((r11.1.length : Nat) : Int)))) from rfl) (decide_eq_false hp65) ?_
        refine x_mv hv16 fun v66 hv66 => ?_
        refine x_gy (show _ = (V.bool (decide (4 < ((r11.1.length : Nat) : Int)))) from rfl) (decide_eq_false hp65) ?_
        obtain ⟨a67, hx68, hD⟩ := Option.bind_eq_some_iff.1 hD
        refine x_iaddr hv66 (show _ = (V.int .i64 0) from rfl) hx68 fun v69 (hv69 : v69.nf = V.el [(V.str a67)] 0) => ?_
        refine x_gy (show _ = (V.bool (decide (4 < ((r11.1.length : Nat) : Int)))) from rfl) (decide_eq_false hp65) ?_
        refine x_load_el hv69 (show _ = some (V.str a67) from rfl) fun v70 hv70 => ?_
        refine x_gy (show _ = (V.bool (decide (4 < ((r11.1.length : Nat) : Int)))) from rfl) (decide_eq_false hp65) ?_
        refine x_lens (nf_str hv70) ?_
        refine x_gy (show _ = (V.bool (decide (4 < ((r11.1.length : Nat) : Int)))) from rfl) (decide_eq_false hp65) ?_
        refine x_bin (show _ = (V.int .i64 ((a67.length : Nat) : Int)) from rfl) (show _ = (V.int .i64 64) from rfl) b_gtr ?_
        refine x_pickf' (show _ = (V.bool (decide (4 < ((r11.1.length : Nat) : Int)))) from rfl) (decide_eq_false hp65) (show _ = (V.bool (decide (64 < ((a67.length : Nat) : Int)))) from rfl) ?_
        refine x_done ?_
        refine x_tN ?_
        by_cases hp71 : 64 < ((a67.length : Nat) : Int)
        · rw [if_pos hp71] at hD
          refine x_ct (show _ = (V.bool (decide (64 < ((a67.length : Nat) : Int)))) from rfl) (decide_eq_true hp71) ?_
          refine ok.seicheref07_GetCommit_j1 (i57 := i2) hC_seicheref01_Split hC_seicheref07_digest (fun _ hE => ?_) ?_ ?_ ?_ ?_ hD
          · refine x_tR ?_; exact hR _ hE
          · exact (Nat.lt_succ_of_le (Nat.le_of_eq hidi2))
          · exact hci2
          · exact (ownC_nil (sz := 32) hidi2 (by rfl))
          · exact (show _ = (V.ptr i2 0) from rfl)
        · rw [if_neg hp71] at hD
          refine x_cf (show _ = (V.bool (decide (64 < ((a67.length : Nat) : Int)))) from rfl) (decide_eq_false hp71) ?_
          refine x_skip ?_
          refine x_tN ?_
          refine x_seq ?_
          refine x_seq ?_
          refine x_start (b := false) ?_
          refine x_mv hv16 fun v105 hv105 => ?_
          obtain ⟨q106, hx107, hD⟩ := Option.bind_eq_some_iff.1 hD
          refine x_slc (ka := .i64) (kb := .i64) hv105 (show _ = (V.int .i64 1) from rfl) rfl hx107 fun v108 hv108 => ?_
          refine x_len hv108 ?_
          refine x_mv' (show _ = (V.int .i64 0) from rfl) ?_
          refine x_done ?_
          refine x_tN ?_
          refine x_block ?_
          by_cases hlen305 : q106.length ≤ Lim
          · rw [if_pos hlen305] at hD
            refine ok.seicheref07_GetCommit_l1 (t4_111 := r11.1) (l109 := q106) hC_seicheref01_Split hC_seicheref07_digest (fun s304 i151 x150 hli151 hci151 hoi151_32 h152 h153 hD => ?_) (fun _ hE => ?_) hlen305 _ 0 _ i2 _ rfl (Nat.zero_le _) ?_ ?_ ?_ ?_ ?_ ?_ ?_ ?_ hD
            · refine x_bE ?_
              refine x_tN ?_
              refine x_seq ?_
              refine x_start (b := true) ?_
              refine x_mv h153 fun v170 hv170 => ?_
              obtain ⟨a171, hx172, hD⟩ := Option.bind_eq_some_iff.1 hD
              refine x_iaddr hv170 (show _ = (V.int .i64 0) from rfl) hx172 fun v173 (hv173 : v173.nf = V.el [(V.str a171)] 0) => ?_
              refine x_load_el hv173 (show _ = some (V.str a171) from rfl) fun v174 hv174 => ?_
              refine x_mv h153 fun v175 hv175 => ?_
              obtain ⟨a176, hx177, hD⟩ := Option.bind_eq_some_iff.1 hD
              refine x_iaddr hv175 (show _ = (V.int .i64 1) from rfl) hx177 fun v178 (hv178 : v178.nf = V.el [(V.str a176)] 0) => ?_
              refine x_load_el hv178 (show _ = some (V.str a176) from rfl) fun v179 hv179 => ?_
              obtain ⟨r181, hx182, hD⟩ := Option.bind_eq_some_iff.1 hD
              refine x_callF hC_seicheref07_digest (a := (a176)) (cons_eq (nf_of rfl (nf_str hv179)) rfl) hx182 fun v180 ov180 (hv180 : v180.nf = (V.agg (encB (r181).1))) hov180 => ?_
              refine x_build (ws := [(33, 1, (V.str a171)), (0, 32, (V.agg (encB (r181).1)))]) (l := C.Commit ({ Root := r181, Parents := [], Note := a171 } : T.Commit)) (part_eq (nf_of rfl (nf_str hv174)) (part_eq hv180 rfl)) (fill_from (by kernel_rfl : _ = C.Commit ({ Root := (Arr.zero 32), Parents := [], Note := [] } : T.Commit)) (fill_step (set_Commit_33_1 ({ Root := (Arr.zero 32), Parents := [], Note := [] } : T.Commit) a171) ⟨(show [(V.str a171)].length = 1 from rfl), rfl, le_len (C.Commit_len ({ Root := (Arr.zero 32), Parents := [], Note := [] } : T.Commit)) (by decide)⟩ (fill_step (set_Commit_0_32 ({ ({ Root := (Arr.zero 32), Parents := [], Note := [] } : T.Commit) with Note := a171 } : T.Commit) r181) ⟨(enc_len r181), (encB_sc r181.1), le_len (C.Commit_len ({ ({ Root := (Arr.zero 32), Parents := [], Note := [] } : T.Commit) with Note := a171 } : T.Commit)) (by decide)⟩ fill_nil))) fun v183 hv183 hnv183 => ?_
              refine x_new (l := (C.Commit ({ Root := (Arr.zero 32), Parents := [], Note := [] } : T.Commit))) (by kernel_rfl) fun i184 hidi184 hci184 => ?_
              refine x_store (ws := (C.Commit ({ Root := r181, Parents := [], Note := a171 } : T.Commit))) (l' := (C.Commit ({ Root := r181, Parents := [], Note := a171 } : T.Commit))) (show _ = (V.ptr i184 0) from rfl) hci184 (cells_of rfl hv183) ⟨(C.Commit_len ({ Root := r181, Parents := [], Note := a171 } : T.Commit)), (C.Commit_sc ({ Root := r181, Parents := [], Note := a171 } : T.Commit)), le_len (C.Commit_len ({ Root := (Arr.zero 32), Parents := [], Note := [] } : T.Commit)) (by decide)⟩ (setAt_full (Eq.trans (C.Commit_len ({ Root := r181, Parents := [], Note := a171 } : T.Commit)) (Eq.symm (C.Commit_len ({ Root := (Arr.zero 32), Parents := [], Note := [] } : T.Commit))))) fun csv185 ysv185 hcsv185 hnv185 hcv185 hsv185 => ?_
              refine x_done ?_
              refine x_tN ?_
              refine x_seq ?_
              refine x_seq ?_
              refine x_start (b := false) ?_
              refine x_mv h153 fun v228 hv228 => ?_
              obtain ⟨q229, hx230, hD⟩ := Option.bind_eq_some_iff.1 hD
              refine x_slc (ka := .i64) (kb := .i64) hv228 (show _ = (V.int .i64 2) from rfl) rfl hx230 fun v231 hv231 => ?_
              refine x_len hv231 ?_
              refine x_mv' (show _ = (V.int .i64 0) from rfl) ?_
              refine x_done ?_
              refine x_tN ?_
              refine x_block ?_
              by_cases hlen303 : q229.length ≤ Lim
              · rw [if_pos hlen303] at hD
                refine ok.seicheref07_GetCommit_l2 (l232 := q229) hC_seicheref01_Split hC_seicheref07_digest (fun s302 i295 i297 x294 x296 hli295 hci295 hoi295_32 hli297 hci297 hoi297_32 hnei295i297 h298 h299 hD => ?_) (fun _ hE => ?_) hlen303 _ 0 _ i151 i184 _ _ rfl (Nat.zero_le _) ?_ ?_ ?_ ?_ ?_ ?_ ?_ ?_ ?_ ?_ ?_ ?_ hD
                · refine x_bE ?_
                  refine x_tN ?_
                  refine x_seq ?_
                  refine x_start (b := false) ?_
                  refine x_load h299 hci297 (ld_Commit_0_34 x296) fun v300 hv300 => ?_
                  refine x_store (ws := (C.Commit x296)) (l' := (C.Commit x296)) h298 hci295 (cells_of rfl hv300) ⟨(C.Commit_len x296), (C.Commit_sc x296), le_len (C.Commit_len x294) (by decide)⟩ (setAt_full (Eq.trans (C.Commit_len x296) (Eq.symm (C.Commit_len x294)))) fun csv301 ysv301 hcsv301 hnv301 hcv301 hsv301 => ?_
                  refine x_mv' (show _ = (V.bool true) from rfl) ?_
                  refine x_done ?_
                  refine x_tN ?_
                  refine x_retc ?_
                  obtain rfl := Option.some.inj hD
                  exact hR _ (ends_tup (rvs_cons (rv_c h298 hcv301 (ld_Commit_0_34 x296)) (rvs_cons (rv_t (nf_of rfl (show _ = (V.bool true) from rfl))) rvs_nil)) (by decide))
                · refine x_bR ?_; refine x_tR ?_; exact hR _ hE
                · exact hv231
                · exact (show _ = (V.int .i64 ((q229.length : Nat) : Int)) from rfl)
                · exact (show _ = (V.int .i64 0) from rfl)
                · exact (Nat.lt_succ_of_lt hli151)
                · exact (cells_setOb (Nat.ne_of_lt (Nat.lt_of_lt_of_eq hli151 hidi184.symm)) (cells_new hli151 hci151))
                · exact (ownC_setObo (Nat.ne_of_lt (Nat.lt_of_lt_of_eq hli151 hidi184.symm)) (ownC_new hli151 hoi151_32))
                · exact (Nat.lt_succ_of_le (Nat.le_of_eq hidi184))
                · exact hcv185
                · exact (hsv185 32 (hnv183 32 32 rfl (by simp)))
                · exact (Nat.ne_of_lt (Nat.lt_of_lt_of_eq hli151 hidi184.symm))
                · exact h152
                · exact (show _ = (V.ptr i184 0) from rfl)
              · rw [if_neg hlen303] at hD; cases hD
            · refine x_bR ?_; refine x_tR ?_; exact hR _ hE
            · exact hv108
            · exact (show _ = (V.int .i64 ((q106.length : Nat) : Int)) from rfl)
            · exact (show _ = (V.int .i64 0) from rfl)
            · exact (Nat.lt_succ_of_le (Nat.le_of_eq hidi2))
            · exact hci2
            · exact (ownC_nil (sz := 32) hidi2 (by rfl))
            · exact (show _ = (V.ptr i2 0) from rfl)
            · exact hv16
          · rw [if_neg hlen305] at hD; cases hD
  · rw [if_neg hp61] at hD
    refine x_gn (show _ = (V.bool (!r11.2)) from rfl) (bnot_f (Bool.eq_false_iff.2 hp61)) ?_
    refine x_gn (show _ = (V.bool (!r11.2)) from rfl) (bnot_f (Bool.eq_false_iff.2 hp61)) ?_
    refine x_gn (show _ = (V.bool (!r11.2)) from rfl) (bnot_f (Bool.eq_false_iff.2 hp61)) ?_
    refine x_pickt' (show _ = (V.bool (!r11.2)) from rfl) (bnot_f (Bool.eq_false_iff.2 hp61)) (show _ = (V.bool true) from rfl) ?_
    refine x_mv' (show _ = (V.bool true) from rfl) ?_
    refine x_gn (show _ = (V.bool true) from rfl) rfl ?_
    refine x_gn (show _ = (V.bool true) from rfl) rfl ?_
    refine x_gn (show _ = (V.bool true) from rfl) rfl ?_
    refine x_pickt' (show _ = (V.bool true) from rfl) rfl (show _ = (V.bool true) from rfl) ?_
    refine x_mv' (show _ = (V.bool true) from rfl) ?_
    refine x_gn (show _ = (V.bool true) from rfl) rfl ?_
    refine x_gn (show _ = (V.bool true) from rfl) rfl ?_
    refine x_gn (show _ = (V.bool true) from rfl) rfl ?_
    refine x_gn (show _ = (V.bool true) from rfl) rfl ?_
    refine x_gn (show _ = (V.bool true) from rfl) rfl ?_
    refine x_pickt' (show _ = (V.bool true) from rfl) rfl (show _ = (V.bool true) from rfl) ?_
    refine x_done ?_
    refine x_tN ?_
    refine x_ct (show _ = (V.bool true) from rfl) rfl ?_
    refine ok.seicheref07_GetCommit_j1 (i57 := i2) hC_seicheref01_Split hC_seicheref07_digest (fun _ hE => ?_) ?_ ?_ ?_ ?_ hD
    · refine x_tR ?_; exact hR _ hE
    · exact (Nat.lt_succ_of_le (Nat.le_of_eq hidi2))
    · exact hci2
    · exact (ownC_nil (sz := 32) hidi2 (by rfl))
    · exact (show _ = (V.ptr i2 0) from rfl)
def K.seicheref07_GetCommit : FC := fc F.seicheref07_GetCommit (fun _ => true) false (fun (a : Bytes) => [(V.str a)]) (fun (y : (T.Commit × Bool)) => (V.tup [(V.agg (C.Commit y.1)), (V.bool y.2)])) (fun a => g.seicheref07_GetCommit a)
  (fun a => (cleanL_mk rfl rfl))
  (fun y => (cleanL_mk (E.Commit_clean _) (cleanL_mk rfl rfl)))
  (fun a0 b0 h => by
    obtain ⟨h0, h⟩ := List.cons.inj h
    obtain rfl : a0 = b0 := V.str.inj h0
    rfl)
theorem H.seicheref07_GetCommit (w : World) (hw : EnvOK w) : K.seicheref07_GetCommit.Holds (cxD w) :=
  FC.holds_of (cs := [K.seicheref01_Split, K.seicheref07_digest]) (glD w) mixed cf_seicheref07_GetCommit (fun _ _ ⟨_, _, h, _⟩ => by subst h; exact Nat.le_of_ble_eq_true rfl) fun v y ⟨a, r, hv, hD, hy⟩ => by
    subst hy
    exact ok.seicheref07_GetCommit (specOf_calls (H.seicheref01_Split w hw) (fun _ _ ⟨_, _, h, _⟩ => by subst h; rfl)) (specOf_calls (H.seicheref07_digest w hw) (fun _ _ ⟨_, _, h, _⟩ => by subst h; rfl)) hv hD
def c_seicheref07_SameCommit_l1 : ACode := (.seq (.region [
  ⟨(some 31), (.bin .lss .no (.tmp 30) (.tmp 29)), none, []⟩] false) (.seq (.cond (.tmp 31) .skip (.exit 0)) (.seq (.block 1 (.seq (.region [
  ⟨(some 32), (.mv (.tmp 30)), none, []⟩, 
  ⟨(some 5), (.mv (.tmp 32)), none, []⟩] false) (.seq (.region [
  ⟨(some 33), (.faddr 32 (.tmp 2)), none, []⟩, 
  ⟨(some 34), (.load none (.tmp 33)), none, []⟩, 
  ⟨(some 35), (.mv (.tmp 5)), none, []⟩, 
  ⟨(some 36), (.iaddr 32 (.tmp 34) (.tmp 35)), none, []⟩, 
  ⟨(some 37), (.load (some 32) (.tmp 36)), none, []⟩, 
  ⟨(some 38), (.faddr 32 (.tmp 3)), none, []⟩, 
  ⟨(some 39), (.load none (.tmp 38)), none, []⟩, 
  ⟨(some 40), (.mv (.tmp 5)), none, []⟩, 
  ⟨(some 41), (.iaddr 32 (.tmp 39) (.tmp 40)), none, []⟩, 
  ⟨(some 42), (.load (some 32) (.tmp 41)), none, []⟩, 
  ⟨(some 43), (.bin .neq (.flat (repl 32 ((some .u8), true))) (.tmp 37) (.tmp 42)), none, []⟩] true) (.cond (.tmp 43) (.seq (.region [
  ⟨(some 4), (.mv (.const (.bool false))), none, []⟩] false) .ret) .skip)))) (.region [
  ⟨(some 44), (.bin .add .no (.tmp 30) (.const (.int .i64 1))), none, []⟩, 
  ⟨(some 30), (.mv (.tmp 44)), none, []⟩] false))))
def c_seicheref07_SameCommit : ACode := (.seq (.region [
  ⟨(some 2), (.box (.tmp 0)), none, []⟩, 
  ⟨(some 3), (.box (.tmp 1)), none, []⟩, 
  ⟨(some 4), (.mv (.const (.bool false))), none, []⟩] false) (.seq (.seq (.region [
  ⟨(some 6), (.faddr 0 (.tmp 2)), none, []⟩, 
  ⟨(some 7), (.load (some 32) (.tmp 6)), none, []⟩, 
  ⟨(some 8), (.faddr 0 (.tmp 3)), none, []⟩, 
  ⟨(some 9), (.load (some 32) (.tmp 8)), none, []⟩, 
  ⟨(some 10), (.bin .neq (.flat (repl 32 ((some .u8), true))) (.tmp 7) (.tmp 9)), none, []⟩, 
  ⟨(some 11), (.mv (.tmp 10)), none, []⟩, 
  ⟨(some 12), (.faddr 33 (.tmp 2)), (some (11, false)), []⟩, 
  ⟨(some 13), (.load none (.tmp 12)), (some (11, false)), []⟩, 
  ⟨(some 14), (.faddr 33 (.tmp 3)), (some (11, false)), []⟩, 
  ⟨(some 15), (.load none (.tmp 14)), (some (11, false)), []⟩, 
  ⟨(some 16), (.bin .neq .no (.tmp 13) (.tmp 15)), (some (11, false)), []⟩, 
  ⟨(some 17), (.pick (.tmp 11) (.const (.bool true)) (.tmp 16)), none, []⟩, 
  ⟨(some 18), (.mv (.tmp 17)), none, []⟩, 
  ⟨(some 19), (.faddr 32 (.tmp 2)), (some (18, false)), []⟩, 
  ⟨(some 20), (.load none (.tmp 19)), (some (18, false)), []⟩, 
  ⟨(some 21), (.len false (.tmp 20)), (some (18, false)), []⟩, 
  ⟨(some 22), (.faddr 32 (.tmp 3)), (some (18, false)), []⟩, 
  ⟨(some 23), (.load none (.tmp 22)), (some (18, false)), []⟩, 
  ⟨(some 24), (.len false (.tmp 23)), (some (18, false)), []⟩, 
  ⟨(some 25), (.bin .neq .no (.tmp 21) (.tmp 24)), (some (18, false)), []⟩, 
  ⟨(some 26), (.pick (.tmp 18) (.const (.bool true)) (.tmp 25)), none, []⟩] false) (.cond (.tmp 26) (.seq (.region [
  ⟨(some 4), (.mv (.const (.bool false))), none, []⟩] false) .ret) .skip)) (.seq (.seq (.region [
  ⟨(some 27), (.faddr 32 (.tmp 2)), none, []⟩, 
  ⟨(some 28), (.load none (.tmp 27)), none, []⟩, 
  ⟨(some 29), (.len false (.tmp 28)), none, []⟩, 
  ⟨(some 30), (.mv (.const (.int .i64 0))), none, []⟩] false) (.block 0 (.loop c_seicheref07_SameCommit_l1))) (.seq (.region [
  ⟨(some 4), (.mv (.const (.bool true))), none, []⟩] false) .ret))))
theorem cf_seicheref07_SameCommit : cFn Go.Proofs.Tryd.prog F.seicheref07_SameCommit = some ⟨45, c_seicheref07_SameCommit, [.t 4]⟩ := by kernel_rfl
def L.seicheref07_SameCommit_l1 (k0 : Option Bool) : List (Arr 32) → Nat → T.Commit → T.Commit → Option Bool
  | [], k42, x73, x75 =>
    k0
  | a79 :: rest, k42, x73, x75 =>
    (at? x73.Parents ((k42 : Nat) : Int)).bind fun a91 =>
    (at? x75.Parents ((k42 : Nat) : Int)).bind fun a96 =>
    if a91 = a96 then
      L.seicheref07_SameCommit_l1 k0 rest (k42 + 1) x73 x75
    else
      some false
theorem ok.seicheref07_SameCommit_l1 {Γ : Abs.Spec} {gl : Glob} {Q : Ex → St → Prop} {r : Bool} {l41 : List (Arr 32)} {k0 : Option Bool}
    (hk0 : ∀ (s : St), k0 = some r → Q (.exit 0) s)
    (hR : ∀ s, EndsX [.t 4] false (V.bool r) s → Q .ret s)
    (hlen : l41.length ≤ Lim) : ∀ (rest : List (Arr 32)) (k42 : Nat) (s : St) (i74 : Nat) (i76 : Nat) (x73 : T.Commit) (x75 : T.Commit), l41.drop k42 = rest → k42 ≤ l41.length →
    ((s.tm 20).nf = V.sl false 32 (List.map E.A32_u8 l41)) → (s.tm 29 = V.int .i64 ((l41.length : Nat) : Int)) → (s.tm 30 = V.int .i64 ((k42 : Nat) : Int)) → (i74 < s.nH) → (Cells s i74 (C.Commit x73)) → (i76 < s.nH) → (Cells s i76 (C.Commit x75)) → (i74 ≠ i76) → (s.tm 2 = (V.ptr i74 0)) → (s.tm 3 = (V.ptr i76 0)) →
    L.seicheref07_SameCommit_l1 k0 rest k42 x73 x75 = some r → awp Γ gl (.loop c_seicheref07_SameCommit_l1) Q s := by
  intro rest
  induction rest with
  | nil =>
    intro k42 s i74 i76 x73 x75 hdrop hkl hX hN hI hli74 hci74 hli76 hci76 hnei74i76 h77 h78 hD
    have hkz := drop_nil hdrop hkl
    have hp0 : ¬ (((k42 : Nat) : Int) < ((l41.length : Nat) : Int)) := by omega
    refine awp_roundK fun K hK => ?_
    rw [L.seicheref07_SameCommit_l1] at hD
    refine x_seq ?_
    refine x_start (b := false) ?_
    refine x_bin hI hN b_lss ?_
    refine x_done ?_
    refine x_tN ?_
    refine x_seq ?_
    refine x_cf (show _ = (V.bool (decide (((k42 : Nat) : Int) < ((l41.length : Nat) : Int)))) from rfl) (decide_eq_false hp0) ?_
    refine x_exitc ?_
    refine x_tE ?_
    refine x_tE ?_
    refine hk0 _ hD
  | cons a79 rest ih =>
    intro k42 s i74 i76 x73 x75 hdrop hkl hX hN hI hli74 hci74 hli76 hci76 hnei74i76 h77 h78 hD
    obtain ⟨hlt, -, hget, hdrop1, -⟩ := drop_cons hdrop
    have hp1 : ((k42 : Nat) : Int) < ((l41.length : Nat) : Int) := by omega
    have hwk := wi_succ (k := k42) (by unfold Lim at hlen; omega)
    refine awp_roundK fun K hK => ?_
    rw [L.seicheref07_SameCommit_l1] at hD
    refine x_seq ?_
    refine x_start (b := false) ?_
    refine x_bin hI hN b_lss ?_
    refine x_done ?_
    refine x_tN ?_
    refine x_seq ?_
    refine x_ct (show _ = (V.bool (decide (((k42 : Nat) : Int) < ((l41.length : Nat) : Int)))) from rfl) (decide_eq_true hp1) ?_
    refine x_skip ?_
    refine x_tN ?_
    refine x_seq ?_
    refine x_block ?_
    refine x_seq ?_
    refine x_start (b := false) ?_
    refine x_mv' hI ?_
    refine x_mv' (show _ = (V.int .i64 ((k42 : Nat) : Int)) from rfl) ?_
    refine x_done ?_
    refine x_tN ?_
    refine x_seq ?_
    refine x_start (b := true) ?_
    refine x_faddr h77 ?_
    refine x_load (show _ = (V.ptr i74 32) from rfl) hci74 (ld_Commit_32_n x73) fun v90 hv90 => ?_
    refine x_mv' (show _ = (V.int .i64 ((k42 : Nat) : Int)) from rfl) ?_
    obtain ⟨a91, hx92, hD⟩ := Option.bind_eq_some_iff.1 hD
    refine x_iaddr hv90 (show _ = (V.int .i64 ((k42 : Nat) : Int)) from rfl) hx92 fun v93 (hv93 : v93.nf = V.el (encB (a91).1) 0) => ?_
    refine x_load_el hv93 (ld_arr a91) fun v94 hv94 => ?_
    refine x_faddr h78 ?_
    refine x_load (show _ = (V.ptr i76 32) from rfl) hci76 (ld_Commit_32_n x75) fun v95 hv95 => ?_
    refine x_mv' (show _ = (V.int .i64 ((k42 : Nat) : Int)) from rfl) ?_
    obtain ⟨a96, hx97, hD⟩ := Option.bind_eq_some_iff.1 hD
    refine x_iaddr hv95 (show _ = (V.int .i64 ((k42 : Nat) : Int)) from rfl) hx97 fun v98 (hv98 : v98.nf = V.el (encB (a96).1) 0) => ?_
    refine x_load_el hv98 (ld_arr a96) fun v99 hv99 => ?_
    refine x_fne hv94 hv99 (flatEq_arr true _ _) ?_
    refine x_done ?_
    refine x_tN ?_
    by_cases hp100 : a91 = a96
    · rw [if_pos hp100] at hD
      refine x_cf (show _ = (V.bool (!(decide (a91 = a96)))) from rfl) (bnot_t (decide_eq_true hp100)) ?_
      refine x_skip ?_
      refine x_bN ?_
      refine x_tN ?_
      refine x_start (b := false) ?_
      refine x_bin hI (show _ = (V.int .i64 1) from rfl) b_add ?_
      refine x_mv' (show _ = (V.int .i64 (wi (((k42 : Nat) : Int) + 1))) from rfl) ?_
      refine x_done ?_
      refine x_tN ?_
      refine hK _ ?_
      refine ih (k42 + 1) _ i74 i76 _ _ hdrop1 hlt ?_ ?_ ?_ ?_ ?_ ?_ ?_ ?_ ?_ ?_ hD
      · exact hX
      · exact hN
      · exact (Eq.trans (show _ = (V.int .i64 (wi (((k42 : Nat) : Int) + 1))) from rfl) (congrArg (V.int .i64) hwk))
      · exact hli74
      · exact hci74
      · exact hli76
      · exact hci76
      · exact hnei74i76
      · exact h77
      · exact h78
    · rw [if_neg hp100] at hD
      refine x_ct (show _ = (V.bool (!(decide (a91 = a96)))) from rfl) (bnot_f (decide_eq_false hp100)) ?_
      refine x_seq ?_
      refine x_start (b := false) ?_
      refine x_mv' (show _ = (V.bool false) from rfl) ?_
      refine x_done ?_
      refine x_tN ?_
      refine x_retc ?_
      refine x_bR ?_
      refine x_tR ?_
      refine x_tR ?_
      obtain rfl := Option.some.inj hD
      exact hR _ (ends_t (nf_of rfl (show _ = (V.bool false) from rfl)) (fun h => nomatch h))
def g.seicheref07_SameCommit (p0 : T.Commit) (p1 : T.Commit) : Option Bool :=
  if p0.Root = p1.Root then
    if p0.Note = p1.Note then
      if ((p0.Parents.length : Nat) : Int) = ((p1.Parents.length : Nat) : Int) then
        if p0.Parents.length ≤ Lim then L.seicheref07_SameCommit_l1 (some true) p0.Parents 0 p0 p1 else none
      else
        some false
    else
      some false
  else
    some false
theorem ok.seicheref07_SameCommit {Γ : Abs.Spec} {gl : Glob} {r : Bool} {p0 : T.Commit} {p1 : T.Commit} {v : List V}
    (hv : nfL v = [(V.agg (C.Commit p0)), (V.agg (C.Commit p1))]) (hD : g.seicheref07_SameCommit p0 p1 = some r) : awp Γ gl c_seicheref07_SameCommit (endQ [.t 4] false (V.bool r)) (St.init v) := by
  obtain ⟨v0, v, rfl, h0, hv⟩ := nfL_cons hv
  obtain ⟨v1, v, rfl, h1, hv⟩ := nfL_cons hv
  obtain rfl := nfL_nil hv
  have hR : ∀ s, EndsX [.t 4] false (V.bool r) s → endQ [.t 4] false (V.bool r) .ret s := fun _ h => h
  unfold g.seicheref07_SameCommit at hD
  unfold c_seicheref07_SameCommit
  refine x_seq ?_
  refine x_start (b := false) ?_
  refine x_box (l := (C.Commit p0)) (cells_of rfl h0) (C.Commit_sc p0) fun csi3 i3 hidi3 hcsi3 hci3 => ?_
  refine x_box (l := (C.Commit p1)) (cells_of rfl h1) (C.Commit_sc p1) fun csi4 i4 hidi4 hcsi4 hci4 => ?_
  refine x_mv' (show _ = (V.bool false) from rfl) ?_
  refine x_done ?_
  refine x_tN ?_
  refine x_seq ?_
  refine x_seq ?_
  refine x_start (b := false) ?_
  refine x_faddr (show _ = (V.ptr i3 0) from rfl) ?_
  refine x_load (show _ = (V.ptr i3 0) from rfl) (cells_new (Nat.lt_succ_of_le (Nat.le_of_eq hidi3)) hci3) (ld_Commit_0_32 p0) fun v30 hv30 => ?_
  refine x_faddr (show _ = (V.ptr i4 0) from rfl) ?_
  refine x_load (show _ = (V.ptr i4 0) from rfl) hci4 (ld_Commit_0_32 p1) fun v31 hv31 => ?_
  refine x_fne hv30 hv31 (flatEq_arr true _ _) ?_
  refine x_mv' (show _ = (V.bool (!(decide (p0.Root = p1.Root)))) from rfl) ?_
  by_cases hp32 : p0.Root = p1.Root
  · rw [if_pos hp32] at hD
    refine x_gy (show _ = (V.bool (!(decide (p0.Root = p1.Root)))) from rfl) (bnot_t (decide_eq_true hp32)) ?_
    refine x_faddr (show _ = (V.ptr i3 0) from rfl) ?_
    refine x_gy (show _ = (V.bool (!(decide (p0.Root = p1.Root)))) from rfl) (bnot_t (decide_eq_true hp32)) ?_
    refine x_load (show _ = (V.ptr i3 33) from rfl) (cells_new (Nat.lt_succ_of_le (Nat.le_of_eq hidi3)) hci3) (ld_Commit_33_n p0) fun v33 hv33 => ?_
    refine x_gy (show _ = (V.bool (!(decide (p0.Root = p1.Root)))) from rfl) (bnot_t (decide_eq_true hp32)) ?_
    refine x_faddr (show _ = (V.ptr i4 0) from rfl) ?_
    refine x_gy (show _ = (V.bool (!(decide (p0.Root = p1.Root)))) from rfl) (bnot_t (decide_eq_true hp32)) ?_
    refine x_load (show _ = (V.ptr i4 33) from rfl) hci4 (ld_Commit_33_n p1) fun v34 hv34 => ?_
    refine x_gy (show _ = (V.bool (!(decide (p0.Root = p1.Root)))) from rfl) (bnot_t (decide_eq_true hp32)) ?_
    refine x_bin (nf_str hv33) (nf_str hv34) s_neq ?_
    refine x_pickf' (show _ = (V.bool (!(decide (p0.Root = p1.Root)))) from rfl) (bnot_t (decide_eq_true hp32)) (show _ = (V.bool (!(decide (p0.Note = p1.Note)))) from rfl) ?_
    refine x_mv' (show _ = (V.bool (!(decide (p0.Note = p1.Note)))) from rfl) ?_
    by_cases hp35 : p0.Note = p1.Note
    · rw [if_pos hp35] at hD
      refine x_gy (show _ = (V.bool (!(decide (p0.Note = p1.Note)))) from rfl) (bnot_t (decide_eq_true hp35)) ?_
      refine x_faddr (show _ = (V.ptr i3 0) from rfl) ?_
      refine x_gy (show _ = (V.bool (!(decide (p0.Note = p1.Note)))) from rfl) (bnot_t (decide_eq_true hp35)) ?_
      refine x_load (show _ = (V.ptr i3 32) from rfl) (cells_new (Nat.lt_succ_of_le (Nat.le_of_eq hidi3)) hci3) (ld_Commit_32_n p0) fun v36 hv36 => ?_
      refine x_gy (show _ = (V.bool (!(decide (p0.Note = p1.Note)))) from rfl) (bnot_t (decide_eq_true hp35)) ?_
      refine x_len hv36 ?_
      refine x_gy (show _ = (V.bool (!(decide (p0.Note = p1.Note)))) from rfl) (bnot_t (decide_eq_true hp35)) ?_
      refine x_faddr (show _ = (V.ptr i4 0) from rfl) ?_
      refine x_gy (show _ = (V.bool (!(decide (p0.Note = p1.Note)))) from rfl) (bnot_t (decide_eq_true hp35)) ?_
      refine x_load (show _ = (V.ptr i4 32) from rfl) hci4 (ld_Commit_32_n p1) fun v37 hv37 => ?_
      refine x_gy (show _ = (V.bool (!(decide (p0.Note = p1.Note)))) from rfl) (bnot_t (decide_eq_true hp35)) ?_
      refine x_len hv37 ?_
      refine x_gy (show _ = (V.bool (!(decide (p0.Note = p1.Note)))) from rfl) (bnot_t (decide_eq_true hp35)) ?_
      refine x_bin (show _ = (V.int .i64 ((p0.Parents.length : Nat) : Int)) from rfl) (show _ = (V.int .i64 ((p1.Parents.length : Nat) : Int)) from rfl) b_neq ?_
      refine x_pickf' (show _ = (V.bool (!(decide (p0.Note = p1.Note)))) from rfl) (bnot_t (decide_eq_true hp35)) (show _ = (V.bool (!(decide (((p0.Parents.length : Nat) : Int) = ((p1.Parents.length : Nat) : Int))))) from rfl) ?_
      refine x_done ?_
      refine x_tN ?_
      by_cases hp38 : ((p0.Parents.length : Nat) : Int) = ((p1.Parents.length : Nat) : Int)
      · rw [if_pos hp38] at hD
        refine x_cf (show _ = (V.bool (!(decide (((p0.Parents.length : Nat) : Int) = ((p1.Parents.length : Nat) : Int))))) from rfl) (bnot_t (decide_eq_true hp38)) ?_
        refine x_skip ?_
        refine x_tN ?_
        refine x_seq ?_
        refine x_seq ?_
        refine x_start (b := false) ?_
        refine x_faddr (show _ = (V.ptr i3 0) from rfl) ?_
        refine x_load (show _ = (V.ptr i3 32) from rfl) (cells_new (Nat.lt_succ_of_le (Nat.le_of_eq hidi3)) hci3) (ld_Commit_32_n p0) fun v40 hv40 => ?_
        refine x_len hv40 ?_
        refine x_mv' (show _ = (V.int .i64 0) from rfl) ?_
        refine x_done ?_
        refine x_tN ?_
        refine x_block ?_
        by_cases hlen102 : p0.Parents.length ≤ Lim
        · rw [if_pos hlen102] at hD
          refine ok.seicheref07_SameCommit_l1 (l41 := p0.Parents) (fun s101 hD => ?_) (fun _ hE => ?_) hlen102 _ 0 _ i3 i4 _ _ rfl (Nat.zero_le _) ?_ ?_ ?_ ?_ ?_ ?_ ?_ ?_ ?_ ?_ hD
          · refine x_bE ?_
            refine x_tN ?_
            refine x_seq ?_
            refine x_start (b := false) ?_
            refine x_mv' (show _ = (V.bool true) from rfl) ?_
            refine x_done ?_
            refine x_tN ?_
            refine x_retc ?_
            obtain rfl := Option.some.inj hD
            exact hR _ (ends_t (nf_of rfl (show _ = (V.bool true) from rfl)) (fun h => nomatch h))
          · refine x_bR ?_; refine x_tR ?_; exact hR _ hE
          · exact hv36
          · exact (show _ = (V.int .i64 ((p0.Parents.length : Nat) : Int)) from rfl)
          · exact (show _ = (V.int .i64 0) from rfl)
          · exact (Nat.lt_succ_of_lt (Nat.lt_succ_of_le (Nat.le_of_eq hidi3)))
          · exact (cells_new (Nat.lt_succ_of_le (Nat.le_of_eq hidi3)) hci3)
          · exact (Nat.lt_succ_of_le (Nat.le_of_eq hidi4))
          · exact hci4
          · exact (Nat.ne_of_lt (Nat.lt_of_lt_of_eq (Nat.lt_succ_of_le (Nat.le_of_eq hidi3)) hidi4.symm))
          · exact (show _ = (V.ptr i3 0) from rfl)
          · exact (show _ = (V.ptr i4 0) from rfl)
        · rw [if_neg hlen102] at hD; cases hD
      · rw [if_neg hp38] at hD
        refine x_ct (show _ = (V.bool (!(decide (((p0.Parents.length : Nat) : Int) = ((p1.Parents.length : Nat) : Int))))) from rfl) (bnot_f (decide_eq_false hp38)) ?_
        refine x_seq ?_
        refine x_start (b := false) ?_
        refine x_mv' (show _ = (V.bool false) from rfl) ?_
        refine x_done ?_
        refine x_tN ?_
        refine x_retc ?_
        refine x_tR ?_
        obtain rfl := Option.some.inj hD
        exact hR _ (ends_t (nf_of rfl (show _ = (V.bool false) from rfl)) (fun h => nomatch h))
    · rw [if_neg hp35] at hD
      refine x_gn (show _ = (V.bool (!(decide (p0.Note = p1.Note)))) from rfl) (bnot_f (decide_eq_false hp35)) ?_
      refine x_gn (show _ = (V.bool (!(decide (p0.Note = p1.Note)))) from rfl) (bnot_f (decide_eq_false hp35)) ?_
      refine x_gn (show _ = (V.bool (!(decide (p0.Note = p1.Note)))) from rfl) (bnot_f (decide_eq_false hp35)) ?_
      refine x_gn (show _ = (V.bool (!(decide (p0.Note = p1.Note)))) from rfl) (bnot_f (decide_eq_false hp35)) ?_
      refine x_gn (show _ = (V.bool (!(decide (p0.Note = p1.Note)))) from rfl) (bnot_f (decide_eq_false hp35)) ?_
      refine x_gn (show _ = (V.bool (!(decide (p0.Note = p1.Note)))) from rfl) (bnot_f (decide_eq_false hp35)) ?_
      refine x_gn (show _ = (V.bool (!(decide (p0.Note = p1.Note)))) from rfl) (bnot_f (decide_eq_false hp35)) ?_
      refine x_pickt' (show _ = (V.bool (!(decide (p0.Note = p1.Note)))) from rfl) (bnot_f (decide_eq_false hp35)) (show _ = (V.bool true) from rfl) ?_
      refine x_done ?_
      refine x_tN ?_
      refine x_ct (show _ = (V.bool true) from rfl) rfl ?_
      refine x_seq ?_
      refine x_start (b := false) ?_
      refine x_mv' (show _ = (V.bool false) from rfl) ?_
      refine x_done ?_
      refine x_tN ?_
      refine x_retc ?_
      refine x_tR ?_
      obtain rfl := Option.some.inj hD
      exact hR _ (ends_t (nf_of rfl (show _ = (V.bool false) from rfl)) (fun h => nomatch h))
  · rw [if_neg hp32] at hD
    refine x_gn (show _ = (V.bool (!(decide (p0.Root = p1.Root)))) from rfl) (bnot_f (decide_eq_false hp32)) ?_
    refine x_gn (show _ = (V.bool (!(decide (p0.Root = p1.Root)))) from rfl) (bnot_f (decide_eq_false hp32)) ?_
    refine x_gn (show _ = (V.bool (!(decide (p0.Root = p1.Root)))) from rfl) (bnot_f (decide_eq_false hp32)) ?_
    refine x_gn (show _ = (V.bool (!(decide (p0.Root = p1.Root)))) from rfl) (bnot_f (decide_eq_false hp32)) ?_
    refine x_gn (show _ = (V.bool (!(decide (p0.Root = p1.Root)))) from rfl) (bnot_f (decide_eq_false hp32)) ?_
    refine x_pickt' (show _ = (V.bool (!(decide (p0.Root = p1.Root)))) from rfl) (bnot_f (decide_eq_false hp32)) (show _ = (V.bool true) from rfl) ?_
    refine x_mv' (show _ = (V.bool true) from rfl) ?_
    refine x_gn (show _ = (V.bool true) from rfl) rfl ?_
    refine x_gn (show _ = (V.bool true) from rfl) rfl ?_
    refine x_gn (show _ = (V.bool true) from rfl) rfl ?_
    refine x_gn (show _ = (V.bool true) from rfl) rfl ?_
    refine x_gn (show _ = (V.bool true) from rfl) rfl ?_
    refine x_gn (show _ = (V.bool true) from rfl) rfl ?_
    refine x_gn (show _ = (V.bool true) from rfl) rfl ?_
    refine x_pickt' (show _ = (V.bool true) from rfl) rfl (show _ = (V.bool true) from rfl) ?_
    refine x_done ?_
    refine x_tN ?_
    refine x_ct (show _ = (V.bool true) from rfl) rfl ?_
    refine x_seq ?_
    refine x_start (b := false) ?_
    refine x_mv' (show _ = (V.bool false) from rfl) ?_
    refine x_done ?_
    refine x_tN ?_
    refine x_retc ?_
    refine x_tR ?_
    obtain rfl := Option.some.inj hD
    exact hR _ (ends_t (nf_of rfl (show _ = (V.bool false) from rfl)) (fun h => nomatch h))
def K.seicheref07_SameCommit : FC := fc F.seicheref07_SameCommit (fun _ => true) false (fun (a : (T.Commit × T.Commit)) => [(V.agg (C.Commit a.1)), (V.agg (C.Commit a.2))]) (fun (y : Bool) => (V.bool y)) (fun a => g.seicheref07_SameCommit a.1 a.2)
  (fun a => (cleanL_mk (E.Commit_clean _) (cleanL_mk (E.Commit_clean _) rfl)))
  (fun y => rfl)
  (fun ⟨a0, a1⟩ ⟨b0, b1⟩ h => by
    obtain ⟨h0, h⟩ := List.cons.inj h
    obtain rfl : a0 = b0 := E.Commit_inj h0
    obtain ⟨h0, h⟩ := List.cons.inj h
    obtain rfl : a1 = b1 := E.Commit_inj h0
    rfl)
theorem H.seicheref07_SameCommit (w : World) (_hw : EnvOK w) : K.seicheref07_SameCommit.Holds (cxD w) :=
  FC.holds_of (cs := []) (glD w) mixed cf_seicheref07_SameCommit (fun _ _ ⟨_, _, h, _⟩ => by subst h; exact Nat.le_of_ble_eq_true rfl) fun v y ⟨a, r, hv, hD, hy⟩ => by
    subst hy
    exact ok.seicheref07_SameCommit hv hD
def c_seichelaw07_greatCommit : ACode := (.seq (.region [
  ⟨(some 1), (.box (.tmp 0)), none, []⟩, 
  ⟨(some 2), (.mv (.const (.bool false))), none, []⟩] false) (.seq (.region [
  ⟨(some 3), (.faddr 32 (.tmp 1)), none, []⟩, 
  ⟨(some 4), (.load none (.tmp 3)), none, []⟩, 
  ⟨(some 5), (.len false (.tmp 4)), none, []⟩, 
  ⟨(some 6), (.bin .gtr .no (.tmp 5) (.const (.int .i64 60))), none, []⟩, 
  ⟨(some 7), (.mv (.tmp 6)), none, []⟩, 
  ⟨(some 8), (.faddr 33 (.tmp 1)), (some (7, false)), []⟩, 
  ⟨(some 9), (.load none (.tmp 8)), (some (7, false)), []⟩, 
  ⟨(some 10), (.len true (.tmp 9)), (some (7, false)), []⟩, 
  ⟨(some 11), (.bin .gtr .no (.tmp 10) (.const (.int .i64 1024))), (some (7, false)), []⟩, 
  ⟨(some 12), (.pick (.tmp 7) (.const (.bool true)) (.tmp 11)), none, []⟩, 
  ⟨(some 2), (.mv (.tmp 12)), none, []⟩] false) .ret))
theorem cf_seichelaw07_greatCommit : cFn Go.Proofs.Tryd.prog F.seichelaw07_greatCommit = some ⟨13, c_seichelaw07_greatCommit, [.t 2]⟩ := by kernel_rfl
def g.seichelaw07_greatCommit (p0 : T.Commit) : Option Bool :=
  if 60 < ((p0.Parents.length : Nat) : Int) then
    some true
  else
    some (decide (1024 < ((p0.Note.length : Nat) : Int)))
theorem ok.seichelaw07_greatCommit {Γ : Abs.Spec} {gl : Glob} {r : Bool} {p0 : T.Commit} {v : List V}
    (hv : nfL v = [(V.agg (C.Commit p0))]) (hD : g.seichelaw07_greatCommit p0 = some r) : awp Γ gl c_seichelaw07_greatCommit (endQ [.t 2] false (V.bool r)) (St.init v) := by
  obtain ⟨v0, v, rfl, h0, hv⟩ := nfL_cons hv
  obtain rfl := nfL_nil hv
  have hR : ∀ s, EndsX [.t 2] false (V.bool r) s → endQ [.t 2] false (V.bool r) .ret s := fun _ h => h
  unfold g.seichelaw07_greatCommit at hD
  unfold c_seichelaw07_greatCommit
  refine x_seq ?_
  refine x_start (b := false) ?_
  refine x_box (l := (C.Commit p0)) (cells_of rfl h0) (C.Commit_sc p0) fun csi2 i2 hidi2 hcsi2 hci2 => ?_
  refine x_mv' (show _ = (V.bool false) from rfl) ?_
  refine x_done ?_
  refine x_tN ?_
  refine x_seq ?_
  refine x_start (b := false) ?_
  refine x_faddr (show _ = (V.ptr i2 0) from rfl) ?_
  refine x_load (show _ = (V.ptr i2 32) from rfl) hci2 (ld_Commit_32_n p0) fun v3 hv3 => ?_
  refine x_len hv3 ?_
  refine x_bin (show _ = (V.int .i64 ((p0.Parents.length : Nat) : Int)) from rfl) (show _ = (V.int .i64 60) from rfl) b_gtr ?_
  refine x_mv' (show _ = (V.bool (decide (60 < ((p0.Parents.length : Nat) : Int)))) from rfl) ?_
  by_cases hp4 : 60 < ((p0.Parents.length : Nat) : Int)
  · rw [if_pos hp4] at hD
    refine x_gn (show _ = (V.bool (decide (60 < ((p0.Parents.length : Nat) : Int)))) from rfl) (decide_eq_true hp4) ?_
    refine x_gn (show _ = (V.bool (decide (60 < ((p0.Parents.length : Nat) : Int)))) from rfl) (decide_eq_true hp4) ?_
    refine x_gn (show _ = (V.bool (decide (60 < ((p0.Parents.length : Nat) : Int)))) from rfl) (decide_eq_true hp4) ?_
    refine x_gn (show _ = (V.bool (decide (60 < ((p0.Parents.length : Nat) : Int)))) from rfl) (decide_eq_true hp4) ?_
    refine x_pickt' (show _ = (V.bool (decide (60 < ((p0.Parents.length : Nat) : Int)))) from rfl) (decide_eq_true hp4) (show _ = (V.bool true) from rfl) ?_
    refine x_mv' (show _ = (V.bool true) from rfl) ?_
    refine x_done ?_
    refine x_tN ?_
    refine x_retc ?_
    obtain rfl := Option.some.inj hD
    exact hR _ (ends_t (nf_of rfl (show _ = (V.bool true) from rfl)) (fun h => nomatch h))
  · rw [if_neg hp4] at hD
    refine x_gy (show _ = (V.bool (decide (60 < ((p0.Parents.length : Nat) : Int)))) from rfl) (decide_eq_false hp4) ?_
    refine x_faddr (show _ = (V.ptr i2 0) from rfl) ?_
    refine x_gy (show _ = (V.bool (decide (60 < ((p0.Parents.length : Nat) : Int)))) from rfl) (decide_eq_false hp4) ?_
    refine x_load (show _ = (V.ptr i2 33) from rfl) hci2 (ld_Commit_33_n p0) fun v5 hv5 => ?_
    refine x_gy (show _ = (V.bool (decide (60 < ((p0.Parents.length : Nat) : Int)))) from rfl) (decide_eq_false hp4) ?_
    refine x_lens (nf_str hv5) ?_
    refine x_gy (show _ = (V.bool (decide (60 < ((p0.Parents.length : Nat) : Int)))) from rfl) (decide_eq_false hp4) ?_
    refine x_bin (show _ = (V.int .i64 ((p0.Note.length : Nat) : Int)) from rfl) (show _ = (V.int .i64 1024) from rfl) b_gtr ?_
    refine x_pickf' (show _ = (V.bool (decide (60 < ((p0.Parents.length : Nat) : Int)))) from rfl) (decide_eq_false hp4) (show _ = (V.bool (decide (1024 < ((p0.Note.length : Nat) : Int)))) from rfl) ?_
    refine x_mv' (show _ = (V.bool (decide (1024 < ((p0.Note.length : Nat) : Int)))) from rfl) ?_
    refine x_done ?_
    refine x_tN ?_
    refine x_retc ?_
    obtain rfl := Option.some.inj hD
    exact hR _ (ends_t (nf_of rfl (show _ = (V.bool (decide (1024 < ((p0.Note.length : Nat) : Int)))) from rfl)) (fun h => nomatch h))
def K.seichelaw07_greatCommit : FC := fc F.seichelaw07_greatCommit (fun _ => true) false (fun (a : T.Commit) => [(V.agg (C.Commit a))]) (fun (y : Bool) => (V.bool y)) (fun a => g.seichelaw07_greatCommit a)
  (fun a => (cleanL_mk (E.Commit_clean _) rfl))
  (fun y => rfl)
  (fun a0 b0 h => by
    obtain ⟨h0, h⟩ := List.cons.inj h
    obtain rfl : a0 = b0 := E.Commit_inj h0
    rfl)
theorem H.seichelaw07_greatCommit (w : World) (_hw : EnvOK w) : K.seichelaw07_greatCommit.Holds (cxD w) :=
  FC.holds_of (cs := []) (glD w) mixed cf_seichelaw07_greatCommit (fun _ _ ⟨_, _, h, _⟩ => by subst h; exact Nat.le_of_ble_eq_true rfl) fun v y ⟨a, r, hv, hD, hy⟩ => by
    subst hy
    exact ok.seichelaw07_greatCommit hv hD
def c_seichelaw07_ObjectCommits_j1 : ACode := (.seq (.region [
  ⟨(some 60), (.mv (.tmp 1)), none, []⟩, 
  ⟨(some 61), (.call F.object_GetCommit [(.tmp 60)]), none, []⟩, 
  ⟨(some 59), (.mv (.tmp 61)), none, []⟩, 
  ⟨(some 62), (.ext (.tmp 59) 0), none, []⟩, 
  ⟨(some 63), (.ext (.tmp 59) 1), none, []⟩, 
  ⟨(some 8), (.new [(.int .u8 0), (.int .u8 0), (.int .u8 0), (.int .u8 0), (.int .u8 0), (.int .u8 0), (.int .u8 0), (.int .u8 0), (.int .u8 0), (.int .u8 0), (.int .u8 0), (.int .u8 0), (.int .u8 0), (.int .u8 0), (.int .u8 0), (.int .u8 0), (.int .u8 0), (.int .u8 0), (.int .u8 0), (.int .u8 0), (.int .u8 0), (.int .u8 0), (.int .u8 0), (.int .u8 0), (.int .u8 0), (.int .u8 0), (.int .u8 0), (.int .u8 0), (.int .u8 0), (.int .u8 0), (.int .u8 0), (.int .u8 0), (.sl true 32 []), (.str [])]), none, []⟩, 
  ⟨none, (.store 34 (.tmp 8) (.tmp 62)), none, []⟩, 
  ⟨(some 9), (.mv (.tmp 63)), none, []⟩] false) (.seq (.region [
  ⟨(some 65), (.mv (.tmp 1)), none, []⟩, 
  ⟨(some 66), (.call F.seicheref07_GetCommit [(.tmp 65)]), none, []⟩, 
  ⟨(some 64), (.mv (.tmp 66)), none, []⟩, 
  ⟨(some 67), (.ext (.tmp 64) 0), none, []⟩, 
  ⟨(some 68), (.ext (.tmp 64) 1), none, []⟩, 
  ⟨(some 10), (.new [(.int .u8 0), (.int .u8 0), (.int .u8 0), (.int .u8 0), (.int .u8 0), (.int .u8 0), (.int .u8 0), (.int .u8 0), (.int .u8 0), (.int .u8 0), (.int .u8 0), (.int .u8 0), (.int .u8 0), (.int .u8 0), (.int .u8 0), (.int .u8 0), (.int .u8 0), (.int .u8 0), (.int .u8 0), (.int .u8 0), (.int .u8 0), (.int .u8 0), (.int .u8 0), (.int .u8 0), (.int .u8 0), (.int .u8 0), (.int .u8 0), (.int .u8 0), (.int .u8 0), (.int .u8 0), (.int .u8 0), (.int .u8 0), (.sl true 32 []), (.str [])]), none, []⟩, 
  ⟨none, (.store 34 (.tmp 10) (.tmp 67)), none, []⟩, 
  ⟨(some 11), (.mv (.tmp 68)), none, []⟩] false) (.seq (.region [
  ⟨(some 69), (.mv (.tmp 9)), none, []⟩, 
  ⟨(some 70), (.bin .eql .no (.tmp 69) (.const (.int .i64 0))), none, []⟩, 
  ⟨(some 71), (.mv (.tmp 11)), none, []⟩, 
  ⟨(some 72), (.bin .eql .bool (.tmp 70) (.tmp 71)), none, []⟩, 
  ⟨(some 73), (.mv (.tmp 72)), none, []⟩, 
  ⟨(some 74), (.load (some 34) (.tmp 8)), (some (73, true)), []⟩, 
  ⟨(some 75), (.load (some 34) (.tmp 10)), (some (73, true)), []⟩, 
  ⟨(some 76), (.call F.seicheref07_SameCommit [(.tmp 74), (.tmp 75)]), (some (73, true)), []⟩, 
  ⟨(some 77), (.pick (.tmp 73) (.tmp 76) (.const (.bool false))), none, []⟩, 
  ⟨(some 78), (.mv (.tmp 77)), none, []⟩, 
  ⟨(some 79), (.mv (.tmp 11)), (some (78, true)), []⟩, 
  ⟨(some 80), (.mv (.tmp 79)), (some (78, true)), []⟩, 
  ⟨(some 81), (.mv (.tmp 9)), (some (80, false)), []⟩, 
  ⟨(some 82), (.bin .eql .no (.tmp 81) (.const (.int .i64 4))), (some (80, false)), []⟩, 
  ⟨(some 83), (.pick (.tmp 80) (.const (.bool true)) (.tmp 82)), (some (78, true)), []⟩, 
  ⟨(some 84), (.pick (.tmp 78) (.tmp 83) (.const (.bool false))), none, []⟩, 
  ⟨(some 4), (.mv (.tmp 84)), none, []⟩] false) .ret)))
def c_seichelaw07_ObjectCommits : ACode := (.seq (.region [
  ⟨(some 2), (.box (.tmp 0)), none, []⟩, 
  ⟨(some 4), (.mv (.const (.bool false))), none, []⟩] false) (.seq (.seq (.region [
  ⟨(some 12), (.call F.seichelaw07_alive []), none, []⟩, 
  ⟨(some 13), (.un .not (.tmp 12)), none, []⟩] false) (.cond (.tmp 13) (.seq (.region [
  ⟨(some 4), (.mv (.const (.bool false))), none, []⟩] false) .ret) .skip)) (.seq (.seq (.region [
  ⟨(some 14), (.load (some 34) (.tmp 2)), none, []⟩, 
  ⟨(some 15), (.call F.seichelaw07_greatCommit [(.tmp 14)]), none, []⟩, 
  ⟨(some 16), (.mv (.tmp 15)), none, []⟩, 
  ⟨(some 17), (.mv (.tmp 1)), (some (16, false)), []⟩, 
  ⟨(some 18), (.len true (.tmp 17)), (some (16, false)), []⟩, 
  ⟨(some 19), (.bin .gtr .no (.tmp 18) (.const (.int .i64 4096))), (some (16, false)), []⟩, 
  ⟨(some 20), (.pick (.tmp 16) (.const (.bool true)) (.tmp 19)), none, []⟩] false) (.cond (.tmp 20) (.seq (.region [
  ⟨(some 4), (.mv (.const (.bool true))), none, []⟩] false) .ret) .skip)) (.seq (.region [
  ⟨(some 22), (.load (some 34) (.tmp 2)), none, []⟩, 
  ⟨(some 23), (.call F.object_PutCommit [(.tmp 22)]), none, []⟩, 
  ⟨(some 21), (.mv (.tmp 23)), none, []⟩, 
  ⟨(some 24), (.ext (.tmp 21) 0), none, []⟩, 
  ⟨(some 25), (.ext (.tmp 21) 1), none, []⟩, 
  ⟨(some 5), (.mv (.tmp 24)), none, []⟩, 
  ⟨(some 6), (.mv (.tmp 25)), none, []⟩] false) (.seq (.region [
  ⟨(some 26), (.load (some 34) (.tmp 2)), none, []⟩, 
  ⟨(some 27), (.call F.seicheref07_GoodCommit [(.tmp 26)]), none, []⟩, 
  ⟨(some 7), (.mv (.tmp 27)), none, []⟩] false) (.seq (.seq (.region [
  ⟨(some 28), (.load (some 34) (.tmp 2)), none, []⟩, 
  ⟨(some 29), (.call F.object_GoodCommit [(.tmp 28)]), none, []⟩, 
  ⟨(some 30), (.mv (.tmp 7)), none, []⟩, 
  ⟨(some 31), (.bin .neq .bool (.tmp 29) (.tmp 30)), none, []⟩, 
  ⟨(some 32), (.mv (.tmp 31)), none, []⟩, 
  ⟨(some 33), (.mv (.tmp 6)), (some (32, false)), []⟩, 
  ⟨(some 34), (.bin .eql .no (.tmp 33) (.const (.int .i64 0))), (some (32, false)), []⟩, 
  ⟨(some 35), (.mv (.tmp 7)), (some (32, false)), []⟩, 
  ⟨(some 36), (.bin .neq .bool (.tmp 34) (.tmp 35)), (some (32, false)), []⟩, 
  ⟨(some 37), (.pick (.tmp 32) (.const (.bool true)) (.tmp 36)), none, []⟩, 
  ⟨(some 38), (.mv (.tmp 37)), none, []⟩, 
  ⟨(some 39), (.mv (.tmp 7)), (some (38, false)), []⟩, 
  ⟨(some 40), (.mv (.tmp 39)), (some (38, false)), []⟩, 
  ⟨(some 41), (.mv (.tmp 5)), (some (40, true)), []⟩, 
  ⟨(some 42), (.load (some 34) (.tmp 2)), (some (40, true)), []⟩, 
  ⟨(some 43), (.call F.seicheref07_Commit [(.tmp 42)]), (some (40, true)), []⟩, 
  ⟨(some 44), (.bin .neq .no (.tmp 41) (.tmp 43)), (some (40, true)), []⟩, 
  ⟨(some 45), (.pick (.tmp 40) (.tmp 44) (.const (.bool false))), (some (38, false)), []⟩, 
  ⟨(some 46), (.pick (.tmp 38) (.const (.bool true)) (.tmp 45)), none, []⟩, 
  ⟨(some 47), (.mv (.tmp 46)), none, []⟩, 
  ⟨(some 48), (.mv (.tmp 7)), (some (47, false)), []⟩, 
  ⟨(some 49), (.un .not (.tmp 48)), (some (47, false)), []⟩, 
  ⟨(some 50), (.mv (.tmp 49)), (some (47, false)), []⟩, 
  ⟨(some 51), (.mv (.tmp 6)), (some (50, true)), []⟩, 
  ⟨(some 52), (.bin .neq .no (.tmp 51) (.const (.int .i64 1))), (some (50, true)), []⟩, 
  ⟨(some 53), (.mv (.tmp 52)), (some (50, true)), []⟩, 
  ⟨(some 54), (.mv (.tmp 5)), (some (53, false)), []⟩, 
  ⟨(some 55), (.bin .neq .no (.tmp 54) (.const (.str []))), (some (53, false)), []⟩, 
  ⟨(some 56), (.pick (.tmp 53) (.const (.bool true)) (.tmp 55)), (some (50, true)), []⟩, 
  ⟨(some 57), (.pick (.tmp 50) (.tmp 56) (.const (.bool false))), (some (47, false)), []⟩, 
  ⟨(some 58), (.pick (.tmp 47) (.const (.bool true)) (.tmp 57)), none, []⟩] false) (.cond (.tmp 58) (.seq (.region [
  ⟨(some 4), (.mv (.const (.bool false))), none, []⟩] false) .ret) .skip)) c_seichelaw07_ObjectCommits_j1))))))
theorem cf_seichelaw07_ObjectCommits : cFn Go.Proofs.Tryd.prog F.seichelaw07_ObjectCommits = some ⟨85, c_seichelaw07_ObjectCommits, [.t 4]⟩ := by kernel_rfl
def L.seichelaw07_ObjectCommits_j1 (t1_91 : Bytes) : Option Bool :=
  (g.object_GetCommit t1_91).bind fun r101 =>
  (g.seicheref07_GetCommit t1_91).bind fun r117 =>
  if ((decide (r101.2 = 0)) == r117.2) = true then
    (g.seicheref07_SameCommit r101.1 r117.1).bind fun r128 =>
    if r128 = true then
      if r117.2 = true then
        some true
      else
        some (decide (r101.2 = 4))
    else
      some false
  else
    some false
theorem ok.seichelaw07_ObjectCommits_j1 {Γ : Abs.Spec} {gl : Glob} (hC_seichelaw07_alive : CallsX Γ K.seichelaw07_alive) (hC_seichelaw07_greatCommit : CallsX Γ K.seichelaw07_greatCommit) (hC_object_PutCommit : CallsX Γ K.object_PutCommit) (hC_seicheref07_GoodCommit : CallsX Γ K.seicheref07_GoodCommit) (hC_object_GoodCommit : CallsX Γ K.object_GoodCommit) (hC_seicheref07_Commit : CallsX Γ K.seicheref07_Commit) (hC_object_GetCommit : CallsX Γ K.object_GetCommit) (hC_seicheref07_GetCommit : CallsX Γ K.seicheref07_GetCommit) (hC_seicheref07_SameCommit : CallsX Γ K.seicheref07_SameCommit) {Q : Ex → St → Prop} {r : Bool}
    (hR : ∀ s, EndsX [.t 4] false (V.bool r) s → Q .ret s)
    {s : St} {t1_91 : Bytes} (h90 : s.tm 1 = (V.str t1_91))
    (hD : L.seichelaw07_ObjectCommits_j1 t1_91 = some r) : awp Γ gl c_seichelaw07_ObjectCommits_j1 Q s := by
  unfold L.seichelaw07_ObjectCommits_j1 at hD
  refine x_seq ?_
  refine x_start (b := false) ?_
  refine x_mv' h90 ?_
  obtain ⟨r101, hx102, hD⟩ := Option.bind_eq_some_iff.1 hD
  refine x_callF hC_object_GetCommit (a := (t1_91)) (cons_eq (nf_of rfl (show _ = (V.str t1_91) from rfl)) rfl) hx102 fun v100 ov100 (hv100 : v100.nf = (V.tup [(V.agg (C.Commit r101.1)), (V.int .i64 r101.2)])) hov100 => ?_
  refine x_mv hv100 fun v103 hv103 => ?_
  refine x_ext hv103 (show _ = some (V.agg (C.Commit r101.1)) from rfl) fun v104 hv104 => ?_
  refine x_ext hv103 (show _ = some (V.int .i64 r101.2) from rfl) fun v105 hv105 => ?_
  refine x_new (l := (C.Commit ({ Root := (Arr.zero 32), Parents := [], Note := [] } : T.Commit))) (by kernel_rfl) fun i106 hidi106 hci106 => ?_
  refine x_store (ws := (C.Commit r101.1)) (l' := (C.Commit r101.1)) (show _ = (V.ptr i106 0) from rfl) hci106 (cells_of rfl hv104) ⟨(C.Commit_len r101.1), (C.Commit_sc r101.1), le_len (C.Commit_len ({ Root := (Arr.zero 32), Parents := [], Note := [] } : T.Commit)) (by decide)⟩ (setAt_full (Eq.trans (C.Commit_len r101.1) (Eq.symm (C.Commit_len ({ Root := (Arr.zero 32), Parents := [], Note := [] } : T.Commit))))) fun csv107 ysv107 hcsv107 hnv107 hcv107 hsv107 => ?_
  refine x_mv' (nf_int hv105) ?_
  refine x_done ?_
  refine x_tN ?_
  refine x_seq ?_
  refine x_start (b := false) ?_
  refine x_mv' h90 ?_
  obtain ⟨r117, hx118, hD⟩ := Option.bind_eq_some_iff.1 hD
  refine x_callF hC_seicheref07_GetCommit (a := (t1_91)) (cons_eq (nf_of rfl (show _ = (V.str t1_91) from rfl)) rfl) hx118 fun v116 ov116 (hv116 : v116.nf = (V.tup [(V.agg (C.Commit r117.1)), (V.bool r117.2)])) hov116 => ?_
  refine x_mv hv116 fun v119 hv119 => ?_
  refine x_ext hv119 (show _ = some (V.agg (C.Commit r117.1)) from rfl) fun v120 hv120 => ?_
  refine x_ext hv119 (show _ = some (V.bool r117.2) from rfl) fun v121 hv121 => ?_
  refine x_new (l := (C.Commit ({ Root := (Arr.zero 32), Parents := [], Note := [] } : T.Commit))) (by kernel_rfl) fun i122 hidi122 hci122 => ?_
  refine x_store (ws := (C.Commit r117.1)) (l' := (C.Commit r117.1)) (show _ = (V.ptr i122 0) from rfl) hci122 (cells_of rfl hv120) ⟨(C.Commit_len r117.1), (C.Commit_sc r117.1), le_len (C.Commit_len ({ Root := (Arr.zero 32), Parents := [], Note := [] } : T.Commit)) (by decide)⟩ (setAt_full (Eq.trans (C.Commit_len r117.1) (Eq.symm (C.Commit_len ({ Root := (Arr.zero 32), Parents := [], Note := [] } : T.Commit))))) fun csv123 ysv123 hcsv123 hnv123 hcv123 hsv123 => ?_
  refine x_mv' (nf_bool hv121) ?_
  refine x_done ?_
  refine x_tN ?_
  refine x_seq ?_
  refine x_start (b := false) ?_
  refine x_mv' (show _ = (V.int .i64 r101.2) from rfl) ?_
  refine x_bin (show _ = (V.int .i64 r101.2) from rfl) (show _ = (V.int .i64 0) from rfl) b_eql ?_
  refine x_mv' (show _ = (V.bool r117.2) from rfl) ?_
  refine x_bin (show _ = (V.bool (decide (r101.2 = 0))) from rfl) (show _ = (V.bool r117.2) from rfl) bool_eql ?_
  refine x_mv' (show _ = (V.bool ((decide (r101.2 = 0)) == r117.2)) from rfl) ?_
  by_cases hp124 : ((decide (r101.2 = 0)) == r117.2) = true
  · rw [if_pos hp124] at hD
    refine x_gy (show _ = (V.bool ((decide (r101.2 = 0)) == r117.2)) from rfl) hp124 ?_
    refine x_load (show _ = (V.ptr i106 0) from rfl) (cells_setOb (Nat.ne_of_lt (Nat.lt_of_lt_of_eq (Nat.lt_succ_of_le (Nat.le_of_eq hidi106)) hidi122.symm)) (cells_new (Nat.lt_succ_of_le (Nat.le_of_eq hidi106)) hcv107)) (ld_Commit_0_34 r101.1) fun v125 hv125 => ?_
    refine x_gy (show _ = (V.bool ((decide (r101.2 = 0)) == r117.2)) from rfl) hp124 ?_
    refine x_load (show _ = (V.ptr i122 0) from rfl) hcv123 (ld_Commit_0_34 r117.1) fun v126 hv126 => ?_
    refine x_gy (show _ = (V.bool ((decide (r101.2 = 0)) == r117.2)) from rfl) hp124 ?_
    obtain ⟨r128, hx129, hD⟩ := Option.bind_eq_some_iff.1 hD
    refine x_callF hC_seicheref07_SameCommit (a := (r101.1, r117.1)) (cons_eq hv125 (cons_eq hv126 rfl)) hx129 fun v127 ov127 (hv127 : v127.nf = (V.bool r128)) hov127 => ?_
    refine x_pickt' (show _ = (V.bool ((decide (r101.2 = 0)) == r117.2)) from rfl) hp124 (nf_bool hv127) ?_
    refine x_mv' (show _ = (V.bool r128) from rfl) ?_
    by_cases hp130 : r128 = true
    · rw [if_pos hp130] at hD
      refine x_gy (show _ = (V.bool r128) from rfl) hp130 ?_
      refine x_mv' (show _ = (V.bool r117.2) from rfl) ?_
      refine x_gy (show _ = (V.bool r128) from rfl) hp130 ?_
      refine x_mv' (show _ = (V.bool r117.2) from rfl) ?_
      by_cases hp131 : r117.2 = true
      · rw [if_pos hp131] at hD
        refine x_gn (show _ = (V.bool r117.2) from rfl) hp131 ?_
        refine x_gn (show _ = (V.bool r117.2) from rfl) hp131 ?_
        refine x_gy (show _ = (V.bool r128) from rfl) hp130 ?_
        refine x_pickt' (show _ = (V.bool r117.2) from rfl) hp131 (show _ = (V.bool true) from rfl) ?_
        refine x_pickt' (show _ = (V.bool r128) from rfl) hp130 (show _ = (V.bool true) from rfl) ?_
        refine x_mv' (show _ = (V.bool true) from rfl) ?_
        refine x_done ?_
        refine x_tN ?_
        refine x_retc ?_
        obtain rfl := Option.some.inj hD
        exact hR _ (ends_t (nf_of rfl (show _ = (V.bool true) from rfl)) (fun h => nomatch h))
      · rw [if_neg hp131] at hD
        refine x_gy (show _ = (V.bool r117.2) from rfl) (Bool.eq_false_iff.2 hp131) ?_
        refine x_mv' (show _ = (V.int .i64 r101.2) from rfl) ?_
        refine x_gy (show _ = (V.bool r117.2) from rfl) (Bool.eq_false_iff.2 hp131) ?_
        refine x_bin (show _ = (V.int .i64 r101.2) from rfl) (show _ = (V.int .i64 4) from rfl) b_eql ?_
        refine x_gy (show _ = (V.bool r128) from rfl) hp130 ?_
        refine x_pickf' (show _ = (V.bool r117.2) from rfl) (Bool.eq_false_iff.2 hp131) (show _ = (V.bool (decide (r101.2 = 4))) from rfl) ?_
        refine x_pickt' (show _ = (V.bool r128) from rfl) hp130 (show _ = (V.bool (decide (r101.2 = 4))) from rfl) ?_
        refine x_mv' (show _ = (V.bool (decide (r101.2 = 4))) from rfl) ?_
        refine x_done ?_
        refine x_tN ?_
        refine x_retc ?_
        obtain rfl := Option.some.inj hD
        exact hR _ (ends_t (nf_of rfl (show _ = (V.bool (decide (r101.2 = 4))) from rfl)) (fun h => nomatch h))
    · rw [if_neg hp130] at hD
      refine x_gn (show _ = (V.bool r128) from rfl) (Bool.eq_false_iff.2 hp130) ?_
      refine x_gn (show _ = (V.bool r128) from rfl) (Bool.eq_false_iff.2 hp130) ?_
      refine x_gnil (show _ = Nil from rfl) ?_
      refine x_gnil (show _ = Nil from rfl) ?_
      refine x_gn (show _ = (V.bool r128) from rfl) (Bool.eq_false_iff.2 hp130) ?_
      refine x_pickf' (show _ = (V.bool r128) from rfl) (Bool.eq_false_iff.2 hp130) (show _ = (V.bool false) from rfl) ?_
      refine x_mv' (show _ = (V.bool false) from rfl) ?_
      refine x_done ?_
      refine x_tN ?_
      refine x_retc ?_
      obtain rfl := Option.some.inj hD
      exact hR _ (ends_t (nf_of rfl (show _ = (V.bool false) from rfl)) (fun h => nomatch h))
  · rw [if_neg hp124] at hD
    refine x_gn (show _ = (V.bool ((decide (r101.2 = 0)) == r117.2)) from rfl) (Bool.eq_false_iff.2 hp124) ?_
    refine x_gn (show _ = (V.bool ((decide (r101.2 = 0)) == r117.2)) from rfl) (Bool.eq_false_iff.2 hp124) ?_
    refine x_gn (show _ = (V.bool ((decide (r101.2 = 0)) == r117.2)) from rfl) (Bool.eq_false_iff.2 hp124) ?_
    refine x_pickf' (show _ = (V.bool ((decide (r101.2 = 0)) == r117.2)) from rfl) (Bool.eq_false_iff.2 hp124) (show _ = (V.bool false) from rfl) ?_
    refine x_mv' (show _ = (V.bool false) from rfl) ?_
    refine x_gn (show _ = (V.bool false) from rfl) rfl ?_
    refine x_gn (show _ = (V.bool false) from rfl) rfl ?_
    refine x_gnil (show _ = Nil from rfl) ?_
    refine x_gnil (show _ = Nil from rfl) ?_
    refine x_gn (show _ = (V.bool false) from rfl) rfl ?_
    refine x_pickf' (show _ = (V.bool false) from rfl) rfl (show _ = (V.bool false) from rfl) ?_
    refine x_mv' (show _ = (V.bool false) from rfl) ?_
    refine x_done ?_
    refine x_tN ?_
    refine x_retc ?_
    obtain rfl := Option.some.inj hD
    exact hR _ (ends_t (nf_of rfl (show _ = (V.bool false) from rfl)) (fun h => nomatch h))
def g.seichelaw07_ObjectCommits (p0 : T.Commit) (p1 : Bytes) : Option Bool :=
  (g.seichelaw07_alive).bind fun r14 =>
  if r14 = true then
    (g.seichelaw07_greatCommit p0).bind fun r35 =>
    if r35 = true then
      some true
    else
      if 4096 < ((p1.length : Nat) : Int) then
        some true
      else
        (g.object_PutCommit p0).bind fun r48 =>
        (g.seicheref07_GoodCommit p0).bind fun r59 =>
        (g.object_GoodCommit p0).bind fun r147 =>
        if (r147 == r59) = true then
          if ((decide (r48.2 = 0)) == r59) = true then
            if r59 = true then
              (g.seicheref07_Commit p0).bind fun r154 =>
              if r48.1 = r154 then
                L.seichelaw07_ObjectCommits_j1 p1
              else
                some false
            else
              if r48.2 = 1 then
                if r48.1 = ([] : Bytes) then
                  L.seichelaw07_ObjectCommits_j1 p1
                else
                  some false
              else
                some false
          else
            some false
        else
          some false
  else
    some false
theorem ok.seichelaw07_ObjectCommits {Γ : Abs.Spec} {gl : Glob} (hC_seichelaw07_alive : CallsX Γ K.seichelaw07_alive) (hC_seichelaw07_greatCommit : CallsX Γ K.seichelaw07_greatCommit) (hC_object_PutCommit : CallsX Γ K.object_PutCommit) (hC_seicheref07_GoodCommit : CallsX Γ K.seicheref07_GoodCommit) (hC_object_GoodCommit : CallsX Γ K.object_GoodCommit) (hC_seicheref07_Commit : CallsX Γ K.seicheref07_Commit) (hC_object_GetCommit : CallsX Γ K.object_GetCommit) (hC_seicheref07_GetCommit : CallsX Γ K.seicheref07_GetCommit) (hC_seicheref07_SameCommit : CallsX Γ K.seicheref07_SameCommit) {r : Bool} {p0 : T.Commit} {p1 : Bytes} {v : List V}
    (hv : nfL v = [(V.agg (C.Commit p0)), (V.str p1)]) (hD : g.seichelaw07_ObjectCommits p0 p1 = some r) : awp Γ gl c_seichelaw07_ObjectCommits (endQ [.t 4] false (V.bool r)) (St.init v) := by
  obtain ⟨v0, v, rfl, h0, hv⟩ := nfL_cons hv
  obtain ⟨v1, v, rfl, h1, hv⟩ := nfL_cons hv
  obtain rfl := nfL_nil hv
  have hR : ∀ s, EndsX [.t 4] false (V.bool r) s → endQ [.t 4] false (V.bool r) .ret s := fun _ h => h
  unfold g.seichelaw07_ObjectCommits at hD
  unfold c_seichelaw07_ObjectCommits
  refine x_seq ?_
  refine x_start (b := false) ?_
  refine x_box (l := (C.Commit p0)) (cells_of rfl h0) (C.Commit_sc p0) fun csi2 i2 hidi2 hcsi2 hci2 => ?_
  refine x_mv' (show _ = (V.bool false) from rfl) ?_
  refine x_done ?_
  refine x_tN ?_
  refine x_seq ?_
  refine x_seq ?_
  refine x_start (b := false) ?_
  obtain ⟨r14, hx15, hD⟩ := Option.bind_eq_some_iff.1 hD
  refine x_callF hC_seichelaw07_alive (a := ()) rfl hx15 fun v13 ov13 (hv13 : v13.nf = (V.bool r14)) hov13 => ?_
  refine x_un (nf_bool hv13) (aun_not _) ?_
  refine x_done ?_
  refine x_tN ?_
  by_cases hp16 : r14 = true
  · rw [if_pos hp16] at hD
    refine x_cf (show _ = (V.bool (!r14)) from rfl) (bnot_t hp16) ?_
    refine x_skip ?_
    refine x_tN ?_
    refine x_seq ?_
    refine x_seq ?_
    refine x_start (b := false) ?_
    refine x_load (show _ = (V.ptr i2 0) from rfl) hci2 (ld_Commit_0_34 p0) fun v33 hv33 => ?_
    obtain ⟨r35, hx36, hD⟩ := Option.bind_eq_some_iff.1 hD
    refine x_callF hC_seichelaw07_greatCommit (a := (p0)) (cons_eq hv33 rfl) hx36 fun v34 ov34 (hv34 : v34.nf = (V.bool r35)) hov34 => ?_
    refine x_mv' (nf_bool hv34) ?_
    by_cases hp37 : r35 = true
    · rw [if_pos hp37] at hD
      refine x_gn (show _ = (V.bool r35) from rfl) hp37 ?_
      refine x_gn (show _ = (V.bool r35) from rfl) hp37 ?_
      refine x_gn (show _ = (V.bool r35) from rfl) hp37 ?_
      refine x_pickt' (show _ = (V.bool r35) from rfl) hp37 (show _ = (V.bool true) from rfl) ?_
      refine x_done ?_
      refine x_tN ?_
      refine x_ct (show _ = (V.bool true) from rfl) rfl ?_
      refine x_seq ?_
      refine x_start (b := false) ?_
      refine x_mv' (show _ = (V.bool true) from rfl) ?_
      refine x_done ?_
      refine x_tN ?_
      refine x_retc ?_
      refine x_tR ?_
      obtain rfl := Option.some.inj hD
      exact hR _ (ends_t (nf_of rfl (show _ = (V.bool true) from rfl)) (fun h => nomatch h))
    · rw [if_neg hp37] at hD
      refine x_gy (show _ = (V.bool r35) from rfl) (Bool.eq_false_iff.2 hp37) ?_
      refine x_mv' (nf_str h1) ?_
      refine x_gy (show _ = (V.bool r35) from rfl) (Bool.eq_false_iff.2 hp37) ?_
      refine x_lens (show _ = (V.str p1) from rfl) ?_
      refine x_gy (show _ = (V.bool r35) from rfl) (Bool.eq_false_iff.2 hp37) ?_
      refine x_bin (show _ = (V.int .i64 ((p1.length : Nat) : Int)) from rfl) (show _ = (V.int .i64 4096) from rfl) b_gtr ?_
      refine x_pickf' (show _ = (V.bool r35) from rfl) (Bool.eq_false_iff.2 hp37) (show _ = (V.bool (decide (4096 < ((p1.length : Nat) : Int)))) from rfl) ?_
      refine x_done ?_
      refine x_tN ?_
      by_cases hp38 : 4096 < ((p1.length : Nat) : Int)
      · rw [if_pos hp38] at hD
        refine x_ct (show _ = (V.bool (decide (4096 < ((p1.length : Nat) : Int)))) from rfl) (decide_eq_true hp38) ?_
        refine x_seq ?_
        refine x_start (b := false) ?_
        refine x_mv' (show _ = (V.bool true) from rfl) ?_
        refine x_done ?_
        refine x_tN ?_
        refine x_retc ?_
        refine x_tR ?_
        obtain rfl := Option.some.inj hD
        exact hR _ (ends_t (nf_of rfl (show _ = (V.bool true) from rfl)) (fun h => nomatch h))
      · rw [if_neg hp38] at hD
        refine x_cf (show _ = (V.bool (decide (4096 < ((p1.length : Nat) : Int)))) from rfl) (decide_eq_false hp38) ?_
        refine x_skip ?_
        refine x_tN ?_
        refine x_seq ?_
        refine x_start (b := false) ?_
        refine x_load (show _ = (V.ptr i2 0) from rfl) hci2 (ld_Commit_0_34 p0) fun v46 hv46 => ?_
        obtain ⟨r48, hx49, hD⟩ := Option.bind_eq_some_iff.1 hD
        refine x_callF hC_object_PutCommit (a := (p0)) (cons_eq hv46 rfl) hx49 fun v47 ov47 (hv47 : v47.nf = (V.tup [(V.str r48.1), (V.int .i64 r48.2)])) hov47 => ?_
        refine x_mv hv47 fun v50 hv50 => ?_
        refine x_ext hv50 (show _ = some (V.str r48.1) from rfl) fun v51 hv51 => ?_
        refine x_ext hv50 (show _ = some (V.int .i64 r48.2) from rfl) fun v52 hv52 => ?_
        refine x_mv' (nf_str hv51) ?_
        refine x_mv' (nf_int hv52) ?_
        refine x_done ?_
        refine x_tN ?_
        refine x_seq ?_
        refine x_start (b := false) ?_
        refine x_load (show _ = (V.ptr i2 0) from rfl) hci2 (ld_Commit_0_34 p0) fun v57 hv57 => ?_
        obtain ⟨r59, hx60, hD⟩ := Option.bind_eq_some_iff.1 hD
        refine x_callF hC_seicheref07_GoodCommit (a := (p0)) (cons_eq hv57 rfl) hx60 fun v58 ov58 (hv58 : v58.nf = (V.bool r59)) hov58 => ?_
        refine x_mv' (nf_bool hv58) ?_
        refine x_done ?_
        refine x_tN ?_
        refine x_seq ?_
        refine x_seq ?_
        refine x_start (b := false) ?_
        refine x_load (show _ = (V.ptr i2 0) from rfl) hci2 (ld_Commit_0_34 p0) fun v145 hv145 => ?_
        obtain ⟨r147, hx148, hD⟩ := Option.bind_eq_some_iff.1 hD
        refine x_callF hC_object_GoodCommit (a := (p0)) (cons_eq hv145 rfl) hx148 fun v146 ov146 (hv146 : v146.nf = (V.bool r147)) hov146 => ?_
        refine x_mv' (show _ = (V.bool r59) from rfl) ?_
        refine x_bin (nf_bool hv146) (show _ = (V.bool r59) from rfl) bool_neq ?_
        refine x_mv' (show _ = (V.bool (!(r147 == r59))) from rfl) ?_
        by_cases hp149 : (r147 == r59) = true
        · rw [if_pos hp149] at hD
          refine x_gy (show _ = (V.bool (!(r147 == r59))) from rfl) (bnot_t hp149) ?_
          refine x_mv' (show _ = (V.int .i64 r48.2) from rfl) ?_
          refine x_gy (show _ = (V.bool (!(r147 == r59))) from rfl) (bnot_t hp149) ?_
          refine x_bin (show _ = (V.int .i64 r48.2) from rfl) (show _ = (V.int .i64 0) from rfl) b_eql ?_
          refine x_gy (show _ = (V.bool (!(r147 == r59))) from rfl) (bnot_t hp149) ?_
          refine x_mv' (show _ = (V.bool r59) from rfl) ?_
          refine x_gy (show _ = (V.bool (!(r147 == r59))) from rfl) (bnot_t hp149) ?_
          refine x_bin (show _ = (V.bool (decide (r48.2 = 0))) from rfl) (show _ = (V.bool r59) from rfl) bool_neq ?_
          refine x_pickf' (show _ = (V.bool (!(r147 == r59))) from rfl) (bnot_t hp149) (show _ = (V.bool (!((decide (r48.2 = 0)) == r59))) from rfl) ?_
          refine x_mv' (show _ = (V.bool (!((decide (r48.2 = 0)) == r59))) from rfl) ?_
          by_cases hp150 : ((decide (r48.2 = 0)) == r59) = true
          · rw [if_pos hp150] at hD
            refine x_gy (show _ = (V.bool (!((decide (r48.2 = 0)) == r59))) from rfl) (bnot_t hp150) ?_
            refine x_mv' (show _ = (V.bool r59) from rfl) ?_
            refine x_gy (show _ = (V.bool (!((decide (r48.2 = 0)) == r59))) from rfl) (bnot_t hp150) ?_
            refine x_mv' (show _ = (V.bool r59) from rfl) ?_
            by_cases hp151 : r59 = true
            · rw [if_pos hp151] at hD
              refine x_gy (show _ = (V.bool r59) from rfl) hp151 ?_
              refine x_mv' (show _ = (V.str r48.1) from rfl) ?_
              refine x_gy (show _ = (V.bool r59) from rfl) hp151 ?_
              refine x_load (show _ = (V.ptr i2 0) from rfl) hci2 (ld_Commit_0_34 p0) fun v152 hv152 => ?_
              refine x_gy (show _ = (V.bool r59) from rfl) hp151 ?_
              obtain ⟨r154, hx155, hD⟩ := Option.bind_eq_some_iff.1 hD
              refine x_callF hC_seicheref07_Commit (a := (p0)) (cons_eq hv152 rfl) hx155 fun v153 ov153 (hv153 : v153.nf = (V.str r154)) hov153 => ?_
              refine x_gy (show _ = (V.bool r59) from rfl) hp151 ?_
              refine x_bin (show _ = (V.str r48.1) from rfl) (nf_str hv153) s_neq ?_
              refine x_gy (show _ = (V.bool (!((decide (r48.2 = 0)) == r59))) from rfl) (bnot_t hp150) ?_
              refine x_pickt' (show _ = (V.bool r59) from rfl) hp151 (show _ = (V.bool (!(decide (r48.1 = r154)))) from rfl) ?_
              refine x_pickf' (show _ = (V.bool (!((decide (r48.2 = 0)) == r59))) from rfl) (bnot_t hp150) (show _ = (V.bool (!(decide (r48.1 = r154)))) from rfl) ?_
              refine x_mv' (show _ = (V.bool (!(decide (r48.1 = r154)))) from rfl) ?_
              by_cases hp156 : r48.1 = r154
              · rw [if_pos hp156] at hD
                refine x_gy (show _ = (V.bool (!(decide (r48.1 = r154)))) from rfl) (bnot_t (decide_eq_true hp156)) ?_
                refine x_mv' (show _ = (V.bool r59) from rfl) ?_
                refine x_gy (show _ = (V.bool (!(decide (r48.1 = r154)))) from rfl) (bnot_t (decide_eq_true hp156)) ?_
                refine x_un (show _ = (V.bool r59) from rfl) (aun_not _) ?_
                refine x_gy (show _ = (V.bool (!(decide (r48.1 = r154)))) from rfl) (bnot_t (decide_eq_true hp156)) ?_
                refine x_mv' (show _ = (V.bool (!r59)) from rfl) ?_
                refine x_gn (show _ = (V.bool (!r59)) from rfl) (bnot_t hp151) ?_
                refine x_gn (show _ = (V.bool (!r59)) from rfl) (bnot_t hp151) ?_
                refine x_gn (show _ = (V.bool (!r59)) from rfl) (bnot_t hp151) ?_
                refine x_gnil (show _ = Nil from rfl) ?_
                refine x_gnil (show _ = Nil from rfl) ?_
                refine x_gn (show _ = (V.bool (!r59)) from rfl) (bnot_t hp151) ?_
                refine x_gy (show _ = (V.bool (!(decide (r48.1 = r154)))) from rfl) (bnot_t (decide_eq_true hp156)) ?_
                refine x_pickf' (show _ = (V.bool (!r59)) from rfl) (bnot_t hp151) (show _ = (V.bool false) from rfl) ?_
                refine x_pickf' (show _ = (V.bool (!(decide (r48.1 = r154)))) from rfl) (bnot_t (decide_eq_true hp156)) (show _ = (V.bool false) from rfl) ?_
                refine x_done ?_
                refine x_tN ?_
                refine x_cf (show _ = (V.bool false) from rfl) rfl ?_
                refine x_skip ?_
                refine x_tN ?_
                refine ok.seichelaw07_ObjectCommits_j1 hC_seichelaw07_alive hC_seichelaw07_greatCommit hC_object_PutCommit hC_seicheref07_GoodCommit hC_object_GoodCommit hC_seicheref07_Commit hC_object_GetCommit hC_seicheref07_GetCommit hC_seicheref07_SameCommit (fun _ hE => ?_) ?_ hD
                · exact hR _ hE
                · exact (nf_str h1)
              · rw [if_neg hp156] at hD
                refine x_gn (show _ = (V.bool (!(decide (r48.1 = r154)))) from rfl) (bnot_f (decide_eq_false hp156)) ?_
                refine x_gn (show _ = (V.bool (!(decide (r48.1 = r154)))) from rfl) (bnot_f (decide_eq_false hp156)) ?_
                refine x_gn (show _ = (V.bool (!(decide (r48.1 = r154)))) from rfl) (bnot_f (decide_eq_false hp156)) ?_
                refine x_gnil (show _ = Nil from rfl) ?_
                refine x_gnil (show _ = Nil from rfl) ?_
                refine x_gnil (show _ = Nil from rfl) ?_
                refine x_gnil (show _ = Nil from rfl) ?_
                refine x_gnil (show _ = Nil from rfl) ?_
                refine x_gnil (show _ = Nil from rfl) ?_
                refine x_gn (show _ = (V.bool (!(decide (r48.1 = r154)))) from rfl) (bnot_f (decide_eq_false hp156)) ?_
                refine x_pickt' (show _ = (V.bool (!(decide (r48.1 = r154)))) from rfl) (bnot_f (decide_eq_false hp156)) (show _ = (V.bool true) from rfl) ?_
                refine x_done ?_
                refine x_tN ?_
                refine x_ct (show _ = (V.bool true) from rfl) rfl ?_
                refine x_seq ?_
                refine x_start (b := false) ?_
                refine x_mv' (show _ = (V.bool false) from rfl) ?_
                refine x_done ?_
                refine x_tN ?_
                refine x_retc ?_
                refine x_tR ?_
                obtain rfl := Option.some.inj hD
                exact hR _ (ends_t (nf_of rfl (show _ = (V.bool false) from rfl)) (fun h => nomatch h))
            · rw [if_neg hp151] at hD
              refine x_gn (show _ = (V.bool r59) from rfl) (Bool.eq_false_iff.2 hp151) ?_
              refine x_gn (show _ = (V.bool r59) from rfl) (Bool.eq_false_iff.2 hp151) ?_
              refine x_gn (show _ = (V.bool r59) from rfl) (Bool.eq_false_iff.2 hp151) ?_
              refine x_gn (show _ = (V.bool r59) from rfl) (Bool.eq_false_iff.2 hp151) ?_
              refine x_gy (show _ = (V.bool (!((decide (r48.2 = 0)) == r59))) from rfl) (bnot_t hp150) ?_
              refine x_pickf' (show _ = (V.bool r59) from rfl) (Bool.eq_false_iff.2 hp151) (show _ = (V.bool false) from rfl) ?_
              refine x_pickf' (show _ = (V.bool (!((decide (r48.2 = 0)) == r59))) from rfl) (bnot_t hp150) (show _ = (V.bool false) from rfl) ?_
              refine x_mv' (show _ = (V.bool false) from rfl) ?_
              refine x_gy (show _ = (V.bool false) from rfl) rfl ?_
              refine x_mv' (show _ = (V.bool r59) from rfl) ?_
              refine x_gy (show _ = (V.bool false) from rfl) rfl ?_
              refine x_un (show _ = (V.bool r59) from rfl) (aun_not _) ?_
              refine x_gy (show _ = (V.bool false) from rfl) rfl ?_
              refine x_mv' (show _ = (V.bool (!r59)) from rfl) ?_
              refine x_gy (show _ = (V.bool (!r59)) from rfl) (bnot_f (Bool.eq_false_iff.2 hp151)) ?_
              refine x_mv' (show _ = (V.int .i64 r48.2) from rfl) ?_
              refine x_gy (show _ = (V.bool (!r59)) from rfl) (bnot_f (Bool.eq_false_iff.2 hp151)) ?_
              refine x_bin (show _ = (V.int .i64 r48.2) from rfl) (show _ = (V.int .i64 1) from rfl) b_neq ?_
              refine x_gy (show _ = (V.bool (!r59)) from rfl) (bnot_f (Bool.eq_false_iff.2 hp151)) ?_
              refine x_mv' (show _ = (V.bool (!(decide (r48.2 = 1)))) from rfl) ?_
              by_cases hp157 : r48.2 = 1
              · rw [if_pos hp157] at hD
                refine x_gy (show _ = (V.bool (!(decide (r48.2 = 1)))) from rfl) (bnot_t (decide_eq_true hp157)) ?_
                refine x_mv' (show _ = (V.str r48.1) from rfl) ?_
                refine x_gy (show _ = (V.bool (!(decide (r48.2 = 1)))) from rfl) (bnot_t (decide_eq_true hp157)) ?_
                refine x_bin (show _ = (V.str r48.1) from rfl) (show _ = (V.str ([] : Bytes)) from rfl) s_neq ?_
                refine x_gy (show _ = (V.bool (!r59)) from rfl) (bnot_f (Bool.eq_false_iff.2 hp151)) ?_
                refine x_pickf' (show _ = (V.bool (!(decide (r48.2 = 1)))) from rfl) (bnot_t (decide_eq_true hp157)) (show _ = (V.bool (!(decide (r48.1 = ([] : Bytes))))) from rfl) ?_
                refine x_gy (show _ = (V.bool false) from rfl) rfl ?_
                refine x_pickt' (show _ = (V.bool (!r59)) from rfl) (bnot_f (Bool.eq_false_iff.2 hp151)) (show _ = (V.bool (!(decide (r48.1 = ([] : Bytes))))) from rfl) ?_
                refine x_pickf' (show _ = (V.bool false) from rfl) rfl (show _ = (V.bool (!(decide (r48.1 = ([] : Bytes))))) from rfl) ?_
                refine x_done ?_
                refine x_tN ?_
                by_cases hp158 : r48.1 = ([] : Bytes)
                · rw [if_pos hp158] at hD
                  refine x_cf (show _ = (V.bool (!(decide (r48.1 = ([] : Bytes))))) from rfl) (bnot_t (decide_eq_true hp158)) ?_
                  refine x_skip ?_
                  refine x_tN ?_
                  refine ok.seichelaw07_ObjectCommits_j1 hC_seichelaw07_alive hC_seichelaw07_greatCommit hC_object_PutCommit hC_seicheref07_GoodCommit hC_object_GoodCommit hC_seicheref07_Commit hC_object_GetCommit hC_seicheref07_GetCommit hC_seicheref07_SameCommit (fun _ hE => ?_) ?_ hD
                  · exact hR _ hE
                  · exact (nf_str h1)
                · rw [if_neg hp158] at hD
                  refine x_ct (show _ = (V.bool (!(decide (r48.1 = ([] : Bytes))))) from rfl) (bnot_f (decide_eq_false hp158)) ?_
                  refine x_seq ?_
                  refine x_start (b := false) ?_
                  refine x_mv' (show _ = (V.bool false) from rfl) ?_
                  refine x_done ?_
                  refine x_tN ?_
                  refine x_retc ?_
                  refine x_tR ?_
                  obtain rfl := Option.some.inj hD
                  exact hR _ (ends_t (nf_of rfl (show _ = (V.bool false) from rfl)) (fun h => nomatch h))
              · rw [if_neg hp157] at hD
                refine x_gn (show _ = (V.bool (!(decide (r48.2 = 1)))) from rfl) (bnot_f (decide_eq_false hp157)) ?_
                refine x_gn (show _ = (V.bool (!(decide (r48.2 = 1)))) from rfl) (bnot_f (decide_eq_false hp157)) ?_
                refine x_gy (show _ = (V.bool (!r59)) from rfl) (bnot_f (Bool.eq_false_iff.2 hp151)) ?_
                refine x_pickt' (show _ = (V.bool (!(decide (r48.2 = 1)))) from rfl) (bnot_f (decide_eq_false hp157)) (show _ = (V.bool true) from rfl) ?_
                refine x_gy (show _ = (V.bool false) from rfl) rfl ?_
                refine x_pickt' (show _ = (V.bool (!r59)) from rfl) (bnot_f (Bool.eq_false_iff.2 hp151)) (show _ = (V.bool true) from rfl) ?_
                refine x_pickf' (show _ = (V.bool false) from rfl) rfl (show _ = (V.bool true) from rfl) ?_
                refine x_done ?_
                refine x_tN ?_
                refine x_ct (show _ = (V.bool true) from rfl) rfl ?_
                refine x_seq ?_
                refine x_start (b := false) ?_
                refine x_mv' (show _ = (V.bool false) from rfl) ?_
                refine x_done ?_
                refine x_tN ?_
                refine x_retc ?_
                refine x_tR ?_
                obtain rfl := Option.some.inj hD
                exact hR _ (ends_t (nf_of rfl (show _ = (V.bool false) from rfl)) (fun h => nomatch h))
          · rw [if_neg hp150] at hD
            refine x_gn (show _ = (V.bool (!((decide (r48.2 = 0)) == r59))) from rfl) (bnot_f (Bool.eq_false_iff.2 hp150)) ?_
            refine x_gn (show _ = (V.bool (!((decide (r48.2 = 0)) == r59))) from rfl) (bnot_f (Bool.eq_false_iff.2 hp150)) ?_
            refine x_gnil (show _ = Nil from rfl) ?_
            refine x_gnil (show _ = Nil from rfl) ?_
            refine x_gnil (show _ = Nil from rfl) ?_
            refine x_gnil (show _ = Nil from rfl) ?_
            refine x_gn (show _ = (V.bool (!((decide (r48.2 = 0)) == r59))) from rfl) (bnot_f (Bool.eq_false_iff.2 hp150)) ?_
            refine x_pickt' (show _ = (V.bool (!((decide (r48.2 = 0)) == r59))) from rfl) (bnot_f (Bool.eq_false_iff.2 hp150)) (show _ = (V.bool true) from rfl) ?_
            refine x_mv' (show _ = (V.bool true) from rfl) ?_
            refine x_gn (show _ = (V.bool true) from rfl) rfl ?_
            refine x_gn (show _ = (V.bool true) from rfl) rfl ?_
            refine x_gn (show _ = (V.bool true) from rfl) rfl ?_
            refine x_gnil (show _ = Nil from rfl) ?_
            refine x_gnil (show _ = Nil from rfl) ?_
            refine x_gnil (show _ = Nil from rfl) ?_
            refine x_gnil (show _ = Nil from rfl) ?_
            refine x_gnil (show _ = Nil from rfl) ?_
            refine x_gnil (show _ = Nil from rfl) ?_
            refine x_gn (show _ = (V.bool true) from rfl) rfl ?_
            refine x_pickt' (show _ = (V.bool true) from rfl) rfl (show _ = (V.bool true) from rfl) ?_
            refine x_done ?_
            refine x_tN ?_
            refine x_ct (show _ = (V.bool true) from rfl) rfl ?_
            refine x_seq ?_
            refine x_start (b := false) ?_
            refine x_mv' (show _ = (V.bool false) from rfl) ?_
            refine x_done ?_
            refine x_tN ?_
            refine x_retc ?_
            refine x_tR ?_
            obtain rfl := Option.some.inj hD
            exact hR _ (ends_t (nf_of rfl (show _ = (V.bool false) from rfl)) (fun h => nomatch h))
        · rw [if_neg hp149] at hD
          refine x_gn (show _ = (V.bool (!(r147 == r59))) from rfl) (bnot_f (Bool.eq_false_iff.2 hp149)) ?_
          refine x_gn (show _ = (V.bool (!(r147 == r59))) from rfl) (bnot_f (Bool.eq_false_iff.2 hp149)) ?_
          refine x_gn (show _ = (V.bool (!(r147 == r59))) from rfl) (bnot_f (Bool.eq_false_iff.2 hp149)) ?_
          refine x_gn (show _ = (V.bool (!(r147 == r59))) from rfl) (bnot_f (Bool.eq_false_iff.2 hp149)) ?_
          refine x_pickt' (show _ = (V.bool (!(r147 == r59))) from rfl) (bnot_f (Bool.eq_false_iff.2 hp149)) (show _ = (V.bool true) from rfl) ?_
          refine x_mv' (show _ = (V.bool true) from rfl) ?_
          refine x_gn (show _ = (V.bool true) from rfl) rfl ?_
          refine x_gn (show _ = (V.bool true) from rfl) rfl ?_
          refine x_gnil (show _ = Nil from rfl) ?_
          refine x_gnil (show _ = Nil from rfl) ?_
          refine x_gnil (show _ = Nil from rfl) ?_
          refine x_gnil (show _ = Nil from rfl) ?_
          refine x_gn (show _ = (V.bool true) from rfl) rfl ?_
          refine x_pickt' (show _ = (V.bool true) from rfl) rfl (show _ = (V.bool true) from rfl) ?_
          refine x_mv' (show _ = (V.bool true) from rfl) ?_
          refine x_gn (show _ = (V.bool true) from rfl) rfl ?_
          refine x_gn (show _ = (V.bool true) from rfl) rfl ?_
          refine x_gn (show _ = (V.bool true) from rfl) rfl ?_
          refine x_gnil (show _ = Nil from rfl) ?_
          refine x_gnil (show _ = Nil from rfl) ?_
          refine x_gnil (show _ = Nil from rfl) ?_
          refine x_gnil (show _ = Nil from rfl) ?_
          refine x_gnil (show _ = Nil from rfl) ?_
          refine x_gnil (show _ = Nil from rfl) ?_
          refine x_gn (show _ = (V.bool true) from rfl) rfl ?_
          refine x_pickt' (show _ = (V.bool true) from rfl) rfl (show _ = (V.bool true) from rfl) ?_
          refine x_done ?_
          refine x_tN ?_
          refine x_ct (show _ = (V.bool true) from rfl) rfl ?_
          refine x_seq ?_
          refine x_start (b := false) ?_
          refine x_mv' (show _ = (V.bool false) from rfl) ?_
          refine x_done ?_
          refine x_tN ?_
          refine x_retc ?_
          refine x_tR ?_
          obtain rfl := Option.some.inj hD
          exact hR _ (ends_t (nf_of rfl (show _ = (V.bool false) from rfl)) (fun h => nomatch h))
  · rw [if_neg hp16] at hD
    refine x_ct (show _ = (V.bool (!r14)) from rfl) (bnot_f (Bool.eq_false_iff.2 hp16)) ?_
    refine x_seq ?_
    refine x_start (b := false) ?_
    refine x_mv' (show _ = (V.bool false) from rfl) ?_
    refine x_done ?_
    refine x_tN ?_
    refine x_retc ?_
    refine x_tR ?_
    obtain rfl := Option.some.inj hD
    exact hR _ (ends_t (nf_of rfl (show _ = (V.bool false) from rfl)) (fun h => nomatch h))
def K.seichelaw07_ObjectCommits : FC := fc F.seichelaw07_ObjectCommits (fun _ => true) false (fun (a : (T.Commit × Bytes)) => [(V.agg (C.Commit a.1)), (V.str a.2)]) (fun (y : Bool) => (V.bool y)) (fun a => g.seichelaw07_ObjectCommits a.1 a.2)
  (fun a => (cleanL_mk (E.Commit_clean _) (cleanL_mk rfl rfl)))
  (fun y => rfl)
  (fun ⟨a0, a1⟩ ⟨b0, b1⟩ h => by
    obtain ⟨h0, h⟩ := List.cons.inj h
    obtain rfl : a0 = b0 := E.Commit_inj h0
    obtain ⟨h0, h⟩ := List.cons.inj h
    obtain rfl : a1 = b1 := V.str.inj h0
    rfl)
theorem H.seichelaw07_ObjectCommits (w : World) (hw : EnvOK w) : K.seichelaw07_ObjectCommits.Holds (cxD w) :=
  FC.holds_of (cs := [K.seichelaw07_alive, K.seichelaw07_greatCommit, K.object_PutCommit, K.seicheref07_GoodCommit, K.object_GoodCommit, K.seicheref07_Commit, K.object_GetCommit, K.seicheref07_GetCommit, K.seicheref07_SameCommit]) (glD w) mixed cf_seichelaw07_ObjectCommits (fun _ _ ⟨_, _, h, _⟩ => by subst h; exact Nat.le_of_ble_eq_true rfl) fun v y ⟨a, r, hv, hD, hy⟩ => by
    subst hy
    exact ok.seichelaw07_ObjectCommits (specOf_calls (H.seichelaw07_alive w hw) (fun _ _ ⟨_, _, h, _⟩ => by subst h; rfl)) (specOf_calls (H.seichelaw07_greatCommit w hw) (fun _ _ ⟨_, _, h, _⟩ => by subst h; rfl)) (specOf_calls (H.object_PutCommit w hw) (fun _ _ ⟨_, _, h, _⟩ => by subst h; rfl)) (specOf_calls (H.seicheref07_GoodCommit w hw) (fun _ _ ⟨_, _, h, _⟩ => by subst h; rfl)) (specOf_calls (H.object_GoodCommit w hw) (fun _ _ ⟨_, _, h, _⟩ => by subst h; rfl)) (specOf_calls (H.seicheref07_Commit w hw) (fun _ _ ⟨_, _, h, _⟩ => by subst h; rfl)) (specOf_calls (H.object_GetCommit w hw) (fun _ _ ⟨_, _, h, _⟩ => by subst h; rfl)) (specOf_calls (H.seicheref07_GetCommit w hw) (fun _ _ ⟨_, _, h, _⟩ => by subst h; rfl)) (specOf_calls (H.seicheref07_SameCommit w hw) (fun _ _ ⟨_, _, h, _⟩ => by subst h; rfl)) hv hD
def c_seichelaw07_ObjectBack_j3 : ACode := (.seq (.seq (.region [
  ⟨(some 96), (.mv (.tmp 2)), none, []⟩, 
  ⟨(some 97), (.call F.object_GetCommit [(.tmp 96)]), none, []⟩, 
  ⟨(some 95), (.mv (.tmp 97)), none, []⟩, 
  ⟨(some 98), (.ext (.tmp 95) 0), none, []⟩, 
  ⟨(some 99), (.ext (.tmp 95) 1), none, []⟩, 
  ⟨(some 19), (.new [(.int .u8 0), (.int .u8 0), (.int .u8 0), (.int .u8 0), (.int .u8 0), (.int .u8 0), (.int .u8 0), (.int .u8 0), (.int .u8 0), (.int .u8 0), (.int .u8 0), (.int .u8 0), (.int .u8 0), (.int .u8 0), (.int .u8 0), (.int .u8 0), (.int .u8 0), (.int .u8 0), (.int .u8 0), (.int .u8 0), (.int .u8 0), (.int .u8 0), (.int .u8 0), (.int .u8 0), (.int .u8 0), (.int .u8 0), (.int .u8 0), (.int .u8 0), (.int .u8 0), (.int .u8 0), (.int .u8 0), (.int .u8 0), (.sl true 32 []), (.str [])]), none, []⟩, 
  ⟨none, (.store 34 (.tmp 19) (.tmp 98)), none, []⟩, 
  ⟨(some 20), (.mv (.tmp 99)), none, []⟩] false) (.seq (.region [
  ⟨(some 100), (.mv (.tmp 20)), none, []⟩, 
  ⟨(some 101), (.bin .eql .no (.tmp 100) (.const (.int .i64 0))), none, []⟩] false) (.cond (.tmp 101) (.seq (.region [
  ⟨(some 103), (.load (some 34) (.tmp 19)), none, []⟩, 
  ⟨(some 104), (.call F.object_PutCommit [(.tmp 103)]), none, []⟩, 
  ⟨(some 102), (.mv (.tmp 104)), none, []⟩, 
  ⟨(some 105), (.ext (.tmp 102) 0), none, []⟩, 
  ⟨(some 106), (.ext (.tmp 102) 1), none, []⟩, 
  ⟨(some 21), (.mv (.tmp 105)), none, []⟩, 
  ⟨(some 22), (.mv (.tmp 106)), none, []⟩] false) (.seq (.region [
  ⟨(some 107), (.mv (.tmp 22)), none, []⟩, 
  ⟨(some 108), (.bin .eql .no (.tmp 107) (.const (.int .i64 0))), none, []⟩, 
  ⟨(some 109), (.mv (.tmp 108)), none, []⟩, 
  ⟨(some 110), (.mv (.tmp 21)), (some (109, true)), []⟩, 
  ⟨(some 111), (.mv (.tmp 2)), (some (109, true)), []⟩, 
  ⟨(some 112), (.bin .eql .no (.tmp 110) (.tmp 111)), (some (109, true)), []⟩, 
  ⟨(some 113), (.pick (.tmp 109) (.tmp 112) (.const (.bool false))), none, []⟩, 
  ⟨(some 6), (.mv (.tmp 113)), none, []⟩] false) .ret)) .skip))) (.seq (.region [
  ⟨(some 6), (.mv (.const (.bool true))), none, []⟩] false) .ret))
def c_seichelaw07_ObjectBack_j2 : ACode := (.seq (.seq (.region [
  ⟨(some 77), (.mv (.tmp 2)), none, []⟩, 
  ⟨(some 78), (.call F.object_GetTree [(.tmp 77)]), none, []⟩, 
  ⟨(some 76), (.mv (.tmp 78)), none, []⟩, 
  ⟨(some 79), (.ext (.tmp 76) 0), none, []⟩, 
  ⟨(some 80), (.ext (.tmp 76) 1), none, []⟩, 
  ⟨(some 15), (.mvo 79), none, []⟩, 
  ⟨(some 16), (.mv (.tmp 80)), none, []⟩] false) (.seq (.region [
  ⟨(some 81), (.mv (.tmp 16)), none, []⟩, 
  ⟨(some 82), (.bin .eql .no (.tmp 81) (.const (.int .i64 0))), none, []⟩] false) (.cond (.tmp 82) (.seq (.region [
  ⟨(some 84), (.mv (.tmp 15)), none, []⟩, 
  ⟨(some 85), (.call F.object_PutTree [(.tmp 84)]), none, []⟩, 
  ⟨(some 83), (.mv (.tmp 85)), none, []⟩, 
  ⟨(some 86), (.ext (.tmp 83) 0), none, []⟩, 
  ⟨(some 87), (.ext (.tmp 83) 1), none, []⟩, 
  ⟨(some 17), (.mv (.tmp 86)), none, []⟩, 
  ⟨(some 18), (.mv (.tmp 87)), none, []⟩] false) (.seq (.region [
  ⟨(some 88), (.mv (.tmp 18)), none, []⟩, 
  ⟨(some 89), (.bin .neq .no (.tmp 88) (.const (.int .i64 0))), none, []⟩, 
  ⟨(some 90), (.mv (.tmp 89)), none, []⟩, 
  ⟨(some 91), (.mv (.tmp 17)), (some (90, false)), []⟩, 
  ⟨(some 92), (.mv (.tmp 2)), (some (90, false)), []⟩, 
  ⟨(some 93), (.bin .neq .no (.tmp 91) (.tmp 92)), (some (90, false)), []⟩, 
  ⟨(some 94), (.pick (.tmp 90) (.const (.bool true)) (.tmp 93)), none, []⟩] false) (.cond (.tmp 94) (.seq (.region [
  ⟨(some 6), (.mv (.const (.bool false))), none, []⟩] false) .ret) .skip))) .skip))) c_seichelaw07_ObjectBack_j3)
def c_seichelaw07_ObjectBack_j1 : ACode := (.seq (.seq (.region [
  ⟨(some 57), (.load (some 34) (.tmp 4)), none, []⟩, 
  ⟨(some 58), (.call F.object_PutCommit [(.tmp 57)]), none, []⟩, 
  ⟨(some 56), (.mv (.tmp 58)), none, []⟩, 
  ⟨(some 59), (.ext (.tmp 56) 0), none, []⟩, 
  ⟨(some 60), (.ext (.tmp 56) 1), none, []⟩, 
  ⟨(some 11), (.mv (.tmp 59)), none, []⟩, 
  ⟨(some 12), (.mv (.tmp 60)), none, []⟩] false) (.seq (.region [
  ⟨(some 61), (.mv (.tmp 12)), none, []⟩, 
  ⟨(some 62), (.bin .eql .no (.tmp 61) (.const (.int .i64 0))), none, []⟩] false) (.cond (.tmp 62) (.seq (.region [
  ⟨(some 64), (.mv (.tmp 11)), none, []⟩, 
  ⟨(some 65), (.call F.object_GetCommit [(.tmp 64)]), none, []⟩, 
  ⟨(some 63), (.mv (.tmp 65)), none, []⟩, 
  ⟨(some 66), (.ext (.tmp 63) 0), none, []⟩, 
  ⟨(some 67), (.ext (.tmp 63) 1), none, []⟩, 
  ⟨(some 13), (.new [(.int .u8 0), (.int .u8 0), (.int .u8 0), (.int .u8 0), (.int .u8 0), (.int .u8 0), (.int .u8 0), (.int .u8 0), (.int .u8 0), (.int .u8 0), (.int .u8 0), (.int .u8 0), (.int .u8 0), (.int .u8 0), (.int .u8 0), (.int .u8 0), (.int .u8 0), (.int .u8 0), (.int .u8 0), (.int .u8 0), (.int .u8 0), (.int .u8 0), (.int .u8 0), (.int .u8 0), (.int .u8 0), (.int .u8 0), (.int .u8 0), (.int .u8 0), (.int .u8 0), (.int .u8 0), (.int .u8 0), (.int .u8 0), (.sl true 32 []), (.str [])]), none, []⟩, 
  ⟨none, (.store 34 (.tmp 13) (.tmp 66)), none, []⟩, 
  ⟨(some 14), (.mv (.tmp 67)), none, []⟩] false) (.seq (.region [
  ⟨(some 68), (.mv (.tmp 14)), none, []⟩, 
  ⟨(some 69), (.bin .neq .no (.tmp 68) (.const (.int .i64 0))), none, []⟩, 
  ⟨(some 70), (.mv (.tmp 69)), none, []⟩, 
  ⟨(some 71), (.load (some 34) (.tmp 13)), (some (70, false)), []⟩, 
  ⟨(some 72), (.load (some 34) (.tmp 4)), (some (70, false)), []⟩, 
  ⟨(some 73), (.call F.seicheref07_SameCommit [(.tmp 71), (.tmp 72)]), (some (70, false)), []⟩, 
  ⟨(some 74), (.un .not (.tmp 73)), (some (70, false)), []⟩, 
  ⟨(some 75), (.pick (.tmp 70) (.const (.bool true)) (.tmp 74)), none, []⟩] false) (.cond (.tmp 75) (.seq (.region [
  ⟨(some 6), (.mv (.const (.bool false))), none, []⟩] false) .ret) .skip))) .skip))) c_seichelaw07_ObjectBack_j2)
def c_seichelaw07_ObjectBack : ACode := (.seq (.region [
  ⟨(some 4), (.box (.tmp 1)), none, []⟩, 
  ⟨(some 6), (.mv (.const (.bool false))), none, []⟩] false) (.seq (.seq (.region [
  ⟨(some 23), (.call F.seichelaw07_alive []), none, []⟩, 
  ⟨(some 24), (.un .not (.tmp 23)), none, []⟩] false) (.cond (.tmp 24) (.seq (.region [
  ⟨(some 6), (.mv (.const (.bool false))), none, []⟩] false) .ret) .skip)) (.seq (.seq (.region [
  ⟨(some 25), (.mv (.tmp 0)), none, []⟩, 
  ⟨(some 26), (.call F.seichelaw07_greatTree [(.tmp 25)]), none, []⟩, 
  ⟨(some 27), (.mv (.tmp 26)), none, []⟩, 
  ⟨(some 28), (.load (some 34) (.tmp 4)), (some (27, false)), []⟩, 
  ⟨(some 29), (.call F.seichelaw07_greatCommit [(.tmp 28)]), (some (27, false)), []⟩, 
  ⟨(some 30), (.pick (.tmp 27) (.const (.bool true)) (.tmp 29)), none, []⟩, 
  ⟨(some 31), (.mv (.tmp 30)), none, []⟩, 
  ⟨(some 32), (.mv (.tmp 2)), (some (31, false)), []⟩, 
  ⟨(some 33), (.len true (.tmp 32)), (some (31, false)), []⟩, 
  ⟨(some 34), (.bin .gtr .no (.tmp 33) (.const (.int .i64 4096))), (some (31, false)), []⟩, 
  ⟨(some 35), (.pick (.tmp 31) (.const (.bool true)) (.tmp 34)), none, []⟩] false) (.cond (.tmp 35) (.seq (.region [
  ⟨(some 6), (.mv (.const (.bool true))), none, []⟩] false) .ret) .skip)) (.seq (.seq (.region [
  ⟨(some 37), (.mv (.tmp 0)), none, []⟩, 
  ⟨(some 38), (.call F.object_PutTree [(.tmp 37)]), none, []⟩, 
  ⟨(some 36), (.mv (.tmp 38)), none, []⟩, 
  ⟨(some 39), (.ext (.tmp 36) 0), none, []⟩, 
  ⟨(some 40), (.ext (.tmp 36) 1), none, []⟩, 
  ⟨(some 7), (.mv (.tmp 39)), none, []⟩, 
  ⟨(some 8), (.mv (.tmp 40)), none, []⟩] false) (.seq (.region [
  ⟨(some 41), (.mv (.tmp 8)), none, []⟩, 
  ⟨(some 42), (.bin .eql .no (.tmp 41) (.const (.int .i64 0))), none, []⟩] false) (.cond (.tmp 42) (.seq (.region [
  ⟨(some 44), (.mv (.tmp 7)), none, []⟩, 
  ⟨(some 45), (.call F.object_GetTree [(.tmp 44)]), none, []⟩, 
  ⟨(some 43), (.mv (.tmp 45)), none, []⟩, 
  ⟨(some 46), (.ext (.tmp 43) 0), none, []⟩, 
  ⟨(some 47), (.ext (.tmp 43) 1), none, []⟩, 
  ⟨(some 9), (.mvo 46), none, []⟩, 
  ⟨(some 10), (.mv (.tmp 47)), none, []⟩] false) (.seq (.region [
  ⟨(some 48), (.mv (.tmp 10)), none, []⟩, 
  ⟨(some 49), (.bin .neq .no (.tmp 48) (.const (.int .i64 0))), none, []⟩, 
  ⟨(some 50), (.mv (.tmp 49)), none, []⟩, 
  ⟨(some 51), (.mv (.tmp 9)), (some (50, false)), []⟩, 
  ⟨(some 52), (.mv (.tmp 0)), (some (50, false)), []⟩, 
  ⟨(some 53), (.call F.seicheref07_SameTree [(.tmp 51), (.tmp 52)]), (some (50, false)), []⟩, 
  ⟨(some 54), (.un .not (.tmp 53)), (some (50, false)), []⟩, 
  ⟨(some 55), (.pick (.tmp 50) (.const (.bool true)) (.tmp 54)), none, []⟩] false) (.cond (.tmp 55) (.seq (.region [
  ⟨(some 6), (.mv (.const (.bool false))), none, []⟩] false) .ret) .skip))) .skip))) c_seichelaw07_ObjectBack_j1))))
theorem cf_seichelaw07_ObjectBack : cFn Go.Proofs.Tryd.prog F.seichelaw07_ObjectBack = some ⟨114, c_seichelaw07_ObjectBack, [.t 6]⟩ := by kernel_rfl
def L.seichelaw07_ObjectBack_j3 (t2_194 : Bytes) : Option Bool :=
  (g.object_GetCommit t2_194).bind fun r204 =>
  if r204.2 = 0 then
    (g.object_PutCommit r204.1).bind fun r221 =>
    if r221.2 = 0 then
      some (decide (r221.1 = t2_194))
    else
      some false
  else
    some true
theorem ok.seichelaw07_ObjectBack_j3 {Γ : Abs.Spec} {gl : Glob} (hC_seichelaw07_alive : CallsX Γ K.seichelaw07_alive) (hC_seichelaw07_greatTree : CallsX Γ K.seichelaw07_greatTree) (hC_seichelaw07_greatCommit : CallsX Γ K.seichelaw07_greatCommit) (hC_object_PutTree : CallsX Γ K.object_PutTree) (hC_object_GetTree : CallsX Γ K.object_GetTree) (hC_seicheref07_SameTree : CallsX Γ K.seicheref07_SameTree) (hC_object_PutCommit : CallsX Γ K.object_PutCommit) (hC_object_GetCommit : CallsX Γ K.object_GetCommit) (hC_seicheref07_SameCommit : CallsX Γ K.seicheref07_SameCommit) {Q : Ex → St → Prop} {r : Bool}
    (hR : ∀ s, EndsX [.t 6] false (V.bool r) s → Q .ret s)
    {s : St} {t2_194 : Bytes} (h193 : s.tm 2 = (V.str t2_194))
    (hD : L.seichelaw07_ObjectBack_j3 t2_194 = some r) : awp Γ gl c_seichelaw07_ObjectBack_j3 Q s := by
  unfold L.seichelaw07_ObjectBack_j3 at hD
  refine x_seq ?_
  refine x_seq ?_
  refine x_start (b := false) ?_
  refine x_mv' h193 ?_
  obtain ⟨r204, hx205, hD⟩ := Option.bind_eq_some_iff.1 hD
  refine x_callF hC_object_GetCommit (a := (t2_194)) (cons_eq (nf_of rfl (show _ = (V.str t2_194) from rfl)) rfl) hx205 fun v203 ov203 (hv203 : v203.nf = (V.tup [(V.agg (C.Commit r204.1)), (V.int .i64 r204.2)])) hov203 => ?_
  refine x_mv hv203 fun v206 hv206 => ?_
  refine x_ext hv206 (show _ = some (V.agg (C.Commit r204.1)) from rfl) fun v207 hv207 => ?_
  refine x_ext hv206 (show _ = some (V.int .i64 r204.2) from rfl) fun v208 hv208 => ?_
  refine x_new (l := (C.Commit ({ Root := (Arr.zero 32), Parents := [], Note := [] } : T.Commit))) (by kernel_rfl) fun i209 hidi209 hci209 => ?_
  refine x_store (ws := (C.Commit r204.1)) (l' := (C.Commit r204.1)) (show _ = (V.ptr i209 0) from rfl) hci209 (cells_of rfl hv207) ⟨(C.Commit_len r204.1), (C.Commit_sc r204.1), le_len (C.Commit_len ({ Root := (Arr.zero 32), Parents := [], Note := [] } : T.Commit)) (by decide)⟩ (setAt_full (Eq.trans (C.Commit_len r204.1) (Eq.symm (C.Commit_len ({ Root := (Arr.zero 32), Parents := [], Note := [] } : T.Commit))))) fun csv210 ysv210 hcsv210 hnv210 hcv210 hsv210 => ?_
  refine x_mv' (nf_int hv208) ?_
  refine x_done ?_
  refine x_tN ?_
  refine x_seq ?_
  refine x_start (b := false) ?_
  refine x_mv' (show _ = (V.int .i64 r204.2) from rfl) ?_
  refine x_bin (show _ = (V.int .i64 r204.2) from rfl) (show _ = (V.int .i64 0) from rfl) b_eql ?_
  refine x_done ?_
  refine x_tN ?_
  by_cases hp211 : r204.2 = 0
  · rw [if_pos hp211] at hD
    refine x_ct (show _ = (V.bool (decide (r204.2 = 0))) from rfl) (decide_eq_true hp211) ?_
    refine x_seq ?_
    refine x_start (b := false) ?_
    refine x_load (show _ = (V.ptr i209 0) from rfl) hcv210 (ld_Commit_0_34 r204.1) fun v219 hv219 => ?_
    obtain ⟨r221, hx222, hD⟩ := Option.bind_eq_some_iff.1 hD
    refine x_callF hC_object_PutCommit (a := (r204.1)) (cons_eq hv219 rfl) hx222 fun v220 ov220 (hv220 : v220.nf = (V.tup [(V.str r221.1), (V.int .i64 r221.2)])) hov220 => ?_
    refine x_mv hv220 fun v223 hv223 => ?_
    refine x_ext hv223 (show _ = some (V.str r221.1) from rfl) fun v224 hv224 => ?_
    refine x_ext hv223 (show _ = some (V.int .i64 r221.2) from rfl) fun v225 hv225 => ?_
    refine x_mv' (nf_str hv224) ?_
    refine x_mv' (nf_int hv225) ?_
    refine x_done ?_
    refine x_tN ?_
    refine x_seq ?_
    refine x_start (b := false) ?_
    refine x_mv' (show _ = (V.int .i64 r221.2) from rfl) ?_
    refine x_bin (show _ = (V.int .i64 r221.2) from rfl) (show _ = (V.int .i64 0) from rfl) b_eql ?_
    refine x_mv' (show _ = (V.bool (decide (r221.2 = 0))) from rfl) ?_
    by_cases hp226 : r221.2 = 0
    · rw [if_pos hp226] at hD
      refine x_gy (show _ = (V.bool (decide (r221.2 = 0))) from rfl) (decide_eq_true hp226) ?_
      refine x_mv' (show _ = (V.str r221.1) from rfl) ?_
      refine x_gy (show _ = (V.bool (decide (r221.2 = 0))) from rfl) (decide_eq_true hp226) ?_
      refine x_mv' h193 ?_
      refine x_gy (show _ = (V.bool (decide (r221.2 = 0))) from rfl) (decide_eq_true hp226) ?_
      refine x_bin (show _ = (V.str r221.1) from rfl) (show _ = (V.str t2_194) from rfl) s_eql ?_
      refine x_pickt' (show _ = (V.bool (decide (r221.2 = 0))) from rfl) (decide_eq_true hp226) (show _ = (V.bool (decide (r221.1 = t2_194))) from rfl) ?_
      refine x_mv' (show _ = (V.bool (decide (r221.1 = t2_194))) from rfl) ?_
      refine x_done ?_
      refine x_tN ?_
      refine x_retc ?_
      refine x_tR ?_
      obtain rfl := Option.some.inj hD
      exact hR _ (ends_t (nf_of rfl (show _ = (V.bool (decide (r221.1 = t2_194))) from rfl)) (fun h => nomatch h))
    · rw [if_neg hp226] at hD
      refine x_gn (show _ = (V.bool (decide (r221.2 = 0))) from rfl) (decide_eq_false hp226) ?_
      refine x_gn (show _ = (V.bool (decide (r221.2 = 0))) from rfl) (decide_eq_false hp226) ?_
      refine x_gn (show _ = (V.bool (decide (r221.2 = 0))) from rfl) (decide_eq_false hp226) ?_
      refine x_pickf' (show _ = (V.bool (decide (r221.2 = 0))) from rfl) (decide_eq_false hp226) (show _ = (V.bool false) from rfl) ?_
      refine x_mv' (show _ = (V.bool false) from rfl) ?_
      refine x_done ?_
      refine x_tN ?_
      refine x_retc ?_
      refine x_tR ?_
      obtain rfl := Option.some.inj hD
      exact hR _ (ends_t (nf_of rfl (show _ = (V.bool false) from rfl)) (fun h => nomatch h))
  · rw [if_neg hp211] at hD
    refine x_cf (show _ = (V.bool (decide (r204.2 = 0))) from rfl) (decide_eq_false hp211) ?_
    refine x_skip ?_
    refine x_tN ?_
    refine x_seq ?_
    refine x_start (b := false) ?_
    refine x_mv' (show _ = (V.bool true) from rfl) ?_
    refine x_done ?_
    refine x_tN ?_
    refine x_retc ?_
    obtain rfl := Option.some.inj hD
    exact hR _ (ends_t (nf_of rfl (show _ = (V.bool true) from rfl)) (fun h => nomatch h))
def L.seichelaw07_ObjectBack_j2 (t2_158 : Bytes) : Option Bool :=
  (g.object_GetTree t2_158).bind fun r235 =>
  if r235.2 = 0 then
    (g.object_PutTree r235.1).bind fun r251 =>
    if r251.2 = 0 then
      if r251.1 = t2_158 then
        L.seichelaw07_ObjectBack_j3 t2_158
      else
        some false
    else
      some false
  else
    L.seichelaw07_ObjectBack_j3 t2_158
theorem ok.seichelaw07_ObjectBack_j2 {Γ : Abs.Spec} {gl : Glob} (hC_seichelaw07_alive : CallsX Γ K.seichelaw07_alive) (hC_seichelaw07_greatTree : CallsX Γ K.seichelaw07_greatTree) (hC_seichelaw07_greatCommit : CallsX Γ K.seichelaw07_greatCommit) (hC_object_PutTree : CallsX Γ K.object_PutTree) (hC_object_GetTree : CallsX Γ K.object_GetTree) (hC_seicheref07_SameTree : CallsX Γ K.seicheref07_SameTree) (hC_object_PutCommit : CallsX Γ K.object_PutCommit) (hC_object_GetCommit : CallsX Γ K.object_GetCommit) (hC_seicheref07_SameCommit : CallsX Γ K.seicheref07_SameCommit) {Q : Ex → St → Prop} {r : Bool}
    (hR : ∀ s, EndsX [.t 6] false (V.bool r) s → Q .ret s)
    {s : St} {t2_158 : Bytes} (h157 : s.tm 2 = (V.str t2_158))
    (hD : L.seichelaw07_ObjectBack_j2 t2_158 = some r) : awp Γ gl c_seichelaw07_ObjectBack_j2 Q s := by
  unfold L.seichelaw07_ObjectBack_j2 at hD
  refine x_seq ?_
  refine x_seq ?_
  refine x_start (b := false) ?_
  refine x_mv' h157 ?_
  obtain ⟨r235, hx236, hD⟩ := Option.bind_eq_some_iff.1 hD
  refine x_callF hC_object_GetTree (a := (t2_158)) (cons_eq (nf_of rfl (show _ = (V.str t2_158) from rfl)) rfl) hx236 fun v234 ov234 (hv234 : v234.nf = (V.tup [(V.sl false 34 (List.map E.Entry r235.1)), (V.int .i64 r235.2)])) hov234 => ?_
  refine x_mv hv234 fun v237 hv237 => ?_
  refine x_ext hv237 (show _ = some (V.sl false 34 (List.map E.Entry r235.1)) from rfl) fun v238 hv238 => ?_
  refine x_ext hv237 (show _ = some (V.int .i64 r235.2) from rfl) fun v239 hv239 => ?_
  refine x_mvo hv238 fun v240 ov240 hv240 hwv240 => ?_
  refine x_mv' (nf_int hv239) ?_
  refine x_done ?_
  refine x_tN ?_
  refine x_seq ?_
  refine x_start (b := false) ?_
  refine x_mv' (show _ = (V.int .i64 r235.2) from rfl) ?_
  refine x_bin (show _ = (V.int .i64 r235.2) from rfl) (show _ = (V.int .i64 0) from rfl) b_eql ?_
  refine x_done ?_
  refine x_tN ?_
  by_cases hp241 : r235.2 = 0
  · rw [if_pos hp241] at hD
    refine x_ct (show _ = (V.bool (decide (r235.2 = 0))) from rfl) (decide_eq_true hp241) ?_
    refine x_seq ?_
    refine x_start (b := false) ?_
    refine x_mv hv240 fun v249 hv249 => ?_
    obtain ⟨r251, hx252, hD⟩ := Option.bind_eq_some_iff.1 hD
    refine x_callF hC_object_PutTree (a := (r235.1)) (cons_eq hv249 rfl) hx252 fun v250 ov250 (hv250 : v250.nf = (V.tup [(V.str r251.1), (V.int .i64 r251.2)])) hov250 => ?_
    refine x_mv hv250 fun v253 hv253 => ?_
    refine x_ext hv253 (show _ = some (V.str r251.1) from rfl) fun v254 hv254 => ?_
    refine x_ext hv253 (show _ = some (V.int .i64 r251.2) from rfl) fun v255 hv255 => ?_
    refine x_mv' (nf_str hv254) ?_
    refine x_mv' (nf_int hv255) ?_
    refine x_done ?_
    refine x_tN ?_
    refine x_seq ?_
    refine x_start (b := false) ?_
    refine x_mv' (show _ = (V.int .i64 r251.2) from rfl) ?_
    refine x_bin (show _ = (V.int .i64 r251.2) from rfl) (show _ = (V.int .i64 0) from rfl) b_neq ?_
    refine x_mv' (show _ = (V.bool (!(decide (r251.2 = 0)))) from rfl) ?_
    by_cases hp257 : r251.2 = 0
    · rw [if_pos hp257] at hD
      refine x_gy (show _ = (V.bool (!(decide (r251.2 = 0)))) from rfl) (bnot_t (decide_eq_true hp257)) ?_
      refine x_mv' (show _ = (V.str r251.1) from rfl) ?_
      refine x_gy (show _ = (V.bool (!(decide (r251.2 = 0)))) from rfl) (bnot_t (decide_eq_true hp257)) ?_
      refine x_mv' h157 ?_
      refine x_gy (show _ = (V.bool (!(decide (r251.2 = 0)))) from rfl) (bnot_t (decide_eq_true hp257)) ?_
      refine x_bin (show _ = (V.str r251.1) from rfl) (show _ = (V.str t2_158) from rfl) s_neq ?_
      refine x_pickf' (show _ = (V.bool (!(decide (r251.2 = 0)))) from rfl) (bnot_t (decide_eq_true hp257)) (show _ = (V.bool (!(decide (r251.1 = t2_158)))) from rfl) ?_
      refine x_done ?_
      refine x_tN ?_
      by_cases hp258 : r251.1 = t2_158
      · rw [if_pos hp258] at hD
        refine x_cf (show _ = (V.bool (!(decide (r251.1 = t2_158)))) from rfl) (bnot_t (decide_eq_true hp258)) ?_
        refine x_skip ?_
        refine x_tN ?_
        refine ok.seichelaw07_ObjectBack_j3 hC_seichelaw07_alive hC_seichelaw07_greatTree hC_seichelaw07_greatCommit hC_object_PutTree hC_object_GetTree hC_seicheref07_SameTree hC_object_PutCommit hC_object_GetCommit hC_seicheref07_SameCommit (fun _ hE => ?_) ?_ hD
        · exact hR _ hE
        · exact h157
      · rw [if_neg hp258] at hD
        refine x_ct (show _ = (V.bool (!(decide (r251.1 = t2_158)))) from rfl) (bnot_f (decide_eq_false hp258)) ?_
        refine x_seq ?_
        refine x_start (b := false) ?_
        refine x_mv' (show _ = (V.bool false) from rfl) ?_
        refine x_done ?_
        refine x_tN ?_
        refine x_retc ?_
        refine x_tR ?_
        obtain rfl := Option.some.inj hD
        exact hR _ (ends_t (nf_of rfl (show _ = (V.bool false) from rfl)) (fun h => nomatch h))
    · rw [if_neg hp257] at hD
      refine x_gn (show _ = (V.bool (!(decide (r251.2 = 0)))) from rfl) (bnot_f (decide_eq_false hp257)) ?_
      refine x_gn (show _ = (V.bool (!(decide (r251.2 = 0)))) from rfl) (bnot_f (decide_eq_false hp257)) ?_
      refine x_gn (show _ = (V.bool (!(decide (r251.2 = 0)))) from rfl) (bnot_f (decide_eq_false hp257)) ?_
      refine x_pickt' (show _ = (V.bool (!(decide (r251.2 = 0)))) from rfl) (bnot_f (decide_eq_false hp257)) (show _ = (V.bool true) from rfl) ?_
      refine x_done ?_
      refine x_tN ?_
      refine x_ct (show _ = (V.bool true) from rfl) rfl ?_
      refine x_seq ?_
      refine x_start (b := false) ?_
      refine x_mv' (show _ = (V.bool false) from rfl) ?_
      refine x_done ?_
      refine x_tN ?_
      refine x_retc ?_
      refine x_tR ?_
      obtain rfl := Option.some.inj hD
      exact hR _ (ends_t (nf_of rfl (show _ = (V.bool false) from rfl)) (fun h => nomatch h))
  · rw [if_neg hp241] at hD
    refine x_cf (show _ = (V.bool (decide (r235.2 = 0))) from rfl) (decide_eq_false hp241) ?_
    refine x_skip ?_
    refine x_tN ?_
    refine ok.seichelaw07_ObjectBack_j3 hC_seichelaw07_alive hC_seichelaw07_greatTree hC_seichelaw07_greatCommit hC_object_PutTree hC_object_GetTree hC_seicheref07_SameTree hC_object_PutCommit hC_object_GetCommit hC_seicheref07_SameCommit (fun _ hE => ?_) ?_ hD
    · exact hR _ hE
    · exact h157
def L.seichelaw07_ObjectBack_j1 (x106 : T.Commit) (t2_109 : Bytes) : Option Bool :=
  (g.object_PutCommit x106).bind fun r268 =>
  if r268.2 = 0 then
    (g.object_GetCommit r268.1).bind fun r283 =>
    if r283.2 = 0 then
      (g.seicheref07_SameCommit r283.1 x106).bind fun r300 =>
      if r300 = true then
        L.seichelaw07_ObjectBack_j2 t2_109
      else
        some false
    else
      some false
  else
    L.seichelaw07_ObjectBack_j2 t2_109
theorem ok.seichelaw07_ObjectBack_j1 {Γ : Abs.Spec} {gl : Glob} (hC_seichelaw07_alive : CallsX Γ K.seichelaw07_alive) (hC_seichelaw07_greatTree : CallsX Γ K.seichelaw07_greatTree) (hC_seichelaw07_greatCommit : CallsX Γ K.seichelaw07_greatCommit) (hC_object_PutTree : CallsX Γ K.object_PutTree) (hC_object_GetTree : CallsX Γ K.object_GetTree) (hC_seicheref07_SameTree : CallsX Γ K.seicheref07_SameTree) (hC_object_PutCommit : CallsX Γ K.object_PutCommit) (hC_object_GetCommit : CallsX Γ K.object_GetCommit) (hC_seicheref07_SameCommit : CallsX Γ K.seicheref07_SameCommit) {Q : Ex → St → Prop} {r : Bool}
    (hR : ∀ s, EndsX [.t 6] false (V.bool r) s → Q .ret s)
    {s : St} {i107 : Nat} {x106 : T.Commit} {t2_109 : Bytes} (hli107 : i107 < s.nH) (hci107 : Cells s i107 (C.Commit x106)) (h108 : s.tm 2 = (V.str t2_109)) (h110 : s.tm 4 = (V.ptr i107 0))
    (hD : L.seichelaw07_ObjectBack_j1 x106 t2_109 = some r) : awp Γ gl c_seichelaw07_ObjectBack_j1 Q s := by
  unfold L.seichelaw07_ObjectBack_j1 at hD
  refine x_seq ?_
  refine x_seq ?_
  refine x_start (b := false) ?_
  refine x_load h110 hci107 (ld_Commit_0_34 x106) fun v266 hv266 => ?_
  obtain ⟨r268, hx269, hD⟩ := Option.bind_eq_some_iff.1 hD
  refine x_callF hC_object_PutCommit (a := (x106)) (cons_eq hv266 rfl) hx269 fun v267 ov267 (hv267 : v267.nf = (V.tup [(V.str r268.1), (V.int .i64 r268.2)])) hov267 => ?_
  refine x_mv hv267 fun v270 hv270 => ?_
  refine x_ext hv270 (show _ = some (V.str r268.1) from rfl) fun v271 hv271 => ?_
  refine x_ext hv270 (show _ = some (V.int .i64 r268.2) from rfl) fun v272 hv272 => ?_
  refine x_mv' (nf_str hv271) ?_
  refine x_mv' (nf_int hv272) ?_
  refine x_done ?_
  refine x_tN ?_
  refine x_seq ?_
  refine x_start (b := false) ?_
  refine x_mv' (show _ = (V.int .i64 r268.2) from rfl) ?_
  refine x_bin (show _ = (V.int .i64 r268.2) from rfl) (show _ = (V.int .i64 0) from rfl) b_eql ?_
  refine x_done ?_
  refine x_tN ?_
  by_cases hp273 : r268.2 = 0
  · rw [if_pos hp273] at hD
    refine x_ct (show _ = (V.bool (decide (r268.2 = 0))) from rfl) (decide_eq_true hp273) ?_
    refine x_seq ?_
    refine x_start (b := false) ?_
    refine x_mv' (show _ = (V.str r268.1) from rfl) ?_
    obtain ⟨r283, hx284, hD⟩ := Option.bind_eq_some_iff.1 hD
    refine x_callF hC_object_GetCommit (a := (r268.1)) (cons_eq (nf_of rfl (show _ = (V.str r268.1) from rfl)) rfl) hx284 fun v282 ov282 (hv282 : v282.nf = (V.tup [(V.agg (C.Commit r283.1)), (V.int .i64 r283.2)])) hov282 => ?_
    refine x_mv hv282 fun v285 hv285 => ?_
    refine x_ext hv285 (show _ = some (V.agg (C.Commit r283.1)) from rfl) fun v286 hv286 => ?_
    refine x_ext hv285 (show _ = some (V.int .i64 r283.2) from rfl) fun v287 hv287 => ?_
    refine x_new (l := (C.Commit ({ Root := (Arr.zero 32), Parents := [], Note := [] } : T.Commit))) (by kernel_rfl) fun i288 hidi288 hci288 => ?_
    refine x_store (ws := (C.Commit r283.1)) (l' := (C.Commit r283.1)) (show _ = (V.ptr i288 0) from rfl) hci288 (cells_of rfl hv286) ⟨(C.Commit_len r283.1), (C.Commit_sc r283.1), le_len (C.Commit_len ({ Root := (Arr.zero 32), Parents := [], Note := [] } : T.Commit)) (by decide)⟩ (setAt_full (Eq.trans (C.Commit_len r283.1) (Eq.symm (C.Commit_len ({ Root := (Arr.zero 32), Parents := [], Note := [] } : T.Commit))))) fun csv289 ysv289 hcsv289 hnv289 hcv289 hsv289 => ?_
    refine x_mv' (nf_int hv287) ?_
    refine x_done ?_
    refine x_tN ?_
    refine x_seq ?_
    refine x_start (b := false) ?_
    refine x_mv' (show _ = (V.int .i64 r283.2) from rfl) ?_
    refine x_bin (show _ = (V.int .i64 r283.2) from rfl) (show _ = (V.int .i64 0) from rfl) b_neq ?_
    refine x_mv' (show _ = (V.bool (!(decide (r283.2 = 0)))) from rfl) ?_
    by_cases hp296 : r283.2 = 0
    · rw [if_pos hp296] at hD
      refine x_gy (show _ = (V.bool (!(decide (r283.2 = 0)))) from rfl) (bnot_t (decide_eq_true hp296)) ?_
      refine x_load (show _ = (V.ptr i288 0) from rfl) hcv289 (ld_Commit_0_34 r283.1) fun v297 hv297 => ?_
      refine x_gy (show _ = (V.bool (!(decide (r283.2 = 0)))) from rfl) (bnot_t (decide_eq_true hp296)) ?_
      refine x_load h110 (cells_setOb (Nat.ne_of_lt (Nat.lt_of_lt_of_eq hli107 hidi288.symm)) (cells_new hli107 hci107)) (ld_Commit_0_34 x106) fun v298 hv298 => ?_
      refine x_gy (show _ = (V.bool (!(decide (r283.2 = 0)))) from rfl) (bnot_t (decide_eq_true hp296)) ?_
      obtain ⟨r300, hx301, hD⟩ := Option.bind_eq_some_iff.1 hD
      refine x_callF hC_seicheref07_SameCommit (a := (r283.1, x106)) (cons_eq hv297 (cons_eq hv298 rfl)) hx301 fun v299 ov299 (hv299 : v299.nf = (V.bool r300)) hov299 => ?_
      refine x_gy (show _ = (V.bool (!(decide (r283.2 = 0)))) from rfl) (bnot_t (decide_eq_true hp296)) ?_
      refine x_un (nf_bool hv299) (aun_not _) ?_
      refine x_pickf' (show _ = (V.bool (!(decide (r283.2 = 0)))) from rfl) (bnot_t (decide_eq_true hp296)) (show _ = (V.bool (!r300)) from rfl) ?_
      refine x_done ?_
      refine x_tN ?_
      by_cases hp302 : r300 = true
      · rw [if_pos hp302] at hD
        refine x_cf (show _ = (V.bool (!r300)) from rfl) (bnot_t hp302) ?_
        refine x_skip ?_
        refine x_tN ?_
        refine ok.seichelaw07_ObjectBack_j2 hC_seichelaw07_alive hC_seichelaw07_greatTree hC_seichelaw07_greatCommit hC_object_PutTree hC_object_GetTree hC_seicheref07_SameTree hC_object_PutCommit hC_object_GetCommit hC_seicheref07_SameCommit (fun _ hE => ?_) ?_ hD
        · exact hR _ hE
        · exact h108
      · rw [if_neg hp302] at hD
        refine x_ct (show _ = (V.bool (!r300)) from rfl) (bnot_f (Bool.eq_false_iff.2 hp302)) ?_
        refine x_seq ?_
        refine x_start (b := false) ?_
        refine x_mv' (show _ = (V.bool false) from rfl) ?_
        refine x_done ?_
        refine x_tN ?_
        refine x_retc ?_
        refine x_tR ?_
        obtain rfl := Option.some.inj hD
        exact hR _ (ends_t (nf_of rfl (show _ = (V.bool false) from rfl)) (fun h => nomatch h))
    · rw [if_neg hp296] at hD
      refine x_gn (show _ = (V.bool (!(decide (r283.2 = 0)))) from rfl) (bnot_f (decide_eq_false hp296)) ?_
      refine x_gn (show _ = (V.bool (!(decide (r283.2 = 0)))) from rfl) (bnot_f (decide_eq_false hp296)) ?_
      refine x_gn (show _ = (V.bool (!(decide (r283.2 = 0)))) from rfl) (bnot_f (decide_eq_false hp296)) ?_
      refine x_gn (show _ = (V.bool (!(decide (r283.2 = 0)))) from rfl) (bnot_f (decide_eq_false hp296)) ?_
      refine x_pickt' (show _ = (V.bool (!(decide (r283.2 = 0)))) from rfl) (bnot_f (decide_eq_false hp296)) (show _ = (V.bool true) from rfl) ?_
      refine x_done ?_
      refine x_tN ?_
      refine x_ct (show _ = (V.bool true) from rfl) rfl ?_
      refine x_seq ?_
      refine x_start (b := false) ?_
      refine x_mv' (show _ = (V.bool false) from rfl) ?_
      refine x_done ?_
      refine x_tN ?_
      refine x_retc ?_
      refine x_tR ?_
      obtain rfl := Option.some.inj hD
      exact hR _ (ends_t (nf_of rfl (show _ = (V.bool false) from rfl)) (fun h => nomatch h))
  · rw [if_neg hp273] at hD
    refine x_cf (show _ = (V.bool (decide (r268.2 = 0))) from rfl) (decide_eq_false hp273) ?_
    refine x_skip ?_
    refine x_tN ?_
    refine ok.seichelaw07_ObjectBack_j2 hC_seichelaw07_alive hC_seichelaw07_greatTree hC_seichelaw07_greatCommit hC_object_PutTree hC_object_GetTree hC_seicheref07_SameTree hC_object_PutCommit hC_object_GetCommit hC_seicheref07_SameCommit (fun _ hE => ?_) ?_ hD
    · exact hR _ hE
    · exact h108
def g.seichelaw07_ObjectBack (p0 : (List T.Entry)) (p1 : T.Commit) (p2 : Bytes) : Option Bool :=
  (g.seichelaw07_alive).bind fun r14 =>
  if r14 = true then
    (g.seichelaw07_greatTree p0).bind fun r50 =>
    if r50 = true then
      some true
    else
      (g.seichelaw07_greatCommit p1).bind fun r55 =>
      if r55 = true then
        some true
      else
        if 4096 < ((p2.length : Nat) : Int) then
          some true
        else
          (g.object_PutTree p0).bind fun r312 =>
          if r312.2 = 0 then
            (g.object_GetTree r312.1).bind fun r326 =>
            if r326.2 = 0 then
              (g.seicheref07_SameTree r326.1 p0).bind fun r342 =>
              if r342 = true then
                L.seichelaw07_ObjectBack_j1 p1 p2
              else
                some false
            else
              some false
          else
            L.seichelaw07_ObjectBack_j1 p1 p2
  else
    some false
theorem ok.seichelaw07_ObjectBack {Γ : Abs.Spec} {gl : Glob} (hC_seichelaw07_alive : CallsX Γ K.seichelaw07_alive) (hC_seichelaw07_greatTree : CallsX Γ K.seichelaw07_greatTree) (hC_seichelaw07_greatCommit : CallsX Γ K.seichelaw07_greatCommit) (hC_object_PutTree : CallsX Γ K.object_PutTree) (hC_object_GetTree : CallsX Γ K.object_GetTree) (hC_seicheref07_SameTree : CallsX Γ K.seicheref07_SameTree) (hC_object_PutCommit : CallsX Γ K.object_PutCommit) (hC_object_GetCommit : CallsX Γ K.object_GetCommit) (hC_seicheref07_SameCommit : CallsX Γ K.seicheref07_SameCommit) {r : Bool} {p0 : (List T.Entry)} {p1 : T.Commit} {p2 : Bytes} {v : List V}
    (hv : nfL v = [(V.sl false 34 (List.map E.Entry p0)), (V.agg (C.Commit p1)), (V.str p2)]) (hD : g.seichelaw07_ObjectBack p0 p1 p2 = some r) : awp Γ gl c_seichelaw07_ObjectBack (endQ [.t 6] false (V.bool r)) (St.init v) := by
  obtain ⟨v0, v, rfl, h0, hv⟩ := nfL_cons hv
  obtain ⟨v1, v, rfl, h1, hv⟩ := nfL_cons hv
  obtain ⟨v2, v, rfl, h2, hv⟩ := nfL_cons hv
  obtain rfl := nfL_nil hv
  have hR : ∀ s, EndsX [.t 6] false (V.bool r) s → endQ [.t 6] false (V.bool r) .ret s := fun _ h => h
  unfold g.seichelaw07_ObjectBack at hD
  unfold c_seichelaw07_ObjectBack
  refine x_seq ?_
  refine x_start (b := false) ?_
  refine x_box (l := (C.Commit p1)) (cells_of rfl h1) (C.Commit_sc p1) fun csi2 i2 hidi2 hcsi2 hci2 => ?_
  refine x_mv' (show _ = (V.bool false) from rfl) ?_
  refine x_done ?_
  refine x_tN ?_
  refine x_seq ?_
  refine x_seq ?_
  refine x_start (b := false) ?_
  obtain ⟨r14, hx15, hD⟩ := Option.bind_eq_some_iff.1 hD
  refine x_callF hC_seichelaw07_alive (a := ()) rfl hx15 fun v13 ov13 (hv13 : v13.nf = (V.bool r14)) hov13 => ?_
  refine x_un (nf_bool hv13) (aun_not _) ?_
  refine x_done ?_
  refine x_tN ?_
  by_cases hp16 : r14 = true
  · rw [if_pos hp16] at hD
    refine x_cf (show _ = (V.bool (!r14)) from rfl) (bnot_t hp16) ?_
    refine x_skip ?_
    refine x_tN ?_
    refine x_seq ?_
    refine x_seq ?_
    refine x_start (b := false) ?_
    refine x_mv h0 fun v48 hv48 => ?_
    obtain ⟨r50, hx51, hD⟩ := Option.bind_eq_some_iff.1 hD
    refine x_callF hC_seichelaw07_greatTree (a := (p0)) (cons_eq hv48 rfl) hx51 fun v49 ov49 (hv49 : v49.nf = (V.bool r50)) hov49 => ?_
    refine x_mv' (nf_bool hv49) ?_
    by_cases hp52 : r50 = true
    · rw [if_pos hp52] at hD
      refine x_gn (show _ = (V.bool r50) from rfl) hp52 ?_
      refine x_gn (show _ = (V.bool r50) from rfl) hp52 ?_
      refine x_pickt' (show _ = (V.bool r50) from rfl) hp52 (show _ = (V.bool true) from rfl) ?_
      refine x_mv' (show _ = (V.bool true) from rfl) ?_
      refine x_gn (show _ = (V.bool true) from rfl) rfl ?_
      refine x_gn (show _ = (V.bool true) from rfl) rfl ?_
      refine x_gn (show _ = (V.bool true) from rfl) rfl ?_
      refine x_pickt' (show _ = (V.bool true) from rfl) rfl (show _ = (V.bool true) from rfl) ?_
      refine x_done ?_
      refine x_tN ?_
      refine x_ct (show _ = (V.bool true) from rfl) rfl ?_
      refine x_seq ?_
      refine x_start (b := false) ?_
      refine x_mv' (show _ = (V.bool true) from rfl) ?_
      refine x_done ?_
      refine x_tN ?_
      refine x_retc ?_
      refine x_tR ?_
      obtain rfl := Option.some.inj hD
      exact hR _ (ends_t (nf_of rfl (show _ = (V.bool true) from rfl)) (fun h => nomatch h))
    · rw [if_neg hp52] at hD
      refine x_gy (show _ = (V.bool r50) from rfl) (Bool.eq_false_iff.2 hp52) ?_
      refine x_load (show _ = (V.ptr i2 0) from rfl) hci2 (ld_Commit_0_34 p1) fun v53 hv53 => ?_
      refine x_gy (show _ = (V.bool r50) from rfl) (Bool.eq_false_iff.2 hp52) ?_
      obtain ⟨r55, hx56, hD⟩ := Option.bind_eq_some_iff.1 hD
      refine x_callF hC_seichelaw07_greatCommit (a := (p1)) (cons_eq hv53 rfl) hx56 fun v54 ov54 (hv54 : v54.nf = (V.bool r55)) hov54 => ?_
      refine x_pickf' (show _ = (V.bool r50) from rfl) (Bool.eq_false_iff.2 hp52) (nf_bool hv54) ?_
      refine x_mv' (show _ = (V.bool r55) from rfl) ?_
      by_cases hp57 : r55 = true
      · rw [if_pos hp57] at hD
        refine x_gn (show _ = (V.bool r55) from rfl) hp57 ?_
        refine x_gn (show _ = (V.bool r55) from rfl) hp57 ?_
        refine x_gn (show _ = (V.bool r55) from rfl) hp57 ?_
        refine x_pickt' (show _ = (V.bool r55) from rfl) hp57 (show _ = (V.bool true) from rfl) ?_
        refine x_done ?_
        refine x_tN ?_
        refine x_ct (show _ = (V.bool true) from rfl) rfl ?_
        refine x_seq ?_
        refine x_start (b := false) ?_
        refine x_mv' (show _ = (V.bool true) from rfl) ?_
        refine x_done ?_
        refine x_tN ?_
        refine x_retc ?_
        refine x_tR ?_
        obtain rfl := Option.some.inj hD
        exact hR _ (ends_t (nf_of rfl (show _ = (V.bool true) from rfl)) (fun h => nomatch h))
      · rw [if_neg hp57] at hD
        refine x_gy (show _ = (V.bool r55) from rfl) (Bool.eq_false_iff.2 hp57) ?_
        refine x_mv' (nf_str h2) ?_
        refine x_gy (show _ = (V.bool r55) from rfl) (Bool.eq_false_iff.2 hp57) ?_
        refine x_lens (show _ = (V.str p2) from rfl) ?_
        refine x_gy (show _ = (V.bool r55) from rfl) (Bool.eq_false_iff.2 hp57) ?_
        refine x_bin (show _ = (V.int .i64 ((p2.length : Nat) : Int)) from rfl) (show _ = (V.int .i64 4096) from rfl) b_gtr ?_
        refine x_pickf' (show _ = (V.bool r55) from rfl) (Bool.eq_false_iff.2 hp57) (show _ = (V.bool (decide (4096 < ((p2.length : Nat) : Int)))) from rfl) ?_
        refine x_done ?_
        refine x_tN ?_
        by_cases hp58 : 4096 < ((p2.length : Nat) : Int)
        · rw [if_pos hp58] at hD
          refine x_ct (show _ = (V.bool (decide (4096 < ((p2.length : Nat) : Int)))) from rfl) (decide_eq_true hp58) ?_
          refine x_seq ?_
          refine x_start (b := false) ?_
          refine x_mv' (show _ = (V.bool true) from rfl) ?_
          refine x_done ?_
          refine x_tN ?_
          refine x_retc ?_
          refine x_tR ?_
          obtain rfl := Option.some.inj hD
          exact hR _ (ends_t (nf_of rfl (show _ = (V.bool true) from rfl)) (fun h => nomatch h))
        · rw [if_neg hp58] at hD
          refine x_cf (show _ = (V.bool (decide (4096 < ((p2.length : Nat) : Int)))) from rfl) (decide_eq_false hp58) ?_
          refine x_skip ?_
          refine x_tN ?_
          refine x_seq ?_
          refine x_seq ?_
          refine x_start (b := false) ?_
          refine x_mv h0 fun v310 hv310 => ?_
          obtain ⟨r312, hx313, hD⟩ := Option.bind_eq_some_iff.1 hD
          refine x_callF hC_object_PutTree (a := (p0)) (cons_eq hv310 rfl) hx313 fun v311 ov311 (hv311 : v311.nf = (V.tup [(V.str r312.1), (V.int .i64 r312.2)])) hov311 => ?_
          refine x_mv hv311 fun v314 hv314 => ?_
          refine x_ext hv314 (show _ = some (V.str r312.1) from rfl) fun v315 hv315 => ?_
          refine x_ext hv314 (show _ = some (V.int .i64 r312.2) from rfl) fun v316 hv316 => ?_
          refine x_mv' (nf_str hv315) ?_
          refine x_mv' (nf_int hv316) ?_
          refine x_done ?_
          refine x_tN ?_
          refine x_seq ?_
          refine x_start (b := false) ?_
          refine x_mv' (show _ = (V.int .i64 r312.2) from rfl) ?_
          refine x_bin (show _ = (V.int .i64 r312.2) from rfl) (show _ = (V.int .i64 0) from rfl) b_eql ?_
          refine x_done ?_
          refine x_tN ?_
          by_cases hp317 : r312.2 = 0
          · rw [if_pos hp317] at hD
            refine x_ct (show _ = (V.bool (decide (r312.2 = 0))) from rfl) (decide_eq_true hp317) ?_
            refine x_seq ?_
            refine x_start (b := false) ?_
            refine x_mv' (show _ = (V.str r312.1) from rfl) ?_
            obtain ⟨r326, hx327, hD⟩ := Option.bind_eq_some_iff.1 hD
            refine x_callF hC_object_GetTree (a := (r312.1)) (cons_eq (nf_of rfl (show _ = (V.str r312.1) from rfl)) rfl) hx327 fun v325 ov325 (hv325 : v325.nf = (V.tup [(V.sl false 34 (List.map E.Entry r326.1)), (V.int .i64 r326.2)])) hov325 => ?_
            refine x_mv hv325 fun v328 hv328 => ?_
            refine x_ext hv328 (show _ = some (V.sl false 34 (List.map E.Entry r326.1)) from rfl) fun v329 hv329 => ?_
            refine x_ext hv328 (show _ = some (V.int .i64 r326.2) from rfl) fun v330 hv330 => ?_
            refine x_mvo hv329 fun v331 ov331 hv331 hwv331 => ?_
            refine x_mv' (nf_int hv330) ?_
            refine x_done ?_
            refine x_tN ?_
            refine x_seq ?_
            refine x_start (b := false) ?_
            refine x_mv' (show _ = (V.int .i64 r326.2) from rfl) ?_
            refine x_bin (show _ = (V.int .i64 r326.2) from rfl) (show _ = (V.int .i64 0) from rfl) b_neq ?_
            refine x_mv' (show _ = (V.bool (!(decide (r326.2 = 0)))) from rfl) ?_
            by_cases hp338 : r326.2 = 0
            · rw [if_pos hp338] at hD
              refine x_gy (show _ = (V.bool (!(decide (r326.2 = 0)))) from rfl) (bnot_t (decide_eq_true hp338)) ?_
              refine x_mv hv331 fun v339 hv339 => ?_
              refine x_gy (show _ = (V.bool (!(decide (r326.2 = 0)))) from rfl) (bnot_t (decide_eq_true hp338)) ?_
              refine x_mv h0 fun v340 hv340 => ?_
              refine x_gy (show _ = (V.bool (!(decide (r326.2 = 0)))) from rfl) (bnot_t (decide_eq_true hp338)) ?_
              obtain ⟨r342, hx343, hD⟩ := Option.bind_eq_some_iff.1 hD
              refine x_callF hC_seicheref07_SameTree (a := (r326.1, p0)) (cons_eq hv339 (cons_eq hv340 rfl)) hx343 fun v341 ov341 (hv341 : v341.nf = (V.bool r342)) hov341 => ?_
              refine x_gy (show _ = (V.bool (!(decide (r326.2 = 0)))) from rfl) (bnot_t (decide_eq_true hp338)) ?_
              refine x_un (nf_bool hv341) (aun_not _) ?_
              refine x_pickf' (show _ = (V.bool (!(decide (r326.2 = 0)))) from rfl) (bnot_t (decide_eq_true hp338)) (show _ = (V.bool (!r342)) from rfl) ?_
              refine x_done ?_
              refine x_tN ?_
              by_cases hp344 : r342 = true
              · rw [if_pos hp344] at hD
                refine x_cf (show _ = (V.bool (!r342)) from rfl) (bnot_t hp344) ?_
                refine x_skip ?_
                refine x_tN ?_
                refine ok.seichelaw07_ObjectBack_j1 (i107 := i2) hC_seichelaw07_alive hC_seichelaw07_greatTree hC_seichelaw07_greatCommit hC_object_PutTree hC_object_GetTree hC_seicheref07_SameTree hC_object_PutCommit hC_object_GetCommit hC_seicheref07_SameCommit (fun _ hE => ?_) ?_ ?_ ?_ ?_ hD
                · exact hR _ hE
                · exact (Nat.lt_succ_of_le (Nat.le_of_eq hidi2))
                · exact hci2
                · exact (nf_str h2)
                · exact (show _ = (V.ptr i2 0) from rfl)
              · rw [if_neg hp344] at hD
                refine x_ct (show _ = (V.bool (!r342)) from rfl) (bnot_f (Bool.eq_false_iff.2 hp344)) ?_
                refine x_seq ?_
                refine x_start (b := false) ?_
                refine x_mv' (show _ = (V.bool false) from rfl) ?_
                refine x_done ?_
                refine x_tN ?_
                refine x_retc ?_
                refine x_tR ?_
                obtain rfl := Option.some.inj hD
                exact hR _ (ends_t (nf_of rfl (show _ = (V.bool false) from rfl)) (fun h => nomatch h))
            · rw [if_neg hp338] at hD
              refine x_gn (show _ = (V.bool (!(decide (r326.2 = 0)))) from rfl) (bnot_f (decide_eq_false hp338)) ?_
              refine x_gn (show _ = (V.bool (!(decide (r326.2 = 0)))) from rfl) (bnot_f (decide_eq_false hp338)) ?_
              refine x_gn (show _ = (V.bool (!(decide (r326.2 = 0)))) from rfl) (bnot_f (decide_eq_false hp338)) ?_
              refine x_gn (show _ = (V.bool (!(decide (r326.2 = 0)))) from rfl) (bnot_f (decide_eq_false hp338)) ?_
              refine x_pickt' (show _ = (V.bool (!(decide (r326.2 = 0)))) from rfl) (bnot_f (decide_eq_false hp338)) (show _ = (V.bool true) from rfl) ?_
              refine x_done ?_
              refine x_tN ?_
              refine x_ct (show _ = (V.bool true) from rfl) rfl ?_
              refine x_seq ?_
              refine x_start (b := false) ?_
              refine x_mv' (show _ = (V.bool false) from rfl) ?_
              refine x_done ?_
              refine x_tN ?_
              refine x_retc ?_
              refine x_tR ?_
              obtain rfl := Option.some.inj hD
              exact hR _ (ends_t (nf_of rfl (show _ = (V.bool false) from rfl)) (fun h => nomatch h))
          · rw [if_neg hp317] at hD
            refine x_cf (show _ = (V.bool (decide (r312.2 = 0))) from rfl) (decide_eq_false hp317) ?_
            refine x_skip ?_
            refine x_tN ?_
            refine ok.seichelaw07_ObjectBack_j1 (i107 := i2) hC_seichelaw07_alive hC_seichelaw07_greatTree hC_seichelaw07_greatCommit hC_object_PutTree hC_object_GetTree hC_seicheref07_SameTree hC_object_PutCommit hC_object_GetCommit hC_seicheref07_SameCommit (fun _ hE => ?_) ?_ ?_ ?_ ?_ hD
            · exact hR _ hE
            · exact (Nat.lt_succ_of_le (Nat.le_of_eq hidi2))
            · exact hci2
            · exact (nf_str h2)
            · exact (show _ = (V.ptr i2 0) from rfl)
  · rw [if_neg hp16] at hD
    refine x_ct (show _ = (V.bool (!r14)) from rfl) (bnot_f (Bool.eq_false_iff.2 hp16)) ?_
    refine x_seq ?_
    refine x_start (b := false) ?_
    refine x_mv' (show _ = (V.bool false) from rfl) ?_
    refine x_done ?_
    refine x_tN ?_
    refine x_retc ?_
    refine x_tR ?_
    obtain rfl := Option.some.inj hD
    exact hR _ (ends_t (nf_of rfl (show _ = (V.bool false) from rfl)) (fun h => nomatch h))
def K.seichelaw07_ObjectBack : FC := fc F.seichelaw07_ObjectBack (fun _ => true) false (fun (a : ((List T.Entry) × T.Commit × Bytes)) => [(V.sl false 34 (List.map E.Entry a.1)), (V.agg (C.Commit a.2.1)), (V.str a.2.2)]) (fun (y : Bool) => (V.bool y)) (fun a => g.seichelaw07_ObjectBack a.1 a.2.1 a.2.2)
  (fun a => (cleanL_mk (E.LEntry_clean _) (cleanL_mk (E.Commit_clean _) (cleanL_mk rfl rfl))))
  (fun y => rfl)
  (fun ⟨a0, a1, a2⟩ ⟨b0, b1, b2⟩ h => by
    obtain ⟨h0, h⟩ := List.cons.inj h
    obtain rfl : a0 = b0 := E.LEntry_inj h0
    obtain ⟨h0, h⟩ := List.cons.inj h
    obtain rfl : a1 = b1 := E.Commit_inj h0
    obtain ⟨h0, h⟩ := List.cons.inj h
    obtain rfl : a2 = b2 := V.str.inj h0
    rfl)
theorem H.seichelaw07_ObjectBack (w : World) (hw : EnvOK w) : K.seichelaw07_ObjectBack.Holds (cxD w) :=
  FC.holds_of (cs := [K.seichelaw07_alive, K.seichelaw07_greatTree, K.seichelaw07_greatCommit, K.object_PutTree, K.object_GetTree, K.seicheref07_SameTree, K.object_PutCommit, K.object_GetCommit, K.seicheref07_SameCommit]) (glD w) mixed cf_seichelaw07_ObjectBack (fun _ _ ⟨_, _, h, _⟩ => by subst h; exact Nat.le_of_ble_eq_true rfl) fun v y ⟨a, r, hv, hD, hy⟩ => by
    subst hy
    exact ok.seichelaw07_ObjectBack (specOf_calls (H.seichelaw07_alive w hw) (fun _ _ ⟨_, _, h, _⟩ => by subst h; rfl)) (specOf_calls (H.seichelaw07_greatTree w hw) (fun _ _ ⟨_, _, h, _⟩ => by subst h; rfl)) (specOf_calls (H.seichelaw07_greatCommit w hw) (fun _ _ ⟨_, _, h, _⟩ => by subst h; rfl)) (specOf_calls (H.object_PutTree w hw) (fun _ _ ⟨_, _, h, _⟩ => by subst h; rfl)) (specOf_calls (H.object_GetTree w hw) (fun _ _ ⟨_, _, h, _⟩ => by subst h; rfl)) (specOf_calls (H.seicheref07_SameTree w hw) (fun _ _ ⟨_, _, h, _⟩ => by subst h; rfl)) (specOf_calls (H.object_PutCommit w hw) (fun _ _ ⟨_, _, h, _⟩ => by subst h; rfl)) (specOf_calls (H.object_GetCommit w hw) (fun _ _ ⟨_, _, h, _⟩ => by subst h; rfl)) (specOf_calls (H.seicheref07_SameCommit w hw) (fun _ _ ⟨_, _, h, _⟩ => by subst h; rfl)) hv hD
end Go.Proofs.YtainplhaaklpeaaDoor
