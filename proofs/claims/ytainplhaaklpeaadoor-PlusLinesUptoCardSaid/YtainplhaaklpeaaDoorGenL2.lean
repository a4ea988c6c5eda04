/-
  Functions of the program as Lean functions over plain data, and the proofs that the loaded code comes to them. Printed by a program of this seat (wip/gen/gen.py).
-/
import Derived.Test.YtainplhaaklpeaaDoorProg
import Derived.Test.YtainplhaaklpeaaDoorGenL
namespace Go.Proofs.YtainplhaaklpeaaDoor
open Go.Abs Go.RowKit

def F.seichelaw14_PlusLines : Nat := 14
def F.seichelaw14_alive : Nat := 54
def F.seichelaw14_great : Nat := 55
def F.seicheref14_Lines : Nat := 58
def F.seicheref14_Good : Nat := 59
def F.seicheref14_Line : Nat := 60
def F.seicheref14_wrap : Nat := 87
def F.seicheref14_Words : Nat := 88
def F.seicheref14_Cut : Nat := 89
def F.seicheref14_Term : Nat := 90
def c_seicheref14_Cut_j1 : ACode := (.seq (.region [
  ⟨(some 25), (.mvo 5), none, []⟩, 
  ⟨(some 26), (.mv (.tmp 0)), none, []⟩, 
  ⟨(some 27), (.mv (.tmp 6)), none, []⟩, 
  ⟨(some 28), (.mv (.tmp 7)), none, []⟩, 
  ⟨(some 29), (.sls (.tmp 26) (some (.tmp 27)) (some (.tmp 28))), none, []⟩, 
  ⟨(some 30), (.bsl 1 [(.tmp 29)]), none, []⟩, 
  ⟨(some 31), (.app 1 (.tmp 25) (.tmp 30)), none, []⟩, 
  ⟨(some 5), (.mvo 31), none, []⟩] false) (.region [
  ⟨(some 32), (.mv (.tmp 7)), none, []⟩, 
  ⟨(some 33), (.bin .add .no (.tmp 32) (.const (.int .i64 1))), none, []⟩, 
  ⟨(some 6), (.mv (.tmp 33)), none, []⟩] false))
def c_seicheref14_Cut_l1 : ACode := (.seq (.seq (.region [
  ⟨(some 8), (.mv (.tmp 7)), none, []⟩, 
  ⟨(some 9), (.mv (.tmp 0)), none, []⟩, 
  ⟨(some 10), (.len true (.tmp 9)), none, []⟩, 
  ⟨(some 11), (.bin .leq .no (.tmp 8) (.tmp 10)), none, []⟩] false) (.cond (.tmp 11) .skip (.exit 0))) (.seq (.block 1 (.seq (.region [
  ⟨(some 14), (.mv (.tmp 7)), none, []⟩, 
  ⟨(some 15), (.mv (.tmp 0)), none, []⟩, 
  ⟨(some 16), (.len true (.tmp 15)), none, []⟩, 
  ⟨(some 17), (.bin .eql .no (.tmp 14) (.tmp 16)), none, []⟩, 
  ⟨(some 18), (.mv (.tmp 17)), none, []⟩, 
  ⟨(some 19), (.mv (.tmp 0)), (some (18, false)), []⟩, 
  ⟨(some 20), (.mv (.tmp 7)), (some (18, false)), []⟩, 
  ⟨(some 21), (.idx (.tmp 19) (.tmp 20)), (some (18, false)), []⟩, 
  ⟨(some 22), (.mv (.tmp 1)), (some (18, false)), []⟩, 
  ⟨(some 23), (.bin .eql .no (.tmp 21) (.tmp 22)), (some (18, false)), []⟩, 
  ⟨(some 24), (.pick (.tmp 18) (.const (.bool true)) (.tmp 23)), none, []⟩] false) (.cond (.tmp 24) c_seicheref14_Cut_j1 .skip))) (.region [
  ⟨(some 12), (.mv (.tmp 7)), none, []⟩, 
  ⟨(some 13), (.bin .add .no (.tmp 12) (.const (.int .i64 1))), none, []⟩, 
  ⟨(some 7), (.mv (.tmp 13)), none, []⟩] false)))
def c_seicheref14_Cut : ACode := (.seq (.region [
  ⟨(some 4), (.mv (.const (.sl true 1 []))), none, []⟩] false) (.seq (.region [
  ⟨(some 5), (.mv (.const (.sl true 1 []))), none, []⟩] false) (.seq (.region [
  ⟨(some 6), (.mv (.const (.int .i64 0))), none, []⟩] false) (.seq (.seq (.region [
  ⟨(some 7), (.mv (.const (.int .i64 0))), none, []⟩] false) (.block 0 (.loop c_seicheref14_Cut_l1))) (.seq (.region [
  ⟨(some 34), (.mvo 5), none, []⟩, 
  ⟨(some 4), (.mvo 34), none, []⟩] false) .ret)))))
theorem cf_seicheref14_Cut : cFn Go.Proofs.Tryd.prog F.seicheref14_Cut = some ⟨35, c_seicheref14_Cut, [.t 4]⟩ := by kernel_rfl
def L.seicheref14_Cut_j1 (t0_1 : Bytes) (k0 : (List Bytes) → Int → Int → Option (List Bytes)) (t5_70 : (List Bytes)) (t6_72 : Int) (t7_74 : Int) : Option (List Bytes) :=
  (cut t0_1 t6_72 t7_74).bind fun q76 =>
  (appL t5_70 ([q76] : (List Bytes))).bind fun l79 =>
  k0 l79 (wi (t7_74 + 1)) t7_74
theorem ok.seicheref14_Cut_j1 {Γ : Abs.Spec} {gl : Glob} {Q : Ex → St → Prop} {r : (List Bytes)} {t0_1 : Bytes} {t1_2 : UInt8} {k0 : (List Bytes) → Int → Int → Option (List Bytes)}
    (hk0 : ∀ (s : St) (t5_110 : (List Bytes)) (t6_112 : Int) (t7_114 : Int), (s.tm 0 = (V.str t0_1)) → (s.tm 1 = (V.int .u8 ((t1_2 : UInt8).toNat : Int))) → ((s.tm 5).nf = (V.sl false 1 (List.map V.str t5_110))) → (OwnS s 5) → (s.tm 6 = (V.int .i64 t6_112)) → (s.tm 7 = (V.int .i64 t7_114)) → k0 t5_110 t6_112 t7_114 = some r → Q .normal s)
    (hR : ∀ s, EndsX [.t 4] true (V.sl false 1 (List.map V.str r)) s → Q .ret s)
    {s : St} {t5_70 : (List Bytes)} {t6_72 : Int} {t7_74 : Int} (h67 : s.tm 0 = (V.str t0_1)) (h68 : s.tm 1 = (V.int .u8 ((t1_2 : UInt8).toNat : Int))) (h69 : (s.tm 5).nf = (V.sl false 1 (List.map V.str t5_70))) (h69o : OwnS s 5) (h71 : s.tm 6 = (V.int .i64 t6_72)) (h73 : s.tm 7 = (V.int .i64 t7_74))
    (hD : L.seicheref14_Cut_j1 t0_1 k0 t5_70 t6_72 t7_74 = some r) : awp Γ gl c_seicheref14_Cut_j1 Q s := by
  unfold L.seicheref14_Cut_j1 at hD
  refine x_seq ?_
  refine x_start (b := false) ?_
  refine x_mvo h69 fun v75 ov75 hv75 hwv75 => ?_
  refine x_mv' h67 ?_
  refine x_mv' h71 ?_
  refine x_mv' h73 ?_
  obtain ⟨q76, hx77, hD⟩ := Option.bind_eq_some_iff.1 hD
  refine x_slslh (show _ = (V.str t0_1) from rfl) (show _ = (V.int .i64 t6_72) from rfl) (show _ = (V.int .i64 t7_74) from rfl) hx77 ?_
  refine x_bsl (E := V.str) (l := ([q76] : (List Bytes))) (cons_eq (nf_of rfl (show _ = (V.str q76) from rfl)) rfl) (fits_map (E := V.str) (sz := 1) (fun x => ⟨rfl, rfl⟩) _) fun v78 ov78 hv78 hov78 => ?_
  obtain ⟨l79, hx80, hD⟩ := Option.bind_eq_some_iff.1 hD
  refine x_app hv75 (hwv75 h69o) (tail_sl hv78) hx80 fun v81 ov81 fv81 hv81 hov81 hfv81 => ?_
  refine x_mvo hv81 fun v82 ov82 hv82 hwv82 => ?_
  refine x_done ?_
  refine x_tN ?_
  refine x_start (b := false) ?_
  refine x_mv' h73 ?_
  refine x_bin (show _ = (V.int .i64 t7_74) from rfl) (show _ = (V.int .i64 1) from rfl) b_add ?_
  refine x_mv' (show _ = (V.int .i64 (wi (t7_74 + 1))) from rfl) ?_
  refine x_done ?_
  refine hk0 _ _ _ _ ?_ ?_ ?_ ?_ ?_ ?_ hD
  · exact h67
  · exact h68
  · exact hv82
  · exact (hwv82 hov81)
  · exact (show _ = (V.int .i64 (wi (t7_74 + 1))) from rfl)
  · exact h73
def L.seicheref14_Cut_l1 (t0_1 : Bytes) (t1_2 : UInt8) (k0 : (List Bytes) → Option (List Bytes)) : Nat → (List Bytes) → Int → Int → Option (List Bytes)
  | 0, _, _, _ => none
  | n + 1, t5_39, t6_41, t7_43 =>
    if t7_43 ≤ ((t0_1.length : Nat) : Int) then
      if t7_43 = ((t0_1.length : Nat) : Int) then
        L.seicheref14_Cut_j1 t0_1 (fun (t5_119 : (List Bytes)) (t6_121 : Int) (t7_123 : Int) => L.seicheref14_Cut_l1 t0_1 t1_2 k0 n t5_119 t6_121 (wi (t7_123 + 1))) t5_39 t6_41 t7_43
      else
        (at? t0_1 t7_43).bind fun b125 =>
        if b125 = t1_2 then
          L.seicheref14_Cut_j1 t0_1 (fun (t5_131 : (List Bytes)) (t6_133 : Int) (t7_135 : Int) => L.seicheref14_Cut_l1 t0_1 t1_2 k0 n t5_131 t6_133 (wi (t7_135 + 1))) t5_39 t6_41 t7_43
        else
          L.seicheref14_Cut_l1 t0_1 t1_2 k0 n t5_39 t6_41 (wi (t7_43 + 1))
    else
      k0 t5_39
theorem ok.seicheref14_Cut_l1 {Γ : Abs.Spec} {gl : Glob} {Q : Ex → St → Prop} {r : (List Bytes)} {t0_1 : Bytes} {t1_2 : UInt8} {k0 : (List Bytes) → Option (List Bytes)}
    (hk0 : ∀ (s : St) (t5_140 : (List Bytes)), ((s.tm 5).nf = (V.sl false 1 (List.map V.str t5_140))) → (OwnS s 5) → k0 t5_140 = some r → Q (.exit 0) s)
    (hR : ∀ s, EndsX [.t 4] true (V.sl false 1 (List.map V.str r)) s → Q .ret s) : ∀ (n : Nat) (s : St) (t5_39 : (List Bytes)) (t6_41 : Int) (t7_43 : Int),
    (s.tm 0 = (V.str t0_1)) → (s.tm 1 = (V.int .u8 ((t1_2 : UInt8).toNat : Int))) → ((s.tm 5).nf = (V.sl false 1 (List.map V.str t5_39))) → (OwnS s 5) → (s.tm 6 = (V.int .i64 t6_41)) → (s.tm 7 = (V.int .i64 t7_43)) → L.seicheref14_Cut_l1 t0_1 t1_2 k0 n t5_39 t6_41 t7_43 = some r → awp Γ gl (.loop c_seicheref14_Cut_l1) Q s := by
  intro n
  induction n with
  | zero => intro s t5_39 t6_41 t7_43 h36 h37 h38 h38o h40 h42 hD; rw [L.seicheref14_Cut_l1] at hD; cases hD
  | succ n ih =>
    intro s t5_39 t6_41 t7_43 h36 h37 h38 h38o h40 h42 hD
    refine awp_roundK fun K hK => ?_
    rw [L.seicheref14_Cut_l1] at hD
    refine x_seq ?_
    refine x_seq ?_
    refine x_start (b := false) ?_
    refine x_mv' h42 ?_
    refine x_mv' h36 ?_
    refine x_lens (show _ = (V.str t0_1) from rfl) ?_
    refine x_bin (show _ = (V.int .i64 t7_43) from rfl) (show _ = (V.int .i64 ((t0_1.length : Nat) : Int)) from rfl) b_leq ?_
    refine x_done ?_
    refine x_tN ?_
    by_cases hp47 : t7_43 ≤ ((t0_1.length : Nat) : Int)
    · rw [if_pos hp47] at hD
      refine x_ct (show _ = (V.bool (decide (t7_43 ≤ ((t0_1.length : Nat) : Int)))) from rfl) (decide_eq_true hp47) ?_
      refine x_skip ?_
      refine x_tN ?_
      refine x_seq ?_
      refine x_block ?_
      refine x_seq ?_
      refine x_start (b := false) ?_
      refine x_mv' h42 ?_
      refine x_mv' h36 ?_
      refine x_lens (show _ = (V.str t0_1) from rfl) ?_
      refine x_bin (show _ = (V.int .i64 t7_43) from rfl) (show _ = (V.int .i64 ((t0_1.length : Nat) : Int)) from rfl) b_eql ?_
      refine x_mv' (show _ = (V.bool (decide (t7_43 = ((t0_1.length : Nat) : Int)))) from rfl) ?_
      by_cases hp115 : t7_43 = ((t0_1.length : Nat) : Int)
      · rw [if_pos hp115] at hD
        refine x_gn (show _ = (V.bool (decide (t7_43 = ((t0_1.length : Nat) : Int)))) from rfl) (decide_eq_true hp115) ?_
        refine x_gn (show _ = (V.bool (decide (t7_43 = ((t0_1.length : Nat) : Int)))) from rfl) (decide_eq_true hp115) ?_
        refine x_gn (show _ = (V.bool (decide (t7_43 = ((t0_1.length : Nat) : Int)))) from rfl) (decide_eq_true hp115) ?_
        refine x_gn (show _ = (V.bool (decide (t7_43 = ((t0_1.length : Nat) : Int)))) from rfl) (decide_eq_true hp115) ?_
        refine x_gn (show _ = (V.bool (decide (t7_43 = ((t0_1.length : Nat) : Int)))) from rfl) (decide_eq_true hp115) ?_
        refine x_pickt' (show _ = (V.bool (decide (t7_43 = ((t0_1.length : Nat) : Int)))) from rfl) (decide_eq_true hp115) (show _ = (V.bool true) from rfl) ?_
        refine x_done ?_
        refine x_tN ?_
        refine x_ct (show _ = (V.bool true) from rfl) rfl ?_
        refine ok.seicheref14_Cut_j1 (t0_1 := t0_1) (t1_2 := t1_2) (fun s124 t5_119 t6_121 t7_123 h116 h117 h118 h118o h120 h122 hD => ?_) (fun _ hE => ?_) ?_ ?_ ?_ ?_ ?_ ?_ hD
        · refine x_bN ?_
          refine x_tN ?_
          refine x_start (b := false) ?_
          refine x_mv' h122 ?_
          refine x_bin (show _ = (V.int .i64 t7_123) from rfl) (show _ = (V.int .i64 1) from rfl) b_add ?_
          refine x_mv' (show _ = (V.int .i64 (wi (t7_123 + 1))) from rfl) ?_
          refine x_done ?_
          refine x_tN ?_
          refine hK _ ?_
          refine ih _ _ _ _ ?_ ?_ ?_ ?_ ?_ ?_ hD
          · exact h116
          · exact h117
          · exact h118
          · exact h118o
          · exact h120
          · exact (show _ = (V.int .i64 (wi (t7_123 + 1))) from rfl)
        · refine x_bR ?_; refine x_tR ?_; refine x_tR ?_; exact hR _ hE
        · exact h36
        · exact h37
        · exact h38
        · exact h38o
        · exact h40
        · exact h42
      · rw [if_neg hp115] at hD
        refine x_gy (show _ = (V.bool (decide (t7_43 = ((t0_1.length : Nat) : Int)))) from rfl) (decide_eq_false hp115) ?_
        refine x_mv' h36 ?_
        refine x_gy (show _ = (V.bool (decide (t7_43 = ((t0_1.length : Nat) : Int)))) from rfl) (decide_eq_false hp115) ?_
        refine x_mv' h42 ?_
        refine x_gy (show _ = (V.bool (decide (t7_43 = ((t0_1.length : Nat) : Int)))) from rfl) (decide_eq_false hp115) ?_
        obtain ⟨b125, hx126, hD⟩ := Option.bind_eq_some_iff.1 hD
        refine x_idx (show _ = (V.str t0_1) from rfl) (show _ = (V.int .i64 t7_43) from rfl) hx126 ?_
        refine x_gy (show _ = (V.bool (decide (t7_43 = ((t0_1.length : Nat) : Int)))) from rfl) (decide_eq_false hp115) ?_
        refine x_mv' h37 ?_
        refine x_gy (show _ = (V.bool (decide (t7_43 = ((t0_1.length : Nat) : Int)))) from rfl) (decide_eq_false hp115) ?_
        refine x_bin (show _ = (V.int .u8 ((b125 : UInt8).toNat : Int)) from rfl) (show _ = (V.int .u8 ((t1_2 : UInt8).toNat : Int)) from rfl) u8_eql ?_
        refine x_pickf' (show _ = (V.bool (decide (t7_43 = ((t0_1.length : Nat) : Int)))) from rfl) (decide_eq_false hp115) (show _ = (V.bool (decide (b125 = t1_2))) from rfl) ?_
        refine x_done ?_
        refine x_tN ?_
        by_cases hp127 : b125 = t1_2
        · rw [if_pos hp127] at hD
          refine x_ct (show _ = (V.bool (decide (b125 = t1_2))) from rfl) (decide_eq_true hp127) ?_
          refine ok.seicheref14_Cut_j1 (t0_1 := t0_1) (t1_2 := t1_2) (fun s136 t5_131 t6_133 t7_135 h128 h129 h130 h130o h132 h134 hD => ?_) (fun _ hE => ?_) ?_ ?_ ?_ ?_ ?_ ?_ hD
          · refine x_bN ?_
            refine x_tN ?_
            refine x_start (b := false) ?_
            refine x_mv' h134 ?_
            refine x_bin (show _ = (V.int .i64 t7_135) from rfl) (show _ = (V.int .i64 1) from rfl) b_add ?_
            refine x_mv' (show _ = (V.int .i64 (wi (t7_135 + 1))) from rfl) ?_
            refine x_done ?_
            refine x_tN ?_
            refine hK _ ?_
            refine ih _ _ _ _ ?_ ?_ ?_ ?_ ?_ ?_ hD
            · exact h128
            · exact h129
            · exact h130
            · exact h130o
            · exact h132
            · exact (show _ = (V.int .i64 (wi (t7_135 + 1))) from rfl)
          · refine x_bR ?_; refine x_tR ?_; refine x_tR ?_; exact hR _ hE
          · exact h36
          · exact h37
          · exact h38
          · exact h38o
          · exact h40
          · exact h42
        · rw [if_neg hp127] at hD
          refine x_cf (show _ = (V.bool (decide (b125 = t1_2))) from rfl) (decide_eq_false hp127) ?_
          refine x_skip ?_
          refine x_bN ?_
          refine x_tN ?_
          refine x_start (b := false) ?_
          refine x_mv' h42 ?_
          refine x_bin (show _ = (V.int .i64 t7_43) from rfl) (show _ = (V.int .i64 1) from rfl) b_add ?_
          refine x_mv' (show _ = (V.int .i64 (wi (t7_43 + 1))) from rfl) ?_
          refine x_done ?_
          refine x_tN ?_
          refine hK _ ?_
          refine ih _ _ _ _ ?_ ?_ ?_ ?_ ?_ ?_ hD
          · exact h36
          · exact h37
          · exact h38
          · exact h38o
          · exact h40
          · exact (show _ = (V.int .i64 (wi (t7_43 + 1))) from rfl)
    · rw [if_neg hp47] at hD
      refine x_cf (show _ = (V.bool (decide (t7_43 ≤ ((t0_1.length : Nat) : Int)))) from rfl) (decide_eq_false hp47) ?_
      refine x_exitc ?_
      refine x_tE ?_
      refine x_tE ?_
      refine hk0 _ _ ?_ ?_ hD
      · exact h38
      · exact h38o
def g.seicheref14_Cut (p0 : Bytes) (p1 : UInt8) : Option (List Bytes) :=
  L.seicheref14_Cut_l1 p0 p1 (fun (t5_142 : (List Bytes)) => some t5_142) fuel [] 0 0
theorem ok.seicheref14_Cut {Γ : Abs.Spec} {gl : Glob} {r : (List Bytes)} {p0 : Bytes} {p1 : UInt8} {v : List V}
    (hv : nfL v = [(V.str p0), (V.int .u8 ((p1 : UInt8).toNat : Int))]) (hD : g.seicheref14_Cut p0 p1 = some r) : awp Γ gl c_seicheref14_Cut (endQ [.t 4] true (V.sl false 1 (List.map V.str r))) (St.init v) := by
  obtain ⟨v0, v, rfl, h0, hv⟩ := nfL_cons hv
  obtain ⟨v1, v, rfl, h1, hv⟩ := nfL_cons hv
  obtain rfl := nfL_nil hv
  have hR : ∀ s, EndsX [.t 4] true (V.sl false 1 (List.map V.str r)) s → endQ [.t 4] true (V.sl false 1 (List.map V.str r)) .ret s := fun _ h => h
  unfold g.seicheref14_Cut at hD
  unfold c_seicheref14_Cut
  refine x_seq ?_
  refine x_start (b := false) ?_
  refine x_mv' (y := V.sl true 1 []) rfl ?_
  refine x_done ?_
  refine x_tN ?_
  refine x_seq ?_
  refine x_start (b := false) ?_
  refine x_mv' (y := V.sl true 1 []) rfl ?_
  refine x_done ?_
  refine x_tN ?_
  refine x_seq ?_
  refine x_start (b := false) ?_
  refine x_mv' (show _ = (V.int .i64 0) from rfl) ?_
  refine x_done ?_
  refine x_tN ?_
  refine x_seq ?_
  refine x_seq ?_
  refine x_start (b := false) ?_
  refine x_mv' (show _ = (V.int .i64 0) from rfl) ?_
  refine x_done ?_
  refine x_tN ?_
  refine x_block ?_
  refine ok.seicheref14_Cut_l1 (t0_1 := p0) (t1_2 := p1) (fun s145 t5_142 h141 h141o hD => ?_) (fun _ hE => ?_) _ _ _ _ _ ?_ ?_ ?_ ?_ ?_ ?_ hD
  · refine x_bE ?_
    refine x_tN ?_
    refine x_seq ?_
    refine x_start (b := false) ?_
    refine x_mvo h141 fun v143 ov143 hv143 hwv143 => ?_
    refine x_mvo hv143 fun v144 ov144 hv144 hwv144 => ?_
    refine x_done ?_
    refine x_tN ?_
    refine x_retc ?_
    obtain rfl := Option.some.inj hD
    exact hR _ (ends_t hv144 (fun _ => (hwv144 (hwv143 h141o))))
  · refine x_bR ?_; refine x_tR ?_; exact hR _ hE
  · exact (nf_str h0)
  · exact (nf_int h1)
  · exact (show V.nf _ = (V.sl false 1 (List.map V.str [])) from rfl)
  · exact (Or.inr ⟨1, rfl⟩)
  · exact (show _ = (V.int .i64 0) from rfl)
  · exact (show _ = (V.int .i64 0) from rfl)
def K.seicheref14_Cut : FC := fc F.seicheref14_Cut (fun _ => true) true (fun (a : (Bytes × UInt8)) => [(V.str a.1), (V.int .u8 ((a.2 : UInt8).toNat : Int))]) (fun (y : (List Bytes)) => (V.sl false 1 (List.map V.str y))) (fun a => g.seicheref14_Cut a.1 a.2)
  (fun a => (cleanL_mk rfl (cleanL_mk rfl rfl)))
  (fun y => (E.Lstring_clean _))
  (fun ⟨a0, a1⟩ ⟨b0, b1⟩ h => by
    obtain ⟨h0, h⟩ := List.cons.inj h
    obtain rfl : a0 = b0 := V.str.inj h0
    obtain ⟨h0, h⟩ := List.cons.inj h
    obtain rfl : a1 = b1 := byteV_inj h0
    rfl)
theorem H.seicheref14_Cut (w : World) (_hw : EnvOK w) : K.seicheref14_Cut.Holds (cxD w) :=
  FC.holds_of (cs := []) (glD w) mixed cf_seicheref14_Cut (fun _ _ ⟨_, _, h, _⟩ => by subst h; exact Nat.le_of_ble_eq_true rfl) fun v y ⟨a, r, hv, hD, hy⟩ => by
    subst hy
    exact ok.seicheref14_Cut hv hD
def c_seicheref14_Words_l2 : ACode := (.seq (.region [
  ⟨(some 19), (.bin .lss .no (.tmp 18) (.tmp 17)), none, []⟩] false) (.seq (.cond (.tmp 19) .skip (.exit 2)) (.seq (.block 3 (.seq (.region [
  ⟨(some 20), (.iaddr 1 (.tmp 16) (.tmp 18)), none, []⟩, 
  ⟨(some 21), (.load none (.tmp 20)), none, []⟩, 
  ⟨(some 7), (.mv (.tmp 21)), none, []⟩] false) (.seq (.region [
  ⟨(some 22), (.mv (.tmp 7)), none, []⟩, 
  ⟨(some 23), (.bin .neq .no (.tmp 22) (.const (.str []))), none, []⟩] false) (.cond (.tmp 23) (.region [
  ⟨(some 24), (.mvo 3), none, []⟩, 
  ⟨(some 25), (.mv (.tmp 7)), none, []⟩, 
  ⟨(some 26), (.bsl 1 [(.tmp 25)]), none, []⟩, 
  ⟨(some 27), (.app 1 (.tmp 24) (.tmp 26)), none, []⟩, 
  ⟨(some 3), (.mvo 27), none, []⟩] false) .skip)))) (.region [
  ⟨(some 28), (.bin .add .no (.tmp 18) (.const (.int .i64 1))), none, []⟩, 
  ⟨(some 18), (.mv (.tmp 28)), none, []⟩] false))))
def c_seicheref14_Words_l1 : ACode := (.seq (.region [
  ⟨(some 12), (.bin .lss .no (.tmp 11) (.tmp 10)), none, []⟩] false) (.seq (.cond (.tmp 12) .skip (.exit 0)) (.seq (.block 1 (.seq (.region [
  ⟨(some 13), (.iaddr 1 (.tmp 9) (.tmp 11)), none, []⟩, 
  ⟨(some 14), (.load none (.tmp 13)), none, []⟩, 
  ⟨(some 5), (.mv (.tmp 14)), none, []⟩] false) (.seq (.region [
  ⟨(some 15), (.mv (.tmp 5)), none, []⟩, 
  ⟨(some 16), (.call F.seicheref14_Cut [(.tmp 15), (.const (.int .u8 9))]), none, []⟩, 
  ⟨(some 17), (.len false (.tmp 16)), none, []⟩, 
  ⟨(some 18), (.mv (.const (.int .i64 0))), none, []⟩] false) (.block 2 (.loop c_seicheref14_Words_l2))))) (.region [
  ⟨(some 29), (.bin .add .no (.tmp 11) (.const (.int .i64 1))), none, []⟩, 
  ⟨(some 11), (.mv (.tmp 29)), none, []⟩] false))))
def c_seicheref14_Words : ACode := (.seq (.region [
  ⟨(some 2), (.mv (.const (.sl true 1 []))), none, []⟩] false) (.seq (.region [
  ⟨(some 3), (.mv (.const (.sl true 1 []))), none, []⟩] false) (.seq (.seq (.region [
  ⟨(some 8), (.mv (.tmp 0)), none, []⟩, 
  ⟨(some 9), (.call F.seicheref14_Cut [(.tmp 8), (.const (.int .u8 32))]), none, []⟩, 
  ⟨(some 10), (.len false (.tmp 9)), none, []⟩, 
  ⟨(some 11), (.mv (.const (.int .i64 0))), none, []⟩] false) (.block 0 (.loop c_seicheref14_Words_l1))) (.seq (.region [
  ⟨(some 30), (.mvo 3), none, []⟩, 
  ⟨(some 2), (.mvo 30), none, []⟩] false) .ret))))
theorem cf_seicheref14_Words : cFn Go.Proofs.Tryd.prog F.seicheref14_Words = some ⟨31, c_seicheref14_Words, [.t 2]⟩ := by kernel_rfl
def L.seicheref14_Words_l2 (k0 : (List Bytes) → Option (List Bytes)) : List Bytes → (List Bytes) → Option (List Bytes)
  | [], t3_87 =>
    k0 t3_87
  | a96 :: rest, t3_87 =>
    if a96 = ([] : Bytes) then
      L.seicheref14_Words_l2 k0 rest t3_87
    else
      (appL t3_87 ([a96] : (List Bytes))).bind fun l104 =>
      L.seicheref14_Words_l2 k0 rest l104
theorem ok.seicheref14_Words_l2 {Γ : Abs.Spec} {gl : Glob} (hC_seicheref14_Cut : CallsX Γ K.seicheref14_Cut) {Q : Ex → St → Prop} {r : (List Bytes)} {l7 : List Bytes} {k8 : Nat} {l65 : List Bytes} {k0 : (List Bytes) → Option (List Bytes)}
    (hk0 : ∀ (s : St) (t3_114 : (List Bytes)), ((s.tm 3).nf = (V.sl false 1 (List.map V.str t3_114))) → (OwnS s 3) → ((s.tm 9).nf = (V.sl false 1 (List.map V.str l7))) → (s.tm 10 = (V.int .i64 ((l7.length : Nat) : Int))) → (s.tm 11 = (V.int .i64 ((k8 : Nat) : Int))) → k0 t3_114 = some r → Q (.exit 2) s)
    (hR : ∀ s, EndsX [.t 2] true (V.sl false 1 (List.map V.str r)) s → Q .ret s)
    (hlen : l65.length ≤ Lim) : ∀ (rest : List Bytes) (k66 : Nat) (s : St) (t3_87 : (List Bytes)), l65.drop k66 = rest → k66 ≤ l65.length →
    ((s.tm 16).nf = V.sl false 1 (List.map V.str l65)) → (s.tm 17 = V.int .i64 ((l65.length : Nat) : Int)) → (s.tm 18 = V.int .i64 ((k66 : Nat) : Int)) → ((s.tm 3).nf = (V.sl false 1 (List.map V.str t3_87))) → (OwnS s 3) → ((s.tm 9).nf = (V.sl false 1 (List.map V.str l7))) → (s.tm 10 = (V.int .i64 ((l7.length : Nat) : Int))) → (s.tm 11 = (V.int .i64 ((k8 : Nat) : Int))) →
    L.seicheref14_Words_l2 k0 rest t3_87 = some r → awp Γ gl (.loop c_seicheref14_Words_l2) Q s := by
  intro rest
  induction rest with
  | nil =>
    intro k66 s t3_87 hdrop hkl hX hN hI h86 h86o h88 h89 h90 hD
    have hkz := drop_nil hdrop hkl
    have hp0 : ¬ (((k66 : Nat) : Int) < ((l65.length : Nat) : Int)) := by omega
    refine awp_roundK fun K hK => ?_
    rw [L.seicheref14_Words_l2] at hD
    refine x_seq ?_
    refine x_start (b := false) ?_
    refine x_bin hI hN b_lss ?_
    refine x_done ?_
    refine x_tN ?_
    refine x_seq ?_
    refine x_cf (show _ = (V.bool (decide (((k66 : Nat) : Int) < ((l65.length : Nat) : Int)))) from rfl) (decide_eq_false hp0) ?_
    refine x_exitc ?_
    refine x_tE ?_
    refine x_tE ?_
    refine hk0 _ _ ?_ ?_ ?_ ?_ ?_ hD
    · exact h86
    · exact h86o
    · exact h88
    · exact h89
    · exact h90
  | cons a96 rest ih =>
    intro k66 s t3_87 hdrop hkl hX hN hI h86 h86o h88 h89 h90 hD
    obtain ⟨hlt, -, hget, hdrop1, -⟩ := drop_cons hdrop
    have hp1 : ((k66 : Nat) : Int) < ((l65.length : Nat) : Int) := by omega
    have hwk := wi_succ (k := k66) (by unfold Lim at hlen; omega)
    refine awp_roundK fun K hK => ?_
    rw [L.seicheref14_Words_l2] at hD
    refine x_seq ?_
    refine x_start (b := false) ?_
    refine x_bin hI hN b_lss ?_
    refine x_done ?_
    refine x_tN ?_
    refine x_seq ?_
    refine x_ct (show _ = (V.bool (decide (((k66 : Nat) : Int) < ((l65.length : Nat) : Int)))) from rfl) (decide_eq_true hp1) ?_
    refine x_skip ?_
    refine x_tN ?_
    refine x_seq ?_
    refine x_block ?_
    refine x_seq ?_
    refine x_start (b := false) ?_
    refine x_iaddr hX hI (at_k hget) fun v99 (hv99 : v99.nf = V.el [(V.str a96)] 0) => ?_
    refine x_load_el hv99 (show _ = some (V.str a96) from rfl) fun v100 hv100 => ?_
    refine x_mv' (nf_str hv100) ?_
    refine x_done ?_
    refine x_tN ?_
    refine x_seq ?_
    refine x_start (b := false) ?_
    refine x_mv' (show _ = (V.str a96) from rfl) ?_
    refine x_bin (show _ = (V.str a96) from rfl) (show _ = (V.str ([] : Bytes)) from rfl) s_neq ?_
    refine x_done ?_
    refine x_tN ?_
    by_cases hp101 : a96 = ([] : Bytes)
    · rw [if_pos hp101] at hD
      refine x_cf (show _ = (V.bool (!(decide (a96 = ([] : Bytes))))) from rfl) (bnot_t (decide_eq_true hp101)) ?_
      refine x_skip ?_
      refine x_bN ?_
      refine x_tN ?_
      refine x_start (b := false) ?_
      refine x_bin hI (show _ = (V.int .i64 1) from rfl) b_add ?_
      refine x_mv' (show _ = (V.int .i64 (wi (((k66 : Nat) : Int) + 1))) from rfl) ?_
      refine x_done ?_
      refine x_tN ?_
      refine hK _ ?_
      refine ih (k66 + 1) _ _ hdrop1 hlt ?_ ?_ ?_ ?_ ?_ ?_ ?_ ?_ hD
      · exact hX
      · exact hN
      · exact (Eq.trans (show _ = (V.int .i64 (wi (((k66 : Nat) : Int) + 1))) from rfl) (congrArg (V.int .i64) hwk))
      · exact h86
      · exact h86o
      · exact h88
      · exact h89
      · exact h90
    · rw [if_neg hp101] at hD
      refine x_ct (show _ = (V.bool (!(decide (a96 = ([] : Bytes))))) from rfl) (bnot_f (decide_eq_false hp101)) ?_
      refine x_start (b := false) ?_
      refine x_mvo h86 fun v102 ov102 hv102 hwv102 => ?_
      refine x_mv' (show _ = (V.str a96) from rfl) ?_
      refine x_bsl (E := V.str) (l := ([a96] : (List Bytes))) (cons_eq (nf_of rfl (show _ = (V.str a96) from rfl)) rfl) (fits_map (E := V.str) (sz := 1) (fun x => ⟨rfl, rfl⟩) _) fun v103 ov103 hv103 hov103 => ?_
      obtain ⟨l104, hx105, hD⟩ := Option.bind_eq_some_iff.1 hD
      refine x_app hv102 (hwv102 h86o) (tail_sl hv103) hx105 fun v106 ov106 fv106 hv106 hov106 hfv106 => ?_
      refine x_mvo hv106 fun v107 ov107 hv107 hwv107 => ?_
      refine x_done ?_
      refine x_bN ?_
      refine x_tN ?_
      refine x_start (b := false) ?_
      refine x_bin hI (show _ = (V.int .i64 1) from rfl) b_add ?_
      refine x_mv' (show _ = (V.int .i64 (wi (((k66 : Nat) : Int) + 1))) from rfl) ?_
      refine x_done ?_
      refine x_tN ?_
      refine hK _ ?_
      refine ih (k66 + 1) _ _ hdrop1 hlt ?_ ?_ ?_ ?_ ?_ ?_ ?_ ?_ hD
      · exact hX
      · exact hN
      · exact (Eq.trans (show _ = (V.int .i64 (wi (((k66 : Nat) : Int) + 1))) from rfl) (congrArg (V.int .i64) hwk))
      · exact hv107
      · exact (hwv107 hov106)
      · exact h88
      · exact h89
      · exact h90
def L.seicheref14_Words_l1 (k0 : (List Bytes) → Option (List Bytes)) : List Bytes → (List Bytes) → Option (List Bytes)
  | [], t3_51 =>
    k0 t3_51
  | a54 :: rest, t3_51 =>
    (g.seicheref14_Cut a54 9).bind fun r63 =>
    if r63.length ≤ Lim then L.seicheref14_Words_l2 (fun (t3_119 : (List Bytes)) => L.seicheref14_Words_l1 k0 rest t3_119) r63 t3_51 else none
theorem ok.seicheref14_Words_l1 {Γ : Abs.Spec} {gl : Glob} (hC_seicheref14_Cut : CallsX Γ K.seicheref14_Cut) {Q : Ex → St → Prop} {r : (List Bytes)} {l7 : List Bytes} {k0 : (List Bytes) → Option (List Bytes)}
    (hk0 : ∀ (s : St) (t3_128 : (List Bytes)), ((s.tm 3).nf = (V.sl false 1 (List.map V.str t3_128))) → (OwnS s 3) → k0 t3_128 = some r → Q (.exit 0) s)
    (hR : ∀ s, EndsX [.t 2] true (V.sl false 1 (List.map V.str r)) s → Q .ret s)
    (hlen : l7.length ≤ Lim) : ∀ (rest : List Bytes) (k8 : Nat) (s : St) (t3_51 : (List Bytes)), l7.drop k8 = rest → k8 ≤ l7.length →
    ((s.tm 9).nf = V.sl false 1 (List.map V.str l7)) → (s.tm 10 = V.int .i64 ((l7.length : Nat) : Int)) → (s.tm 11 = V.int .i64 ((k8 : Nat) : Int)) → ((s.tm 3).nf = (V.sl false 1 (List.map V.str t3_51))) → (OwnS s 3) →
    L.seicheref14_Words_l1 k0 rest t3_51 = some r → awp Γ gl (.loop c_seicheref14_Words_l1) Q s := by
  intro rest
  induction rest with
  | nil =>
    intro k8 s t3_51 hdrop hkl hX hN hI h50 h50o hD
    have hkz := drop_nil hdrop hkl
    have hp0 : ¬ (((k8 : Nat) : Int) < ((l7.length : Nat) : Int)) := by omega
    refine awp_roundK fun K hK => ?_
    rw [L.seicheref14_Words_l1] at hD
    refine x_seq ?_
    refine x_start (b := false) ?_
    refine x_bin hI hN b_lss ?_
    refine x_done ?_
    refine x_tN ?_
    refine x_seq ?_
    refine x_cf (show _ = (V.bool (decide (((k8 : Nat) : Int) < ((l7.length : Nat) : Int)))) from rfl) (decide_eq_false hp0) ?_
    refine x_exitc ?_
    refine x_tE ?_
    refine x_tE ?_
    refine hk0 _ _ ?_ ?_ hD
    · exact h50
    · exact h50o
  | cons a54 rest ih =>
    intro k8 s t3_51 hdrop hkl hX hN hI h50 h50o hD
    obtain ⟨hlt, -, hget, hdrop1, -⟩ := drop_cons hdrop
    have hp1 : ((k8 : Nat) : Int) < ((l7.length : Nat) : Int) := by omega
    have hwk := wi_succ (k := k8) (by unfold Lim at hlen; omega)
    refine awp_roundK fun K hK => ?_
    rw [L.seicheref14_Words_l1] at hD
    refine x_seq ?_
    refine x_start (b := false) ?_
    refine x_bin hI hN b_lss ?_
    refine x_done ?_
    refine x_tN ?_
    refine x_seq ?_
    refine x_ct (show _ = (V.bool (decide (((k8 : Nat) : Int) < ((l7.length : Nat) : Int)))) from rfl) (decide_eq_true hp1) ?_
    refine x_skip ?_
    refine x_tN ?_
    refine x_seq ?_
    refine x_block ?_
    refine x_seq ?_
    refine x_start (b := false) ?_
    refine x_iaddr hX hI (at_k hget) fun v57 (hv57 : v57.nf = V.el [(V.str a54)] 0) => ?_
    refine x_load_el hv57 (show _ = some (V.str a54) from rfl) fun v58 hv58 => ?_
    refine x_mv' (nf_str hv58) ?_
    refine x_done ?_
    refine x_tN ?_
    refine x_seq ?_
    refine x_start (b := false) ?_
    refine x_mv' (show _ = (V.str a54) from rfl) ?_
    obtain ⟨r63, hx64, hD⟩ := Option.bind_eq_some_iff.1 hD
    refine x_callF hC_seicheref14_Cut (a := (a54, 9)) (cons_eq (nf_of rfl (show _ = (V.str a54) from rfl)) (cons_eq (nf_of rfl (show _ = (V.int .u8 ((9 : UInt8).toNat : Int)) from rfl)) rfl)) hx64 fun v62 ov62 (hv62 : v62.nf = (V.sl false 1 (List.map V.str r63))) hov62 => ?_
    refine x_len hv62 ?_
    refine x_mv' (show _ = (V.int .i64 0) from rfl) ?_
    refine x_done ?_
    refine x_tN ?_
    refine x_block ?_
    by_cases hlen124 : r63.length ≤ Lim
    · rw [if_pos hlen124] at hD
      refine ok.seicheref14_Words_l2 (l7 := l7) (k8 := k8) (l65 := r63) hC_seicheref14_Cut (fun s123 t3_119 h118 h118o h120 h121 h122 hD => ?_) (fun _ hE => ?_) hlen124 _ 0 _ _ rfl (Nat.zero_le _) ?_ ?_ ?_ ?_ ?_ ?_ ?_ ?_ hD
      · refine x_bE ?_
        refine x_bN ?_
        refine x_tN ?_
        refine x_start (b := false) ?_
        refine x_bin h122 (show _ = (V.int .i64 1) from rfl) b_add ?_
        refine x_mv' (show _ = (V.int .i64 (wi (((k8 : Nat) : Int) + 1))) from rfl) ?_
        refine x_done ?_
        refine x_tN ?_
        refine hK _ ?_
        refine ih (k8 + 1) _ _ hdrop1 hlt ?_ ?_ ?_ ?_ ?_ hD
        · exact h120
        · exact h121
        · exact (Eq.trans (show _ = (V.int .i64 (wi (((k8 : Nat) : Int) + 1))) from rfl) (congrArg (V.int .i64) hwk))
        · exact h118
        · exact h118o
      · refine x_bR ?_; refine x_bR ?_; refine x_tR ?_; refine x_tR ?_; exact hR _ hE
      · exact hv62
      · exact (show _ = (V.int .i64 ((r63.length : Nat) : Int)) from rfl)
      · exact (show _ = (V.int .i64 0) from rfl)
      · exact h50
      · exact h50o
      · exact hX
      · exact hN
      · exact hI
    · rw [if_neg hlen124] at hD; cases hD
def g.seicheref14_Words (p0 : Bytes) : Option (List Bytes) :=
  (g.seicheref14_Cut p0 32).bind fun r5 =>
  if r5.length ≤ Lim then L.seicheref14_Words_l1 (fun (t3_130 : (List Bytes)) => some t3_130) r5 [] else none
theorem ok.seicheref14_Words {Γ : Abs.Spec} {gl : Glob} (hC_seicheref14_Cut : CallsX Γ K.seicheref14_Cut) {r : (List Bytes)} {p0 : Bytes} {v : List V}
    (hv : nfL v = [(V.str p0)]) (hD : g.seicheref14_Words p0 = some r) : awp Γ gl c_seicheref14_Words (endQ [.t 2] true (V.sl false 1 (List.map V.str r))) (St.init v) := by
  obtain ⟨v0, v, rfl, h0, hv⟩ := nfL_cons hv
  obtain rfl := nfL_nil hv
  have hR : ∀ s, EndsX [.t 2] true (V.sl false 1 (List.map V.str r)) s → endQ [.t 2] true (V.sl false 1 (List.map V.str r)) .ret s := fun _ h => h
  unfold g.seicheref14_Words at hD
  unfold c_seicheref14_Words
  refine x_seq ?_
  refine x_start (b := false) ?_
  refine x_mv' (y := V.sl true 1 []) rfl ?_
  refine x_done ?_
  refine x_tN ?_
  refine x_seq ?_
  refine x_start (b := false) ?_
  refine x_mv' (y := V.sl true 1 []) rfl ?_
  refine x_done ?_
  refine x_tN ?_
  refine x_seq ?_
  refine x_seq ?_
  refine x_start (b := false) ?_
  refine x_mv' (nf_str h0) ?_
  obtain ⟨r5, hx6, hD⟩ := Option.bind_eq_some_iff.1 hD
  refine x_callF hC_seicheref14_Cut (a := (p0, 32)) (cons_eq (nf_of rfl (show _ = (V.str p0) from rfl)) (cons_eq (nf_of rfl (show _ = (V.int .u8 ((32 : UInt8).toNat : Int)) from rfl)) rfl)) hx6 fun v4 ov4 (hv4 : v4.nf = (V.sl false 1 (List.map V.str r5))) hov4 => ?_
  refine x_len hv4 ?_
  refine x_mv' (show _ = (V.int .i64 0) from rfl) ?_
  refine x_done ?_
  refine x_tN ?_
  refine x_block ?_
  by_cases hlen134 : r5.length ≤ Lim
  · rw [if_pos hlen134] at hD
    refine ok.seicheref14_Words_l1 (l7 := r5) hC_seicheref14_Cut (fun s133 t3_130 h129 h129o hD => ?_) (fun _ hE => ?_) hlen134 _ 0 _ _ rfl (Nat.zero_le _) ?_ ?_ ?_ ?_ ?_ hD
    · refine x_bE ?_
      refine x_tN ?_
      refine x_seq ?_
      refine x_start (b := false) ?_
      refine x_mvo h129 fun v131 ov131 hv131 hwv131 => ?_
      refine x_mvo hv131 fun v132 ov132 hv132 hwv132 => ?_
      refine x_done ?_
      refine x_tN ?_
      refine x_retc ?_
      obtain rfl := Option.some.inj hD
      exact hR _ (ends_t hv132 (fun _ => (hwv132 (hwv131 h129o))))
    · refine x_bR ?_; refine x_tR ?_; exact hR _ hE
    · exact hv4
    · exact (show _ = (V.int .i64 ((r5.length : Nat) : Int)) from rfl)
    · exact (show _ = (V.int .i64 0) from rfl)
    · exact (show V.nf _ = (V.sl false 1 (List.map V.str [])) from rfl)
    · exact (Or.inr ⟨1, rfl⟩)
  · rw [if_neg hlen134] at hD; cases hD
def K.seicheref14_Words : FC := fc F.seicheref14_Words (fun _ => true) true (fun (a : Bytes) => [(V.str a)]) (fun (y : (List Bytes)) => (V.sl false 1 (List.map V.str y))) (fun a => g.seicheref14_Words a)
  (fun a => (cleanL_mk rfl rfl))
  (fun y => (E.Lstring_clean _))
  (fun a0 b0 h => by
    obtain ⟨h0, h⟩ := List.cons.inj h
    obtain rfl : a0 = b0 := V.str.inj h0
    rfl)
theorem H.seicheref14_Words (w : World) (hw : EnvOK w) : K.seicheref14_Words.Holds (cxD w) :=
  FC.holds_of (cs := [K.seicheref14_Cut]) (glD w) mixed cf_seicheref14_Words (fun _ _ ⟨_, _, h, _⟩ => by subst h; exact Nat.le_of_ble_eq_true rfl) fun v y ⟨a, r, hv, hD, hy⟩ => by
    subst hy
    exact ok.seicheref14_Words (specOf_calls (H.seicheref14_Cut w hw) (fun _ _ ⟨_, _, h, _⟩ => by subst h; rfl)) hv hD
def c_seicheref14_Term_j2 : ACode := (.seq (.region [
  ⟨(some 17), (.mv (.tmp 0)), none, []⟩, 
  ⟨(some 18), (.mv (.tmp 5)), none, []⟩, 
  ⟨(some 19), (.mv (.tmp 0)), none, []⟩, 
  ⟨(some 20), (.call F.seicheref13_Tag [(.tmp 19)]), none, []⟩, 
  ⟨(some 2), (.mv (.tmp 17)), none, []⟩, 
  ⟨(some 3), (.mv (.tmp 18)), none, []⟩, 
  ⟨(some 4), (.mv (.tmp 20)), none, []⟩] false) .ret)
def c_seicheref14_Term_j1 : ACode := (.seq (.seq (.region [
  ⟨(some 14), (.mv (.tmp 5)), none, []⟩] false) (.cond (.tmp 14) (.region [
  ⟨(some 15), (.mv (.tmp 0)), none, []⟩, 
  ⟨(some 16), (.sls (.tmp 15) (some (.const (.int .i64 1))) none), none, []⟩, 
  ⟨(some 0), (.mv (.tmp 16)), none, []⟩] false) .skip)) c_seicheref14_Term_j2)
def c_seicheref14_Term : ACode := (.seq (.region [
  ⟨(some 2), (.mv (.const (.str []))), none, []⟩, 
  ⟨(some 3), (.mv (.const (.bool false))), none, []⟩, 
  ⟨(some 4), (.mv (.const (.bool false))), none, []⟩] false) (.seq (.region [
  ⟨(some 6), (.mv (.tmp 0)), none, []⟩, 
  ⟨(some 7), (.len true (.tmp 6)), none, []⟩, 
  ⟨(some 8), (.bin .gtr .no (.tmp 7) (.const (.int .i64 0))), none, []⟩, 
  ⟨(some 9), (.mv (.tmp 8)), none, []⟩, 
  ⟨(some 10), (.mv (.tmp 0)), (some (9, true)), []⟩, 
  ⟨(some 11), (.idx (.tmp 10) (.const (.int .i64 0))), (some (9, true)), []⟩, 
  ⟨(some 12), (.bin .eql .no (.tmp 11) (.const (.int .u8 33))), (some (9, true)), []⟩, 
  ⟨(some 13), (.pick (.tmp 9) (.tmp 12) (.const (.bool false))), none, []⟩, 
  ⟨(some 5), (.mv (.tmp 13)), none, []⟩] false) c_seicheref14_Term_j1))
theorem cf_seicheref14_Term : cFn Go.Proofs.Tryd.prog F.seicheref14_Term = some ⟨21, c_seicheref14_Term, [.t 2, .t 3, .t 4]⟩ := by kernel_rfl
def L.seicheref14_Term_j2 (t0_20 : Bytes) (t5_22 : Bool) : Option (Bytes × Bool × Bool) :=
  (g.seicheref13_Tag t0_20).bind fun r24 =>
  some (t0_20, t5_22, r24)
theorem ok.seicheref14_Term_j2 {Γ : Abs.Spec} {gl : Glob} (hC_seicheref13_Tag : CallsX Γ K.seicheref13_Tag) {Q : Ex → St → Prop} {r : (Bytes × Bool × Bool)}
    (hR : ∀ s, EndsX [.t 2, .t 3, .t 4] false (V.tup [(V.str r.1), (V.bool r.2.1), (V.bool r.2.2)]) s → Q .ret s)
    {s : St} {t0_20 : Bytes} {t5_22 : Bool} (h19 : s.tm 0 = (V.str t0_20)) (h21 : s.tm 5 = (V.bool t5_22))
    (hD : L.seicheref14_Term_j2 t0_20 t5_22 = some r) : awp Γ gl c_seicheref14_Term_j2 Q s := by
  unfold L.seicheref14_Term_j2 at hD
  refine x_seq ?_
  refine x_start (b := false) ?_
  refine x_mv' h19 ?_
  refine x_mv' h21 ?_
  refine x_mv' h19 ?_
  obtain ⟨r24, hx25, hD⟩ := Option.bind_eq_some_iff.1 hD
  refine x_callF hC_seicheref13_Tag (a := (t0_20)) (cons_eq (nf_of rfl (show _ = (V.str t0_20) from rfl)) rfl) hx25 fun v23 ov23 (hv23 : v23.nf = (V.bool r24)) hov23 => ?_
  refine x_mv' (show _ = (V.str t0_20) from rfl) ?_
  refine x_mv' (show _ = (V.bool t5_22) from rfl) ?_
  refine x_mv' (nf_bool hv23) ?_
  refine x_done ?_
  refine x_tN ?_
  refine x_retc ?_
  obtain rfl := Option.some.inj hD
  exact hR _ (ends_tup (rvs_cons (rv_t (nf_of rfl (show _ = (V.str t0_20) from rfl))) (rvs_cons (rv_t (nf_of rfl (show _ = (V.bool t5_22) from rfl))) (rvs_cons (rv_t (nf_of rfl (show _ = (V.bool r24) from rfl))) rvs_nil))) (by decide))
def L.seicheref14_Term_j1 (t0_9 : Bytes) (t5_11 : Bool) : Option (Bytes × Bool × Bool) :=
  if t5_11 = true then
    (cut t0_9 1 (t0_9.length : Nat)).bind fun q27 =>
    L.seicheref14_Term_j2 q27 t5_11
  else
    L.seicheref14_Term_j2 t0_9 t5_11
theorem ok.seicheref14_Term_j1 {Γ : Abs.Spec} {gl : Glob} (hC_seicheref13_Tag : CallsX Γ K.seicheref13_Tag) {Q : Ex → St → Prop} {r : (Bytes × Bool × Bool)}
    (hR : ∀ s, EndsX [.t 2, .t 3, .t 4] false (V.tup [(V.str r.1), (V.bool r.2.1), (V.bool r.2.2)]) s → Q .ret s)
    {s : St} {t0_9 : Bytes} {t5_11 : Bool} (h8 : s.tm 0 = (V.str t0_9)) (h10 : s.tm 5 = (V.bool t5_11))
    (hD : L.seicheref14_Term_j1 t0_9 t5_11 = some r) : awp Γ gl c_seicheref14_Term_j1 Q s := by
  unfold L.seicheref14_Term_j1 at hD
  refine x_seq ?_
  refine x_seq ?_
  refine x_start (b := false) ?_
  refine x_mv' h10 ?_
  refine x_done ?_
  refine x_tN ?_
  by_cases hp26 : t5_11 = true
  · rw [if_pos hp26] at hD
    refine x_ct (show _ = (V.bool t5_11) from rfl) hp26 ?_
    refine x_start (b := false) ?_
    refine x_mv' h8 ?_
    obtain ⟨q27, hx28, hD⟩ := Option.bind_eq_some_iff.1 hD
    refine x_slsl (show _ = (V.str t0_9) from rfl) (show _ = (V.int .i64 1) from rfl) hx28 ?_
    refine x_mv' (show _ = (V.str q27) from rfl) ?_
    refine x_done ?_
    refine x_tN ?_
    refine ok.seicheref14_Term_j2 hC_seicheref13_Tag (fun _ hE => ?_) ?_ ?_ hD
    · exact hR _ hE
    · exact (show _ = (V.str q27) from rfl)
    · exact h10
  · rw [if_neg hp26] at hD
    refine x_cf (show _ = (V.bool t5_11) from rfl) (Bool.eq_false_iff.2 hp26) ?_
    refine x_skip ?_
    refine x_tN ?_
    refine ok.seicheref14_Term_j2 hC_seicheref13_Tag (fun _ hE => ?_) ?_ ?_ hD
    · exact hR _ hE
    · exact h8
    · exact h10
def g.seicheref14_Term (p0 : Bytes) : Option (Bytes × Bool × Bool) :=
  if 0 < ((p0.length : Nat) : Int) then
    (at? p0 0).bind fun b30 =>
    L.seicheref14_Term_j1 p0 (decide (b30 = 33))
  else
    L.seicheref14_Term_j1 p0 false
theorem ok.seicheref14_Term {Γ : Abs.Spec} {gl : Glob} (hC_seicheref13_Tag : CallsX Γ K.seicheref13_Tag) {r : (Bytes × Bool × Bool)} {p0 : Bytes} {v : List V}
    (hv : nfL v = [(V.str p0)]) (hD : g.seicheref14_Term p0 = some r) : awp Γ gl c_seicheref14_Term (endQ [.t 2, .t 3, .t 4] false (V.tup [(V.str r.1), (V.bool r.2.1), (V.bool r.2.2)])) (St.init v) := by
  obtain ⟨v0, v, rfl, h0, hv⟩ := nfL_cons hv
  obtain rfl := nfL_nil hv
  have hR : ∀ s, EndsX [.t 2, .t 3, .t 4] false (V.tup [(V.str r.1), (V.bool r.2.1), (V.bool r.2.2)]) s → endQ [.t 2, .t 3, .t 4] false (V.tup [(V.str r.1), (V.bool r.2.1), (V.bool r.2.2)]) .ret s := fun _ h => h
  unfold g.seicheref14_Term at hD
  unfold c_seicheref14_Term
  refine x_seq ?_
  refine x_start (b := false) ?_
  refine x_mv' (show _ = (V.str ([] : Bytes)) from rfl) ?_
  refine x_mv' (show _ = (V.bool false) from rfl) ?_
  refine x_mv' (show _ = (V.bool false) from rfl) ?_
  refine x_done ?_
  refine x_tN ?_
  refine x_seq ?_
  refine x_start (b := false) ?_
  refine x_mv' (nf_str h0) ?_
  refine x_lens (show _ = (V.str p0) from rfl) ?_
  refine x_bin (show _ = (V.int .i64 ((p0.length : Nat) : Int)) from rfl) (show _ = (V.int .i64 0) from rfl) b_gtr ?_
  refine x_mv' (show _ = (V.bool (decide (0 < ((p0.length : Nat) : Int)))) from rfl) ?_
  by_cases hp29 : 0 < ((p0.length : Nat) : Int)
  · rw [if_pos hp29] at hD
    refine x_gy (show _ = (V.bool (decide (0 < ((p0.length : Nat) : Int)))) from rfl) (decide_eq_true hp29) ?_
    refine x_mv' (nf_str h0) ?_
    refine x_gy (show _ = (V.bool (decide (0 < ((p0.length : Nat) : Int)))) from rfl) (decide_eq_true hp29) ?_
    obtain ⟨b30, hx31, hD⟩ := Option.bind_eq_some_iff.1 hD
    refine x_idx (show _ = (V.str p0) from rfl) (show _ = (V.int .i64 0) from rfl) hx31 ?_
    refine x_gy (show _ = (V.bool (decide (0 < ((p0.length : Nat) : Int)))) from rfl) (decide_eq_true hp29) ?_
    refine x_bin (show _ = (V.int .u8 ((b30 : UInt8).toNat : Int)) from rfl) (show _ = (V.int .u8 ((33 : UInt8).toNat : Int)) from rfl) u8_eql ?_
    refine x_pickt' (show _ = (V.bool (decide (0 < ((p0.length : Nat) : Int)))) from rfl) (decide_eq_true hp29) (show _ = (V.bool (decide (b30 = 33))) from rfl) ?_
    refine x_mv' (show _ = (V.bool (decide (b30 = 33))) from rfl) ?_
    refine x_done ?_
    refine x_tN ?_
    refine ok.seicheref14_Term_j1 hC_seicheref13_Tag (fun _ hE => ?_) ?_ ?_ hD
    · exact hR _ hE
    · exact (nf_str h0)
    · exact (show _ = (V.bool (decide (b30 = 33))) from rfl)
  · rw [if_neg hp29] at hD
    refine x_gn (show _ = (V.bool (decide (0 < ((p0.length : Nat) : Int)))) from rfl) (decide_eq_false hp29) ?_
    refine x_gn (show _ = (V.bool (decide (0 < ((p0.length : Nat) : Int)))) from rfl) (decide_eq_false hp29) ?_
    refine x_gn (show _ = (V.bool (decide (0 < ((p0.length : Nat) : Int)))) from rfl) (decide_eq_false hp29) ?_
    refine x_pickf' (show _ = (V.bool (decide (0 < ((p0.length : Nat) : Int)))) from rfl) (decide_eq_false hp29) (show _ = (V.bool false) from rfl) ?_
    refine x_mv' (show _ = (V.bool false) from rfl) ?_
    refine x_done ?_
    refine x_tN ?_
    refine ok.seicheref14_Term_j1 hC_seicheref13_Tag (fun _ hE => ?_) ?_ ?_ hD
    · exact hR _ hE
    · exact (nf_str h0)
    · exact (show _ = (V.bool false) from rfl)
def K.seicheref14_Term : FC := fc F.seicheref14_Term (fun _ => true) false (fun (a : Bytes) => [(V.str a)]) (fun (y : (Bytes × Bool × Bool)) => (V.tup [(V.str y.1), (V.bool y.2.1), (V.bool y.2.2)])) (fun a => g.seicheref14_Term a)
  (fun a => (cleanL_mk rfl rfl))
  (fun y => (cleanL_mk rfl (cleanL_mk rfl (cleanL_mk rfl rfl))))
  (fun a0 b0 h => by
    obtain ⟨h0, h⟩ := List.cons.inj h
    obtain rfl : a0 = b0 := V.str.inj h0
    rfl)
theorem H.seicheref14_Term (w : World) (hw : EnvOK w) : K.seicheref14_Term.Holds (cxD w) :=
  FC.holds_of (cs := [K.seicheref13_Tag]) (glD w) mixed cf_seicheref14_Term (fun _ _ ⟨_, _, h, _⟩ => by subst h; exact Nat.le_of_ble_eq_true rfl) fun v y ⟨a, r, hv, hD, hy⟩ => by
    subst hy
    exact ok.seicheref14_Term (specOf_calls (H.seicheref13_Tag w hw) (fun _ _ ⟨_, _, h, _⟩ => by subst h; rfl)) hv hD
def c_seicheref14_Good_l2 : ACode := (.seq (.region [
  ⟨(some 21), (.bin .lss .no (.tmp 20) (.tmp 19)), none, []⟩] false) (.seq (.cond (.tmp 21) .skip (.exit 2)) (.seq (.block 3 (.seq (.region [
  ⟨(some 22), (.iaddr 1 (.tmp 18) (.tmp 20)), none, []⟩, 
  ⟨(some 23), (.load none (.tmp 22)), none, []⟩, 
  ⟨(some 6), (.mv (.tmp 23)), none, []⟩] false) (.seq (.region [
  ⟨(some 25), (.mv (.tmp 6)), none, []⟩, 
  ⟨(some 26), (.call F.seicheref14_Term [(.tmp 25)]), none, []⟩, 
  ⟨(some 24), (.mv (.tmp 26)), none, []⟩, 
  ⟨(some 27), (.ext (.tmp 24) 0), none, []⟩, 
  ⟨(some 28), (.ext (.tmp 24) 1), none, []⟩, 
  ⟨(some 29), (.ext (.tmp 24) 2), none, []⟩, 
  ⟨(some 7), (.mv (.tmp 27)), none, []⟩, 
  ⟨(some 8), (.mv (.tmp 28)), none, []⟩, 
  ⟨(some 9), (.mv (.tmp 29)), none, []⟩] false) (.seq (.region [
  ⟨(some 30), (.mv (.tmp 9)), none, []⟩, 
  ⟨(some 31), (.un .not (.tmp 30)), none, []⟩] false) (.cond (.tmp 31) (.seq (.region [
  ⟨(some 2), (.mv (.const (.bool false))), none, []⟩] false) .ret) .skip))))) (.region [
  ⟨(some 32), (.bin .add .no (.tmp 20) (.const (.int .i64 1))), none, []⟩, 
  ⟨(some 20), (.mv (.tmp 32)), none, []⟩] false))))
def c_seicheref14_Good_l1 : ACode := (.seq (.region [
  ⟨(some 14), (.bin .lss .no (.tmp 13) (.tmp 12)), none, []⟩] false) (.seq (.cond (.tmp 14) .skip (.exit 0)) (.seq (.block 1 (.seq (.region [
  ⟨(some 15), (.iaddr 1 (.tmp 11) (.tmp 13)), none, []⟩, 
  ⟨(some 16), (.load none (.tmp 15)), none, []⟩, 
  ⟨(some 4), (.mv (.tmp 16)), none, []⟩] false) (.seq (.region [
  ⟨(some 17), (.mv (.tmp 4)), none, []⟩, 
  ⟨(some 18), (.call F.seicheref14_Cut [(.tmp 17), (.const (.int .u8 44))]), none, []⟩, 
  ⟨(some 19), (.len false (.tmp 18)), none, []⟩, 
  ⟨(some 20), (.mv (.const (.int .i64 0))), none, []⟩] false) (.block 2 (.loop c_seicheref14_Good_l2))))) (.region [
  ⟨(some 33), (.bin .add .no (.tmp 13) (.const (.int .i64 1))), none, []⟩, 
  ⟨(some 13), (.mv (.tmp 33)), none, []⟩] false))))
def c_seicheref14_Good : ACode := (.seq (.region [
  ⟨(some 2), (.mv (.const (.bool false))), none, []⟩] false) (.seq (.seq (.region [
  ⟨(some 10), (.mv (.tmp 0)), none, []⟩, 
  ⟨(some 11), (.call F.seicheref14_Words [(.tmp 10)]), none, []⟩, 
  ⟨(some 12), (.len false (.tmp 11)), none, []⟩, 
  ⟨(some 13), (.mv (.const (.int .i64 0))), none, []⟩] false) (.block 0 (.loop c_seicheref14_Good_l1))) (.seq (.region [
  ⟨(some 34), (.mv (.tmp 0)), none, []⟩, 
  ⟨(some 35), (.call F.seicheref14_Words [(.tmp 34)]), none, []⟩, 
  ⟨(some 36), (.len false (.tmp 35)), none, []⟩, 
  ⟨(some 37), (.bin .gtr .no (.tmp 36) (.const (.int .i64 0))), none, []⟩, 
  ⟨(some 2), (.mv (.tmp 37)), none, []⟩] false) .ret)))
theorem cf_seicheref14_Good : cFn Go.Proofs.Tryd.prog F.seicheref14_Good = some ⟨38, c_seicheref14_Good, [.t 2]⟩ := by kernel_rfl
def L.seicheref14_Good_l2 (k0 : Option Bool) : List Bytes → Option Bool
  | [] =>
    k0
  | a161 :: rest =>
    (g.seicheref14_Term a161).bind fun r174 =>
    if r174.2.2 = true then
      L.seicheref14_Good_l2 k0 rest
    else
      some false
theorem ok.seicheref14_Good_l2 {Γ : Abs.Spec} {gl : Glob} (hC_seicheref14_Words : CallsX Γ K.seicheref14_Words) (hC_seicheref14_Cut : CallsX Γ K.seicheref14_Cut) (hC_seicheref14_Term : CallsX Γ K.seicheref14_Term) {Q : Ex → St → Prop} {r : Bool} {t0_65 : Bytes} {l63 : List Bytes} {k64 : Nat} {l125 : List Bytes} {k0 : Option Bool}
    (hk0 : ∀ (s : St), (s.tm 0 = (V.str t0_65)) → ((s.tm 11).nf = (V.sl false 1 (List.map V.str l63))) → (s.tm 12 = (V.int .i64 ((l63.length : Nat) : Int))) → (s.tm 13 = (V.int .i64 ((k64 : Nat) : Int))) → k0 = some r → Q (.exit 2) s)
    (hR : ∀ s, EndsX [.t 2] false (V.bool r) s → Q .ret s)
    (hlen : l125.length ≤ Lim) : ∀ (rest : List Bytes) (k126 : Nat) (s : St), l125.drop k126 = rest → k126 ≤ l125.length →
    ((s.tm 18).nf = V.sl false 1 (List.map V.str l125)) → (s.tm 19 = V.int .i64 ((l125.length : Nat) : Int)) → (s.tm 20 = V.int .i64 ((k126 : Nat) : Int)) → (s.tm 0 = (V.str t0_65)) → ((s.tm 11).nf = (V.sl false 1 (List.map V.str l63))) → (s.tm 12 = (V.int .i64 ((l63.length : Nat) : Int))) → (s.tm 13 = (V.int .i64 ((k64 : Nat) : Int))) →
    L.seicheref14_Good_l2 k0 rest = some r → awp Γ gl (.loop c_seicheref14_Good_l2) Q s := by
  intro rest
  induction rest with
  | nil =>
    intro k126 s hdrop hkl hX hN hI h153 h154 h155 h156 hD
    have hkz := drop_nil hdrop hkl
    have hp0 : ¬ (((k126 : Nat) : Int) < ((l125.length : Nat) : Int)) := by omega
    refine awp_roundK fun K hK => ?_
    rw [L.seicheref14_Good_l2] at hD
    refine x_seq ?_
    refine x_start (b := false) ?_
    refine x_bin hI hN b_lss ?_
    refine x_done ?_
    refine x_tN ?_
    refine x_seq ?_
    refine x_cf (show _ = (V.bool (decide (((k126 : Nat) : Int) < ((l125.length : Nat) : Int)))) from rfl) (decide_eq_false hp0) ?_
    refine x_exitc ?_
    refine x_tE ?_
    refine x_tE ?_
    refine hk0 _ ?_ ?_ ?_ ?_ hD
    · exact h153
    · exact h154
    · exact h155
    · exact h156
  | cons a161 rest ih =>
    intro k126 s hdrop hkl hX hN hI h153 h154 h155 h156 hD
    obtain ⟨hlt, -, hget, hdrop1, -⟩ := drop_cons hdrop
    have hp1 : ((k126 : Nat) : Int) < ((l125.length : Nat) : Int) := by omega
    have hwk := wi_succ (k := k126) (by unfold Lim at hlen; omega)
    refine awp_roundK fun K hK => ?_
    rw [L.seicheref14_Good_l2] at hD
    refine x_seq ?_
    refine x_start (b := false) ?_
    refine x_bin hI hN b_lss ?_
    refine x_done ?_
    refine x_tN ?_
    refine x_seq ?_
    refine x_ct (show _ = (V.bool (decide (((k126 : Nat) : Int) < ((l125.length : Nat) : Int)))) from rfl) (decide_eq_true hp1) ?_
    refine x_skip ?_
    refine x_tN ?_
    refine x_seq ?_
    refine x_block ?_
    refine x_seq ?_
    refine x_start (b := false) ?_
    refine x_iaddr hX hI (at_k hget) fun v164 (hv164 : v164.nf = V.el [(V.str a161)] 0) => ?_
    refine x_load_el hv164 (show _ = some (V.str a161) from rfl) fun v165 hv165 => ?_
    refine x_mv' (nf_str hv165) ?_
    refine x_done ?_
    refine x_tN ?_
    refine x_seq ?_
    refine x_start (b := false) ?_
    refine x_mv' (show _ = (V.str a161) from rfl) ?_
    obtain ⟨r174, hx175, hD⟩ := Option.bind_eq_some_iff.1 hD
    refine x_callF hC_seicheref14_Term (a := (a161)) (cons_eq (nf_of rfl (show _ = (V.str a161) from rfl)) rfl) hx175 fun v173 ov173 (hv173 : v173.nf = (V.tup [(V.str r174.1), (V.bool r174.2.1), (V.bool r174.2.2)])) hov173 => ?_
    refine x_mv hv173 fun v176 hv176 => ?_
    refine x_ext hv176 (show _ = some (V.str r174.1) from rfl) fun v177 hv177 => ?_
    refine x_ext hv176 (show _ = some (V.bool r174.2.1) from rfl) fun v178 hv178 => ?_
    refine x_ext hv176 (show _ = some (V.bool r174.2.2) from rfl) fun v179 hv179 => ?_
    refine x_mv' (nf_str hv177) ?_
    refine x_mv' (nf_bool hv178) ?_
    refine x_mv' (nf_bool hv179) ?_
    refine x_done ?_
    refine x_tN ?_
    refine x_seq ?_
    refine x_start (b := false) ?_
    refine x_mv' (show _ = (V.bool r174.2.2) from rfl) ?_
    refine x_un (show _ = (V.bool r174.2.2) from rfl) (aun_not _) ?_
    refine x_done ?_
    refine x_tN ?_
    by_cases hp180 : r174.2.2 = true
    · rw [if_pos hp180] at hD
      refine x_cf (show _ = (V.bool (!r174.2.2)) from rfl) (bnot_t hp180) ?_
      refine x_skip ?_
      refine x_bN ?_
      refine x_tN ?_
      refine x_start (b := false) ?_
      refine x_bin hI (show _ = (V.int .i64 1) from rfl) b_add ?_
      refine x_mv' (show _ = (V.int .i64 (wi (((k126 : Nat) : Int) + 1))) from rfl) ?_
      refine x_done ?_
      refine x_tN ?_
      refine hK _ ?_
      refine ih (k126 + 1) _ hdrop1 hlt ?_ ?_ ?_ ?_ ?_ ?_ ?_ hD
      · exact hX
      · exact hN
      · exact (Eq.trans (show _ = (V.int .i64 (wi (((k126 : Nat) : Int) + 1))) from rfl) (congrArg (V.int .i64) hwk))
      · exact h153
      · exact h154
      · exact h155
      · exact h156
    · rw [if_neg hp180] at hD
      refine x_ct (show _ = (V.bool (!r174.2.2)) from rfl) (bnot_f (Bool.eq_false_iff.2 hp180)) ?_
      refine x_seq ?_
      refine x_start (b := false) ?_
      refine x_mv' (show _ = (V.bool false) from rfl) ?_
      refine x_done ?_
      refine x_tN ?_
      refine x_retc ?_
      refine x_bR ?_
      refine x_tR ?_
      refine x_tR ?_
      obtain rfl := Option.some.inj hD
      exact hR _ (ends_t (nf_of rfl (show _ = (V.bool false) from rfl)) (fun h => nomatch h))
def L.seicheref14_Good_l1 (k0 : Option Bool) : List Bytes → Option Bool
  | [] =>
    k0
  | a114 :: rest =>
    (g.seicheref14_Cut a114 44).bind fun r123 =>
    if r123.length ≤ Lim then L.seicheref14_Good_l2 (L.seicheref14_Good_l1 k0 rest) r123 else none
theorem ok.seicheref14_Good_l1 {Γ : Abs.Spec} {gl : Glob} (hC_seicheref14_Words : CallsX Γ K.seicheref14_Words) (hC_seicheref14_Cut : CallsX Γ K.seicheref14_Cut) (hC_seicheref14_Term : CallsX Γ K.seicheref14_Term) {Q : Ex → St → Prop} {r : Bool} {t0_65 : Bytes} {l63 : List Bytes} {k0 : Option Bool}
    (hk0 : ∀ (s : St), (s.tm 0 = (V.str t0_65)) → k0 = some r → Q (.exit 0) s)
    (hR : ∀ s, EndsX [.t 2] false (V.bool r) s → Q .ret s)
    (hlen : l63.length ≤ Lim) : ∀ (rest : List Bytes) (k64 : Nat) (s : St), l63.drop k64 = rest → k64 ≤ l63.length →
    ((s.tm 11).nf = V.sl false 1 (List.map V.str l63)) → (s.tm 12 = V.int .i64 ((l63.length : Nat) : Int)) → (s.tm 13 = V.int .i64 ((k64 : Nat) : Int)) → (s.tm 0 = (V.str t0_65)) →
    L.seicheref14_Good_l1 k0 rest = some r → awp Γ gl (.loop c_seicheref14_Good_l1) Q s := by
  intro rest
  induction rest with
  | nil =>
    intro k64 s hdrop hkl hX hN hI h112 hD
    have hkz := drop_nil hdrop hkl
    have hp0 : ¬ (((k64 : Nat) : Int) < ((l63.length : Nat) : Int)) := by omega
    refine awp_roundK fun K hK => ?_
    rw [L.seicheref14_Good_l1] at hD
    refine x_seq ?_
    refine x_start (b := false) ?_
    refine x_bin hI hN b_lss ?_
    refine x_done ?_
    refine x_tN ?_
    refine x_seq ?_
    refine x_cf (show _ = (V.bool (decide (((k64 : Nat) : Int) < ((l63.length : Nat) : Int)))) from rfl) (decide_eq_false hp0) ?_
    refine x_exitc ?_
    refine x_tE ?_
    refine x_tE ?_
    refine hk0 _ ?_ hD
    · exact h112
  | cons a114 rest ih =>
    intro k64 s hdrop hkl hX hN hI h112 hD
    obtain ⟨hlt, -, hget, hdrop1, -⟩ := drop_cons hdrop
    have hp1 : ((k64 : Nat) : Int) < ((l63.length : Nat) : Int) := by omega
    have hwk := wi_succ (k := k64) (by unfold Lim at hlen; omega)
    refine awp_roundK fun K hK => ?_
    rw [L.seicheref14_Good_l1] at hD
    refine x_seq ?_
    refine x_start (b := false) ?_
    refine x_bin hI hN b_lss ?_
    refine x_done ?_
    refine x_tN ?_
    refine x_seq ?_
    refine x_ct (show _ = (V.bool (decide (((k64 : Nat) : Int) < ((l63.length : Nat) : Int)))) from rfl) (decide_eq_true hp1) ?_
    refine x_skip ?_
    refine x_tN ?_
    refine x_seq ?_
    refine x_block ?_
    refine x_seq ?_
    refine x_start (b := false) ?_
    refine x_iaddr hX hI (at_k hget) fun v117 (hv117 : v117.nf = V.el [(V.str a114)] 0) => ?_
    refine x_load_el hv117 (show _ = some (V.str a114) from rfl) fun v118 hv118 => ?_
    refine x_mv' (nf_str hv118) ?_
    refine x_done ?_
    refine x_tN ?_
    refine x_seq ?_
    refine x_start (b := false) ?_
    refine x_mv' (show _ = (V.str a114) from rfl) ?_
    obtain ⟨r123, hx124, hD⟩ := Option.bind_eq_some_iff.1 hD
    refine x_callF hC_seicheref14_Cut (a := (a114, 44)) (cons_eq (nf_of rfl (show _ = (V.str a114) from rfl)) (cons_eq (nf_of rfl (show _ = (V.int .u8 ((44 : UInt8).toNat : Int)) from rfl)) rfl)) hx124 fun v122 ov122 (hv122 : v122.nf = (V.sl false 1 (List.map V.str r123))) hov122 => ?_
    refine x_len hv122 ?_
    refine x_mv' (show _ = (V.int .i64 0) from rfl) ?_
    refine x_done ?_
    refine x_tN ?_
    refine x_block ?_
    by_cases hlen194 : r123.length ≤ Lim
    · rw [if_pos hlen194] at hD
      refine ok.seicheref14_Good_l2 (t0_65 := t0_65) (l63 := l63) (k64 := k64) (l125 := r123) hC_seicheref14_Words hC_seicheref14_Cut hC_seicheref14_Term (fun s193 h189 h190 h191 h192 hD => ?_) (fun _ hE => ?_) hlen194 _ 0 _ rfl (Nat.zero_le _) ?_ ?_ ?_ ?_ ?_ ?_ ?_ hD
      · refine x_bE ?_
        refine x_bN ?_
        refine x_tN ?_
        refine x_start (b := false) ?_
        refine x_bin h192 (show _ = (V.int .i64 1) from rfl) b_add ?_
        refine x_mv' (show _ = (V.int .i64 (wi (((k64 : Nat) : Int) + 1))) from rfl) ?_
        refine x_done ?_
        refine x_tN ?_
        refine hK _ ?_
        refine ih (k64 + 1) _ hdrop1 hlt ?_ ?_ ?_ ?_ hD
        · exact h190
        · exact h191
        · exact (Eq.trans (show _ = (V.int .i64 (wi (((k64 : Nat) : Int) + 1))) from rfl) (congrArg (V.int .i64) hwk))
        · exact h189
      · refine x_bR ?_; refine x_bR ?_; refine x_tR ?_; refine x_tR ?_; exact hR _ hE
      · exact hv122
      · exact (show _ = (V.int .i64 ((r123.length : Nat) : Int)) from rfl)
      · exact (show _ = (V.int .i64 0) from rfl)
      · exact h112
      · exact hX
      · exact hN
      · exact hI
    · rw [if_neg hlen194] at hD; cases hD
def g.seicheref14_Good (p0 : Bytes) : Option Bool :=
  (g.seicheref14_Words p0).bind fun r61 =>
  if r61.length ≤ Lim then L.seicheref14_Good_l1 ((g.seicheref14_Words p0).bind fun r199 =>
  some (decide (0 < ((r199.length : Nat) : Int)))) r61 else none
theorem ok.seicheref14_Good {Γ : Abs.Spec} {gl : Glob} (hC_seicheref14_Words : CallsX Γ K.seicheref14_Words) (hC_seicheref14_Cut : CallsX Γ K.seicheref14_Cut) (hC_seicheref14_Term : CallsX Γ K.seicheref14_Term) {r : Bool} {p0 : Bytes} {v : List V}
    (hv : nfL v = [(V.str p0)]) (hD : g.seicheref14_Good p0 = some r) : awp Γ gl c_seicheref14_Good (endQ [.t 2] false (V.bool r)) (St.init v) := by
  obtain ⟨v0, v, rfl, h0, hv⟩ := nfL_cons hv
  obtain rfl := nfL_nil hv
  have hR : ∀ s, EndsX [.t 2] false (V.bool r) s → endQ [.t 2] false (V.bool r) .ret s := fun _ h => h
  unfold g.seicheref14_Good at hD
  unfold c_seicheref14_Good
  refine x_seq ?_
  refine x_start (b := false) ?_
  refine x_mv' (show _ = (V.bool false) from rfl) ?_
  refine x_done ?_
  refine x_tN ?_
  refine x_seq ?_
  refine x_seq ?_
  refine x_start (b := false) ?_
  refine x_mv' (nf_str h0) ?_
  obtain ⟨r61, hx62, hD⟩ := Option.bind_eq_some_iff.1 hD
  refine x_callF hC_seicheref14_Words (a := (p0)) (cons_eq (nf_of rfl (show _ = (V.str p0) from rfl)) rfl) hx62 fun v60 ov60 (hv60 : v60.nf = (V.sl false 1 (List.map V.str r61))) hov60 => ?_
  refine x_len hv60 ?_
  refine x_mv' (show _ = (V.int .i64 0) from rfl) ?_
  refine x_done ?_
  refine x_tN ?_
  refine x_block ?_
  by_cases hlen202 : r61.length ≤ Lim
  · rw [if_pos hlen202] at hD
    refine ok.seicheref14_Good_l1 (t0_65 := p0) (l63 := r61) hC_seicheref14_Words hC_seicheref14_Cut hC_seicheref14_Term (fun s201 h197 hD => ?_) (fun _ hE => ?_) hlen202 _ 0 _ rfl (Nat.zero_le _) ?_ ?_ ?_ ?_ hD
    · refine x_bE ?_
      refine x_tN ?_
      refine x_seq ?_
      refine x_start (b := false) ?_
      refine x_mv' h197 ?_
      obtain ⟨r199, hx200, hD⟩ := Option.bind_eq_some_iff.1 hD
      refine x_callF hC_seicheref14_Words (a := (p0)) (cons_eq (nf_of rfl (show _ = (V.str p0) from rfl)) rfl) hx200 fun v198 ov198 (hv198 : v198.nf = (V.sl false 1 (List.map V.str r199))) hov198 => ?_
      refine x_len hv198 ?_
      refine x_bin (show _ = (V.int .i64 ((r199.length : Nat) : Int)) from rfl) (show _ = (V.int .i64 0) from rfl) b_gtr ?_
      refine x_mv' (show _ = (V.bool (decide (0 < ((r199.length : Nat) : Int)))) from rfl) ?_
      refine x_done ?_
      refine x_tN ?_
      refine x_retc ?_
      obtain rfl := Option.some.inj hD
      exact hR _ (ends_t (nf_of rfl (show _ = (V.bool (decide (0 < ((r199.length : Nat) : Int)))) from rfl)) (fun h => nomatch h))
    · refine x_bR ?_; refine x_tR ?_; exact hR _ hE
    · exact hv60
    · exact (show _ = (V.int .i64 ((r61.length : Nat) : Int)) from rfl)
    · exact (show _ = (V.int .i64 0) from rfl)
    · exact (nf_str h0)
  · rw [if_neg hlen202] at hD; cases hD
def K.seicheref14_Good : FC := fc F.seicheref14_Good (fun _ => true) false (fun (a : Bytes) => [(V.str a)]) (fun (y : Bool) => (V.bool y)) (fun a => g.seicheref14_Good a)
  (fun a => (cleanL_mk rfl rfl))
  (fun y => rfl)
  (fun a0 b0 h => by
    obtain ⟨h0, h⟩ := List.cons.inj h
    obtain rfl : a0 = b0 := V.str.inj h0
    rfl)
theorem H.seicheref14_Good (w : World) (hw : EnvOK w) : K.seicheref14_Good.Holds (cxD w) :=
  FC.holds_of (cs := [K.seicheref14_Words, K.seicheref14_Cut, K.seicheref14_Term]) (glD w) mixed cf_seicheref14_Good (fun _ _ ⟨_, _, h, _⟩ => by subst h; exact Nat.le_of_ble_eq_true rfl) fun v y ⟨a, r, hv, hD, hy⟩ => by
    subst hy
    exact ok.seicheref14_Good (specOf_calls (H.seicheref14_Words w hw) (fun _ _ ⟨_, _, h, _⟩ => by subst h; rfl)) (specOf_calls (H.seicheref14_Cut w hw) (fun _ _ ⟨_, _, h, _⟩ => by subst h; rfl)) (specOf_calls (H.seicheref14_Term w hw) (fun _ _ ⟨_, _, h, _⟩ => by subst h; rfl)) hv hD
def c_seicheref14_wrap_l1 : ACode := (.seq (.region [
  ⟨(some 15), (.bin .lss .no (.tmp 14) (.tmp 13)), none, []⟩] false) (.seq (.cond (.tmp 15) .skip (.exit 0)) (.seq (.block 1 (.seq (.region [
  ⟨(some 16), (.iaddr 1 (.tmp 12) (.tmp 14)), none, []⟩, 
  ⟨(some 17), (.load none (.tmp 16)), none, []⟩, 
  ⟨(some 7), (.mv (.tmp 17)), none, []⟩] false) (.region [
  ⟨(some 18), (.mv (.tmp 5)), none, []⟩, 
  ⟨(some 19), (.mv (.tmp 1)), none, []⟩, 
  ⟨(some 20), (.bin .add .no (.tmp 18) (.tmp 19)), none, []⟩, 
  ⟨(some 21), (.mv (.tmp 7)), none, []⟩, 
  ⟨(some 22), (.bin .add .no (.tmp 20) (.tmp 21)), none, []⟩, 
  ⟨(some 5), (.mv (.tmp 22)), none, []⟩] false))) (.region [
  ⟨(some 23), (.bin .add .no (.tmp 14) (.const (.int .i64 1))), none, []⟩, 
  ⟨(some 14), (.mv (.tmp 23)), none, []⟩] false))))
def c_seicheref14_wrap : ACode := (.seq (.region [
  ⟨(some 4), (.mv (.const (.str []))), none, []⟩] false) (.seq (.region [
  ⟨(some 8), (.mv (.tmp 0)), none, []⟩, 
  ⟨(some 9), (.iaddr 1 (.tmp 8) (.const (.int .i64 0))), none, []⟩, 
  ⟨(some 10), (.load none (.tmp 9)), none, []⟩, 
  ⟨(some 5), (.mv (.tmp 10)), none, []⟩] false) (.seq (.seq (.region [
  ⟨(some 11), (.mv (.tmp 0)), none, []⟩, 
  ⟨(some 12), (.slc 1 (.tmp 11) (some (.const (.int .i64 1))) none none), none, []⟩, 
  ⟨(some 13), (.len false (.tmp 12)), none, []⟩, 
  ⟨(some 14), (.mv (.const (.int .i64 0))), none, []⟩] false) (.block 0 (.loop c_seicheref14_wrap_l1))) (.seq (.seq (.region [
  ⟨(some 24), (.mv (.tmp 0)), none, []⟩, 
  ⟨(some 25), (.len false (.tmp 24)), none, []⟩, 
  ⟨(some 26), (.bin .gtr .no (.tmp 25) (.const (.int .i64 1))), none, []⟩] false) (.cond (.tmp 26) (.seq (.region [
  ⟨(some 27), (.mv (.tmp 5)), none, []⟩, 
  ⟨(some 28), (.bin .add .no (.const (.str [40])) (.tmp 27)), none, []⟩, 
  ⟨(some 29), (.bin .add .no (.tmp 28) (.const (.str [41]))), none, []⟩, 
  ⟨(some 4), (.mv (.tmp 29)), none, []⟩] false) .ret) .skip)) (.seq (.region [
  ⟨(some 30), (.mv (.tmp 5)), none, []⟩, 
  ⟨(some 4), (.mv (.tmp 30)), none, []⟩] false) .ret)))))
theorem cf_seicheref14_wrap : cFn Go.Proofs.Tryd.prog F.seicheref14_wrap = some ⟨31, c_seicheref14_wrap, [.t 4]⟩ := by kernel_rfl
def L.seicheref14_wrap_l1 (t1_52 : Bytes) (k0 : Bytes → Option Bytes) : List Bytes → Bytes → Option Bytes
  | [], t5_71 =>
    k0 t5_71
  | a75 :: rest, t5_71 =>
    (cat t5_71 t1_52).bind fun z80 =>
    (cat z80 a75).bind fun z82 =>
    L.seicheref14_wrap_l1 t1_52 k0 rest z82
theorem ok.seicheref14_wrap_l1 {Γ : Abs.Spec} {gl : Glob} {Q : Ex → St → Prop} {r : Bytes} {t0_51 : (List Bytes)} {t1_52 : Bytes} {l49 : List Bytes} {k0 : Bytes → Option Bytes}
    (hk0 : ∀ (s : St) (t5_89 : Bytes), ((s.tm 0).nf = (V.sl false 1 (List.map V.str t0_51))) → (s.tm 5 = (V.str t5_89)) → k0 t5_89 = some r → Q (.exit 0) s)
    (hR : ∀ s, EndsX [.t 4] false (V.str r) s → Q .ret s)
    (hlen : l49.length ≤ Lim) : ∀ (rest : List Bytes) (k50 : Nat) (s : St) (t5_71 : Bytes), l49.drop k50 = rest → k50 ≤ l49.length →
    ((s.tm 12).nf = V.sl false 1 (List.map V.str l49)) → (s.tm 13 = V.int .i64 ((l49.length : Nat) : Int)) → (s.tm 14 = V.int .i64 ((k50 : Nat) : Int)) → ((s.tm 0).nf = (V.sl false 1 (List.map V.str t0_51))) → (s.tm 1 = (V.str t1_52)) → (s.tm 5 = (V.str t5_71)) →
    L.seicheref14_wrap_l1 t1_52 k0 rest t5_71 = some r → awp Γ gl (.loop c_seicheref14_wrap_l1) Q s := by
  intro rest
  induction rest with
  | nil =>
    intro k50 s t5_71 hdrop hkl hX hN hI h68 h69 h70 hD
    have hkz := drop_nil hdrop hkl
    have hp0 : ¬ (((k50 : Nat) : Int) < ((l49.length : Nat) : Int)) := by omega
    refine awp_roundK fun K hK => ?_
    rw [L.seicheref14_wrap_l1] at hD
    refine x_seq ?_
    refine x_start (b := false) ?_
    refine x_bin hI hN b_lss ?_
    refine x_done ?_
    refine x_tN ?_
    refine x_seq ?_
    refine x_cf (show _ = (V.bool (decide (((k50 : Nat) : Int) < ((l49.length : Nat) : Int)))) from rfl) (decide_eq_false hp0) ?_
    refine x_exitc ?_
    refine x_tE ?_
    refine x_tE ?_
    refine hk0 _ _ ?_ ?_ hD
    · exact h68
    · exact h70
  | cons a75 rest ih =>
    intro k50 s t5_71 hdrop hkl hX hN hI h68 h69 h70 hD
    obtain ⟨hlt, -, hget, hdrop1, -⟩ := drop_cons hdrop
    have hp1 : ((k50 : Nat) : Int) < ((l49.length : Nat) : Int) := by omega
    have hwk := wi_succ (k := k50) (by unfold Lim at hlen; omega)
    refine awp_roundK fun K hK => ?_
    rw [L.seicheref14_wrap_l1] at hD
    refine x_seq ?_
    refine x_start (b := false) ?_
    refine x_bin hI hN b_lss ?_
    refine x_done ?_
    refine x_tN ?_
    refine x_seq ?_
    refine x_ct (show _ = (V.bool (decide (((k50 : Nat) : Int) < ((l49.length : Nat) : Int)))) from rfl) (decide_eq_true hp1) ?_
    refine x_skip ?_
    refine x_tN ?_
    refine x_seq ?_
    refine x_block ?_
    refine x_seq ?_
    refine x_start (b := false) ?_
    refine x_iaddr hX hI (at_k hget) fun v78 (hv78 : v78.nf = V.el [(V.str a75)] 0) => ?_
    refine x_load_el hv78 (show _ = some (V.str a75) from rfl) fun v79 hv79 => ?_
    refine x_mv' (nf_str hv79) ?_
    refine x_done ?_
    refine x_tN ?_
    refine x_start (b := false) ?_
    refine x_mv' h70 ?_
    refine x_mv' h69 ?_
    obtain ⟨z80, hx81, hD⟩ := Option.bind_eq_some_iff.1 hD
    refine x_cat (show _ = (V.str t5_71) from rfl) (show _ = (V.str t1_52) from rfl) hx81 ?_
    refine x_mv' (show _ = (V.str a75) from rfl) ?_
    obtain ⟨z82, hx83, hD⟩ := Option.bind_eq_some_iff.1 hD
    refine x_cat (show _ = (V.str z80) from rfl) (show _ = (V.str a75) from rfl) hx83 ?_
    refine x_mv' (show _ = (V.str z82) from rfl) ?_
    refine x_done ?_
    refine x_bN ?_
    refine x_tN ?_
    refine x_start (b := false) ?_
    refine x_bin hI (show _ = (V.int .i64 1) from rfl) b_add ?_
    refine x_mv' (show _ = (V.int .i64 (wi (((k50 : Nat) : Int) + 1))) from rfl) ?_
    refine x_done ?_
    refine x_tN ?_
    refine hK _ ?_
    refine ih (k50 + 1) _ _ hdrop1 hlt ?_ ?_ ?_ ?_ ?_ ?_ hD
    · exact hX
    · exact hN
    · exact (Eq.trans (show _ = (V.int .i64 (wi (((k50 : Nat) : Int) + 1))) from rfl) (congrArg (V.int .i64) hwk))
    · exact h68
    · exact h69
    · exact (show _ = (V.str z82) from rfl)
def g.seicheref14_wrap (p0 : (List Bytes)) (p1 : Bytes) : Option Bytes :=
  (at? p0 0).bind fun a7 =>
  (cut p0 1 (p0.length : Nat)).bind fun q46 =>
  if q46.length ≤ Lim then L.seicheref14_wrap_l1 p1 (fun (t5_92 : Bytes) => if 1 < ((p0.length : Nat) : Int) then
    (cat ([40] : Bytes) t5_92).bind fun z96 =>
    (cat z96 ([41] : Bytes)).bind fun z98 =>
    some z98
  else
    some t5_92) q46 a7 else none
theorem ok.seicheref14_wrap {Γ : Abs.Spec} {gl : Glob} {r : Bytes} {p0 : (List Bytes)} {p1 : Bytes} {v : List V}
    (hv : nfL v = [(V.sl false 1 (List.map V.str p0)), (V.str p1)]) (hD : g.seicheref14_wrap p0 p1 = some r) : awp Γ gl c_seicheref14_wrap (endQ [.t 4] false (V.str r)) (St.init v) := by
  obtain ⟨v0, v, rfl, h0, hv⟩ := nfL_cons hv
  obtain ⟨v1, v, rfl, h1, hv⟩ := nfL_cons hv
  obtain rfl := nfL_nil hv
  have hR : ∀ s, EndsX [.t 4] false (V.str r) s → endQ [.t 4] false (V.str r) .ret s := fun _ h => h
  unfold g.seicheref14_wrap at hD
  unfold c_seicheref14_wrap
  refine x_seq ?_
  refine x_start (b := false) ?_
  refine x_mv' (show _ = (V.str ([] : Bytes)) from rfl) ?_
  refine x_done ?_
  refine x_tN ?_
  refine x_seq ?_
  refine x_start (b := false) ?_
  refine x_mv h0 fun v6 hv6 => ?_
  obtain ⟨a7, hx8, hD⟩ := Option.bind_eq_some_iff.1 hD
  refine x_iaddr hv6 (show _ = (V.int .i64 0) from rfl) hx8 fun v9 (hv9 : v9.nf = V.el [(V.str a7)] 0) => ?_
  refine x_load_el hv9 (show _ = some (V.str a7) from rfl) fun v10 hv10 => ?_
  refine x_mv' (nf_str hv10) ?_
  refine x_done ?_
  refine x_tN ?_
  refine x_seq ?_
  refine x_seq ?_
  refine x_start (b := false) ?_
  refine x_mv h0 fun v45 hv45 => ?_
  obtain ⟨q46, hx47, hD⟩ := Option.bind_eq_some_iff.1 hD
  refine x_slc (ka := .i64) (kb := .i64) hv45 (show _ = (V.int .i64 1) from rfl) rfl hx47 fun v48 hv48 => ?_
  refine x_len hv48 ?_
  refine x_mv' (show _ = (V.int .i64 0) from rfl) ?_
  refine x_done ?_
  refine x_tN ?_
  refine x_block ?_
  by_cases hlen101 : q46.length ≤ Lim
  · rw [if_pos hlen101] at hD
    refine ok.seicheref14_wrap_l1 (t0_51 := p0) (t1_52 := p1) (l49 := q46) (fun s100 t5_92 h90 h91 hD => ?_) (fun _ hE => ?_) hlen101 _ 0 _ _ rfl (Nat.zero_le _) ?_ ?_ ?_ ?_ ?_ ?_ hD
    · refine x_bE ?_
      refine x_tN ?_
      refine x_seq ?_
      refine x_seq ?_
      refine x_start (b := false) ?_
      refine x_mv h90 fun v94 hv94 => ?_
      refine x_len hv94 ?_
      refine x_bin (show _ = (V.int .i64 ((p0.length : Nat) : Int)) from rfl) (show _ = (V.int .i64 1) from rfl) b_gtr ?_
      refine x_done ?_
      refine x_tN ?_
      by_cases hp95 : 1 < ((p0.length : Nat) : Int)
      · rw [if_pos hp95] at hD
        refine x_ct (show _ = (V.bool (decide (1 < ((p0.length : Nat) : Int)))) from rfl) (decide_eq_true hp95) ?_
        refine x_seq ?_
        refine x_start (b := false) ?_
        refine x_mv' h91 ?_
        obtain ⟨z96, hx97, hD⟩ := Option.bind_eq_some_iff.1 hD
        refine x_cat (show _ = (V.str ([40] : Bytes)) from rfl) (show _ = (V.str t5_92) from rfl) hx97 ?_
        obtain ⟨z98, hx99, hD⟩ := Option.bind_eq_some_iff.1 hD
        refine x_cat (show _ = (V.str z96) from rfl) (show _ = (V.str ([41] : Bytes)) from rfl) hx99 ?_
        refine x_mv' (show _ = (V.str z98) from rfl) ?_
        refine x_done ?_
        refine x_tN ?_
        refine x_retc ?_
        refine x_tR ?_
        obtain rfl := Option.some.inj hD
        exact hR _ (ends_t (nf_of rfl (show _ = (V.str z98) from rfl)) (fun h => nomatch h))
      · rw [if_neg hp95] at hD
        refine x_cf (show _ = (V.bool (decide (1 < ((p0.length : Nat) : Int)))) from rfl) (decide_eq_false hp95) ?_
        refine x_skip ?_
        refine x_tN ?_
        refine x_seq ?_
        refine x_start (b := false) ?_
        refine x_mv' h91 ?_
        refine x_mv' (show _ = (V.str t5_92) from rfl) ?_
        refine x_done ?_
        refine x_tN ?_
        refine x_retc ?_
        obtain rfl := Option.some.inj hD
        exact hR _ (ends_t (nf_of rfl (show _ = (V.str t5_92) from rfl)) (fun h => nomatch h))
    · refine x_bR ?_; refine x_tR ?_; exact hR _ hE
    · exact hv48
    · exact (show _ = (V.int .i64 ((q46.length : Nat) : Int)) from rfl)
    · exact (show _ = (V.int .i64 0) from rfl)
    · exact h0
    · exact (nf_str h1)
    · exact (show _ = (V.str a7) from rfl)
  · rw [if_neg hlen101] at hD; cases hD
def K.seicheref14_wrap : FC := fc F.seicheref14_wrap (fun _ => true) false (fun (a : ((List Bytes) × Bytes)) => [(V.sl false 1 (List.map V.str a.1)), (V.str a.2)]) (fun (y : Bytes) => (V.str y)) (fun a => g.seicheref14_wrap a.1 a.2)
  (fun a => (cleanL_mk (E.Lstring_clean _) (cleanL_mk rfl rfl)))
  (fun y => rfl)
  (fun ⟨a0, a1⟩ ⟨b0, b1⟩ h => by
    obtain ⟨h0, h⟩ := List.cons.inj h
    obtain rfl : a0 = b0 := E.Lstring_inj h0
    obtain ⟨h0, h⟩ := List.cons.inj h
    obtain rfl : a1 = b1 := V.str.inj h0
    rfl)
theorem H.seicheref14_wrap (w : World) (_hw : EnvOK w) : K.seicheref14_wrap.Holds (cxD w) :=
  FC.holds_of (cs := []) (glD w) mixed cf_seicheref14_wrap (fun _ _ ⟨_, _, h, _⟩ => by subst h; exact Nat.le_of_ble_eq_true rfl) fun v y ⟨a, r, hv, hD, hy⟩ => by
    subst hy
    exact ok.seicheref14_wrap hv hD
def c_seicheref14_Line_l1 : ACode := (.seq (.region [
  ⟨(some 10), (.bin .lss .no (.tmp 9) (.tmp 8)), none, []⟩] false) (.seq (.cond (.tmp 10) .skip (.exit 0)) (.seq (.block 1 (.seq (.region [
  ⟨(some 11), (.iaddr 1 (.tmp 7) (.tmp 9)), none, []⟩, 
  ⟨(some 12), (.load none (.tmp 11)), none, []⟩, 
  ⟨(some 5), (.mv (.tmp 12)), none, []⟩] false) (.region [
  ⟨(some 13), (.mvo 3), none, []⟩, 
  ⟨(some 14), (.mv (.tmp 5)), none, []⟩, 
  ⟨(some 15), (.call F.seicheref14_Cut [(.tmp 14), (.const (.int .u8 44))]), none, []⟩, 
  ⟨(some 16), (.call F.seicheref14_wrap [(.tmp 15), (.const (.str [32, 38, 38, 32]))]), none, []⟩, 
  ⟨(some 17), (.bsl 1 [(.tmp 16)]), none, []⟩, 
  ⟨(some 18), (.app 1 (.tmp 13) (.tmp 17)), none, []⟩, 
  ⟨(some 3), (.mvo 18), none, []⟩] false))) (.region [
  ⟨(some 19), (.bin .add .no (.tmp 9) (.const (.int .i64 1))), none, []⟩, 
  ⟨(some 9), (.mv (.tmp 19)), none, []⟩] false))))
def c_seicheref14_Line : ACode := (.seq (.region [
  ⟨(some 2), (.mv (.const (.str []))), none, []⟩] false) (.seq (.region [
  ⟨(some 3), (.mv (.const (.sl true 1 []))), none, []⟩] false) (.seq (.seq (.region [
  ⟨(some 6), (.mv (.tmp 0)), none, []⟩, 
  ⟨(some 7), (.call F.seicheref14_Words [(.tmp 6)]), none, []⟩, 
  ⟨(some 8), (.len false (.tmp 7)), none, []⟩, 
  ⟨(some 9), (.mv (.const (.int .i64 0))), none, []⟩] false) (.block 0 (.loop c_seicheref14_Line_l1))) (.seq (.region [
  ⟨(some 20), (.mv (.tmp 3)), none, []⟩, 
  ⟨(some 21), (.call F.seicheref14_wrap [(.tmp 20), (.const (.str [32, 124, 124, 32]))]), none, []⟩, 
  ⟨(some 2), (.mv (.tmp 21)), none, []⟩] false) .ret))))
theorem cf_seicheref14_Line : cFn Go.Proofs.Tryd.prog F.seicheref14_Line = some ⟨22, c_seicheref14_Line, [.t 2]⟩ := by kernel_rfl
def L.seicheref14_Line_l1 (k0 : (List Bytes) → Option Bytes) : List Bytes → (List Bytes) → Option Bytes
  | [], t3_62 =>
    k0 t3_62
  | a65 :: rest, t3_62 =>
    (g.seicheref14_Cut a65 44).bind fun r72 =>
    (g.seicheref14_wrap r72 ([32, 38, 38, 32] : Bytes)).bind fun r75 =>
    (appL t3_62 ([r75] : (List Bytes))).bind fun l78 =>
    L.seicheref14_Line_l1 k0 rest l78
theorem ok.seicheref14_Line_l1 {Γ : Abs.Spec} {gl : Glob} (hC_seicheref14_Words : CallsX Γ K.seicheref14_Words) (hC_seicheref14_Cut : CallsX Γ K.seicheref14_Cut) (hC_seicheref14_wrap : CallsX Γ K.seicheref14_wrap) {Q : Ex → St → Prop} {r : Bytes} {l38 : List Bytes} {k0 : (List Bytes) → Option Bytes}
    (hk0 : ∀ (s : St) (t3_85 : (List Bytes)), ((s.tm 3).nf = (V.sl false 1 (List.map V.str t3_85))) → (OwnS s 3) → k0 t3_85 = some r → Q (.exit 0) s)
    (hR : ∀ s, EndsX [.t 2] false (V.str r) s → Q .ret s)
    (hlen : l38.length ≤ Lim) : ∀ (rest : List Bytes) (k39 : Nat) (s : St) (t3_62 : (List Bytes)), l38.drop k39 = rest → k39 ≤ l38.length →
    ((s.tm 7).nf = V.sl false 1 (List.map V.str l38)) → (s.tm 8 = V.int .i64 ((l38.length : Nat) : Int)) → (s.tm 9 = V.int .i64 ((k39 : Nat) : Int)) → ((s.tm 3).nf = (V.sl false 1 (List.map V.str t3_62))) → (OwnS s 3) →
    L.seicheref14_Line_l1 k0 rest t3_62 = some r → awp Γ gl (.loop c_seicheref14_Line_l1) Q s := by
  intro rest
  induction rest with
  | nil =>
    intro k39 s t3_62 hdrop hkl hX hN hI h61 h61o hD
    have hkz := drop_nil hdrop hkl
    have hp0 : ¬ (((k39 : Nat) : Int) < ((l38.length : Nat) : Int)) := by omega
    refine awp_roundK fun K hK => ?_
    rw [L.seicheref14_Line_l1] at hD
    refine x_seq ?_
    refine x_start (b := false) ?_
    refine x_bin hI hN b_lss ?_
    refine x_done ?_
    refine x_tN ?_
    refine x_seq ?_
    refine x_cf (show _ = (V.bool (decide (((k39 : Nat) : Int) < ((l38.length : Nat) : Int)))) from rfl) (decide_eq_false hp0) ?_
    refine x_exitc ?_
    refine x_tE ?_
    refine x_tE ?_
    refine hk0 _ _ ?_ ?_ hD
    · exact h61
    · exact h61o
  | cons a65 rest ih =>
    intro k39 s t3_62 hdrop hkl hX hN hI h61 h61o hD
    obtain ⟨hlt, -, hget, hdrop1, -⟩ := drop_cons hdrop
    have hp1 : ((k39 : Nat) : Int) < ((l38.length : Nat) : Int) := by omega
    have hwk := wi_succ (k := k39) (by unfold Lim at hlen; omega)
    refine awp_roundK fun K hK => ?_
    rw [L.seicheref14_Line_l1] at hD
    refine x_seq ?_
    refine x_start (b := false) ?_
    refine x_bin hI hN b_lss ?_
    refine x_done ?_
    refine x_tN ?_
    refine x_seq ?_
    refine x_ct (show _ = (V.bool (decide (((k39 : Nat) : Int) < ((l38.length : Nat) : Int)))) from rfl) (decide_eq_true hp1) ?_
    refine x_skip ?_
    refine x_tN ?_
    refine x_seq ?_
    refine x_block ?_
    refine x_seq ?_
    refine x_start (b := false) ?_
    refine x_iaddr hX hI (at_k hget) fun v68 (hv68 : v68.nf = V.el [(V.str a65)] 0) => ?_
    refine x_load_el hv68 (show _ = some (V.str a65) from rfl) fun v69 hv69 => ?_
    refine x_mv' (nf_str hv69) ?_
    refine x_done ?_
    refine x_tN ?_
    refine x_start (b := false) ?_
    refine x_mvo h61 fun v70 ov70 hv70 hwv70 => ?_
    refine x_mv' (show _ = (V.str a65) from rfl) ?_
    obtain ⟨r72, hx73, hD⟩ := Option.bind_eq_some_iff.1 hD
    refine x_callF hC_seicheref14_Cut (a := (a65, 44)) (cons_eq (nf_of rfl (show _ = (V.str a65) from rfl)) (cons_eq (nf_of rfl (show _ = (V.int .u8 ((44 : UInt8).toNat : Int)) from rfl)) rfl)) hx73 fun v71 ov71 (hv71 : v71.nf = (V.sl false 1 (List.map V.str r72))) hov71 => ?_
    obtain ⟨r75, hx76, hD⟩ := Option.bind_eq_some_iff.1 hD
    refine x_callF hC_seicheref14_wrap (a := (r72, ([32, 38, 38, 32] : Bytes))) (cons_eq hv71 (cons_eq (nf_of rfl (show _ = (V.str ([32, 38, 38, 32] : Bytes)) from rfl)) rfl)) hx76 fun v74 ov74 (hv74 : v74.nf = (V.str r75)) hov74 => ?_
    refine x_bsl (E := V.str) (l := ([r75] : (List Bytes))) (cons_eq (nf_of rfl (nf_str hv74)) rfl) (fits_map (E := V.str) (sz := 1) (fun x => ⟨rfl, rfl⟩) _) fun v77 ov77 hv77 hov77 => ?_
    obtain ⟨l78, hx79, hD⟩ := Option.bind_eq_some_iff.1 hD
    refine x_app hv70 (hwv70 h61o) (tail_sl hv77) hx79 fun v80 ov80 fv80 hv80 hov80 hfv80 => ?_
    refine x_mvo hv80 fun v81 ov81 hv81 hwv81 => ?_
    refine x_done ?_
    refine x_bN ?_
    refine x_tN ?_
    refine x_start (b := false) ?_
    refine x_bin hI (show _ = (V.int .i64 1) from rfl) b_add ?_
    refine x_mv' (show _ = (V.int .i64 (wi (((k39 : Nat) : Int) + 1))) from rfl) ?_
    refine x_done ?_
    refine x_tN ?_
    refine hK _ ?_
    refine ih (k39 + 1) _ _ hdrop1 hlt ?_ ?_ ?_ ?_ ?_ hD
    · exact hX
    · exact hN
    · exact (Eq.trans (show _ = (V.int .i64 (wi (((k39 : Nat) : Int) + 1))) from rfl) (congrArg (V.int .i64) hwk))
    · exact hv81
    · exact (hwv81 hov80)
def g.seicheref14_Line (p0 : Bytes) : Option Bytes :=
  (g.seicheref14_Words p0).bind fun r36 =>
  if r36.length ≤ Lim then L.seicheref14_Line_l1 (fun (t3_87 : (List Bytes)) => (g.seicheref14_wrap t3_87 ([32, 124, 124, 32] : Bytes)).bind fun r90 =>
  some r90) r36 [] else none
theorem ok.seicheref14_Line {Γ : Abs.Spec} {gl : Glob} (hC_seicheref14_Words : CallsX Γ K.seicheref14_Words) (hC_seicheref14_Cut : CallsX Γ K.seicheref14_Cut) (hC_seicheref14_wrap : CallsX Γ K.seicheref14_wrap) {r : Bytes} {p0 : Bytes} {v : List V}
    (hv : nfL v = [(V.str p0)]) (hD : g.seicheref14_Line p0 = some r) : awp Γ gl c_seicheref14_Line (endQ [.t 2] false (V.str r)) (St.init v) := by
  obtain ⟨v0, v, rfl, h0, hv⟩ := nfL_cons hv
  obtain rfl := nfL_nil hv
  have hR : ∀ s, EndsX [.t 2] false (V.str r) s → endQ [.t 2] false (V.str r) .ret s := fun _ h => h
  unfold g.seicheref14_Line at hD
  unfold c_seicheref14_Line
  refine x_seq ?_
  refine x_start (b := false) ?_
  refine x_mv' (show _ = (V.str ([] : Bytes)) from rfl) ?_
  refine x_done ?_
  refine x_tN ?_
  refine x_seq ?_
  refine x_start (b := false) ?_
  refine x_mv' (y := V.sl true 1 []) rfl ?_
  refine x_done ?_
  refine x_tN ?_
  refine x_seq ?_
  refine x_seq ?_
  refine x_start (b := false) ?_
  refine x_mv' (nf_str h0) ?_
  obtain ⟨r36, hx37, hD⟩ := Option.bind_eq_some_iff.1 hD
  refine x_callF hC_seicheref14_Words (a := (p0)) (cons_eq (nf_of rfl (show _ = (V.str p0) from rfl)) rfl) hx37 fun v35 ov35 (hv35 : v35.nf = (V.sl false 1 (List.map V.str r36))) hov35 => ?_
  refine x_len hv35 ?_
  refine x_mv' (show _ = (V.int .i64 0) from rfl) ?_
  refine x_done ?_
  refine x_tN ?_
  refine x_block ?_
  by_cases hlen93 : r36.length ≤ Lim
  · rw [if_pos hlen93] at hD
    refine ok.seicheref14_Line_l1 (l38 := r36) hC_seicheref14_Words hC_seicheref14_Cut hC_seicheref14_wrap (fun s92 t3_87 h86 h86o hD => ?_) (fun _ hE => ?_) hlen93 _ 0 _ _ rfl (Nat.zero_le _) ?_ ?_ ?_ ?_ ?_ hD
    · refine x_bE ?_
      refine x_tN ?_
      refine x_seq ?_
      refine x_start (b := false) ?_
      refine x_mv h86 fun v88 hv88 => ?_
      obtain ⟨r90, hx91, hD⟩ := Option.bind_eq_some_iff.1 hD
      refine x_callF hC_seicheref14_wrap (a := (t3_87, ([32, 124, 124, 32] : Bytes))) (cons_eq hv88 (cons_eq (nf_of rfl (show _ = (V.str ([32, 124, 124, 32] : Bytes)) from rfl)) rfl)) hx91 fun v89 ov89 (hv89 : v89.nf = (V.str r90)) hov89 => ?_
      refine x_mv' (nf_str hv89) ?_
      refine x_done ?_
      refine x_tN ?_
      refine x_retc ?_
      obtain rfl := Option.some.inj hD
      exact hR _ (ends_t (nf_of rfl (show _ = (V.str r90) from rfl)) (fun h => nomatch h))
    · refine x_bR ?_; refine x_tR ?_; exact hR _ hE
    · exact hv35
    · exact (show _ = (V.int .i64 ((r36.length : Nat) : Int)) from rfl)
    · exact (show _ = (V.int .i64 0) from rfl)
    · exact (show V.nf _ = (V.sl false 1 (List.map V.str [])) from rfl)
    · exact (Or.inr ⟨1, rfl⟩)
  · rw [if_neg hlen93] at hD; cases hD
def K.seicheref14_Line : FC := fc F.seicheref14_Line (fun _ => true) false (fun (a : Bytes) => [(V.str a)]) (fun (y : Bytes) => (V.str y)) (fun a => g.seicheref14_Line a)
  (fun a => (cleanL_mk rfl rfl))
  (fun y => rfl)
  (fun a0 b0 h => by
    obtain ⟨h0, h⟩ := List.cons.inj h
    obtain rfl : a0 = b0 := V.str.inj h0
    rfl)
theorem H.seicheref14_Line (w : World) (hw : EnvOK w) : K.seicheref14_Line.Holds (cxD w) :=
  FC.holds_of (cs := [K.seicheref14_Words, K.seicheref14_Cut, K.seicheref14_wrap]) (glD w) mixed cf_seicheref14_Line (fun _ _ ⟨_, _, h, _⟩ => by subst h; exact Nat.le_of_ble_eq_true rfl) fun v y ⟨a, r, hv, hD, hy⟩ => by
    subst hy
    exact ok.seicheref14_Line (specOf_calls (H.seicheref14_Words w hw) (fun _ _ ⟨_, _, h, _⟩ => by subst h; rfl)) (specOf_calls (H.seicheref14_Cut w hw) (fun _ _ ⟨_, _, h, _⟩ => by subst h; rfl)) (specOf_calls (H.seicheref14_wrap w hw) (fun _ _ ⟨_, _, h, _⟩ => by subst h; rfl)) hv hD
def c_seicheref14_Lines_l1 : ACode := (.seq (.region [
  ⟨(some 10), (.bin .lss .no (.tmp 9) (.tmp 8)), none, []⟩] false) (.seq (.cond (.tmp 10) .skip (.exit 0)) (.seq (.block 1 (.seq (.region [
  ⟨(some 11), (.iaddr 1 (.tmp 7) (.tmp 9)), none, []⟩, 
  ⟨(some 12), (.load none (.tmp 11)), none, []⟩, 
  ⟨(some 6), (.mv (.tmp 12)), none, []⟩] false) (.seq (.seq (.region [
  ⟨(some 13), (.mv (.tmp 6)), none, []⟩, 
  ⟨(some 14), (.call F.seicheref14_Good [(.tmp 13)]), none, []⟩, 
  ⟨(some 15), (.un .not (.tmp 14)), none, []⟩] false) (.cond (.tmp 15) (.seq (.region [
  ⟨(some 2), (.mv (.const (.str []))), none, []⟩, 
  ⟨(some 3), (.mv (.const (.bool false))), none, []⟩] false) .ret) .skip)) (.region [
  ⟨(some 16), (.mvo 4), none, []⟩, 
  ⟨(some 17), (.mv (.tmp 6)), none, []⟩, 
  ⟨(some 18), (.call F.seicheref14_Line [(.tmp 17)]), none, []⟩, 
  ⟨(some 19), (.bsl 1 [(.tmp 18)]), none, []⟩, 
  ⟨(some 20), (.app 1 (.tmp 16) (.tmp 19)), none, []⟩, 
  ⟨(some 4), (.mvo 20), none, []⟩] false)))) (.region [
  ⟨(some 21), (.bin .add .no (.tmp 9) (.const (.int .i64 1))), none, []⟩, 
  ⟨(some 9), (.mv (.tmp 21)), none, []⟩] false))))
def c_seicheref14_Lines : ACode := (.seq (.region [
  ⟨(some 2), (.mv (.const (.str []))), none, []⟩, 
  ⟨(some 3), (.mv (.const (.bool false))), none, []⟩] false) (.seq (.region [
  ⟨(some 4), (.mv (.const (.sl true 1 []))), none, []⟩] false) (.seq (.seq (.region [
  ⟨(some 7), (.mv (.tmp 0)), none, []⟩, 
  ⟨(some 8), (.len false (.tmp 7)), none, []⟩, 
  ⟨(some 9), (.mv (.const (.int .i64 0))), none, []⟩] false) (.block 0 (.loop c_seicheref14_Lines_l1))) (.seq (.seq (.region [
  ⟨(some 22), (.mv (.tmp 4)), none, []⟩, 
  ⟨(some 23), (.len false (.tmp 22)), none, []⟩, 
  ⟨(some 24), (.bin .eql .no (.tmp 23) (.const (.int .i64 0))), none, []⟩] false) (.cond (.tmp 24) (.seq (.region [
  ⟨(some 2), (.mv (.const (.str []))), none, []⟩, 
  ⟨(some 3), (.mv (.const (.bool false))), none, []⟩] false) .ret) .skip)) (.seq (.region [
  ⟨(some 25), (.mv (.tmp 4)), none, []⟩, 
  ⟨(some 26), (.call F.seicheref14_wrap [(.tmp 25), (.const (.str [32, 38, 38, 32]))]), none, []⟩, 
  ⟨(some 2), (.mv (.tmp 26)), none, []⟩, 
  ⟨(some 3), (.mv (.const (.bool true))), none, []⟩] false) .ret)))))
theorem cf_seicheref14_Lines : cFn Go.Proofs.Tryd.prog F.seicheref14_Lines = some ⟨27, c_seicheref14_Lines, [.t 2, .t 3]⟩ := by kernel_rfl
def L.seicheref14_Lines_l1 (k0 : (List Bytes) → Option (Bytes × Bool)) : List Bytes → (List Bytes) → Option (Bytes × Bool)
  | [], t4_76 =>
    k0 t4_76
  | a79 :: rest, t4_76 =>
    (g.seicheref14_Good a79).bind fun r95 =>
    if r95 = true then
      (g.seicheref14_Line a79).bind fun r100 =>
      (appL t4_76 ([r100] : (List Bytes))).bind fun l103 =>
      L.seicheref14_Lines_l1 k0 rest l103
    else
      some (([] : Bytes), false)
theorem ok.seicheref14_Lines_l1 {Γ : Abs.Spec} {gl : Glob} (hC_seicheref14_Good : CallsX Γ K.seicheref14_Good) (hC_seicheref14_Line : CallsX Γ K.seicheref14_Line) (hC_seicheref14_wrap : CallsX Γ K.seicheref14_wrap) {Q : Ex → St → Prop} {r : (Bytes × Bool)} {l41 : List Bytes} {k0 : (List Bytes) → Option (Bytes × Bool)}
    (hk0 : ∀ (s : St) (t4_110 : (List Bytes)), ((s.tm 4).nf = (V.sl false 1 (List.map V.str t4_110))) → (OwnS s 4) → k0 t4_110 = some r → Q (.exit 0) s)
    (hR : ∀ s, EndsX [.t 2, .t 3] false (V.tup [(V.str r.1), (V.bool r.2)]) s → Q .ret s)
    (hlen : l41.length ≤ Lim) : ∀ (rest : List Bytes) (k42 : Nat) (s : St) (t4_76 : (List Bytes)), l41.drop k42 = rest → k42 ≤ l41.length →
    ((s.tm 7).nf = V.sl false 1 (List.map V.str l41)) → (s.tm 8 = V.int .i64 ((l41.length : Nat) : Int)) → (s.tm 9 = V.int .i64 ((k42 : Nat) : Int)) → ((s.tm 4).nf = (V.sl false 1 (List.map V.str t4_76))) → (OwnS s 4) →
    L.seicheref14_Lines_l1 k0 rest t4_76 = some r → awp Γ gl (.loop c_seicheref14_Lines_l1) Q s := by
  intro rest
  induction rest with
  | nil =>
    intro k42 s t4_76 hdrop hkl hX hN hI h75 h75o hD
    have hkz := drop_nil hdrop hkl
    have hp0 : ¬ (((k42 : Nat) : Int) < ((l41.length : Nat) : Int)) := by omega
    refine awp_roundK fun K hK => ?_
    rw [L.seicheref14_Lines_l1] at hD
    refine x_seq ?_
    refine x_start (b := false) ?_
    refine x_bin hI hN b_lss ?_
    refine x_done ?_
    refine x_tN ?_
    refine x_seq ?_
    refine x_cf (show _ = (V.bool (decide (((k42 : Nat) : Int) < ((l41.length : Nat) : Int)))) from rfl) (decide_eq_false hp0) ?_
    refine x_exitc ?_
    refine x_tE ?_
    refine x_tE ?_
    refine hk0 _ _ ?_ ?_ hD
    · exact h75
    · exact h75o
  | cons a79 rest ih =>
    intro k42 s t4_76 hdrop hkl hX hN hI h75 h75o hD
    obtain ⟨hlt, -, hget, hdrop1, -⟩ := drop_cons hdrop
    have hp1 : ((k42 : Nat) : Int) < ((l41.length : Nat) : Int) := by omega
    have hwk := wi_succ (k := k42) (by unfold Lim at hlen; omega)
    refine awp_roundK fun K hK => ?_
    rw [L.seicheref14_Lines_l1] at hD
    refine x_seq ?_
    refine x_start (b := false) ?_
    refine x_bin hI hN b_lss ?_
    refine x_done ?_
    refine x_tN ?_
    refine x_seq ?_
    refine x_ct (show _ = (V.bool (decide (((k42 : Nat) : Int) < ((l41.length : Nat) : Int)))) from rfl) (decide_eq_true hp1) ?_
    refine x_skip ?_
    refine x_tN ?_
    refine x_seq ?_
    refine x_block ?_
    refine x_seq ?_
    refine x_start (b := false) ?_
    refine x_iaddr hX hI (at_k hget) fun v82 (hv82 : v82.nf = V.el [(V.str a79)] 0) => ?_
    refine x_load_el hv82 (show _ = some (V.str a79) from rfl) fun v83 hv83 => ?_
    refine x_mv' (nf_str hv83) ?_
    refine x_done ?_
    refine x_tN ?_
    refine x_seq ?_
    refine x_seq ?_
    refine x_start (b := false) ?_
    refine x_mv' (show _ = (V.str a79) from rfl) ?_
    obtain ⟨r95, hx96, hD⟩ := Option.bind_eq_some_iff.1 hD
    refine x_callF hC_seicheref14_Good (a := (a79)) (cons_eq (nf_of rfl (show _ = (V.str a79) from rfl)) rfl) hx96 fun v94 ov94 (hv94 : v94.nf = (V.bool r95)) hov94 => ?_
    refine x_un (nf_bool hv94) (aun_not _) ?_
    refine x_done ?_
    refine x_tN ?_
    by_cases hp97 : r95 = true
    · rw [if_pos hp97] at hD
      refine x_cf (show _ = (V.bool (!r95)) from rfl) (bnot_t hp97) ?_
      refine x_skip ?_
      refine x_tN ?_
      refine x_start (b := false) ?_
      refine x_mvo h75 fun v98 ov98 hv98 hwv98 => ?_
      refine x_mv' (show _ = (V.str a79) from rfl) ?_
      obtain ⟨r100, hx101, hD⟩ := Option.bind_eq_some_iff.1 hD
      refine x_callF hC_seicheref14_Line (a := (a79)) (cons_eq (nf_of rfl (show _ = (V.str a79) from rfl)) rfl) hx101 fun v99 ov99 (hv99 : v99.nf = (V.str r100)) hov99 => ?_
      refine x_bsl (E := V.str) (l := ([r100] : (List Bytes))) (cons_eq (nf_of rfl (nf_str hv99)) rfl) (fits_map (E := V.str) (sz := 1) (fun x => ⟨rfl, rfl⟩) _) fun v102 ov102 hv102 hov102 => ?_
      obtain ⟨l103, hx104, hD⟩ := Option.bind_eq_some_iff.1 hD
      refine x_app hv98 (hwv98 h75o) (tail_sl hv102) hx104 fun v105 ov105 fv105 hv105 hov105 hfv105 => ?_
      refine x_mvo hv105 fun v106 ov106 hv106 hwv106 => ?_
      refine x_done ?_
      refine x_bN ?_
      refine x_tN ?_
      refine x_start (b := false) ?_
      refine x_bin hI (show _ = (V.int .i64 1) from rfl) b_add ?_
      refine x_mv' (show _ = (V.int .i64 (wi (((k42 : Nat) : Int) + 1))) from rfl) ?_
      refine x_done ?_
      refine x_tN ?_
      refine hK _ ?_
      refine ih (k42 + 1) _ _ hdrop1 hlt ?_ ?_ ?_ ?_ ?_ hD
      · exact hX
      · exact hN
      · exact (Eq.trans (show _ = (V.int .i64 (wi (((k42 : Nat) : Int) + 1))) from rfl) (congrArg (V.int .i64) hwk))
      · exact hv106
      · exact (hwv106 hov105)
    · rw [if_neg hp97] at hD
      refine x_ct (show _ = (V.bool (!r95)) from rfl) (bnot_f (Bool.eq_false_iff.2 hp97)) ?_
      refine x_seq ?_
      refine x_start (b := false) ?_
      refine x_mv' (show _ = (V.str ([] : Bytes)) from rfl) ?_
      refine x_mv' (show _ = (V.bool false) from rfl) ?_
      refine x_done ?_
      refine x_tN ?_
      refine x_retc ?_
      refine x_tR ?_
      refine x_bR ?_
      refine x_tR ?_
      refine x_tR ?_
      obtain rfl := Option.some.inj hD
      exact hR _ (ends_tup (rvs_cons (rv_t (nf_of rfl (show _ = (V.str ([] : Bytes)) from rfl))) (rvs_cons (rv_t (nf_of rfl (show _ = (V.bool false) from rfl))) rvs_nil)) (by decide))
def g.seicheref14_Lines (p0 : (List Bytes)) : Option (Bytes × Bool) :=
  if p0.length ≤ Lim then L.seicheref14_Lines_l1 (fun (t4_112 : (List Bytes)) => if ((t4_112.length : Nat) : Int) = 0 then
    some (([] : Bytes), false)
  else
    (g.seicheref14_wrap t4_112 ([32, 38, 38, 32] : Bytes)).bind fun r121 =>
    some (r121, true)) p0 [] else none
theorem ok.seicheref14_Lines {Γ : Abs.Spec} {gl : Glob} (hC_seicheref14_Good : CallsX Γ K.seicheref14_Good) (hC_seicheref14_Line : CallsX Γ K.seicheref14_Line) (hC_seicheref14_wrap : CallsX Γ K.seicheref14_wrap) {r : (Bytes × Bool)} {p0 : (List Bytes)} {v : List V}
    (hv : nfL v = [(V.sl false 1 (List.map V.str p0))]) (hD : g.seicheref14_Lines p0 = some r) : awp Γ gl c_seicheref14_Lines (endQ [.t 2, .t 3] false (V.tup [(V.str r.1), (V.bool r.2)])) (St.init v) := by
  obtain ⟨v0, v, rfl, h0, hv⟩ := nfL_cons hv
  obtain rfl := nfL_nil hv
  have hR : ∀ s, EndsX [.t 2, .t 3] false (V.tup [(V.str r.1), (V.bool r.2)]) s → endQ [.t 2, .t 3] false (V.tup [(V.str r.1), (V.bool r.2)]) .ret s := fun _ h => h
  unfold g.seicheref14_Lines at hD
  unfold c_seicheref14_Lines
  refine x_seq ?_
  refine x_start (b := false) ?_
  refine x_mv' (show _ = (V.str ([] : Bytes)) from rfl) ?_
  refine x_mv' (show _ = (V.bool false) from rfl) ?_
  refine x_done ?_
  refine x_tN ?_
  refine x_seq ?_
  refine x_start (b := false) ?_
  refine x_mv' (y := V.sl true 1 []) rfl ?_
  refine x_done ?_
  refine x_tN ?_
  refine x_seq ?_
  refine x_seq ?_
  refine x_start (b := false) ?_
  refine x_mv h0 fun v40 hv40 => ?_
  refine x_len hv40 ?_
  refine x_mv' (show _ = (V.int .i64 0) from rfl) ?_
  refine x_done ?_
  refine x_tN ?_
  refine x_block ?_
  by_cases hlen124 : p0.length ≤ Lim
  · rw [if_pos hlen124] at hD
    refine ok.seicheref14_Lines_l1 (l41 := p0) hC_seicheref14_Good hC_seicheref14_Line hC_seicheref14_wrap (fun s123 t4_112 h111 h111o hD => ?_) (fun _ hE => ?_) hlen124 _ 0 _ _ rfl (Nat.zero_le _) ?_ ?_ ?_ ?_ ?_ hD
    · refine x_bE ?_
      refine x_tN ?_
      refine x_seq ?_
      refine x_seq ?_
      refine x_start (b := false) ?_
      refine x_mv h111 fun v117 hv117 => ?_
      refine x_len hv117 ?_
      refine x_bin (show _ = (V.int .i64 ((t4_112.length : Nat) : Int)) from rfl) (show _ = (V.int .i64 0) from rfl) b_eql ?_
      refine x_done ?_
      refine x_tN ?_
      by_cases hp118 : ((t4_112.length : Nat) : Int) = 0
      · rw [if_pos hp118] at hD
        refine x_ct (show _ = (V.bool (decide (((t4_112.length : Nat) : Int) = 0))) from rfl) (decide_eq_true hp118) ?_
        refine x_seq ?_
        refine x_start (b := false) ?_
        refine x_mv' (show _ = (V.str ([] : Bytes)) from rfl) ?_
        refine x_mv' (show _ = (V.bool false) from rfl) ?_
        refine x_done ?_
        refine x_tN ?_
        refine x_retc ?_
        refine x_tR ?_
        obtain rfl := Option.some.inj hD
        exact hR _ (ends_tup (rvs_cons (rv_t (nf_of rfl (show _ = (V.str ([] : Bytes)) from rfl))) (rvs_cons (rv_t (nf_of rfl (show _ = (V.bool false) from rfl))) rvs_nil)) (by decide))
      · rw [if_neg hp118] at hD
        refine x_cf (show _ = (V.bool (decide (((t4_112.length : Nat) : Int) = 0))) from rfl) (decide_eq_false hp118) ?_
        refine x_skip ?_
        refine x_tN ?_
        refine x_seq ?_
        refine x_start (b := false) ?_
        refine x_mv h111 fun v119 hv119 => ?_
        obtain ⟨r121, hx122, hD⟩ := Option.bind_eq_some_iff.1 hD
        refine x_callF hC_seicheref14_wrap (a := (t4_112, ([32, 38, 38, 32] : Bytes))) (cons_eq hv119 (cons_eq (nf_of rfl (show _ = (V.str ([32, 38, 38, 32] : Bytes)) from rfl)) rfl)) hx122 fun v120 ov120 (hv120 : v120.nf = (V.str r121)) hov120 => ?_
        refine x_mv' (nf_str hv120) ?_
        refine x_mv' (show _ = (V.bool true) from rfl) ?_
        refine x_done ?_
        refine x_tN ?_
        refine x_retc ?_
        obtain rfl := Option.some.inj hD
        exact hR _ (ends_tup (rvs_cons (rv_t (nf_of rfl (show _ = (V.str r121) from rfl))) (rvs_cons (rv_t (nf_of rfl (show _ = (V.bool true) from rfl))) rvs_nil)) (by decide))
    · refine x_bR ?_; refine x_tR ?_; exact hR _ hE
    · exact hv40
    · exact (show _ = (V.int .i64 ((p0.length : Nat) : Int)) from rfl)
    · exact (show _ = (V.int .i64 0) from rfl)
    · exact (show V.nf _ = (V.sl false 1 (List.map V.str [])) from rfl)
    · exact (Or.inr ⟨1, rfl⟩)
  · rw [if_neg hlen124] at hD; cases hD
def K.seicheref14_Lines : FC := fc F.seicheref14_Lines (fun _ => true) false (fun (a : (List Bytes)) => [(V.sl false 1 (List.map V.str a))]) (fun (y : (Bytes × Bool)) => (V.tup [(V.str y.1), (V.bool y.2)])) (fun a => g.seicheref14_Lines a)
  (fun a => (cleanL_mk (E.Lstring_clean _) rfl))
  (fun y => (cleanL_mk rfl (cleanL_mk rfl rfl)))
  (fun a0 b0 h => by
    obtain ⟨h0, h⟩ := List.cons.inj h
    obtain rfl : a0 = b0 := E.Lstring_inj h0
    rfl)
theorem H.seicheref14_Lines (w : World) (hw : EnvOK w) : K.seicheref14_Lines.Holds (cxD w) :=
  FC.holds_of (cs := [K.seicheref14_Good, K.seicheref14_Line, K.seicheref14_wrap]) (glD w) mixed cf_seicheref14_Lines (fun _ _ ⟨_, _, h, _⟩ => by subst h; exact Nat.le_of_ble_eq_true rfl) fun v y ⟨a, r, hv, hD, hy⟩ => by
    subst hy
    exact ok.seicheref14_Lines (specOf_calls (H.seicheref14_Good w hw) (fun _ _ ⟨_, _, h, _⟩ => by subst h; rfl)) (specOf_calls (H.seicheref14_Line w hw) (fun _ _ ⟨_, _, h, _⟩ => by subst h; rfl)) (specOf_calls (H.seicheref14_wrap w hw) (fun _ _ ⟨_, _, h, _⟩ => by subst h; rfl)) hv hD
def c_seichelaw14_alive : ACode := (.seq (.region [
  ⟨(some 0), (.mv (.const (.bool false))), none, []⟩] false) (.seq (.region [
  ⟨(some 4), (.call F.plus_Line [(.const (.str [97, 44, 33, 98, 32, 99]))]), none, []⟩, 
  ⟨(some 3), (.mv (.tmp 4)), none, []⟩, 
  ⟨(some 5), (.ext (.tmp 3) 0), none, []⟩, 
  ⟨(some 6), (.ext (.tmp 3) 1), none, []⟩, 
  ⟨(some 1), (.mv (.tmp 5)), none, []⟩, 
  ⟨(some 2), (.mv (.tmp 6)), none, []⟩] false) (.seq (.region [
  ⟨(some 7), (.mv (.tmp 2)), none, []⟩, 
  ⟨(some 8), (.bin .eql .no (.tmp 7) (.const (.int .i64 0))), none, []⟩, 
  ⟨(some 9), (.mv (.tmp 8)), none, []⟩, 
  ⟨(some 10), (.mv (.tmp 1)), (some (9, true)), []⟩, 
  ⟨(some 11), (.bin .eql .no (.tmp 10) (.const (.str [40, 40, 97, 32, 38, 38, 32, 33, 98, 41, 32, 124, 124, 32, 99, 41]))), (some (9, true)), []⟩, 
  ⟨(some 12), (.pick (.tmp 9) (.tmp 11) (.const (.bool false))), none, []⟩, 
  ⟨(some 0), (.mv (.tmp 12)), none, []⟩] false) .ret)))
theorem cf_seichelaw14_alive : cFn Go.Proofs.Tryd.prog F.seichelaw14_alive = some ⟨13, c_seichelaw14_alive, [.t 0]⟩ := by kernel_rfl
def g.seichelaw14_alive : Option Bool :=
  (g.plus_Line ([97, 44, 33, 98, 32, 99] : Bytes)).bind fun r8 =>
  if r8.2 = 0 then
    some (decide (r8.1 = ([40, 40, 97, 32, 38, 38, 32, 33, 98, 41, 32, 124, 124, 32, 99, 41] : Bytes)))
  else
    some false
theorem ok.seichelaw14_alive {Γ : Abs.Spec} {gl : Glob} (hC_plus_Line : CallsX Γ K.plus_Line) {r : Bool} {v : List V}
    (hv : nfL v = []) (hD : g.seichelaw14_alive = some r) : awp Γ gl c_seichelaw14_alive (endQ [.t 0] false (V.bool r)) (St.init v) := by
  obtain rfl := nfL_nil hv
  have hR : ∀ s, EndsX [.t 0] false (V.bool r) s → endQ [.t 0] false (V.bool r) .ret s := fun _ h => h
  unfold g.seichelaw14_alive at hD
  unfold c_seichelaw14_alive
  refine x_seq ?_
  refine x_start (b := false) ?_
  refine x_mv' (show _ = (V.bool false) from rfl) ?_
  refine x_done ?_
  refine x_tN ?_
  refine x_seq ?_
  refine x_start (b := false) ?_
  obtain ⟨r8, hx9, hD⟩ := Option.bind_eq_some_iff.1 hD
  refine x_callF hC_plus_Line (a := (([97, 44, 33, 98, 32, 99] : Bytes))) (cons_eq (nf_of rfl (show _ = (V.str ([97, 44, 33, 98, 32, 99] : Bytes)) from rfl)) rfl) hx9 fun v7 ov7 (hv7 : v7.nf = (V.tup [(V.str r8.1), (V.int .i64 r8.2)])) hov7 => ?_
  refine x_mv hv7 fun v10 hv10 => ?_
  refine x_ext hv10 (show _ = some (V.str r8.1) from rfl) fun v11 hv11 => ?_
  refine x_ext hv10 (show _ = some (V.int .i64 r8.2) from rfl) fun v12 hv12 => ?_
  refine x_mv' (nf_str hv11) ?_
  refine x_mv' (nf_int hv12) ?_
  refine x_done ?_
  refine x_tN ?_
  refine x_seq ?_
  refine x_start (b := false) ?_
  refine x_mv' (show _ = (V.int .i64 r8.2) from rfl) ?_
  refine x_bin (show _ = (V.int .i64 r8.2) from rfl) (show _ = (V.int .i64 0) from rfl) b_eql ?_
  refine x_mv' (show _ = (V.bool (decide (r8.2 = 0))) from rfl) ?_
  by_cases hp13 : r8.2 = 0
  · rw [if_pos hp13] at hD
    refine x_gy (show _ = (V.bool (decide (r8.2 = 0))) from rfl) (decide_eq_true hp13) ?_
    refine x_mv' (show _ = (V.str r8.1) from rfl) ?_
    refine x_gy (show _ = (V.bool (decide (r8.2 = 0))) from rfl) (decide_eq_true hp13) ?_
    refine x_bin (show _ = (V.str r8.1) from rfl) (show _ = (V.str ([40, 40, 97, 32, 38, 38, 32, 33, 98, 41, 32, 124, 124, 32, 99, 41] : Bytes)) from rfl) s_eql ?_
    refine x_pickt' (show _ = (V.bool (decide (r8.2 = 0))) from rfl) (decide_eq_true hp13) (show _ = (V.bool (decide (r8.1 = ([40, 40, 97, 32, 38, 38, 32, 33, 98, 41, 32, 124, 124, 32, 99, 41] : Bytes)))) from rfl) ?_
    refine x_mv' (show _ = (V.bool (decide (r8.1 = ([40, 40, 97, 32, 38, 38, 32, 33, 98, 41, 32, 124, 124, 32, 99, 41] : Bytes)))) from rfl) ?_
    refine x_done ?_
    refine x_tN ?_
    refine x_retc ?_
    obtain rfl := Option.some.inj hD
    exact hR _ (ends_t (nf_of rfl (show _ = (V.bool (decide (r8.1 = ([40, 40, 97, 32, 38, 38, 32, 33, 98, 41, 32, 124, 124, 32, 99, 41] : Bytes)))) from rfl)) (fun h => nomatch h))
  · rw [if_neg hp13] at hD
    refine x_gn (show _ = (V.bool (decide (r8.2 = 0))) from rfl) (decide_eq_false hp13) ?_
    refine x_gn (show _ = (V.bool (decide (r8.2 = 0))) from rfl) (decide_eq_false hp13) ?_
    refine x_pickf' (show _ = (V.bool (decide (r8.2 = 0))) from rfl) (decide_eq_false hp13) (show _ = (V.bool false) from rfl) ?_
    refine x_mv' (show _ = (V.bool false) from rfl) ?_
    refine x_done ?_
    refine x_tN ?_
    refine x_retc ?_
    obtain rfl := Option.some.inj hD
    exact hR _ (ends_t (nf_of rfl (show _ = (V.bool false) from rfl)) (fun h => nomatch h))
def K.seichelaw14_alive : FC := fc F.seichelaw14_alive (fun _ => true) false (fun (a : Unit) => []) (fun (y : Bool) => (V.bool y)) (fun a => g.seichelaw14_alive)
  (fun a => rfl)
  (fun y => rfl)
  (fun _ _ _ => rfl)
theorem H.seichelaw14_alive (w : World) (hw : EnvOK w) : K.seichelaw14_alive.Holds (cxD w) :=
  FC.holds_of (cs := [K.plus_Line]) (glD w) mixed cf_seichelaw14_alive (fun _ _ ⟨_, _, h, _⟩ => by subst h; exact Nat.le_of_ble_eq_true rfl) fun v y ⟨a, r, hv, hD, hy⟩ => by
    subst hy
    exact ok.seichelaw14_alive (specOf_calls (H.plus_Line w hw) (fun _ _ ⟨_, _, h, _⟩ => by subst h; rfl)) hv hD
def c_seichelaw14_great_l1 : ACode := (.seq (.region [
  ⟨(some 9), (.bin .lss .no (.tmp 8) (.tmp 7)), none, []⟩] false) (.seq (.cond (.tmp 9) .skip (.exit 0)) (.seq (.block 1 (.seq (.region [
  ⟨(some 10), (.iaddr 1 (.tmp 6) (.tmp 8)), none, []⟩, 
  ⟨(some 11), (.load none (.tmp 10)), none, []⟩, 
  ⟨(some 5), (.mv (.tmp 11)), none, []⟩] false) (.seq (.region [
  ⟨(some 12), (.mv (.tmp 3)), none, []⟩, 
  ⟨(some 13), (.mv (.tmp 5)), none, []⟩, 
  ⟨(some 14), (.len true (.tmp 13)), none, []⟩, 
  ⟨(some 15), (.bin .add .no (.tmp 12) (.tmp 14)), none, []⟩, 
  ⟨(some 3), (.mv (.tmp 15)), none, []⟩] false) (.seq (.region [
  ⟨(some 16), (.mv (.tmp 3)), none, []⟩, 
  ⟨(some 17), (.bin .gtr .no (.tmp 16) (.const (.int .i64 1024))), none, []⟩] false) (.cond (.tmp 17) (.seq (.region [
  ⟨(some 2), (.mv (.const (.bool true))), none, []⟩] false) .ret) .skip))))) (.region [
  ⟨(some 18), (.bin .add .no (.tmp 8) (.const (.int .i64 1))), none, []⟩, 
  ⟨(some 8), (.mv (.tmp 18)), none, []⟩] false))))
def c_seichelaw14_great : ACode := (.seq (.region [
  ⟨(some 2), (.mv (.const (.bool false))), none, []⟩] false) (.seq (.region [
  ⟨(some 3), (.mv (.const (.int .i64 0))), none, []⟩] false) (.seq (.seq (.region [
  ⟨(some 6), (.mv (.tmp 0)), none, []⟩, 
  ⟨(some 7), (.len false (.tmp 6)), none, []⟩, 
  ⟨(some 8), (.mv (.const (.int .i64 0))), none, []⟩] false) (.block 0 (.loop c_seichelaw14_great_l1))) (.seq (.region [
  ⟨(some 19), (.mv (.tmp 0)), none, []⟩, 
  ⟨(some 20), (.len false (.tmp 19)), none, []⟩, 
  ⟨(some 21), (.bin .gtr .no (.tmp 20) (.const (.int .i64 20))), none, []⟩, 
  ⟨(some 2), (.mv (.tmp 21)), none, []⟩] false) .ret))))
theorem cf_seichelaw14_great : cFn Go.Proofs.Tryd.prog F.seichelaw14_great = some ⟨22, c_seichelaw14_great, [.t 2]⟩ := by kernel_rfl
def L.seichelaw14_great_l1 (k0 : Option Bool) : List Bytes → Int → Option Bool
  | [], t3_34 =>
    k0
  | a36 :: rest, t3_34 =>
    if 1024 < (wi (t3_34 + ((a36.length : Nat) : Int))) then
      some true
    else
      L.seichelaw14_great_l1 k0 rest (wi (t3_34 + ((a36.length : Nat) : Int)))
theorem ok.seichelaw14_great_l1 {Γ : Abs.Spec} {gl : Glob} {Q : Ex → St → Prop} {r : Bool} {l19 : List Bytes} {k0 : Option Bool}
    (hk0 : ∀ (s : St), ((s.tm 0).nf = (V.sl false 1 (List.map V.str l19))) → k0 = some r → Q (.exit 0) s)
    (hR : ∀ s, EndsX [.t 2] false (V.bool r) s → Q .ret s)
    (hlen : l19.length ≤ Lim) : ∀ (rest : List Bytes) (k20 : Nat) (s : St) (t3_34 : Int), l19.drop k20 = rest → k20 ≤ l19.length →
    ((s.tm 6).nf = V.sl false 1 (List.map V.str l19)) → (s.tm 7 = V.int .i64 ((l19.length : Nat) : Int)) → (s.tm 8 = V.int .i64 ((k20 : Nat) : Int)) → ((s.tm 0).nf = (V.sl false 1 (List.map V.str l19))) → (s.tm 3 = (V.int .i64 t3_34)) →
    L.seichelaw14_great_l1 k0 rest t3_34 = some r → awp Γ gl (.loop c_seichelaw14_great_l1) Q s := by
  intro rest
  induction rest with
  | nil =>
    intro k20 s t3_34 hdrop hkl hX hN hI h32 h33 hD
    have hkz := drop_nil hdrop hkl
    have hp0 : ¬ (((k20 : Nat) : Int) < ((l19.length : Nat) : Int)) := by omega
    refine awp_roundK fun K hK => ?_
    rw [L.seichelaw14_great_l1] at hD
    refine x_seq ?_
    refine x_start (b := false) ?_
    refine x_bin hI hN b_lss ?_
    refine x_done ?_
    refine x_tN ?_
    refine x_seq ?_
    refine x_cf (show _ = (V.bool (decide (((k20 : Nat) : Int) < ((l19.length : Nat) : Int)))) from rfl) (decide_eq_false hp0) ?_
    refine x_exitc ?_
    refine x_tE ?_
    refine x_tE ?_
    refine hk0 _ ?_ hD
    · exact h32
  | cons a36 rest ih =>
    intro k20 s t3_34 hdrop hkl hX hN hI h32 h33 hD
    obtain ⟨hlt, -, hget, hdrop1, -⟩ := drop_cons hdrop
    have hp1 : ((k20 : Nat) : Int) < ((l19.length : Nat) : Int) := by omega
    have hwk := wi_succ (k := k20) (by unfold Lim at hlen; omega)
    refine awp_roundK fun K hK => ?_
    rw [L.seichelaw14_great_l1] at hD
    refine x_seq ?_
    refine x_start (b := false) ?_
    refine x_bin hI hN b_lss ?_
    refine x_done ?_
    refine x_tN ?_
    refine x_seq ?_
    refine x_ct (show _ = (V.bool (decide (((k20 : Nat) : Int) < ((l19.length : Nat) : Int)))) from rfl) (decide_eq_true hp1) ?_
    refine x_skip ?_
    refine x_tN ?_
    refine x_seq ?_
    refine x_block ?_
    refine x_seq ?_
    refine x_start (b := false) ?_
    refine x_iaddr hX hI (at_k hget) fun v39 (hv39 : v39.nf = V.el [(V.str a36)] 0) => ?_
    refine x_load_el hv39 (show _ = some (V.str a36) from rfl) fun v40 hv40 => ?_
    refine x_mv' (nf_str hv40) ?_
    refine x_done ?_
    refine x_tN ?_
    refine x_seq ?_
    refine x_start (b := false) ?_
    refine x_mv' h33 ?_
    refine x_mv' (show _ = (V.str a36) from rfl) ?_
    refine x_lens (show _ = (V.str a36) from rfl) ?_
    refine x_bin (show _ = (V.int .i64 t3_34) from rfl) (show _ = (V.int .i64 ((a36.length : Nat) : Int)) from rfl) b_add ?_
    refine x_mv' (show _ = (V.int .i64 (wi (t3_34 + ((a36.length : Nat) : Int)))) from rfl) ?_
    refine x_done ?_
    refine x_tN ?_
    refine x_seq ?_
    refine x_start (b := false) ?_
    refine x_mv' (show _ = (V.int .i64 (wi (t3_34 + ((a36.length : Nat) : Int)))) from rfl) ?_
    refine x_bin (show _ = (V.int .i64 (wi (t3_34 + ((a36.length : Nat) : Int)))) from rfl) (show _ = (V.int .i64 1024) from rfl) b_gtr ?_
    refine x_done ?_
    refine x_tN ?_
    by_cases hp41 : 1024 < (wi (t3_34 + ((a36.length : Nat) : Int)))
    · rw [if_pos hp41] at hD
      refine x_ct (show _ = (V.bool (decide (1024 < (wi (t3_34 + ((a36.length : Nat) : Int)))))) from rfl) (decide_eq_true hp41) ?_
      refine x_seq ?_
      refine x_start (b := false) ?_
      refine x_mv' (show _ = (V.bool true) from rfl) ?_
      refine x_done ?_
      refine x_tN ?_
      refine x_retc ?_
      refine x_bR ?_
      refine x_tR ?_
      refine x_tR ?_
      obtain rfl := Option.some.inj hD
      exact hR _ (ends_t (nf_of rfl (show _ = (V.bool true) from rfl)) (fun h => nomatch h))
    · rw [if_neg hp41] at hD
      refine x_cf (show _ = (V.bool (decide (1024 < (wi (t3_34 + ((a36.length : Nat) : Int)))))) from rfl) (decide_eq_false hp41) ?_
      refine x_skip ?_
      refine x_bN ?_
      refine x_tN ?_
      refine x_start (b := false) ?_
      refine x_bin hI (show _ = (V.int .i64 1) from rfl) b_add ?_
      refine x_mv' (show _ = (V.int .i64 (wi (((k20 : Nat) : Int) + 1))) from rfl) ?_
      refine x_done ?_
      refine x_tN ?_
      refine hK _ ?_
      refine ih (k20 + 1) _ _ hdrop1 hlt ?_ ?_ ?_ ?_ ?_ hD
      · exact hX
      · exact hN
      · exact (Eq.trans (show _ = (V.int .i64 (wi (((k20 : Nat) : Int) + 1))) from rfl) (congrArg (V.int .i64) hwk))
      · exact h32
      · exact (show _ = (V.int .i64 (wi (t3_34 + ((a36.length : Nat) : Int)))) from rfl)
def g.seichelaw14_great (p0 : (List Bytes)) : Option Bool :=
  if p0.length ≤ Lim then L.seichelaw14_great_l1 (some (decide (20 < ((p0.length : Nat) : Int)))) p0 0 else none
theorem ok.seichelaw14_great {Γ : Abs.Spec} {gl : Glob} {r : Bool} {p0 : (List Bytes)} {v : List V}
    (hv : nfL v = [(V.sl false 1 (List.map V.str p0))]) (hD : g.seichelaw14_great p0 = some r) : awp Γ gl c_seichelaw14_great (endQ [.t 2] false (V.bool r)) (St.init v) := by
  obtain ⟨v0, v, rfl, h0, hv⟩ := nfL_cons hv
  obtain rfl := nfL_nil hv
  have hR : ∀ s, EndsX [.t 2] false (V.bool r) s → endQ [.t 2] false (V.bool r) .ret s := fun _ h => h
  unfold g.seichelaw14_great at hD
  unfold c_seichelaw14_great
  refine x_seq ?_
  refine x_start (b := false) ?_
  refine x_mv' (show _ = (V.bool false) from rfl) ?_
  refine x_done ?_
  refine x_tN ?_
  refine x_seq ?_
  refine x_start (b := false) ?_
  refine x_mv' (show _ = (V.int .i64 0) from rfl) ?_
  refine x_done ?_
  refine x_tN ?_
  refine x_seq ?_
  refine x_seq ?_
  refine x_start (b := false) ?_
  refine x_mv h0 fun v18 hv18 => ?_
  refine x_len hv18 ?_
  refine x_mv' (show _ = (V.int .i64 0) from rfl) ?_
  refine x_done ?_
  refine x_tN ?_
  refine x_block ?_
  by_cases hlen47 : p0.length ≤ Lim
  · rw [if_pos hlen47] at hD
    refine ok.seichelaw14_great_l1 (l19 := p0) (fun s46 h44 hD => ?_) (fun _ hE => ?_) hlen47 _ 0 _ _ rfl (Nat.zero_le _) ?_ ?_ ?_ ?_ ?_ hD
    · refine x_bE ?_
      refine x_tN ?_
      refine x_seq ?_
      refine x_start (b := false) ?_
      refine x_mv h44 fun v45 hv45 => ?_
      refine x_len hv45 ?_
      refine x_bin (show _ = (V.int .i64 ((p0.length : Nat) : Int)) from rfl) (show _ = (V.int .i64 20) from rfl) b_gtr ?_
      refine x_mv' (show _ = (V.bool (decide (20 < ((p0.length : Nat) : Int)))) from rfl) ?_
      refine x_done ?_
      refine x_tN ?_
      refine x_retc ?_
      obtain rfl := Option.some.inj hD
      exact hR _ (ends_t (nf_of rfl (show _ = (V.bool (decide (20 < ((p0.length : Nat) : Int)))) from rfl)) (fun h => nomatch h))
    · refine x_bR ?_; refine x_tR ?_; exact hR _ hE
    · exact hv18
    · exact (show _ = (V.int .i64 ((p0.length : Nat) : Int)) from rfl)
    · exact (show _ = (V.int .i64 0) from rfl)
    · exact h0
    · exact (show _ = (V.int .i64 0) from rfl)
  · rw [if_neg hlen47] at hD; cases hD
def K.seichelaw14_great : FC := fc F.seichelaw14_great (fun _ => true) false (fun (a : (List Bytes)) => [(V.sl false 1 (List.map V.str a))]) (fun (y : Bool) => (V.bool y)) (fun a => g.seichelaw14_great a)
  (fun a => (cleanL_mk (E.Lstring_clean _) rfl))
  (fun y => rfl)
  (fun a0 b0 h => by
    obtain ⟨h0, h⟩ := List.cons.inj h
    obtain rfl : a0 = b0 := E.Lstring_inj h0
    rfl)
theorem H.seichelaw14_great (w : World) (_hw : EnvOK w) : K.seichelaw14_great.Holds (cxD w) :=
  FC.holds_of (cs := []) (glD w) mixed cf_seichelaw14_great (fun _ _ ⟨_, _, h, _⟩ => by subst h; exact Nat.le_of_ble_eq_true rfl) fun v y ⟨a, r, hv, hD, hy⟩ => by
    subst hy
    exact ok.seichelaw14_great hv hD
def c_seichelaw14_PlusLines_j1 : ACode := (.seq (.region [
  ⟨(some 63), (.mv (.tmp 8)), none, []⟩, 
  ⟨(some 64), (.bin .eql .no (.tmp 63) (.const (.int .i64 0))), none, []⟩, 
  ⟨(some 65), (.mv (.tmp 10)), none, []⟩, 
  ⟨(some 66), (.bin .eql .bool (.tmp 64) (.tmp 65)), none, []⟩, 
  ⟨(some 67), (.mv (.tmp 66)), none, []⟩, 
  ⟨(some 68), (.mv (.tmp 7)), (some (67, true)), []⟩, 
  ⟨(some 69), (.mv (.tmp 9)), (some (67, true)), []⟩, 
  ⟨(some 70), (.bin .eql .no (.tmp 68) (.tmp 69)), (some (67, true)), []⟩, 
  ⟨(some 71), (.pick (.tmp 67) (.tmp 70) (.const (.bool false))), none, []⟩, 
  ⟨(some 72), (.mv (.tmp 71)), none, []⟩, 
  ⟨(some 73), (.mv (.tmp 10)), (some (72, true)), []⟩, 
  ⟨(some 74), (.mv (.tmp 73)), (some (72, true)), []⟩, 
  ⟨(some 75), (.mv (.tmp 8)), (some (74, false)), []⟩, 
  ⟨(some 76), (.bin .eql .no (.tmp 75) (.const (.int .i64 4))), (some (74, false)), []⟩, 
  ⟨(some 77), (.pick (.tmp 74) (.const (.bool true)) (.tmp 76)), (some (72, true)), []⟩, 
  ⟨(some 78), (.pick (.tmp 72) (.tmp 77) (.const (.bool false))), none, []⟩, 
  ⟨(some 4), (.mv (.tmp 78)), none, []⟩] false) .ret)
def c_seichelaw14_PlusLines : ACode := (.seq (.region [
  ⟨(some 4), (.mv (.const (.bool false))), none, []⟩] false) (.seq (.seq (.region [
  ⟨(some 12), (.call F.seichelaw14_alive []), none, []⟩, 
  ⟨(some 13), (.un .not (.tmp 12)), none, []⟩] false) (.cond (.tmp 13) (.seq (.region [
  ⟨(some 4), (.mv (.const (.bool false))), none, []⟩] false) .ret) .skip)) (.seq (.seq (.region [
  ⟨(some 14), (.mv (.tmp 1)), none, []⟩, 
  ⟨(some 15), (.call F.seichelaw14_great [(.tmp 14)]), none, []⟩, 
  ⟨(some 16), (.mv (.tmp 15)), none, []⟩, 
  ⟨(some 17), (.mv (.tmp 0)), (some (16, false)), []⟩, 
  ⟨(some 18), (.len true (.tmp 17)), (some (16, false)), []⟩, 
  ⟨(some 19), (.bin .gtr .no (.tmp 18) (.const (.int .i64 1024))), (some (16, false)), []⟩, 
  ⟨(some 20), (.pick (.tmp 16) (.const (.bool true)) (.tmp 19)), none, []⟩] false) (.cond (.tmp 20) (.seq (.region [
  ⟨(some 4), (.mv (.const (.bool true))), none, []⟩] false) .ret) .skip)) (.seq (.region [
  ⟨(some 22), (.mv (.tmp 0)), none, []⟩, 
  ⟨(some 23), (.call F.plus_Line [(.tmp 22)]), none, []⟩, 
  ⟨(some 21), (.mv (.tmp 23)), none, []⟩, 
  ⟨(some 24), (.ext (.tmp 21) 0), none, []⟩, 
  ⟨(some 25), (.ext (.tmp 21) 1), none, []⟩, 
  ⟨(some 5), (.mv (.tmp 24)), none, []⟩, 
  ⟨(some 6), (.mv (.tmp 25)), none, []⟩] false) (.seq (.region [
  ⟨(some 27), (.mv (.tmp 1)), none, []⟩, 
  ⟨(some 28), (.call F.plus_Lines [(.tmp 27)]), none, []⟩, 
  ⟨(some 26), (.mv (.tmp 28)), none, []⟩, 
  ⟨(some 29), (.ext (.tmp 26) 0), none, []⟩, 
  ⟨(some 30), (.ext (.tmp 26) 1), none, []⟩, 
  ⟨(some 7), (.mv (.tmp 29)), none, []⟩, 
  ⟨(some 8), (.mv (.tmp 30)), none, []⟩] false) (.seq (.region [
  ⟨(some 32), (.mv (.tmp 1)), none, []⟩, 
  ⟨(some 33), (.call F.seicheref14_Lines [(.tmp 32)]), none, []⟩, 
  ⟨(some 31), (.mv (.tmp 33)), none, []⟩, 
  ⟨(some 34), (.ext (.tmp 31) 0), none, []⟩, 
  ⟨(some 35), (.ext (.tmp 31) 1), none, []⟩, 
  ⟨(some 9), (.mv (.tmp 34)), none, []⟩, 
  ⟨(some 10), (.mv (.tmp 35)), none, []⟩] false) (.seq (.region [
  ⟨(some 36), (.mv (.tmp 0)), none, []⟩, 
  ⟨(some 37), (.call F.seicheref14_Good [(.tmp 36)]), none, []⟩, 
  ⟨(some 11), (.mv (.tmp 37)), none, []⟩] false) (.seq (.seq (.region [
  ⟨(some 38), (.mv (.tmp 6)), none, []⟩, 
  ⟨(some 39), (.bin .eql .no (.tmp 38) (.const (.int .i64 0))), none, []⟩, 
  ⟨(some 40), (.mv (.tmp 11)), none, []⟩, 
  ⟨(some 41), (.bin .neq .bool (.tmp 39) (.tmp 40)), none, []⟩, 
  ⟨(some 42), (.mv (.tmp 41)), none, []⟩, 
  ⟨(some 43), (.mv (.tmp 11)), (some (42, false)), []⟩, 
  ⟨(some 44), (.mv (.tmp 43)), (some (42, false)), []⟩, 
  ⟨(some 45), (.mv (.tmp 5)), (some (44, true)), []⟩, 
  ⟨(some 46), (.mv (.tmp 0)), (some (44, true)), []⟩, 
  ⟨(some 47), (.call F.seicheref14_Line [(.tmp 46)]), (some (44, true)), []⟩, 
  ⟨(some 48), (.bin .neq .no (.tmp 45) (.tmp 47)), (some (44, true)), []⟩, 
  ⟨(some 49), (.pick (.tmp 44) (.tmp 48) (.const (.bool false))), (some (42, false)), []⟩, 
  ⟨(some 50), (.pick (.tmp 42) (.const (.bool true)) (.tmp 49)), none, []⟩, 
  ⟨(some 51), (.mv (.tmp 50)), none, []⟩, 
  ⟨(some 52), (.mv (.tmp 11)), (some (51, false)), []⟩, 
  ⟨(some 53), (.un .not (.tmp 52)), (some (51, false)), []⟩, 
  ⟨(some 54), (.mv (.tmp 53)), (some (51, false)), []⟩, 
  ⟨(some 55), (.mv (.tmp 6)), (some (54, true)), []⟩, 
  ⟨(some 56), (.bin .neq .no (.tmp 55) (.const (.int .i64 4))), (some (54, true)), []⟩, 
  ⟨(some 57), (.mv (.tmp 56)), (some (54, true)), []⟩, 
  ⟨(some 58), (.mv (.tmp 5)), (some (57, false)), []⟩, 
  ⟨(some 59), (.bin .neq .no (.tmp 58) (.const (.str []))), (some (57, false)), []⟩, 
  ⟨(some 60), (.pick (.tmp 57) (.const (.bool true)) (.tmp 59)), (some (54, true)), []⟩, 
  ⟨(some 61), (.pick (.tmp 54) (.tmp 60) (.const (.bool false))), (some (51, false)), []⟩, 
  ⟨(some 62), (.pick (.tmp 51) (.const (.bool true)) (.tmp 61)), none, []⟩] false) (.cond (.tmp 62) (.seq (.region [
  ⟨(some 4), (.mv (.const (.bool false))), none, []⟩] false) .ret) .skip)) c_seichelaw14_PlusLines_j1))))))))
theorem cf_seichelaw14_PlusLines : cFn Go.Proofs.Tryd.prog F.seichelaw14_PlusLines = some ⟨79, c_seichelaw14_PlusLines, [.t 4]⟩ := by kernel_rfl
def L.seichelaw14_PlusLines_j1 (t7_107 : Bytes) (t8_109 : Int) (t9_111 : Bytes) (t10_113 : Bool) : Option Bool :=
  if ((decide (t8_109 = 0)) == t10_113) = true then
    if t7_107 = t9_111 then
      if t10_113 = true then
        some true
      else
        some (decide (t8_109 = 4))
    else
      some false
  else
    some false
theorem ok.seichelaw14_PlusLines_j1 {Γ : Abs.Spec} {gl : Glob} (hC_seichelaw14_alive : CallsX Γ K.seichelaw14_alive) (hC_seichelaw14_great : CallsX Γ K.seichelaw14_great) (hC_plus_Line : CallsX Γ K.plus_Line) (hC_plus_Lines : CallsX Γ K.plus_Lines) (hC_seicheref14_Lines : CallsX Γ K.seicheref14_Lines) (hC_seicheref14_Good : CallsX Γ K.seicheref14_Good) (hC_seicheref14_Line : CallsX Γ K.seicheref14_Line) {Q : Ex → St → Prop} {r : Bool}
    (hR : ∀ s, EndsX [.t 4] false (V.bool r) s → Q .ret s)
    {s : St} {t7_107 : Bytes} {t8_109 : Int} {t9_111 : Bytes} {t10_113 : Bool} (h106 : s.tm 7 = (V.str t7_107)) (h108 : s.tm 8 = (V.int .i64 t8_109)) (h110 : s.tm 9 = (V.str t9_111)) (h112 : s.tm 10 = (V.bool t10_113))
    (hD : L.seichelaw14_PlusLines_j1 t7_107 t8_109 t9_111 t10_113 = some r) : awp Γ gl c_seichelaw14_PlusLines_j1 Q s := by
  unfold L.seichelaw14_PlusLines_j1 at hD
  refine x_seq ?_
  refine x_start (b := false) ?_
  refine x_mv' h108 ?_
  refine x_bin (show _ = (V.int .i64 t8_109) from rfl) (show _ = (V.int .i64 0) from rfl) b_eql ?_
  refine x_mv' h112 ?_
  refine x_bin (show _ = (V.bool (decide (t8_109 = 0))) from rfl) (show _ = (V.bool t10_113) from rfl) bool_eql ?_
  refine x_mv' (show _ = (V.bool ((decide (t8_109 = 0)) == t10_113)) from rfl) ?_
  by_cases hp114 : ((decide (t8_109 = 0)) == t10_113) = true
  · rw [if_pos hp114] at hD
    refine x_gy (show _ = (V.bool ((decide (t8_109 = 0)) == t10_113)) from rfl) hp114 ?_
    refine x_mv' h106 ?_
    refine x_gy (show _ = (V.bool ((decide (t8_109 = 0)) == t10_113)) from rfl) hp114 ?_
    refine x_mv' h110 ?_
    refine x_gy (show _ = (V.bool ((decide (t8_109 = 0)) == t10_113)) from rfl) hp114 ?_
    refine x_bin (show _ = (V.str t7_107) from rfl) (show _ = (V.str t9_111) from rfl) s_eql ?_
    refine x_pickt' (show _ = (V.bool ((decide (t8_109 = 0)) == t10_113)) from rfl) hp114 (show _ = (V.bool (decide (t7_107 = t9_111))) from rfl) ?_
    refine x_mv' (show _ = (V.bool (decide (t7_107 = t9_111))) from rfl) ?_
    by_cases hp115 : t7_107 = t9_111
    · rw [if_pos hp115] at hD
      refine x_gy (show _ = (V.bool (decide (t7_107 = t9_111))) from rfl) (decide_eq_true hp115) ?_
      refine x_mv' h112 ?_
      refine x_gy (show _ = (V.bool (decide (t7_107 = t9_111))) from rfl) (decide_eq_true hp115) ?_
      refine x_mv' (show _ = (V.bool t10_113) from rfl) ?_
      by_cases hp116 : t10_113 = true
      · rw [if_pos hp116] at hD
        refine x_gn (show _ = (V.bool t10_113) from rfl) hp116 ?_
        refine x_gn (show _ = (V.bool t10_113) from rfl) hp116 ?_
        refine x_gy (show _ = (V.bool (decide (t7_107 = t9_111))) from rfl) (decide_eq_true hp115) ?_
        refine x_pickt' (show _ = (V.bool t10_113) from rfl) hp116 (show _ = (V.bool true) from rfl) ?_
        refine x_pickt' (show _ = (V.bool (decide (t7_107 = t9_111))) from rfl) (decide_eq_true hp115) (show _ = (V.bool true) from rfl) ?_
        refine x_mv' (show _ = (V.bool true) from rfl) ?_
        refine x_done ?_
        refine x_tN ?_
        refine x_retc ?_
        obtain rfl := Option.some.inj hD
        exact hR _ (ends_t (nf_of rfl (show _ = (V.bool true) from rfl)) (fun h => nomatch h))
      · rw [if_neg hp116] at hD
        refine x_gy (show _ = (V.bool t10_113) from rfl) (Bool.eq_false_iff.2 hp116) ?_
        refine x_mv' h108 ?_
        refine x_gy (show _ = (V.bool t10_113) from rfl) (Bool.eq_false_iff.2 hp116) ?_
        refine x_bin (show _ = (V.int .i64 t8_109) from rfl) (show _ = (V.int .i64 4) from rfl) b_eql ?_
        refine x_gy (show _ = (V.bool (decide (t7_107 = t9_111))) from rfl) (decide_eq_true hp115) ?_
        refine x_pickf' (show _ = (V.bool t10_113) from rfl) (Bool.eq_false_iff.2 hp116) (show _ = (V.bool (decide (t8_109 = 4))) from rfl) ?_
        refine x_pickt' (show _ = (V.bool (decide (t7_107 = t9_111))) from rfl) (decide_eq_true hp115) (show _ = (V.bool (decide (t8_109 = 4))) from rfl) ?_
        refine x_mv' (show _ = (V.bool (decide (t8_109 = 4))) from rfl) ?_
        refine x_done ?_
        refine x_tN ?_
        refine x_retc ?_
        obtain rfl := Option.some.inj hD
        exact hR _ (ends_t (nf_of rfl (show _ = (V.bool (decide (t8_109 = 4))) from rfl)) (fun h => nomatch h))
    · rw [if_neg hp115] at hD
      refine x_gn (show _ = (V.bool (decide (t7_107 = t9_111))) from rfl) (decide_eq_false hp115) ?_
      refine x_gn (show _ = (V.bool (decide (t7_107 = t9_111))) from rfl) (decide_eq_false hp115) ?_
      refine x_gnil (show _ = Nil from rfl) ?_
      refine x_gnil (show _ = Nil from rfl) ?_
      refine x_gn (show _ = (V.bool (decide (t7_107 = t9_111))) from rfl) (decide_eq_false hp115) ?_
      refine x_pickf' (show _ = (V.bool (decide (t7_107 = t9_111))) from rfl) (decide_eq_false hp115) (show _ = (V.bool false) from rfl) ?_
      refine x_mv' (show _ = (V.bool false) from rfl) ?_
      refine x_done ?_
      refine x_tN ?_
      refine x_retc ?_
      obtain rfl := Option.some.inj hD
      exact hR _ (ends_t (nf_of rfl (show _ = (V.bool false) from rfl)) (fun h => nomatch h))
  · rw [if_neg hp114] at hD
    refine x_gn (show _ = (V.bool ((decide (t8_109 = 0)) == t10_113)) from rfl) (Bool.eq_false_iff.2 hp114) ?_
    refine x_gn (show _ = (V.bool ((decide (t8_109 = 0)) == t10_113)) from rfl) (Bool.eq_false_iff.2 hp114) ?_
    refine x_gn (show _ = (V.bool ((decide (t8_109 = 0)) == t10_113)) from rfl) (Bool.eq_false_iff.2 hp114) ?_
    refine x_pickf' (show _ = (V.bool ((decide (t8_109 = 0)) == t10_113)) from rfl) (Bool.eq_false_iff.2 hp114) (show _ = (V.bool false) from rfl) ?_
    refine x_mv' (show _ = (V.bool false) from rfl) ?_
    refine x_gn (show _ = (V.bool false) from rfl) rfl ?_
    refine x_gn (show _ = (V.bool false) from rfl) rfl ?_
    refine x_gnil (show _ = Nil from rfl) ?_
    refine x_gnil (show _ = Nil from rfl) ?_
    refine x_gn (show _ = (V.bool false) from rfl) rfl ?_
    refine x_pickf' (show _ = (V.bool false) from rfl) rfl (show _ = (V.bool false) from rfl) ?_
    refine x_mv' (show _ = (V.bool false) from rfl) ?_
    refine x_done ?_
    refine x_tN ?_
    refine x_retc ?_
    obtain rfl := Option.some.inj hD
    exact hR _ (ends_t (nf_of rfl (show _ = (V.bool false) from rfl)) (fun h => nomatch h))
def g.seichelaw14_PlusLines (p0 : Bytes) (p1 : (List Bytes)) : Option Bool :=
  (g.seichelaw14_alive).bind fun r12 =>
  if r12 = true then
    (g.seichelaw14_great p1).bind fun r33 =>
    if r33 = true then
      some true
    else
      if 1024 < ((p0.length : Nat) : Int) then
        some true
      else
        (g.plus_Line p0).bind fun r44 =>
        (g.plus_Lines p1).bind fun r58 =>
        (g.seicheref14_Lines p1).bind fun r72 =>
        (g.seicheref14_Good p0).bind fun r81 =>
        if ((decide (r44.2 = 0)) == r81) = true then
          if r81 = true then
            (g.seicheref14_Line p0).bind fun r127 =>
            if r44.1 = r127 then
              L.seichelaw14_PlusLines_j1 r58.1 r58.2 r72.1 r72.2
            else
              some false
          else
            if r44.2 = 4 then
              if r44.1 = ([] : Bytes) then
                L.seichelaw14_PlusLines_j1 r58.1 r58.2 r72.1 r72.2
              else
                some false
            else
              some false
        else
          some false
  else
    some false
theorem ok.seichelaw14_PlusLines {Γ : Abs.Spec} {gl : Glob} (hC_seichelaw14_alive : CallsX Γ K.seichelaw14_alive) (hC_seichelaw14_great : CallsX Γ K.seichelaw14_great) (hC_plus_Line : CallsX Γ K.plus_Line) (hC_plus_Lines : CallsX Γ K.plus_Lines) (hC_seicheref14_Lines : CallsX Γ K.seicheref14_Lines) (hC_seicheref14_Good : CallsX Γ K.seicheref14_Good) (hC_seicheref14_Line : CallsX Γ K.seicheref14_Line) {r : Bool} {p0 : Bytes} {p1 : (List Bytes)} {v : List V}
    (hv : nfL v = [(V.str p0), (V.sl false 1 (List.map V.str p1))]) (hD : g.seichelaw14_PlusLines p0 p1 = some r) : awp Γ gl c_seichelaw14_PlusLines (endQ [.t 4] false (V.bool r)) (St.init v) := by
  obtain ⟨v0, v, rfl, h0, hv⟩ := nfL_cons hv
  obtain ⟨v1, v, rfl, h1, hv⟩ := nfL_cons hv
  obtain rfl := nfL_nil hv
  have hR : ∀ s, EndsX [.t 4] false (V.bool r) s → endQ [.t 4] false (V.bool r) .ret s := fun _ h => h
  unfold g.seichelaw14_PlusLines at hD
  unfold c_seichelaw14_PlusLines
  refine x_seq ?_
  refine x_start (b := false) ?_
  refine x_mv' (show _ = (V.bool false) from rfl) ?_
  refine x_done ?_
  refine x_tN ?_
  refine x_seq ?_
  refine x_seq ?_
  refine x_start (b := false) ?_
  obtain ⟨r12, hx13, hD⟩ := Option.bind_eq_some_iff.1 hD
  refine x_callF hC_seichelaw14_alive (a := ()) rfl hx13 fun v11 ov11 (hv11 : v11.nf = (V.bool r12)) hov11 => ?_
  refine x_un (nf_bool hv11) (aun_not _) ?_
  refine x_done ?_
  refine x_tN ?_
  by_cases hp14 : r12 = true
  · rw [if_pos hp14] at hD
    refine x_cf (show _ = (V.bool (!r12)) from rfl) (bnot_t hp14) ?_
    refine x_skip ?_
    refine x_tN ?_
    refine x_seq ?_
    refine x_seq ?_
    refine x_start (b := false) ?_
    refine x_mv h1 fun v31 hv31 => ?_
    obtain ⟨r33, hx34, hD⟩ := Option.bind_eq_some_iff.1 hD
    refine x_callF hC_seichelaw14_great (a := (p1)) (cons_eq hv31 rfl) hx34 fun v32 ov32 (hv32 : v32.nf = (V.bool r33)) hov32 => ?_
    refine x_mv' (nf_bool hv32) ?_
    by_cases hp35 : r33 = true
    · rw [if_pos hp35] at hD
      refine x_gn (show _ = (V.bool r33) from rfl) hp35 ?_
      refine x_gn (show _ = (V.bool r33) from rfl) hp35 ?_
      refine x_gn (show _ = (V.bool r33) from rfl) hp35 ?_
      refine x_pickt' (show _ = (V.bool r33) from rfl) hp35 (show _ = (V.bool true) from rfl) ?_
      refine x_done ?_
      refine x_tN ?_
      refine x_ct (show _ = (V.bool true) from rfl) rfl ?_
      refine x_seq ?_
      refine x_start (b := false) ?_
      refine x_mv' (show _ = (V.bool true) from rfl) ?_
      refine x_done ?_
      refine x_tN ?_
      refine x_retc ?_
      refine x_tR ?_
      obtain rfl := Option.some.inj hD
      exact hR _ (ends_t (nf_of rfl (show _ = (V.bool true) from rfl)) (fun h => nomatch h))
    · rw [if_neg hp35] at hD
      refine x_gy (show _ = (V.bool r33) from rfl) (Bool.eq_false_iff.2 hp35) ?_
      refine x_mv' (nf_str h0) ?_
      refine x_gy (show _ = (V.bool r33) from rfl) (Bool.eq_false_iff.2 hp35) ?_
      refine x_lens (show _ = (V.str p0) from rfl) ?_
      refine x_gy (show _ = (V.bool r33) from rfl) (Bool.eq_false_iff.2 hp35) ?_
      refine x_bin (show _ = (V.int .i64 ((p0.length : Nat) : Int)) from rfl) (show _ = (V.int .i64 1024) from rfl) b_gtr ?_
      refine x_pickf' (show _ = (V.bool r33) from rfl) (Bool.eq_false_iff.2 hp35) (show _ = (V.bool (decide (1024 < ((p0.length : Nat) : Int)))) from rfl) ?_
      refine x_done ?_
      refine x_tN ?_
      by_cases hp36 : 1024 < ((p0.length : Nat) : Int)
      · rw [if_pos hp36] at hD
        refine x_ct (show _ = (V.bool (decide (1024 < ((p0.length : Nat) : Int)))) from rfl) (decide_eq_true hp36) ?_
        refine x_seq ?_
        refine x_start (b := false) ?_
        refine x_mv' (show _ = (V.bool true) from rfl) ?_
        refine x_done ?_
        refine x_tN ?_
        refine x_retc ?_
        refine x_tR ?_
        obtain rfl := Option.some.inj hD
        exact hR _ (ends_t (nf_of rfl (show _ = (V.bool true) from rfl)) (fun h => nomatch h))
      · rw [if_neg hp36] at hD
        refine x_cf (show _ = (V.bool (decide (1024 < ((p0.length : Nat) : Int)))) from rfl) (decide_eq_false hp36) ?_
        refine x_skip ?_
        refine x_tN ?_
        refine x_seq ?_
        refine x_start (b := false) ?_
        refine x_mv' (nf_str h0) ?_
        obtain ⟨r44, hx45, hD⟩ := Option.bind_eq_some_iff.1 hD
        refine x_callF hC_plus_Line (a := (p0)) (cons_eq (nf_of rfl (show _ = (V.str p0) from rfl)) rfl) hx45 fun v43 ov43 (hv43 : v43.nf = (V.tup [(V.str r44.1), (V.int .i64 r44.2)])) hov43 => ?_
        refine x_mv hv43 fun v46 hv46 => ?_
        refine x_ext hv46 (show _ = some (V.str r44.1) from rfl) fun v47 hv47 => ?_
        refine x_ext hv46 (show _ = some (V.int .i64 r44.2) from rfl) fun v48 hv48 => ?_
        refine x_mv' (nf_str hv47) ?_
        refine x_mv' (nf_int hv48) ?_
        refine x_done ?_
        refine x_tN ?_
        refine x_seq ?_
        refine x_start (b := false) ?_
        refine x_mv h1 fun v56 hv56 => ?_
        obtain ⟨r58, hx59, hD⟩ := Option.bind_eq_some_iff.1 hD
        refine x_callF hC_plus_Lines (a := (p1)) (cons_eq hv56 rfl) hx59 fun v57 ov57 (hv57 : v57.nf = (V.tup [(V.str r58.1), (V.int .i64 r58.2)])) hov57 => ?_
        refine x_mv hv57 fun v60 hv60 => ?_
        refine x_ext hv60 (show _ = some (V.str r58.1) from rfl) fun v61 hv61 => ?_
        refine x_ext hv60 (show _ = some (V.int .i64 r58.2) from rfl) fun v62 hv62 => ?_
        refine x_mv' (nf_str hv61) ?_
        refine x_mv' (nf_int hv62) ?_
        refine x_done ?_
        refine x_tN ?_
        refine x_seq ?_
        refine x_start (b := false) ?_
        refine x_mv h1 fun v70 hv70 => ?_
        obtain ⟨r72, hx73, hD⟩ := Option.bind_eq_some_iff.1 hD
        refine x_callF hC_seicheref14_Lines (a := (p1)) (cons_eq hv70 rfl) hx73 fun v71 ov71 (hv71 : v71.nf = (V.tup [(V.str r72.1), (V.bool r72.2)])) hov71 => ?_
        refine x_mv hv71 fun v74 hv74 => ?_
        refine x_ext hv74 (show _ = some (V.str r72.1) from rfl) fun v75 hv75 => ?_
        refine x_ext hv74 (show _ = some (V.bool r72.2) from rfl) fun v76 hv76 => ?_
        refine x_mv' (nf_str hv75) ?_
        refine x_mv' (nf_bool hv76) ?_
        refine x_done ?_
        refine x_tN ?_
        refine x_seq ?_
        refine x_start (b := false) ?_
        refine x_mv' (nf_str h0) ?_
        obtain ⟨r81, hx82, hD⟩ := Option.bind_eq_some_iff.1 hD
        refine x_callF hC_seicheref14_Good (a := (p0)) (cons_eq (nf_of rfl (show _ = (V.str p0) from rfl)) rfl) hx82 fun v80 ov80 (hv80 : v80.nf = (V.bool r81)) hov80 => ?_
        refine x_mv' (nf_bool hv80) ?_
        refine x_done ?_
        refine x_tN ?_
        refine x_seq ?_
        refine x_seq ?_
        refine x_start (b := false) ?_
        refine x_mv' (show _ = (V.int .i64 r44.2) from rfl) ?_
        refine x_bin (show _ = (V.int .i64 r44.2) from rfl) (show _ = (V.int .i64 0) from rfl) b_eql ?_
        refine x_mv' (show _ = (V.bool r81) from rfl) ?_
        refine x_bin (show _ = (V.bool (decide (r44.2 = 0))) from rfl) (show _ = (V.bool r81) from rfl) bool_neq ?_
        refine x_mv' (show _ = (V.bool (!((decide (r44.2 = 0)) == r81))) from rfl) ?_
        by_cases hp124 : ((decide (r44.2 = 0)) == r81) = true
        · rw [if_pos hp124] at hD
          refine x_gy (show _ = (V.bool (!((decide (r44.2 = 0)) == r81))) from rfl) (bnot_t hp124) ?_
          refine x_mv' (show _ = (V.bool r81) from rfl) ?_
          refine x_gy (show _ = (V.bool (!((decide (r44.2 = 0)) == r81))) from rfl) (bnot_t hp124) ?_
          refine x_mv' (show _ = (V.bool r81) from rfl) ?_
          by_cases hp125 : r81 = true
          · rw [if_pos hp125] at hD
            refine x_gy (show _ = (V.bool r81) from rfl) hp125 ?_
            refine x_mv' (show _ = (V.str r44.1) from rfl) ?_
            refine x_gy (show _ = (V.bool r81) from rfl) hp125 ?_
            refine x_mv' (nf_str h0) ?_
            refine x_gy (show _ = (V.bool r81) from rfl) hp125 ?_
            obtain ⟨r127, hx128, hD⟩ := Option.bind_eq_some_iff.1 hD
            refine x_callF hC_seicheref14_Line (a := (p0)) (cons_eq (nf_of rfl (show _ = (V.str p0) from rfl)) rfl) hx128 fun v126 ov126 (hv126 : v126.nf = (V.str r127)) hov126 => ?_
            refine x_gy (show _ = (V.bool r81) from rfl) hp125 ?_
            refine x_bin (show _ = (V.str r44.1) from rfl) (nf_str hv126) s_neq ?_
            refine x_gy (show _ = (V.bool (!((decide (r44.2 = 0)) == r81))) from rfl) (bnot_t hp124) ?_
            refine x_pickt' (show _ = (V.bool r81) from rfl) hp125 (show _ = (V.bool (!(decide (r44.1 = r127)))) from rfl) ?_
            refine x_pickf' (show _ = (V.bool (!((decide (r44.2 = 0)) == r81))) from rfl) (bnot_t hp124) (show _ = (V.bool (!(decide (r44.1 = r127)))) from rfl) ?_
            refine x_mv' (show _ = (V.bool (!(decide (r44.1 = r127)))) from rfl) ?_
            by_cases hp129 : r44.1 = r127
            · rw [if_pos hp129] at hD
              refine x_gy (show _ = (V.bool (!(decide (r44.1 = r127)))) from rfl) (bnot_t (decide_eq_true hp129)) ?_
              refine x_mv' (show _ = (V.bool r81) from rfl) ?_
              refine x_gy (show _ = (V.bool (!(decide (r44.1 = r127)))) from rfl) (bnot_t (decide_eq_true hp129)) ?_
              refine x_un (show _ = (V.bool r81) from rfl) (aun_not _) ?_
              refine x_gy (show _ = (V.bool (!(decide (r44.1 = r127)))) from rfl) (bnot_t (decide_eq_true hp129)) ?_
              refine x_mv' (show _ = (V.bool (!r81)) from rfl) ?_
              refine x_gn (show _ = (V.bool (!r81)) from rfl) (bnot_t hp125) ?_
              refine x_gn (show _ = (V.bool (!r81)) from rfl) (bnot_t hp125) ?_
              refine x_gn (show _ = (V.bool (!r81)) from rfl) (bnot_t hp125) ?_
              refine x_gnil (show _ = Nil from rfl) ?_
              refine x_gnil (show _ = Nil from rfl) ?_
              refine x_gn (show _ = (V.bool (!r81)) from rfl) (bnot_t hp125) ?_
              refine x_gy (show _ = (V.bool (!(decide (r44.1 = r127)))) from rfl) (bnot_t (decide_eq_true hp129)) ?_
              refine x_pickf' (show _ = (V.bool (!r81)) from rfl) (bnot_t hp125) (show _ = (V.bool false) from rfl) ?_
              refine x_pickf' (show _ = (V.bool (!(decide (r44.1 = r127)))) from rfl) (bnot_t (decide_eq_true hp129)) (show _ = (V.bool false) from rfl) ?_
              refine x_done ?_
              refine x_tN ?_
              refine x_cf (show _ = (V.bool false) from rfl) rfl ?_
              refine x_skip ?_
              refine x_tN ?_
              refine ok.seichelaw14_PlusLines_j1 hC_seichelaw14_alive hC_seichelaw14_great hC_plus_Line hC_plus_Lines hC_seicheref14_Lines hC_seicheref14_Good hC_seicheref14_Line (fun _ hE => ?_) ?_ ?_ ?_ ?_ hD
              · exact hR _ hE
              · exact (show _ = (V.str r58.1) from rfl)
              · exact (show _ = (V.int .i64 r58.2) from rfl)
              · exact (show _ = (V.str r72.1) from rfl)
              · exact (show _ = (V.bool r72.2) from rfl)
            · rw [if_neg hp129] at hD
              refine x_gn (show _ = (V.bool (!(decide (r44.1 = r127)))) from rfl) (bnot_f (decide_eq_false hp129)) ?_
              refine x_gn (show _ = (V.bool (!(decide (r44.1 = r127)))) from rfl) (bnot_f (decide_eq_false hp129)) ?_
              refine x_gn (show _ = (V.bool (!(decide (r44.1 = r127)))) from rfl) (bnot_f (decide_eq_false hp129)) ?_
              refine x_gnil (show _ = Nil from rfl) ?_
              refine x_gnil (show _ = Nil from rfl) ?_
              refine x_gnil (show _ = Nil from rfl) ?_
              refine x_gnil (show _ = Nil from rfl) ?_
              refine x_gnil (show _ = Nil from rfl) ?_
              refine x_gnil (show _ = Nil from rfl) ?_
              refine x_gn (show _ = (V.bool (!(decide (r44.1 = r127)))) from rfl) (bnot_f (decide_eq_false hp129)) ?_
              refine x_pickt' (show _ = (V.bool (!(decide (r44.1 = r127)))) from rfl) (bnot_f (decide_eq_false hp129)) (show _ = (V.bool true) from rfl) ?_
              refine x_done ?_
              refine x_tN ?_
              refine x_ct (show _ = (V.bool true) from rfl) rfl ?_
              refine x_seq ?_
              refine x_start (b := false) ?_
              refine x_mv' (show _ = (V.bool false) from rfl) ?_
              refine x_done ?_
              refine x_tN ?_
              refine x_retc ?_
              refine x_tR ?_
              obtain rfl := Option.some.inj hD
              exact hR _ (ends_t (nf_of rfl (show _ = (V.bool false) from rfl)) (fun h => nomatch h))
          · rw [if_neg hp125] at hD
            refine x_gn (show _ = (V.bool r81) from rfl) (Bool.eq_false_iff.2 hp125) ?_
            refine x_gn (show _ = (V.bool r81) from rfl) (Bool.eq_false_iff.2 hp125) ?_
            refine x_gn (show _ = (V.bool r81) from rfl) (Bool.eq_false_iff.2 hp125) ?_
            refine x_gn (show _ = (V.bool r81) from rfl) (Bool.eq_false_iff.2 hp125) ?_
            refine x_gy (show _ = (V.bool (!((decide (r44.2 = 0)) == r81))) from rfl) (bnot_t hp124) ?_
            refine x_pickf' (show _ = (V.bool r81) from rfl) (Bool.eq_false_iff.2 hp125) (show _ = (V.bool false) from rfl) ?_
            refine x_pickf' (show _ = (V.bool (!((decide (r44.2 = 0)) == r81))) from rfl) (bnot_t hp124) (show _ = (V.bool false) from rfl) ?_
            refine x_mv' (show _ = (V.bool false) from rfl) ?_
            refine x_gy (show _ = (V.bool false) from rfl) rfl ?_
            refine x_mv' (show _ = (V.bool r81) from rfl) ?_
            refine x_gy (show _ = (V.bool false) from rfl) rfl ?_
            refine x_un (show _ = (V.bool r81) from rfl) (aun_not _) ?_
            refine x_gy (show _ = (V.bool false) from rfl) rfl ?_
            refine x_mv' (show _ = (V.bool (!r81)) from rfl) ?_
            refine x_gy (show _ = (V.bool (!r81)) from rfl) (bnot_f (Bool.eq_false_iff.2 hp125)) ?_
            refine x_mv' (show _ = (V.int .i64 r44.2) from rfl) ?_
            refine x_gy (show _ = (V.bool (!r81)) from rfl) (bnot_f (Bool.eq_false_iff.2 hp125)) ?_
            refine x_bin (show _ = (V.int .i64 r44.2) from rfl) (show _ = (V.int .i64 4) from rfl) b_neq ?_
            refine x_gy (show _ = (V.bool (!r81)) from rfl) (bnot_f (Bool.eq_false_iff.2 hp125)) ?_
            refine x_mv' (show _ = (V.bool (!(decide (r44.2 = 4)))) from rfl) ?_
            by_cases hp130 : r44.2 = 4
            · rw [if_pos hp130] at hD
              refine x_gy (show _ = (V.bool (!(decide (r44.2 = 4)))) from rfl) (bnot_t (decide_eq_true hp130)) ?_
              refine x_mv' (show _ = (V.str r44.1) from rfl) ?_
              refine x_gy (show _ = (V.bool (!(decide (r44.2 = 4)))) from rfl) (bnot_t (decide_eq_true hp130)) ?_
              refine x_bin (show _ = (V.str r44.1) from rfl) (show _ = (V.str ([] : Bytes)) from rfl) s_neq ?_
              refine x_gy (show _ = (V.bool (!r81)) from rfl) (bnot_f (Bool.eq_false_iff.2 hp125)) ?_
              refine x_pickf' (show _ = (V.bool (!(decide (r44.2 = 4)))) from rfl) (bnot_t (decide_eq_true hp130)) (show _ = (V.bool (!(decide (r44.1 = ([] : Bytes))))) from rfl) ?_
              refine x_gy (show _ = (V.bool false) from rfl) rfl ?_
              refine x_pickt' (show _ = (V.bool (!r81)) from rfl) (bnot_f (Bool.eq_false_iff.2 hp125)) (show _ = (V.bool (!(decide (r44.1 = ([] : Bytes))))) from rfl) ?_
              refine x_pickf' (show _ = (V.bool false) from rfl) rfl (show _ = (V.bool (!(decide (r44.1 = ([] : Bytes))))) from rfl) ?_
              refine x_done ?_
              refine x_tN ?_
              by_cases hp131 : r44.1 = ([] : Bytes)
              · rw [if_pos hp131] at hD
                refine x_cf (show _ = (V.bool (!(decide (r44.1 = ([] : Bytes))))) from rfl) (bnot_t (decide_eq_true hp131)) ?_
                refine x_skip ?_
                refine x_tN ?_
                refine ok.seichelaw14_PlusLines_j1 hC_seichelaw14_alive hC_seichelaw14_great hC_plus_Line hC_plus_Lines hC_seicheref14_Lines hC_seicheref14_Good hC_seicheref14_Line (fun _ hE => ?_) ?_ ?_ ?_ ?_ hD
                · exact hR _ hE
                · exact (show _ = (V.str r58.1) from rfl)
                · exact (show _ = (V.int .i64 r58.2) from rfl)
                · exact (show _ = (V.str r72.1) from rfl)
                · exact (show _ = (V.bool r72.2) from rfl)
              · rw [if_neg hp131] at hD
                refine x_ct (show _ = (V.bool (!(decide (r44.1 = ([] : Bytes))))) from rfl) (bnot_f (decide_eq_false hp131)) ?_
                refine x_seq ?_
                refine x_start (b := false) ?_
                refine x_mv' (show _ = (V.bool false) from rfl) ?_
                refine x_done ?_
                refine x_tN ?_
                refine x_retc ?_
                refine x_tR ?_
                obtain rfl := Option.some.inj hD
                exact hR _ (ends_t (nf_of rfl (show _ = (V.bool false) from rfl)) (fun h => nomatch h))
            · rw [if_neg hp130] at hD
              refine x_gn (show _ = (V.bool (!(decide (r44.2 = 4)))) from rfl) (bnot_f (decide_eq_false hp130)) ?_
              refine x_gn (show _ = (V.bool (!(decide (r44.2 = 4)))) from rfl) (bnot_f (decide_eq_false hp130)) ?_
              refine x_gy (show _ = (V.bool (!r81)) from rfl) (bnot_f (Bool.eq_false_iff.2 hp125)) ?_
              refine x_pickt' (show _ = (V.bool (!(decide (r44.2 = 4)))) from rfl) (bnot_f (decide_eq_false hp130)) (show _ = (V.bool true) from rfl) ?_
              refine x_gy (show _ = (V.bool false) from rfl) rfl ?_
              refine x_pickt' (show _ = (V.bool (!r81)) from rfl) (bnot_f (Bool.eq_false_iff.2 hp125)) (show _ = (V.bool true) from rfl) ?_
              refine x_pickf' (show _ = (V.bool false) from rfl) rfl (show _ = (V.bool true) from rfl) ?_
              refine x_done ?_
              refine x_tN ?_
              refine x_ct (show _ = (V.bool true) from rfl) rfl ?_
              refine x_seq ?_
              refine x_start (b := false) ?_
              refine x_mv' (show _ = (V.bool false) from rfl) ?_
              refine x_done ?_
              refine x_tN ?_
              refine x_retc ?_
              refine x_tR ?_
              obtain rfl := Option.some.inj hD
              exact hR _ (ends_t (nf_of rfl (show _ = (V.bool false) from rfl)) (fun h => nomatch h))
        · rw [if_neg hp124] at hD
          refine x_gn (show _ = (V.bool (!((decide (r44.2 = 0)) == r81))) from rfl) (bnot_f (Bool.eq_false_iff.2 hp124)) ?_
          refine x_gn (show _ = (V.bool (!((decide (r44.2 = 0)) == r81))) from rfl) (bnot_f (Bool.eq_false_iff.2 hp124)) ?_
          refine x_gnil (show _ = Nil from rfl) ?_
          refine x_gnil (show _ = Nil from rfl) ?_
          refine x_gnil (show _ = Nil from rfl) ?_
          refine x_gnil (show _ = Nil from rfl) ?_
          refine x_gn (show _ = (V.bool (!((decide (r44.2 = 0)) == r81))) from rfl) (bnot_f (Bool.eq_false_iff.2 hp124)) ?_
          refine x_pickt' (show _ = (V.bool (!((decide (r44.2 = 0)) == r81))) from rfl) (bnot_f (Bool.eq_false_iff.2 hp124)) (show _ = (V.bool true) from rfl) ?_
          refine x_mv' (show _ = (V.bool true) from rfl) ?_
          refine x_gn (show _ = (V.bool true) from rfl) rfl ?_
          refine x_gn (show _ = (V.bool true) from rfl) rfl ?_
          refine x_gn (show _ = (V.bool true) from rfl) rfl ?_
          refine x_gnil (show _ = Nil from rfl) ?_
          refine x_gnil (show _ = Nil from rfl) ?_
          refine x_gnil (show _ = Nil from rfl) ?_
          refine x_gnil (show _ = Nil from rfl) ?_
          refine x_gnil (show _ = Nil from rfl) ?_
          refine x_gnil (show _ = Nil from rfl) ?_
          refine x_gn (show _ = (V.bool true) from rfl) rfl ?_
          refine x_pickt' (show _ = (V.bool true) from rfl) rfl (show _ = (V.bool true) from rfl) ?_
          refine x_done ?_
          refine x_tN ?_
          refine x_ct (show _ = (V.bool true) from rfl) rfl ?_
          refine x_seq ?_
          refine x_start (b := false) ?_
          refine x_mv' (show _ = (V.bool false) from rfl) ?_
          refine x_done ?_
          refine x_tN ?_
          refine x_retc ?_
          refine x_tR ?_
          obtain rfl := Option.some.inj hD
          exact hR _ (ends_t (nf_of rfl (show _ = (V.bool false) from rfl)) (fun h => nomatch h))
  · rw [if_neg hp14] at hD
    refine x_ct (show _ = (V.bool (!r12)) from rfl) (bnot_f (Bool.eq_false_iff.2 hp14)) ?_
    refine x_seq ?_
    refine x_start (b := false) ?_
    refine x_mv' (show _ = (V.bool false) from rfl) ?_
    refine x_done ?_
    refine x_tN ?_
    refine x_retc ?_
    refine x_tR ?_
    obtain rfl := Option.some.inj hD
    exact hR _ (ends_t (nf_of rfl (show _ = (V.bool false) from rfl)) (fun h => nomatch h))
def K.seichelaw14_PlusLines : FC := fc F.seichelaw14_PlusLines (fun _ => true) false (fun (a : (Bytes × (List Bytes))) => [(V.str a.1), (V.sl false 1 (List.map V.str a.2))]) (fun (y : Bool) => (V.bool y)) (fun a => g.seichelaw14_PlusLines a.1 a.2)
  (fun a => (cleanL_mk rfl (cleanL_mk (E.Lstring_clean _) rfl)))
  (fun y => rfl)
  (fun ⟨a0, a1⟩ ⟨b0, b1⟩ h => by
    obtain ⟨h0, h⟩ := List.cons.inj h
    obtain rfl : a0 = b0 := V.str.inj h0
    obtain ⟨h0, h⟩ := List.cons.inj h
    obtain rfl : a1 = b1 := E.Lstring_inj h0
    rfl)
theorem H.seichelaw14_PlusLines (w : World) (hw : EnvOK w) : K.seichelaw14_PlusLines.Holds (cxD w) :=
  FC.holds_of (cs := [K.seichelaw14_alive, K.seichelaw14_great, K.plus_Line, K.plus_Lines, K.seicheref14_Lines, K.seicheref14_Good, K.seicheref14_Line]) (glD w) mixed cf_seichelaw14_PlusLines (fun _ _ ⟨_, _, h, _⟩ => by subst h; exact Nat.le_of_ble_eq_true rfl) fun v y ⟨a, r, hv, hD, hy⟩ => by
    subst hy
    exact ok.seichelaw14_PlusLines (specOf_calls (H.seichelaw14_alive w hw) (fun _ _ ⟨_, _, h, _⟩ => by subst h; rfl)) (specOf_calls (H.seichelaw14_great w hw) (fun _ _ ⟨_, _, h, _⟩ => by subst h; rfl)) (specOf_calls (H.plus_Line w hw) (fun _ _ ⟨_, _, h, _⟩ => by subst h; rfl)) (specOf_calls (H.plus_Lines w hw) (fun _ _ ⟨_, _, h, _⟩ => by subst h; rfl)) (specOf_calls (H.seicheref14_Lines w hw) (fun _ _ ⟨_, _, h, _⟩ => by subst h; rfl)) (specOf_calls (H.seicheref14_Good w hw) (fun _ _ ⟨_, _, h, _⟩ => by subst h; rfl)) (specOf_calls (H.seicheref14_Line w hw) (fun _ _ ⟨_, _, h, _⟩ => by subst h; rfl)) hv hD
end Go.Proofs.YtainplhaaklpeaaDoor
