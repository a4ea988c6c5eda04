/-
  Functions of the program as Lean functions over plain data, and the proofs that the loaded code comes to them. Printed by a program of this seat (wip/gen/gen.py).
-/
import Derived.Test.YtainplhaaklpeaaDoorProg
import Derived.Test.YtainplhaaklpeaaDoorGenG
namespace Go.Proofs.YtainplhaaklpeaaDoor
open Go.Abs Go.RowKit

def F.code_Join : Nat := 65
def F.seicheref01_Join : Nat := 67
def F.code_Split : Nat := 68
def F.seicheref01_Split : Nat := 70
def F.code_Num : Nat := 92
def F.seicheref01_Num : Nat := 93
def F.code_ReadNum : Nat := 94
def F.seicheref01_number : Nat := 95
def c_code_Num_l1 : ACode := (.seq (.region [
  ⟨(some 6), (.bin .lss .no (.tmp 5) (.const (.int .i64 8))), none, []⟩] false) (.seq (.cond (.tmp 6) .skip (.exit 0)) (.seq (.block 1 (.seq (.region [
  ⟨(some 7), (.mv (.tmp 5)), none, []⟩, 
  ⟨(some 4), (.mv (.tmp 7)), none, []⟩] false) (.region [
  ⟨(some 8), (.mv (.tmp 4)), none, []⟩, 
  ⟨(some 9), (.mv (.tmp 0)), none, []⟩, 
  ⟨(some 10), (.i2i .u64 (.tmp 9)), none, []⟩, 
  ⟨(some 11), (.mv (.tmp 4)), none, []⟩, 
  ⟨(some 12), (.bin .mul .no (.const (.int .i64 8)) (.tmp 11)), none, []⟩, 
  ⟨(some 13), (.bin .sub .no (.const (.int .i64 56)) (.tmp 12)), none, []⟩, 
  ⟨(some 14), (.bin .shr .no (.tmp 10) (.tmp 13)), none, []⟩, 
  ⟨(some 15), (.i2i .u8 (.tmp 14)), none, []⟩, 
  ⟨(some 16), (.iarr 8 1 (.tmp 3) (.tmp 8)), none, []⟩, 
  ⟨none, (.store 1 (.tmp 16) (.tmp 15)), none, []⟩] false))) (.region [
  ⟨(some 17), (.bin .add .no (.tmp 5) (.const (.int .i64 1))), none, []⟩, 
  ⟨(some 5), (.mv (.tmp 17)), none, []⟩] false))))
def c_code_Num : ACode := (.seq (.region [
  ⟨(some 2), (.mv (.const (.str []))), none, []⟩] false) (.seq (.region [
  ⟨(some 3), (.new (repl 8 (.int .u8 0))), none, []⟩] false) (.seq (.seq (.region [
  ⟨(some 5), (.mv (.const (.int .i64 0))), none, []⟩] false) (.block 0 (.loop c_code_Num_l1))) (.seq (.region [
  ⟨(some 18), (.slca 8 1 (.tmp 3) none none none), none, []⟩, 
  ⟨(some 19), (.b2s (.tmp 18)), none, []⟩, 
  ⟨(some 2), (.mv (.tmp 19)), none, []⟩] false) .ret))))
theorem cf_code_Num : cFn Go.Proofs.Tryd.prog F.code_Num = some ⟨20, c_code_Num, [.t 2]⟩ := by kernel_rfl
def L.code_Num_l1 (t0_20 : Int) (k0 : (Arr 8) → Option Bytes) : Nat → (Arr 8) → Int → Option Bytes
  | 0, _, _ => none
  | n + 1, x34, t5_39 =>
    if t5_39 < 8 then
      (shrI .u64 (IntKind.wrap .u64 t0_20) (wi (56 - (wi (8 * t5_39))))).bind fun z45 =>
      (inR 8 t5_39).bind fun u47 =>
      L.code_Num_l1 t0_20 k0 n (Arr.set x34 t5_39 (u8of z45)) (wi (t5_39 + 1))
    else
      k0 x34
theorem ok.code_Num_l1 {Γ : Abs.Spec} {gl : Glob} {Q : Ex → St → Prop} {r : Bytes} {t0_20 : Int} {k0 : (Arr 8) → Option Bytes}
    (hk0 : ∀ (s : St) (i54 : Nat) (x53 : (Arr 8)), (i54 < s.nH) → (Cells s i54 (encB (x53).1)) → (s.tm 3 = (V.ptr i54 0)) → k0 x53 = some r → Q (.exit 0) s)
    (hR : ∀ s, EndsX [.t 2] false (V.str r) s → Q .ret s) : ∀ (n : Nat) (s : St) (i35 : Nat) (x34 : (Arr 8)) (t5_39 : Int),
    (i35 < s.nH) → (Cells s i35 (encB (x34).1)) → (s.tm 0 = (V.int .i64 t0_20)) → (s.tm 3 = (V.ptr i35 0)) → (s.tm 5 = (V.int .i64 t5_39)) → L.code_Num_l1 t0_20 k0 n x34 t5_39 = some r → awp Γ gl (.loop c_code_Num_l1) Q s := by
  intro n
  induction n with
  | zero => intro s i35 x34 t5_39 hli35 hci35 h36 h37 h38 hD; rw [L.code_Num_l1] at hD; cases hD
  | succ n ih =>
    intro s i35 x34 t5_39 hli35 hci35 h36 h37 h38 hD
    refine awp_roundK fun K hK => ?_
    rw [L.code_Num_l1] at hD
    refine x_seq ?_
    refine x_start (b := false) ?_
    refine x_bin h38 (show _ = (V.int .i64 8) from rfl) b_lss ?_
    refine x_done ?_
    refine x_tN ?_
    refine x_seq ?_
    by_cases hp44 : t5_39 < 8
    · rw [if_pos hp44] at hD
      refine x_ct (show _ = (V.bool (decide (t5_39 < 8))) from rfl) (decide_eq_true hp44) ?_
      refine x_skip ?_
      refine x_tN ?_
      refine x_seq ?_
      refine x_block ?_
      refine x_seq ?_
      refine x_start (b := false) ?_
      refine x_mv' h38 ?_
      refine x_mv' (show _ = (V.int .i64 t5_39) from rfl) ?_
      refine x_done ?_
      refine x_tN ?_
      refine x_start (b := false) ?_
      refine x_mv' (show _ = (V.int .i64 t5_39) from rfl) ?_
      refine x_mv' h36 ?_
      refine x_i2i (show _ = (V.int .i64 t0_20) from rfl) ?_
      refine x_mv' (show _ = (V.int .i64 t5_39) from rfl) ?_
      refine x_bin (show _ = (V.int .i64 8) from rfl) (show _ = (V.int .i64 t5_39) from rfl) b_mul ?_
      refine x_bin (show _ = (V.int .i64 56) from rfl) (show _ = (V.int .i64 (wi (8 * t5_39))) from rfl) b_sub ?_
      obtain ⟨z45, hx46, hD⟩ := Option.bind_eq_some_iff.1 hD
      refine x_shr (show _ = (V.int .u64 (IntKind.wrap .u64 t0_20)) from rfl) (show _ = (V.int .i64 (wi (56 - (wi (8 * t5_39))))) from rfl) hx46 ?_
      refine x_i2u8 (show _ = (V.int .u64 z45) from rfl) ?_
      obtain ⟨u47, hx48, hD⟩ := Option.bind_eq_some_iff.1 hD
      refine x_iarr h37 (show _ = (V.int .i64 t5_39) from rfl) (inR_ok hx48) ?_
      refine x_store (ws := [(V.int .u8 (((u8of z45) : UInt8).toNat : Int))]) (l' := encB ((Arr.set x34 t5_39 (u8of z45))).1) (show _ = (V.ptr i35 (0 + (t5_39).toNat * 1)) from rfl) hci35 (cells_of rfl (nf_of rfl (show _ = (V.int .u8 (((u8of z45) : UInt8).toNat : Int)) from rfl))) (set_ok (inR_ok hx48)) (set_arr (inR_ok hx48)) fun csv49 ysv49 hcsv49 hnv49 hcv49 _ => ?_
      refine x_done ?_
      refine x_bN ?_
      refine x_tN ?_
      refine x_start (b := false) ?_
      refine x_bin h38 (show _ = (V.int .i64 1) from rfl) b_add ?_
      refine x_mv' (show _ = (V.int .i64 (wi (t5_39 + 1))) from rfl) ?_
      refine x_done ?_
      refine x_tN ?_
      refine hK _ ?_
      refine ih _ i35 _ _ ?_ ?_ ?_ ?_ ?_ hD
      · exact hli35
      · exact hcv49
      · exact h36
      · exact h37
      · exact (show _ = (V.int .i64 (wi (t5_39 + 1))) from rfl)
    · rw [if_neg hp44] at hD
      refine x_cf (show _ = (V.bool (decide (t5_39 < 8))) from rfl) (decide_eq_false hp44) ?_
      refine x_exitc ?_
      refine x_tE ?_
      refine x_tE ?_
      refine hk0 _ i35 _ ?_ ?_ ?_ hD
      · exact hli35
      · exact hci35
      · exact h37
def g.code_Num (p0 : Int) : Option Bytes :=
  L.code_Num_l1 p0 (fun (x56 : (Arr 8)) => some ((x56).1)) fuel (Arr.zero 8) 0
theorem ok.code_Num {Γ : Abs.Spec} {gl : Glob} {r : Bytes} {p0 : Int} {v : List V}
    (hv : nfL v = [(V.int .i64 p0)]) (hD : g.code_Num p0 = some r) : awp Γ gl c_code_Num (endQ [.t 2] false (V.str r)) (St.init v) := by
  obtain ⟨v0, v, rfl, h0, hv⟩ := nfL_cons hv
  obtain rfl := nfL_nil hv
  have hR : ∀ s, EndsX [.t 2] false (V.str r) s → endQ [.t 2] false (V.str r) .ret s := fun _ h => h
  unfold g.code_Num at hD
  unfold c_code_Num
  refine x_seq ?_
  refine x_start (b := false) ?_
  refine x_mv' (show _ = (V.str ([] : Bytes)) from rfl) ?_
  refine x_done ?_
  refine x_tN ?_
  refine x_seq ?_
  refine x_start (b := false) ?_
  refine x_new (l := (encB ((Arr.zero 8)).1)) (nf_zero _) fun i2 hidi2 hci2 => ?_
  refine x_done ?_
  refine x_tN ?_
  refine x_seq ?_
  refine x_seq ?_
  refine x_start (b := false) ?_
  refine x_mv' (show _ = (V.int .i64 0) from rfl) ?_
  refine x_done ?_
  refine x_tN ?_
  refine x_block ?_
  refine ok.code_Num_l1 (t0_20 := p0) (fun s59 i57 x56 hli57 hci57 h58 hD => ?_) (fun _ hE => ?_) _ _ i2 _ _ ?_ ?_ ?_ ?_ ?_ hD
  · refine x_bE ?_
    refine x_tN ?_
    refine x_seq ?_
    refine x_start (b := false) ?_
    refine x_slca h58 ?_
    refine x_b2sO (show _ = (V.osl i57 0 8 8 1) from rfl) hci57 (ld_le (ld_arr x56)) (ld_take (ld_arr x56)) ?_
    refine x_mv' (show _ = (V.str (x56).1) from rfl) ?_
    refine x_done ?_
    refine x_tN ?_
    refine x_retc ?_
    obtain rfl := Option.some.inj hD
    exact hR _ (ends_t (nf_of rfl (show _ = (V.str (x56).1) from rfl)) (fun h => nomatch h))
  · refine x_bR ?_; refine x_tR ?_; exact hR _ hE
  · exact (Nat.lt_succ_of_le (Nat.le_of_eq hidi2))
  · exact hci2
  · exact (nf_int h0)
  · exact (show _ = (V.ptr i2 0) from rfl)
  · exact (show _ = (V.int .i64 0) from rfl)
def K.code_Num : FC := fc F.code_Num (fun _ => true) false (fun (a : Int) => [(V.int .i64 a)]) (fun (y : Bytes) => (V.str y)) (fun a => g.code_Num a)
  (fun a => (cleanL_mk rfl rfl))
  (fun y => rfl)
  (fun a0 b0 h => by
    obtain ⟨h0, h⟩ := List.cons.inj h
    obtain rfl : a0 = b0 := (V.int.inj h0).2
    rfl)
theorem H.code_Num (w : World) (_hw : EnvOK w) : K.code_Num.Holds (cxD w) :=
  FC.holds_of (cs := []) (glD w) mixed cf_code_Num (fun _ _ ⟨_, _, h, _⟩ => by subst h; exact Nat.le_of_ble_eq_true rfl) fun v y ⟨a, r, hv, hD, hy⟩ => by
    subst hy
    exact ok.code_Num hv hD
def c_code_ReadNum_l1 : ACode := (.seq (.region [
  ⟨(some 10), (.bin .lss .no (.tmp 9) (.const (.int .i64 8))), none, []⟩] false) (.seq (.cond (.tmp 10) .skip (.exit 0)) (.seq (.block 1 (.seq (.region [
  ⟨(some 11), (.mv (.tmp 9)), none, []⟩, 
  ⟨(some 5), (.mv (.tmp 11)), none, []⟩] false) (.region [
  ⟨(some 12), (.mv (.tmp 4)), none, []⟩, 
  ⟨(some 13), (.bin .shl .no (.tmp 12) (.const (.int .u64 8))), none, []⟩, 
  ⟨(some 14), (.mv (.tmp 0)), none, []⟩, 
  ⟨(some 15), (.mv (.tmp 5)), none, []⟩, 
  ⟨(some 16), (.idx (.tmp 14) (.tmp 15)), none, []⟩, 
  ⟨(some 17), (.i2i .u64 (.tmp 16)), none, []⟩, 
  ⟨(some 18), (.bin .or .no (.tmp 13) (.tmp 17)), none, []⟩, 
  ⟨(some 4), (.mv (.tmp 18)), none, []⟩] false))) (.region [
  ⟨(some 19), (.bin .add .no (.tmp 9) (.const (.int .i64 1))), none, []⟩, 
  ⟨(some 9), (.mv (.tmp 19)), none, []⟩] false))))
def c_code_ReadNum : ACode := (.seq (.region [
  ⟨(some 2), (.mv (.const (.int .i64 0))), none, []⟩, 
  ⟨(some 3), (.mv (.const (.bool false))), none, []⟩] false) (.seq (.seq (.region [
  ⟨(some 6), (.mv (.tmp 0)), none, []⟩, 
  ⟨(some 7), (.len true (.tmp 6)), none, []⟩, 
  ⟨(some 8), (.bin .lss .no (.tmp 7) (.const (.int .i64 8))), none, []⟩] false) (.cond (.tmp 8) (.seq (.region [
  ⟨(some 2), (.mv (.const (.int .i64 0))), none, []⟩, 
  ⟨(some 3), (.mv (.const (.bool false))), none, []⟩] false) .ret) .skip)) (.seq (.region [
  ⟨(some 4), (.mv (.const (.int .u64 0))), none, []⟩] false) (.seq (.seq (.region [
  ⟨(some 9), (.mv (.const (.int .i64 0))), none, []⟩] false) (.block 0 (.loop c_code_ReadNum_l1))) (.seq (.region [
  ⟨(some 20), (.mv (.tmp 4)), none, []⟩, 
  ⟨(some 21), (.i2i .i64 (.tmp 20)), none, []⟩, 
  ⟨(some 2), (.mv (.tmp 21)), none, []⟩, 
  ⟨(some 3), (.mv (.const (.bool true))), none, []⟩] false) .ret)))))
theorem cf_code_ReadNum : cFn Go.Proofs.Tryd.prog F.code_ReadNum = some ⟨22, c_code_ReadNum, [.t 2, .t 3]⟩ := by kernel_rfl
def L.code_ReadNum_l1 (t0_17 : Bytes) (k0 : Int → Option (Int × Bool)) : Nat → Int → Int → Option (Int × Bool)
  | 0, _, _ => none
  | n + 1, t4_31, t9_33 =>
    if t9_33 < 8 then
      (shlI .u64 t4_31 8).bind fun z38 =>
      (at? t0_17 t9_33).bind fun b40 =>
      L.code_ReadNum_l1 t0_17 k0 n (orI .u64 z38 ((b40).toNat : Int)) (wi (t9_33 + 1))
    else
      k0 t4_31
theorem ok.code_ReadNum_l1 {Γ : Abs.Spec} {gl : Glob} {Q : Ex → St → Prop} {r : (Int × Bool)} {t0_17 : Bytes} {k0 : Int → Option (Int × Bool)}
    (hk0 : ∀ (s : St) (t4_45 : Int), (s.tm 4 = (V.int .u64 t4_45)) → k0 t4_45 = some r → Q (.exit 0) s)
    (hR : ∀ s, EndsX [.t 2, .t 3] false (V.tup [(V.int .i64 r.1), (V.bool r.2)]) s → Q .ret s) : ∀ (n : Nat) (s : St) (t4_31 : Int) (t9_33 : Int),
    (s.tm 0 = (V.str t0_17)) → (s.tm 4 = (V.int .u64 t4_31)) → (s.tm 9 = (V.int .i64 t9_33)) → L.code_ReadNum_l1 t0_17 k0 n t4_31 t9_33 = some r → awp Γ gl (.loop c_code_ReadNum_l1) Q s := by
  intro n
  induction n with
  | zero => intro s t4_31 t9_33 h29 h30 h32 hD; rw [L.code_ReadNum_l1] at hD; cases hD
  | succ n ih =>
    intro s t4_31 t9_33 h29 h30 h32 hD
    refine awp_roundK fun K hK => ?_
    rw [L.code_ReadNum_l1] at hD
    refine x_seq ?_
    refine x_start (b := false) ?_
    refine x_bin h32 (show _ = (V.int .i64 8) from rfl) b_lss ?_
    refine x_done ?_
    refine x_tN ?_
    refine x_seq ?_
    by_cases hp37 : t9_33 < 8
    · rw [if_pos hp37] at hD
      refine x_ct (show _ = (V.bool (decide (t9_33 < 8))) from rfl) (decide_eq_true hp37) ?_
      refine x_skip ?_
      refine x_tN ?_
      refine x_seq ?_
      refine x_block ?_
      refine x_seq ?_
      refine x_start (b := false) ?_
      refine x_mv' h32 ?_
      refine x_mv' (show _ = (V.int .i64 t9_33) from rfl) ?_
      refine x_done ?_
      refine x_tN ?_
      refine x_start (b := false) ?_
      refine x_mv' h30 ?_
      obtain ⟨z38, hx39, hD⟩ := Option.bind_eq_some_iff.1 hD
      refine x_shl (show _ = (V.int .u64 t4_31) from rfl) (show _ = (V.int .u64 8) from rfl) hx39 ?_
      refine x_mv' h29 ?_
      refine x_mv' (show _ = (V.int .i64 t9_33) from rfl) ?_
      obtain ⟨b40, hx41, hD⟩ := Option.bind_eq_some_iff.1 hD
      refine x_idx (show _ = (V.str t0_17) from rfl) (show _ = (V.int .i64 t9_33) from rfl) hx41 ?_
      refine x_i2i_u8 (kd := .u64) (show _ = (V.int .u8 ((b40 : UInt8).toNat : Int)) from rfl) (wrap_byte (by decide)) ?_
      refine x_bin (show _ = (V.int .u64 z38) from rfl) (show _ = (V.int .u64 ((b40).toNat : Int)) from rfl) b_or ?_
      refine x_mv' (show _ = (V.int .u64 (orI .u64 z38 ((b40).toNat : Int))) from rfl) ?_
      refine x_done ?_
      refine x_bN ?_
      refine x_tN ?_
      refine x_start (b := false) ?_
      refine x_bin h32 (show _ = (V.int .i64 1) from rfl) b_add ?_
      refine x_mv' (show _ = (V.int .i64 (wi (t9_33 + 1))) from rfl) ?_
      refine x_done ?_
      refine x_tN ?_
      refine hK _ ?_
      refine ih _ _ _ ?_ ?_ ?_ hD
      · exact h29
      · exact (show _ = (V.int .u64 (orI .u64 z38 ((b40).toNat : Int))) from rfl)
      · exact (show _ = (V.int .i64 (wi (t9_33 + 1))) from rfl)
    · rw [if_neg hp37] at hD
      refine x_cf (show _ = (V.bool (decide (t9_33 < 8))) from rfl) (decide_eq_false hp37) ?_
      refine x_exitc ?_
      refine x_tE ?_
      refine x_tE ?_
      refine hk0 _ _ ?_ hD
      · exact h30
def g.code_ReadNum (p0 : Bytes) : Option (Int × Bool) :=
  if ((p0.length : Nat) : Int) < 8 then
    some (0, false)
  else
    L.code_ReadNum_l1 p0 (fun (t4_47 : Int) => some ((wi t4_47), true)) fuel 0 0
theorem ok.code_ReadNum {Γ : Abs.Spec} {gl : Glob} {r : (Int × Bool)} {p0 : Bytes} {v : List V}
    (hv : nfL v = [(V.str p0)]) (hD : g.code_ReadNum p0 = some r) : awp Γ gl c_code_ReadNum (endQ [.t 2, .t 3] false (V.tup [(V.int .i64 r.1), (V.bool r.2)])) (St.init v) := by
  obtain ⟨v0, v, rfl, h0, hv⟩ := nfL_cons hv
  obtain rfl := nfL_nil hv
  have hR : ∀ s, EndsX [.t 2, .t 3] false (V.tup [(V.int .i64 r.1), (V.bool r.2)]) s → endQ [.t 2, .t 3] false (V.tup [(V.int .i64 r.1), (V.bool r.2)]) .ret s := fun _ h => h
  unfold g.code_ReadNum at hD
  unfold c_code_ReadNum
  refine x_seq ?_
  refine x_start (b := false) ?_
  refine x_mv' (show _ = (V.int .i64 0) from rfl) ?_
  refine x_mv' (show _ = (V.bool false) from rfl) ?_
  refine x_done ?_
  refine x_tN ?_
  refine x_seq ?_
  refine x_seq ?_
  refine x_start (b := false) ?_
  refine x_mv' (nf_str h0) ?_
  refine x_lens (show _ = (V.str p0) from rfl) ?_
  refine x_bin (show _ = (V.int .i64 ((p0.length : Nat) : Int)) from rfl) (show _ = (V.int .i64 8) from rfl) b_lss ?_
  refine x_done ?_
  refine x_tN ?_
  by_cases hp2 : ((p0.length : Nat) : Int) < 8
  · rw [if_pos hp2] at hD
    refine x_ct (show _ = (V.bool (decide (((p0.length : Nat) : Int) < 8))) from rfl) (decide_eq_true hp2) ?_
    refine x_seq ?_
    refine x_start (b := false) ?_
    refine x_mv' (show _ = (V.int .i64 0) from rfl) ?_
    refine x_mv' (show _ = (V.bool false) from rfl) ?_
    refine x_done ?_
    refine x_tN ?_
    refine x_retc ?_
    refine x_tR ?_
    obtain rfl := Option.some.inj hD
    exact hR _ (ends_tup (rvs_cons (rv_t (nf_of rfl (show _ = (V.int .i64 0) from rfl))) (rvs_cons (rv_t (nf_of rfl (show _ = (V.bool false) from rfl))) rvs_nil)) (by decide))
  · rw [if_neg hp2] at hD
    refine x_cf (show _ = (V.bool (decide (((p0.length : Nat) : Int) < 8))) from rfl) (decide_eq_false hp2) ?_
    refine x_skip ?_
    refine x_tN ?_
    refine x_seq ?_
    refine x_start (b := false) ?_
    refine x_mv' (show _ = (V.int .u64 0) from rfl) ?_
    refine x_done ?_
    refine x_tN ?_
    refine x_seq ?_
    refine x_seq ?_
    refine x_start (b := false) ?_
    refine x_mv' (show _ = (V.int .i64 0) from rfl) ?_
    refine x_done ?_
    refine x_tN ?_
    refine x_block ?_
    refine ok.code_ReadNum_l1 (t0_17 := p0) (fun s48 t4_47 h46 hD => ?_) (fun _ hE => ?_) _ _ _ _ ?_ ?_ ?_ hD
    · refine x_bE ?_
      refine x_tN ?_
      refine x_seq ?_
      refine x_start (b := false) ?_
      refine x_mv' h46 ?_
      refine x_i2i (show _ = (V.int .u64 t4_47) from rfl) ?_
      refine x_mv' (show _ = (V.int .i64 (wi t4_47)) from rfl) ?_
      refine x_mv' (show _ = (V.bool true) from rfl) ?_
      refine x_done ?_
      refine x_tN ?_
      refine x_retc ?_
      obtain rfl := Option.some.inj hD
      exact hR _ (ends_tup (rvs_cons (rv_t (nf_of rfl (show _ = (V.int .i64 (wi t4_47)) from rfl))) (rvs_cons (rv_t (nf_of rfl (show _ = (V.bool true) from rfl))) rvs_nil)) (by decide))
    · refine x_bR ?_; refine x_tR ?_; exact hR _ hE
    · exact (nf_str h0)
    · exact (show _ = (V.int .u64 0) from rfl)
    · exact (show _ = (V.int .i64 0) from rfl)
def K.code_ReadNum : FC := fc F.code_ReadNum (fun _ => true) false (fun (a : Bytes) => [(V.str a)]) (fun (y : (Int × Bool)) => (V.tup [(V.int .i64 y.1), (V.bool y.2)])) (fun a => g.code_ReadNum a)
  (fun a => (cleanL_mk rfl rfl))
  (fun y => (cleanL_mk rfl (cleanL_mk rfl rfl)))
  (fun a0 b0 h => by
    obtain ⟨h0, h⟩ := List.cons.inj h
    obtain rfl : a0 = b0 := V.str.inj h0
    rfl)
theorem H.code_ReadNum (w : World) (_hw : EnvOK w) : K.code_ReadNum.Holds (cxD w) :=
  FC.holds_of (cs := []) (glD w) mixed cf_code_ReadNum (fun _ _ ⟨_, _, h, _⟩ => by subst h; exact Nat.le_of_ble_eq_true rfl) fun v y ⟨a, r, hv, hD, hy⟩ => by
    subst hy
    exact ok.code_ReadNum hv hD
def c_code_Join_l1 : ACode := (.seq (.region [
  ⟨(some 12), (.bin .lss .no (.tmp 11) (.tmp 10)), none, []⟩] false) (.seq (.cond (.tmp 12) .skip (.exit 0)) (.seq (.block 1 (.seq (.region [
  ⟨(some 13), (.iaddr 1 (.tmp 9) (.tmp 11)), none, []⟩, 
  ⟨(some 14), (.load none (.tmp 13)), none, []⟩, 
  ⟨(some 5), (.mv (.tmp 14)), none, []⟩] false) (.region [
  ⟨(some 15), (.mv (.tmp 3)), none, []⟩, 
  ⟨(some 16), (.mv (.tmp 5)), none, []⟩, 
  ⟨(some 17), (.len true (.tmp 16)), none, []⟩, 
  ⟨(some 18), (.bin .add .no (.const (.int .i64 8)) (.tmp 17)), none, []⟩, 
  ⟨(some 19), (.bin .add .no (.tmp 15) (.tmp 18)), none, []⟩, 
  ⟨(some 3), (.mv (.tmp 19)), none, []⟩] false))) (.region [
  ⟨(some 20), (.bin .add .no (.tmp 11) (.const (.int .i64 1))), none, []⟩, 
  ⟨(some 11), (.mv (.tmp 20)), none, []⟩] false))))
def c_code_Join_l2 : ACode := (.seq (.region [
  ⟨(some 31), (.bin .lss .no (.tmp 30) (.tmp 29)), none, []⟩] false) (.seq (.cond (.tmp 31) .skip (.exit 2)) (.seq (.block 3 (.seq (.region [
  ⟨(some 32), (.iaddr 1 (.tmp 28) (.tmp 30)), none, []⟩, 
  ⟨(some 33), (.load none (.tmp 32)), none, []⟩, 
  ⟨(some 8), (.mv (.tmp 33)), none, []⟩] false) (.seq (.region [
  ⟨(some 34), (.mvo 6), none, []⟩, 
  ⟨(some 35), (.mv (.tmp 8)), none, []⟩, 
  ⟨(some 36), (.len true (.tmp 35)), none, []⟩, 
  ⟨(some 37), (.call F.code_Num [(.tmp 36)]), none, []⟩, 
  ⟨(some 38), (.app 1 (.tmp 34) (.tmp 37)), none, []⟩, 
  ⟨(some 6), (.mvo 38), none, []⟩] false) (.region [
  ⟨(some 39), (.mvo 6), none, []⟩, 
  ⟨(some 40), (.mv (.tmp 8)), none, []⟩, 
  ⟨(some 41), (.app 1 (.tmp 39) (.tmp 40)), none, []⟩, 
  ⟨(some 6), (.mvo 41), none, []⟩] false)))) (.region [
  ⟨(some 42), (.bin .add .no (.tmp 30) (.const (.int .i64 1))), none, []⟩, 
  ⟨(some 30), (.mv (.tmp 42)), none, []⟩] false))))
def c_code_Join : ACode := (.seq (.region [
  ⟨(some 2), (.mv (.const (.str []))), none, []⟩] false) (.seq (.region [
  ⟨(some 3), (.mv (.const (.int .i64 8))), none, []⟩] false) (.seq (.seq (.region [
  ⟨(some 9), (.mv (.tmp 0)), none, []⟩, 
  ⟨(some 10), (.len false (.tmp 9)), none, []⟩, 
  ⟨(some 11), (.mv (.const (.int .i64 0))), none, []⟩] false) (.block 0 (.loop c_code_Join_l1))) (.seq (.region [
  ⟨(some 21), (.mv (.tmp 3)), none, []⟩, 
  ⟨(some 22), (.mks 1 [] (.const (.int .i64 0)) (.tmp 21)), none, []⟩, 
  ⟨(some 6), (.mvo 22), none, []⟩] false) (.seq (.region [
  ⟨(some 23), (.mvo 6), none, []⟩, 
  ⟨(some 24), (.mv (.tmp 0)), none, []⟩, 
  ⟨(some 25), (.len false (.tmp 24)), none, []⟩, 
  ⟨(some 26), (.call F.code_Num [(.tmp 25)]), none, []⟩, 
  ⟨(some 27), (.app 1 (.tmp 23) (.tmp 26)), none, []⟩, 
  ⟨(some 6), (.mvo 27), none, []⟩] false) (.seq (.seq (.region [
  ⟨(some 28), (.mv (.tmp 0)), none, []⟩, 
  ⟨(some 29), (.len false (.tmp 28)), none, []⟩, 
  ⟨(some 30), (.mv (.const (.int .i64 0))), none, []⟩] false) (.block 2 (.loop c_code_Join_l2))) (.seq (.region [
  ⟨(some 43), (.mv (.tmp 6)), none, []⟩, 
  ⟨(some 44), (.b2s (.tmp 43)), none, []⟩, 
  ⟨(some 2), (.mv (.tmp 44)), none, []⟩] false) .ret)))))))
theorem cf_code_Join : cFn Go.Proofs.Tryd.prog F.code_Join = some ⟨45, c_code_Join, [.t 2]⟩ := by kernel_rfl
def L.code_Join_l1 (k0 : Int → Option Bytes) : List Bytes → Int → Option Bytes
  | [], t3_34 =>
    k0 t3_34
  | a38 :: rest, t3_34 =>
    L.code_Join_l1 k0 rest (wi (t3_34 + (wi (8 + ((a38.length : Nat) : Int)))))
theorem ok.code_Join_l1 {Γ : Abs.Spec} {gl : Glob} (hC_code_Num : CallsX Γ K.code_Num) {Q : Ex → St → Prop} {r : Bytes} {l20 : List Bytes} {k0 : Int → Option Bytes}
    (hk0 : ∀ (s : St) (t3_48 : Int), ((s.tm 0).nf = (V.sl false 1 (List.map V.str l20))) → (s.tm 3 = (V.int .i64 t3_48)) → k0 t3_48 = some r → Q (.exit 0) s)
    (hR : ∀ s, EndsX [.t 2] false (V.str r) s → Q .ret s)
    (hlen : l20.length ≤ Lim) : ∀ (rest : List Bytes) (k21 : Nat) (s : St) (t3_34 : Int), l20.drop k21 = rest → k21 ≤ l20.length →
    ((s.tm 9).nf = V.sl false 1 (List.map V.str l20)) → (s.tm 10 = V.int .i64 ((l20.length : Nat) : Int)) → (s.tm 11 = V.int .i64 ((k21 : Nat) : Int)) → ((s.tm 0).nf = (V.sl false 1 (List.map V.str l20))) → (s.tm 3 = (V.int .i64 t3_34)) →
    L.code_Join_l1 k0 rest t3_34 = some r → awp Γ gl (.loop c_code_Join_l1) Q s := by
  intro rest
  induction rest with
  | nil =>
    intro k21 s t3_34 hdrop hkl hX hN hI h32 h33 hD
    have hkz := drop_nil hdrop hkl
    have hp0 : ¬ (((k21 : Nat) : Int) < ((l20.length : Nat) : Int)) := by omega
    refine awp_roundK fun K hK => ?_
    rw [L.code_Join_l1] at hD
    refine x_seq ?_
    refine x_start (b := false) ?_
    refine x_bin hI hN b_lss ?_
    refine x_done ?_
    refine x_tN ?_
    refine x_seq ?_
    refine x_cf (show _ = (V.bool (decide (((k21 : Nat) : Int) < ((l20.length : Nat) : Int)))) from rfl) (decide_eq_false hp0) ?_
    refine x_exitc ?_
    refine x_tE ?_
    refine x_tE ?_
    refine hk0 _ _ ?_ ?_ hD
    · exact h32
    · exact h33
  | cons a38 rest ih =>
    intro k21 s t3_34 hdrop hkl hX hN hI h32 h33 hD
    obtain ⟨hlt, -, hget, hdrop1, -⟩ := drop_cons hdrop
    have hp1 : ((k21 : Nat) : Int) < ((l20.length : Nat) : Int) := by omega
    have hwk := wi_succ (k := k21) (by unfold Lim at hlen; omega)
    refine awp_roundK fun K hK => ?_
    rw [L.code_Join_l1] at hD
    refine x_seq ?_
    refine x_start (b := false) ?_
    refine x_bin hI hN b_lss ?_
    refine x_done ?_
    refine x_tN ?_
    refine x_seq ?_
    refine x_ct (show _ = (V.bool (decide (((k21 : Nat) : Int) < ((l20.length : Nat) : Int)))) from rfl) (decide_eq_true hp1) ?_
    refine x_skip ?_
    refine x_tN ?_
    refine x_seq ?_
    refine x_block ?_
    refine x_seq ?_
    refine x_start (b := false) ?_
    refine x_iaddr hX hI (at_k hget) fun v41 (hv41 : v41.nf = V.el [(V.str a38)] 0) => ?_
    refine x_load_el hv41 (show _ = some (V.str a38) from rfl) fun v42 hv42 => ?_
    refine x_mv' (nf_str hv42) ?_
    refine x_done ?_
    refine x_tN ?_
    refine x_start (b := false) ?_
    refine x_mv' h33 ?_
    refine x_mv' (show _ = (V.str a38) from rfl) ?_
    refine x_lens (show _ = (V.str a38) from rfl) ?_
    refine x_bin (show _ = (V.int .i64 8) from rfl) (show _ = (V.int .i64 ((a38.length : Nat) : Int)) from rfl) b_add ?_
    refine x_bin (show _ = (V.int .i64 t3_34) from rfl) (show _ = (V.int .i64 (wi (8 + ((a38.length : Nat) : Int)))) from rfl) b_add ?_
    refine x_mv' (show _ = (V.int .i64 (wi (t3_34 + (wi (8 + ((a38.length : Nat) : Int)))))) from rfl) ?_
    refine x_done ?_
    refine x_bN ?_
    refine x_tN ?_
    refine x_start (b := false) ?_
    refine x_bin hI (show _ = (V.int .i64 1) from rfl) b_add ?_
    refine x_mv' (show _ = (V.int .i64 (wi (((k21 : Nat) : Int) + 1))) from rfl) ?_
    refine x_done ?_
    refine x_tN ?_
    refine hK _ ?_
    refine ih (k21 + 1) _ _ hdrop1 hlt ?_ ?_ ?_ ?_ ?_ hD
    · exact hX
    · exact hN
    · exact (Eq.trans (show _ = (V.int .i64 (wi (((k21 : Nat) : Int) + 1))) from rfl) (congrArg (V.int .i64) hwk))
    · exact h32
    · exact (show _ = (V.int .i64 (wi (t3_34 + (wi (8 + ((a38.length : Nat) : Int)))))) from rfl)
def L.code_Join_l2 (k0 : (List UInt8) → Option Bytes) : List Bytes → (List UInt8) → Option Bytes
  | [], t6_149 =>
    k0 t6_149
  | a152 :: rest, t6_149 =>
    (g.code_Num ((a152.length : Nat) : Int)).bind fun r167 =>
    (appL t6_149 r167).bind fun l169 =>
    (appL l169 a152).bind fun l174 =>
    L.code_Join_l2 k0 rest l174
theorem ok.code_Join_l2 {Γ : Abs.Spec} {gl : Glob} (hC_code_Num : CallsX Γ K.code_Num) {Q : Ex → St → Prop} {r : Bytes} {l116 : List Bytes} {k0 : (List UInt8) → Option Bytes}
    (hk0 : ∀ (s : St) (t6_181 : (List UInt8)), ((s.tm 6).nf = (V.sl false 1 (List.map byteV t6_181))) → (OwnS s 6) → k0 t6_181 = some r → Q (.exit 2) s)
    (hR : ∀ s, EndsX [.t 2] false (V.str r) s → Q .ret s)
    (hlen : l116.length ≤ Lim) : ∀ (rest : List Bytes) (k117 : Nat) (s : St) (t6_149 : (List UInt8)), l116.drop k117 = rest → k117 ≤ l116.length →
    ((s.tm 28).nf = V.sl false 1 (List.map V.str l116)) → (s.tm 29 = V.int .i64 ((l116.length : Nat) : Int)) → (s.tm 30 = V.int .i64 ((k117 : Nat) : Int)) → ((s.tm 6).nf = (V.sl false 1 (List.map byteV t6_149))) → (OwnS s 6) →
    L.code_Join_l2 k0 rest t6_149 = some r → awp Γ gl (.loop c_code_Join_l2) Q s := by
  intro rest
  induction rest with
  | nil =>
    intro k117 s t6_149 hdrop hkl hX hN hI h148 h148o hD
    have hkz := drop_nil hdrop hkl
    have hp0 : ¬ (((k117 : Nat) : Int) < ((l116.length : Nat) : Int)) := by omega
    refine awp_roundK fun K hK => ?_
    rw [L.code_Join_l2] at hD
    refine x_seq ?_
    refine x_start (b := false) ?_
    refine x_bin hI hN b_lss ?_
    refine x_done ?_
    refine x_tN ?_
    refine x_seq ?_
    refine x_cf (show _ = (V.bool (decide (((k117 : Nat) : Int) < ((l116.length : Nat) : Int)))) from rfl) (decide_eq_false hp0) ?_
    refine x_exitc ?_
    refine x_tE ?_
    refine x_tE ?_
    refine hk0 _ _ ?_ ?_ hD
    · exact h148
    · exact h148o
  | cons a152 rest ih =>
    intro k117 s t6_149 hdrop hkl hX hN hI h148 h148o hD
    obtain ⟨hlt, -, hget, hdrop1, -⟩ := drop_cons hdrop
    have hp1 : ((k117 : Nat) : Int) < ((l116.length : Nat) : Int) := by omega
    have hwk := wi_succ (k := k117) (by unfold Lim at hlen; omega)
    refine awp_roundK fun K hK => ?_
    rw [L.code_Join_l2] at hD
    refine x_seq ?_
    refine x_start (b := false) ?_
    refine x_bin hI hN b_lss ?_
    refine x_done ?_
    refine x_tN ?_
    refine x_seq ?_
    refine x_ct (show _ = (V.bool (decide (((k117 : Nat) : Int) < ((l116.length : Nat) : Int)))) from rfl) (decide_eq_true hp1) ?_
    refine x_skip ?_
    refine x_tN ?_
    refine x_seq ?_
    refine x_block ?_
    refine x_seq ?_
    refine x_start (b := false) ?_
    refine x_iaddr hX hI (at_k hget) fun v155 (hv155 : v155.nf = V.el [(V.str a152)] 0) => ?_
    refine x_load_el hv155 (show _ = some (V.str a152) from rfl) fun v156 hv156 => ?_
    refine x_mv' (nf_str hv156) ?_
    refine x_done ?_
    refine x_tN ?_
    refine x_seq ?_
    refine x_start (b := false) ?_
    refine x_mvo h148 fun v165 ov165 hv165 hwv165 => ?_
    refine x_mv' (show _ = (V.str a152) from rfl) ?_
    refine x_lens (show _ = (V.str a152) from rfl) ?_
    obtain ⟨r167, hx168, hD⟩ := Option.bind_eq_some_iff.1 hD
    refine x_callF hC_code_Num (a := (((a152.length : Nat) : Int))) (cons_eq (nf_of rfl (show _ = (V.int .i64 ((a152.length : Nat) : Int)) from rfl)) rfl) hx168 fun v166 ov166 (hv166 : v166.nf = (V.str r167)) hov166 => ?_
    obtain ⟨l169, hx170, hD⟩ := Option.bind_eq_some_iff.1 hD
    refine x_app hv165 (hwv165 h148o) (tail_str (nf_str hv166)) hx170 fun v171 ov171 fv171 hv171 hov171 hfv171 => ?_
    refine x_mvo hv171 fun v172 ov172 hv172 hwv172 => ?_
    refine x_done ?_
    refine x_tN ?_
    refine x_start (b := false) ?_
    refine x_mvo hv172 fun v173 ov173 hv173 hwv173 => ?_
    refine x_mv' (show _ = (V.str a152) from rfl) ?_
    obtain ⟨l174, hx175, hD⟩ := Option.bind_eq_some_iff.1 hD
    refine x_app hv173 (hwv173 (hwv172 hov171)) (tail_str (show _ = (V.str a152) from rfl)) hx175 fun v176 ov176 fv176 hv176 hov176 hfv176 => ?_
    refine x_mvo hv176 fun v177 ov177 hv177 hwv177 => ?_
    refine x_done ?_
    refine x_bN ?_
    refine x_tN ?_
    refine x_start (b := false) ?_
    refine x_bin hI (show _ = (V.int .i64 1) from rfl) b_add ?_
    refine x_mv' (show _ = (V.int .i64 (wi (((k117 : Nat) : Int) + 1))) from rfl) ?_
    refine x_done ?_
    refine x_tN ?_
    refine hK _ ?_
    refine ih (k117 + 1) _ _ hdrop1 hlt ?_ ?_ ?_ ?_ ?_ hD
    · exact hX
    · exact hN
    · exact (Eq.trans (show _ = (V.int .i64 (wi (((k117 : Nat) : Int) + 1))) from rfl) (congrArg (V.int .i64) hwk))
    · exact hv177
    · exact (hwv177 hov176)
def g.code_Join (p0 : (List Bytes)) : Option Bytes :=
  if p0.length ≤ Lim then L.code_Join_l1 (fun (t3_51 : Int) => (mkOk t3_51).bind fun u57 =>
  (g.code_Num ((p0.length : Nat) : Int)).bind fun r72 =>
  (appL [] r72).bind fun l74 =>
  if p0.length ≤ Lim then L.code_Join_l2 (fun (t6_183 : (List UInt8)) => some t6_183) p0 l74 else none) p0 8 else none
theorem ok.code_Join {Γ : Abs.Spec} {gl : Glob} (hC_code_Num : CallsX Γ K.code_Num) {r : Bytes} {p0 : (List Bytes)} {v : List V}
    (hv : nfL v = [(V.sl false 1 (List.map V.str p0))]) (hD : g.code_Join p0 = some r) : awp Γ gl c_code_Join (endQ [.t 2] false (V.str r)) (St.init v) := by
  obtain ⟨v0, v, rfl, h0, hv⟩ := nfL_cons hv
  obtain rfl := nfL_nil hv
  have hR : ∀ s, EndsX [.t 2] false (V.str r) s → endQ [.t 2] false (V.str r) .ret s := fun _ h => h
  unfold g.code_Join at hD
  unfold c_code_Join
  refine x_seq ?_
  refine x_start (b := false) ?_
  refine x_mv' (show _ = (V.str ([] : Bytes)) from rfl) ?_
  refine x_done ?_
  refine x_tN ?_
  refine x_seq ?_
  refine x_start (b := false) ?_
  refine x_mv' (show _ = (V.int .i64 8) from rfl) ?_
  refine x_done ?_
  refine x_tN ?_
  refine x_seq ?_
  refine x_seq ?_
  refine x_start (b := false) ?_
  refine x_mv h0 fun v19 hv19 => ?_
  refine x_len hv19 ?_
  refine x_mv' (show _ = (V.int .i64 0) from rfl) ?_
  refine x_done ?_
  refine x_tN ?_
  refine x_block ?_
  by_cases hlen188 : p0.length ≤ Lim
  · rw [if_pos hlen188] at hD
    refine ok.code_Join_l1 (l20 := p0) hC_code_Num (fun s187 t3_51 h49 h50 hD => ?_) (fun _ hE => ?_) hlen188 _ 0 _ _ rfl (Nat.zero_le _) ?_ ?_ ?_ ?_ ?_ hD
    · refine x_bE ?_
      refine x_tN ?_
      refine x_seq ?_
      refine x_start (b := false) ?_
      refine x_mv' h50 ?_
      obtain ⟨u57, hx58, hD⟩ := Option.bind_eq_some_iff.1 hD
      refine x_mks (show _ = (V.int .i64 0) from rfl) (show _ = (V.int .i64 t3_51) from rfl) (mk_ok hx58) fun v56 ov56 hv56 hov56 => ?_
      refine x_mvo (show V.nf _ = (V.sl false 1 (List.map byteV [])) from hv56) fun v59 ov59 hv59 hwv59 => ?_
      refine x_done ?_
      refine x_tN ?_
      refine x_seq ?_
      refine x_start (b := false) ?_
      refine x_mvo hv59 fun v69 ov69 hv69 hwv69 => ?_
      refine x_mv h49 fun v70 hv70 => ?_
      refine x_len hv70 ?_
      obtain ⟨r72, hx73, hD⟩ := Option.bind_eq_some_iff.1 hD
      refine x_callF hC_code_Num (a := (((p0.length : Nat) : Int))) (cons_eq (nf_of rfl (show _ = (V.int .i64 ((p0.length : Nat) : Int)) from rfl)) rfl) hx73 fun v71 ov71 (hv71 : v71.nf = (V.str r72)) hov71 => ?_
      obtain ⟨l74, hx75, hD⟩ := Option.bind_eq_some_iff.1 hD
      refine x_app hv69 (hwv69 (hwv59 hov56)) (tail_str (nf_str hv71)) hx75 fun v76 ov76 fv76 hv76 hov76 hfv76 => ?_
      refine x_mvo hv76 fun v77 ov77 hv77 hwv77 => ?_
      refine x_done ?_
      refine x_tN ?_
      refine x_seq ?_
      refine x_seq ?_
      refine x_start (b := false) ?_
      refine x_mv h49 fun v115 hv115 => ?_
      refine x_len hv115 ?_
      refine x_mv' (show _ = (V.int .i64 0) from rfl) ?_
      refine x_done ?_
      refine x_tN ?_
      refine x_block ?_
      by_cases hlen186 : p0.length ≤ Lim
      · rw [if_pos hlen186] at hD
        refine ok.code_Join_l2 (l116 := p0) hC_code_Num (fun s185 t6_183 h182 h182o hD => ?_) (fun _ hE => ?_) hlen186 _ 0 _ _ rfl (Nat.zero_le _) ?_ ?_ ?_ ?_ ?_ hD
        · refine x_bE ?_
          refine x_tN ?_
          refine x_seq ?_
          refine x_start (b := false) ?_
          refine x_mv h182 fun v184 hv184 => ?_
          refine x_b2s hv184 ?_
          refine x_mv' (show _ = (V.str t6_183) from rfl) ?_
          refine x_done ?_
          refine x_tN ?_
          refine x_retc ?_
          obtain rfl := Option.some.inj hD
          exact hR _ (ends_t (nf_of rfl (show _ = (V.str t6_183) from rfl)) (fun h => nomatch h))
        · refine x_bR ?_; refine x_tR ?_; exact hR _ hE
        · exact hv115
        · exact (show _ = (V.int .i64 ((p0.length : Nat) : Int)) from rfl)
        · exact (show _ = (V.int .i64 0) from rfl)
        · exact hv77
        · exact (hwv77 hov76)
      · rw [if_neg hlen186] at hD; cases hD
    · refine x_bR ?_; refine x_tR ?_; exact hR _ hE
    · exact hv19
    · exact (show _ = (V.int .i64 ((p0.length : Nat) : Int)) from rfl)
    · exact (show _ = (V.int .i64 0) from rfl)
    · exact h0
    · exact (show _ = (V.int .i64 8) from rfl)
  · rw [if_neg hlen188] at hD; cases hD
def K.code_Join : FC := fc F.code_Join (fun _ => true) false (fun (a : (List Bytes)) => [(V.sl false 1 (List.map V.str a))]) (fun (y : Bytes) => (V.str y)) (fun a => g.code_Join a)
  (fun a => (cleanL_mk (E.Lstring_clean _) rfl))
  (fun y => rfl)
  (fun a0 b0 h => by
    obtain ⟨h0, h⟩ := List.cons.inj h
    obtain rfl : a0 = b0 := E.Lstring_inj h0
    rfl)
theorem H.code_Join (w : World) (hw : EnvOK w) : K.code_Join.Holds (cxD w) :=
  FC.holds_of (cs := [K.code_Num]) (glD w) mixed cf_code_Join (fun _ _ ⟨_, _, h, _⟩ => by subst h; exact Nat.le_of_ble_eq_true rfl) fun v y ⟨a, r, hv, hD, hy⟩ => by
    subst hy
    exact ok.code_Join (specOf_calls (H.code_Num w hw) (fun _ _ ⟨_, _, h, _⟩ => by subst h; rfl)) hv hD
def c_code_Split_l1 : ACode := (.seq (.region [
  ⟨(some 38), (.bin .lss .no (.tmp 37) (.tmp 36)), none, []⟩] false) (.seq (.cond (.tmp 38) .skip (.exit 0)) (.seq (.block 1 (.seq (.region [
  ⟨(some 40), (.mv (.tmp 7)), none, []⟩, 
  ⟨(some 41), (.call F.code_ReadNum [(.tmp 40)]), none, []⟩, 
  ⟨(some 39), (.mv (.tmp 41)), none, []⟩, 
  ⟨(some 42), (.ext (.tmp 39) 0), none, []⟩, 
  ⟨(some 43), (.ext (.tmp 39) 1), none, []⟩, 
  ⟨(some 8), (.mv (.tmp 42)), none, []⟩, 
  ⟨(some 9), (.mv (.tmp 43)), none, []⟩] false) (.seq (.seq (.region [
  ⟨(some 44), (.mv (.tmp 9)), none, []⟩, 
  ⟨(some 45), (.un .not (.tmp 44)), none, []⟩, 
  ⟨(some 46), (.mv (.tmp 45)), none, []⟩, 
  ⟨(some 47), (.mv (.tmp 8)), (some (46, false)), []⟩, 
  ⟨(some 48), (.bin .lss .no (.tmp 47) (.const (.int .i64 0))), (some (46, false)), []⟩, 
  ⟨(some 49), (.pick (.tmp 46) (.const (.bool true)) (.tmp 48)), none, []⟩, 
  ⟨(some 50), (.mv (.tmp 49)), none, []⟩, 
  ⟨(some 51), (.mv (.tmp 8)), (some (50, false)), []⟩, 
  ⟨(some 52), (.mv (.tmp 7)), (some (50, false)), []⟩, 
  ⟨(some 53), (.len true (.tmp 52)), (some (50, false)), []⟩, 
  ⟨(some 54), (.bin .sub .no (.tmp 53) (.const (.int .i64 8))), (some (50, false)), []⟩, 
  ⟨(some 55), (.bin .gtr .no (.tmp 51) (.tmp 54)), (some (50, false)), []⟩, 
  ⟨(some 56), (.pick (.tmp 50) (.const (.bool true)) (.tmp 55)), none, []⟩] false) (.cond (.tmp 56) (.seq (.region [
  ⟨(some 2), (.mv (.const (.sl true 1 []))), none, []⟩, 
  ⟨(some 3), (.mv (.const (.int .i64 4))), none, []⟩] false) .ret) .skip)) (.region [
  ⟨(some 57), (.mvo 6), none, []⟩, 
  ⟨(some 58), (.mv (.tmp 7)), none, []⟩, 
  ⟨(some 59), (.mv (.tmp 8)), none, []⟩, 
  ⟨(some 60), (.bin .add .no (.const (.int .i64 8)) (.tmp 59)), none, []⟩, 
  ⟨(some 61), (.sls (.tmp 58) (some (.const (.int .i64 8))) (some (.tmp 60))), none, []⟩, 
  ⟨(some 62), (.bsl 1 [(.tmp 61)]), none, []⟩, 
  ⟨(some 63), (.app 1 (.tmp 57) (.tmp 62)), none, []⟩, 
  ⟨(some 64), (.mv (.tmp 7)), none, []⟩, 
  ⟨(some 65), (.mv (.tmp 8)), none, []⟩, 
  ⟨(some 66), (.bin .add .no (.const (.int .i64 8)) (.tmp 65)), none, []⟩, 
  ⟨(some 67), (.sls (.tmp 64) (some (.tmp 66)) none), none, []⟩, 
  ⟨(some 6), (.mvo 63), none, []⟩, 
  ⟨(some 7), (.mv (.tmp 67)), none, []⟩] true)))) (.region [
  ⟨(some 68), (.bin .add .no (.tmp 37) (.const (.int .i64 1))), none, []⟩, 
  ⟨(some 37), (.mv (.tmp 68)), none, []⟩] false))))
def c_code_Split : ACode := (.seq (.region [
  ⟨(some 2), (.mv (.const (.sl true 1 []))), none, []⟩, 
  ⟨(some 3), (.mv (.const (.int .i64 0))), none, []⟩] false) (.seq (.seq (.region [
  ⟨(some 10), (.mv (.tmp 0)), none, []⟩, 
  ⟨(some 11), (.len true (.tmp 10)), none, []⟩, 
  ⟨(some 12), (.bin .gtr .no (.tmp 11) (.const (.int .i64 1048576))), none, []⟩] false) (.cond (.tmp 12) (.seq (.region [
  ⟨(some 2), (.mv (.const (.sl true 1 []))), none, []⟩, 
  ⟨(some 3), (.mv (.const (.int .i64 3))), none, []⟩] false) .ret) .skip)) (.seq (.region [
  ⟨(some 14), (.mv (.tmp 0)), none, []⟩, 
  ⟨(some 15), (.call F.code_ReadNum [(.tmp 14)]), none, []⟩, 
  ⟨(some 13), (.mv (.tmp 15)), none, []⟩, 
  ⟨(some 16), (.ext (.tmp 13) 0), none, []⟩, 
  ⟨(some 17), (.ext (.tmp 13) 1), none, []⟩, 
  ⟨(some 4), (.mv (.tmp 16)), none, []⟩, 
  ⟨(some 5), (.mv (.tmp 17)), none, []⟩] false) (.seq (.seq (.region [
  ⟨(some 18), (.mv (.tmp 5)), none, []⟩, 
  ⟨(some 19), (.un .not (.tmp 18)), none, []⟩, 
  ⟨(some 20), (.mv (.tmp 19)), none, []⟩, 
  ⟨(some 21), (.mv (.tmp 4)), (some (20, false)), []⟩, 
  ⟨(some 22), (.bin .lss .no (.tmp 21) (.const (.int .i64 0))), (some (20, false)), []⟩, 
  ⟨(some 23), (.pick (.tmp 20) (.const (.bool true)) (.tmp 22)), none, []⟩, 
  ⟨(some 24), (.mv (.tmp 23)), none, []⟩, 
  ⟨(some 25), (.mv (.tmp 4)), (some (24, false)), []⟩, 
  ⟨(some 26), (.mv (.tmp 0)), (some (24, false)), []⟩, 
  ⟨(some 27), (.len true (.tmp 26)), (some (24, false)), []⟩, 
  ⟨(some 28), (.bin .quo .no (.tmp 27) (.const (.int .i64 8))), (some (24, false)), []⟩, 
  ⟨(some 29), (.bin .gtr .no (.tmp 25) (.tmp 28)), (some (24, false)), []⟩, 
  ⟨(some 30), (.pick (.tmp 24) (.const (.bool true)) (.tmp 29)), none, []⟩] false) (.cond (.tmp 30) (.seq (.region [
  ⟨(some 2), (.mv (.const (.sl true 1 []))), none, []⟩, 
  ⟨(some 3), (.mv (.const (.int .i64 4))), none, []⟩] false) .ret) .skip)) (.seq (.region [
  ⟨(some 31), (.mv (.tmp 4)), none, []⟩, 
  ⟨(some 32), (.mnx false (.tmp 31) (.const (.int .i64 4096))), none, []⟩, 
  ⟨(some 33), (.mks 1 [] (.const (.int .i64 0)) (.tmp 32)), none, []⟩, 
  ⟨(some 6), (.mvo 33), none, []⟩] false) (.seq (.region [
  ⟨(some 34), (.mv (.tmp 0)), none, []⟩, 
  ⟨(some 35), (.sls (.tmp 34) (some (.const (.int .i64 8))) none), none, []⟩, 
  ⟨(some 7), (.mv (.tmp 35)), none, []⟩] false) (.seq (.seq (.region [
  ⟨(some 36), (.mv (.tmp 4)), none, []⟩, 
  ⟨(some 37), (.mv (.const (.int .i64 0))), none, []⟩] false) (.block 0 (.loop c_code_Split_l1))) (.seq (.seq (.region [
  ⟨(some 69), (.mv (.tmp 7)), none, []⟩, 
  ⟨(some 70), (.bin .neq .no (.tmp 69) (.const (.str []))), none, []⟩] false) (.cond (.tmp 70) (.seq (.region [
  ⟨(some 2), (.mv (.const (.sl true 1 []))), none, []⟩, 
  ⟨(some 3), (.mv (.const (.int .i64 4))), none, []⟩] false) .ret) .skip)) (.seq (.region [
  ⟨(some 71), (.mvo 6), none, []⟩, 
  ⟨(some 2), (.mvo 71), none, []⟩, 
  ⟨(some 3), (.mv (.const (.int .i64 0))), none, []⟩] false) .ret)))))))))
theorem cf_code_Split : cFn Go.Proofs.Tryd.prog F.code_Split = some ⟨72, c_code_Split, [.t 2, .t 3]⟩ := by kernel_rfl
def L.code_Split_l1 (t36_83 : Int) (k0 : (List Bytes) → Bytes → Option ((List Bytes) × Int)) : Nat → (List Bytes) → Bytes → Int → Option ((List Bytes) × Int)
  | 0, _, _, _ => none
  | n + 1, t6_126, t7_128, t37_131 =>
    if t37_131 < t36_83 then
      (g.code_ReadNum t7_128).bind fun r145 =>
      if r145.2 = true then
        if r145.1 < 0 then
          some ([], 4)
        else
          if (wi (((t7_128.length : Nat) : Int) - 8)) < r145.1 then
            some ([], 4)
          else
            (cut t7_128 8 (wi (8 + r145.1))).bind fun q161 =>
            (appL t6_126 ([q161] : (List Bytes))).bind fun l164 =>
            (cut t7_128 (wi (8 + r145.1)) (t7_128.length : Nat)).bind fun q167 =>
            L.code_Split_l1 t36_83 k0 n l164 q167 (wi (t37_131 + 1))
      else
        some ([], 4)
    else
      k0 t6_126 t7_128
theorem ok.code_Split_l1 {Γ : Abs.Spec} {gl : Glob} (hC_code_ReadNum : CallsX Γ K.code_ReadNum) {Q : Ex → St → Prop} {r : ((List Bytes) × Int)} {t36_83 : Int} {k0 : (List Bytes) → Bytes → Option ((List Bytes) × Int)}
    (hk0 : ∀ (s : St) (t6_175 : (List Bytes)) (t7_177 : Bytes), ((s.tm 6).nf = (V.sl false 1 (List.map V.str t6_175))) → (OwnS s 6) → (s.tm 7 = (V.str t7_177)) → k0 t6_175 t7_177 = some r → Q (.exit 0) s)
    (hR : ∀ s, EndsX [.t 2, .t 3] false (V.tup [(V.sl false 1 (List.map V.str r.1)), (V.int .i64 r.2)]) s → Q .ret s) : ∀ (n : Nat) (s : St) (t6_126 : (List Bytes)) (t7_128 : Bytes) (t37_131 : Int),
    ((s.tm 6).nf = (V.sl false 1 (List.map V.str t6_126))) → (OwnS s 6) → (s.tm 7 = (V.str t7_128)) → (s.tm 36 = (V.int .i64 t36_83)) → (s.tm 37 = (V.int .i64 t37_131)) → L.code_Split_l1 t36_83 k0 n t6_126 t7_128 t37_131 = some r → awp Γ gl (.loop c_code_Split_l1) Q s := by
  intro n
  induction n with
  | zero => intro s t6_126 t7_128 t37_131 h125 h125o h127 h129 h130 hD; rw [L.code_Split_l1] at hD; cases hD
  | succ n ih =>
    intro s t6_126 t7_128 t37_131 h125 h125o h127 h129 h130 hD
    refine awp_roundK fun K hK => ?_
    rw [L.code_Split_l1] at hD
    refine x_seq ?_
    refine x_start (b := false) ?_
    refine x_bin h130 h129 b_lss ?_
    refine x_done ?_
    refine x_tN ?_
    refine x_seq ?_
    by_cases hp137 : t37_131 < t36_83
    · rw [if_pos hp137] at hD
      refine x_ct (show _ = (V.bool (decide (t37_131 < t36_83))) from rfl) (decide_eq_true hp137) ?_
      refine x_skip ?_
      refine x_tN ?_
      refine x_seq ?_
      refine x_block ?_
      refine x_seq ?_
      refine x_start (b := false) ?_
      refine x_mv' h127 ?_
      obtain ⟨r145, hx146, hD⟩ := Option.bind_eq_some_iff.1 hD
      refine x_callF hC_code_ReadNum (a := (t7_128)) (cons_eq (nf_of rfl (show _ = (V.str t7_128) from rfl)) rfl) hx146 fun v144 ov144 (hv144 : v144.nf = (V.tup [(V.int .i64 r145.1), (V.bool r145.2)])) hov144 => ?_
      refine x_mv hv144 fun v147 hv147 => ?_
      refine x_ext hv147 (show _ = some (V.int .i64 r145.1) from rfl) fun v148 hv148 => ?_
      refine x_ext hv147 (show _ = some (V.bool r145.2) from rfl) fun v149 hv149 => ?_
      refine x_mv' (nf_int hv148) ?_
      refine x_mv' (nf_bool hv149) ?_
      refine x_done ?_
      refine x_tN ?_
      refine x_seq ?_
      refine x_seq ?_
      refine x_start (b := false) ?_
      refine x_mv' (show _ = (V.bool r145.2) from rfl) ?_
      refine x_un (show _ = (V.bool r145.2) from rfl) (aun_not _) ?_
      refine x_mv' (show _ = (V.bool (!r145.2)) from rfl) ?_
      by_cases hp157 : r145.2 = true
      · rw [if_pos hp157] at hD
        refine x_gy (show _ = (V.bool (!r145.2)) from rfl) (bnot_t hp157) ?_
        refine x_mv' (show _ = (V.int .i64 r145.1) from rfl) ?_
        refine x_gy (show _ = (V.bool (!r145.2)) from rfl) (bnot_t hp157) ?_
        refine x_bin (show _ = (V.int .i64 r145.1) from rfl) (show _ = (V.int .i64 0) from rfl) b_lss ?_
        refine x_pickf' (show _ = (V.bool (!r145.2)) from rfl) (bnot_t hp157) (show _ = (V.bool (decide (r145.1 < 0))) from rfl) ?_
        refine x_mv' (show _ = (V.bool (decide (r145.1 < 0))) from rfl) ?_
        by_cases hp158 : r145.1 < 0
        · rw [if_pos hp158] at hD
          refine x_gn (show _ = (V.bool (decide (r145.1 < 0))) from rfl) (decide_eq_true hp158) ?_
          refine x_gn (show _ = (V.bool (decide (r145.1 < 0))) from rfl) (decide_eq_true hp158) ?_
          refine x_gn (show _ = (V.bool (decide (r145.1 < 0))) from rfl) (decide_eq_true hp158) ?_
          refine x_gn (show _ = (V.bool (decide (r145.1 < 0))) from rfl) (decide_eq_true hp158) ?_
          refine x_gn (show _ = (V.bool (decide (r145.1 < 0))) from rfl) (decide_eq_true hp158) ?_
          refine x_pickt' (show _ = (V.bool (decide (r145.1 < 0))) from rfl) (decide_eq_true hp158) (show _ = (V.bool true) from rfl) ?_
          refine x_done ?_
          refine x_tN ?_
          refine x_ct (show _ = (V.bool true) from rfl) rfl ?_
          refine x_seq ?_
          refine x_start (b := false) ?_
          refine x_mv' (y := V.sl true 1 []) rfl ?_
          refine x_mv' (show _ = (V.int .i64 4) from rfl) ?_
          refine x_done ?_
          refine x_tN ?_
          refine x_retc ?_
          refine x_tR ?_
          refine x_bR ?_
          refine x_tR ?_
          refine x_tR ?_
          obtain rfl := Option.some.inj hD
          exact hR _ (ends_tup (rvs_cons (rv_t (show V.nf _ = (V.sl false 1 (List.map V.str [])) from rfl)) (rvs_cons (rv_t (nf_of rfl (show _ = (V.int .i64 4) from rfl))) rvs_nil)) (by decide))
        · rw [if_neg hp158] at hD
          refine x_gy (show _ = (V.bool (decide (r145.1 < 0))) from rfl) (decide_eq_false hp158) ?_
          refine x_mv' (show _ = (V.int .i64 r145.1) from rfl) ?_
          refine x_gy (show _ = (V.bool (decide (r145.1 < 0))) from rfl) (decide_eq_false hp158) ?_
          refine x_mv' h127 ?_
          refine x_gy (show _ = (V.bool (decide (r145.1 < 0))) from rfl) (decide_eq_false hp158) ?_
          refine x_lens (show _ = (V.str t7_128) from rfl) ?_
          refine x_gy (show _ = (V.bool (decide (r145.1 < 0))) from rfl) (decide_eq_false hp158) ?_
          refine x_bin (show _ = (V.int .i64 ((t7_128.length : Nat) : Int)) from rfl) (show _ = (V.int .i64 8) from rfl) b_sub ?_
          refine x_gy (show _ = (V.bool (decide (r145.1 < 0))) from rfl) (decide_eq_false hp158) ?_
          refine x_bin (show _ = (V.int .i64 r145.1) from rfl) (show _ = (V.int .i64 (wi (((t7_128.length : Nat) : Int) - 8))) from rfl) b_gtr ?_
          refine x_pickf' (show _ = (V.bool (decide (r145.1 < 0))) from rfl) (decide_eq_false hp158) (show _ = (V.bool (decide ((wi (((t7_128.length : Nat) : Int) - 8)) < r145.1))) from rfl) ?_
          refine x_done ?_
          refine x_tN ?_
          by_cases hp159 : (wi (((t7_128.length : Nat) : Int) - 8)) < r145.1
          · rw [if_pos hp159] at hD
            refine x_ct (show _ = (V.bool (decide ((wi (((t7_128.length : Nat) : Int) - 8)) < r145.1))) from rfl) (decide_eq_true hp159) ?_
            refine x_seq ?_
            refine x_start (b := false) ?_
            refine x_mv' (y := V.sl true 1 []) rfl ?_
            refine x_mv' (show _ = (V.int .i64 4) from rfl) ?_
            refine x_done ?_
            refine x_tN ?_
            refine x_retc ?_
            refine x_tR ?_
            refine x_bR ?_
            refine x_tR ?_
            refine x_tR ?_
            obtain rfl := Option.some.inj hD
            exact hR _ (ends_tup (rvs_cons (rv_t (show V.nf _ = (V.sl false 1 (List.map V.str [])) from rfl)) (rvs_cons (rv_t (nf_of rfl (show _ = (V.int .i64 4) from rfl))) rvs_nil)) (by decide))
          · rw [if_neg hp159] at hD
            refine x_cf (show _ = (V.bool (decide ((wi (((t7_128.length : Nat) : Int) - 8)) < r145.1))) from rfl) (decide_eq_false hp159) ?_
            refine x_skip ?_
            refine x_tN ?_
            refine x_start (b := true) ?_
            refine x_mvo h125 fun v160 ov160 hv160 hwv160 => ?_
            refine x_mv' h127 ?_
            refine x_mv' (show _ = (V.int .i64 r145.1) from rfl) ?_
            refine x_bin (show _ = (V.int .i64 8) from rfl) (show _ = (V.int .i64 r145.1) from rfl) b_add ?_
            obtain ⟨q161, hx162, hD⟩ := Option.bind_eq_some_iff.1 hD
            refine x_slslh (show _ = (V.str t7_128) from rfl) (show _ = (V.int .i64 8) from rfl) (show _ = (V.int .i64 (wi (8 + r145.1))) from rfl) hx162 ?_
            refine x_bsl (E := V.str) (l := ([q161] : (List Bytes))) (cons_eq (nf_of rfl (show _ = (V.str q161) from rfl)) rfl) (fits_map (E := V.str) (sz := 1) (fun x => ⟨rfl, rfl⟩) _) fun v163 ov163 hv163 hov163 => ?_
            obtain ⟨l164, hx165, hD⟩ := Option.bind_eq_some_iff.1 hD
            refine x_app hv160 (hwv160 h125o) (tail_sl hv163) hx165 fun v166 ov166 fv166 hv166 hov166 hfv166 => ?_
            refine x_mv' h127 ?_
            refine x_mv' (show _ = (V.int .i64 r145.1) from rfl) ?_
            refine x_bin (show _ = (V.int .i64 8) from rfl) (show _ = (V.int .i64 r145.1) from rfl) b_add ?_
            obtain ⟨q167, hx168, hD⟩ := Option.bind_eq_some_iff.1 hD
            refine x_slsl (show _ = (V.str t7_128) from rfl) (show _ = (V.int .i64 (wi (8 + r145.1))) from rfl) hx168 ?_
            refine x_mvo hv166 fun v169 ov169 hv169 hwv169 => ?_
            refine x_mv' (show _ = (V.str q167) from rfl) ?_
            refine x_done ?_
            refine x_bN ?_
            refine x_tN ?_
            refine x_start (b := false) ?_
            refine x_bin h130 (show _ = (V.int .i64 1) from rfl) b_add ?_
            refine x_mv' (show _ = (V.int .i64 (wi (t37_131 + 1))) from rfl) ?_
            refine x_done ?_
            refine x_tN ?_
            refine hK _ ?_
            refine ih _ _ _ _ ?_ ?_ ?_ ?_ ?_ hD
            · exact hv169
            · exact (hwv169 hov166)
            · exact (show _ = (V.str q167) from rfl)
            · exact h129
            · exact (show _ = (V.int .i64 (wi (t37_131 + 1))) from rfl)
      · rw [if_neg hp157] at hD
        refine x_gn (show _ = (V.bool (!r145.2)) from rfl) (bnot_f (Bool.eq_false_iff.2 hp157)) ?_
        refine x_gn (show _ = (V.bool (!r145.2)) from rfl) (bnot_f (Bool.eq_false_iff.2 hp157)) ?_
        refine x_pickt' (show _ = (V.bool (!r145.2)) from rfl) (bnot_f (Bool.eq_false_iff.2 hp157)) (show _ = (V.bool true) from rfl) ?_
        refine x_mv' (show _ = (V.bool true) from rfl) ?_
        refine x_gn (show _ = (V.bool true) from rfl) rfl ?_
        refine x_gn (show _ = (V.bool true) from rfl) rfl ?_
        refine x_gn (show _ = (V.bool true) from rfl) rfl ?_
        refine x_gn (show _ = (V.bool true) from rfl) rfl ?_
        refine x_gn (show _ = (V.bool true) from rfl) rfl ?_
        refine x_pickt' (show _ = (V.bool true) from rfl) rfl (show _ = (V.bool true) from rfl) ?_
        refine x_done ?_
        refine x_tN ?_
        refine x_ct (show _ = (V.bool true) from rfl) rfl ?_
        refine x_seq ?_
        refine x_start (b := false) ?_
        refine x_mv' (y := V.sl true 1 []) rfl ?_
        refine x_mv' (show _ = (V.int .i64 4) from rfl) ?_
        refine x_done ?_
        refine x_tN ?_
        refine x_retc ?_
        refine x_tR ?_
        refine x_bR ?_
        refine x_tR ?_
        refine x_tR ?_
        obtain rfl := Option.some.inj hD
        exact hR _ (ends_tup (rvs_cons (rv_t (show V.nf _ = (V.sl false 1 (List.map V.str [])) from rfl)) (rvs_cons (rv_t (nf_of rfl (show _ = (V.int .i64 4) from rfl))) rvs_nil)) (by decide))
    · rw [if_neg hp137] at hD
      refine x_cf (show _ = (V.bool (decide (t37_131 < t36_83))) from rfl) (decide_eq_false hp137) ?_
      refine x_exitc ?_
      refine x_tE ?_
      refine x_tE ?_
      refine hk0 _ _ _ ?_ ?_ ?_ hD
      · exact h125
      · exact h125o
      · exact h127
def g.code_Split (p0 : Bytes) : Option ((List Bytes) × Int) :=
  if 1048576 < ((p0.length : Nat) : Int) then
    some ([], 3)
  else
    (g.code_ReadNum p0).bind fun r10 =>
    if r10.2 = true then
      if r10.1 < 0 then
        some ([], 4)
      else
        if (wi (Int.tdiv ((p0.length : Nat) : Int) 8)) < r10.1 then
          some ([], 4)
        else
          (mkOk (imin r10.1 4096)).bind fun u30 =>
          (cut p0 8 (p0.length : Nat)).bind fun q35 =>
          L.code_Split_l1 r10.1 (fun (t6_179 : (List Bytes)) (t7_181 : Bytes) => if t7_181 = ([] : Bytes) then
            some (t6_179, 0)
          else
            some ([], 4)) fuel [] q35 0
    else
      some ([], 4)
theorem ok.code_Split {Γ : Abs.Spec} {gl : Glob} (hC_code_ReadNum : CallsX Γ K.code_ReadNum) {r : ((List Bytes) × Int)} {p0 : Bytes} {v : List V}
    (hv : nfL v = [(V.str p0)]) (hD : g.code_Split p0 = some r) : awp Γ gl c_code_Split (endQ [.t 2, .t 3] false (V.tup [(V.sl false 1 (List.map V.str r.1)), (V.int .i64 r.2)])) (St.init v) := by
  obtain ⟨v0, v, rfl, h0, hv⟩ := nfL_cons hv
  obtain rfl := nfL_nil hv
  have hR : ∀ s, EndsX [.t 2, .t 3] false (V.tup [(V.sl false 1 (List.map V.str r.1)), (V.int .i64 r.2)]) s → endQ [.t 2, .t 3] false (V.tup [(V.sl false 1 (List.map V.str r.1)), (V.int .i64 r.2)]) .ret s := fun _ h => h
  unfold g.code_Split at hD
  unfold c_code_Split
  refine x_seq ?_
  refine x_start (b := false) ?_
  refine x_mv' (y := V.sl true 1 []) rfl ?_
  refine x_mv' (show _ = (V.int .i64 0) from rfl) ?_
  refine x_done ?_
  refine x_tN ?_
  refine x_seq ?_
  refine x_seq ?_
  refine x_start (b := false) ?_
  refine x_mv' (nf_str h0) ?_
  refine x_lens (show _ = (V.str p0) from rfl) ?_
  refine x_bin (show _ = (V.int .i64 ((p0.length : Nat) : Int)) from rfl) (show _ = (V.int .i64 1048576) from rfl) b_gtr ?_
  refine x_done ?_
  refine x_tN ?_
  by_cases hp2 : 1048576 < ((p0.length : Nat) : Int)
  · rw [if_pos hp2] at hD
    refine x_ct (show _ = (V.bool (decide (1048576 < ((p0.length : Nat) : Int)))) from rfl) (decide_eq_true hp2) ?_
    refine x_seq ?_
    refine x_start (b := false) ?_
    refine x_mv' (y := V.sl true 1 []) rfl ?_
    refine x_mv' (show _ = (V.int .i64 3) from rfl) ?_
    refine x_done ?_
    refine x_tN ?_
    refine x_retc ?_
    refine x_tR ?_
    obtain rfl := Option.some.inj hD
    exact hR _ (ends_tup (rvs_cons (rv_t (show V.nf _ = (V.sl false 1 (List.map V.str [])) from rfl)) (rvs_cons (rv_t (nf_of rfl (show _ = (V.int .i64 3) from rfl))) rvs_nil)) (by decide))
  · rw [if_neg hp2] at hD
    refine x_cf (show _ = (V.bool (decide (1048576 < ((p0.length : Nat) : Int)))) from rfl) (decide_eq_false hp2) ?_
    refine x_skip ?_
    refine x_tN ?_
    refine x_seq ?_
    refine x_start (b := false) ?_
    refine x_mv' (nf_str h0) ?_
    obtain ⟨r10, hx11, hD⟩ := Option.bind_eq_some_iff.1 hD
    refine x_callF hC_code_ReadNum (a := (p0)) (cons_eq (nf_of rfl (show _ = (V.str p0) from rfl)) rfl) hx11 fun v9 ov9 (hv9 : v9.nf = (V.tup [(V.int .i64 r10.1), (V.bool r10.2)])) hov9 => ?_
    refine x_mv hv9 fun v12 hv12 => ?_
    refine x_ext hv12 (show _ = some (V.int .i64 r10.1) from rfl) fun v13 hv13 => ?_
    refine x_ext hv12 (show _ = some (V.bool r10.2) from rfl) fun v14 hv14 => ?_
    refine x_mv' (nf_int hv13) ?_
    refine x_mv' (nf_bool hv14) ?_
    refine x_done ?_
    refine x_tN ?_
    refine x_seq ?_
    refine x_seq ?_
    refine x_start (b := false) ?_
    refine x_mv' (show _ = (V.bool r10.2) from rfl) ?_
    refine x_un (show _ = (V.bool r10.2) from rfl) (aun_not _) ?_
    refine x_mv' (show _ = (V.bool (!r10.2)) from rfl) ?_
    by_cases hp22 : r10.2 = true
    · rw [if_pos hp22] at hD
      refine x_gy (show _ = (V.bool (!r10.2)) from rfl) (bnot_t hp22) ?_
      refine x_mv' (show _ = (V.int .i64 r10.1) from rfl) ?_
      refine x_gy (show _ = (V.bool (!r10.2)) from rfl) (bnot_t hp22) ?_
      refine x_bin (show _ = (V.int .i64 r10.1) from rfl) (show _ = (V.int .i64 0) from rfl) b_lss ?_
      refine x_pickf' (show _ = (V.bool (!r10.2)) from rfl) (bnot_t hp22) (show _ = (V.bool (decide (r10.1 < 0))) from rfl) ?_
      refine x_mv' (show _ = (V.bool (decide (r10.1 < 0))) from rfl) ?_
      by_cases hp23 : r10.1 < 0
      · rw [if_pos hp23] at hD
        refine x_gn (show _ = (V.bool (decide (r10.1 < 0))) from rfl) (decide_eq_true hp23) ?_
        refine x_gn (show _ = (V.bool (decide (r10.1 < 0))) from rfl) (decide_eq_true hp23) ?_
        refine x_gn (show _ = (V.bool (decide (r10.1 < 0))) from rfl) (decide_eq_true hp23) ?_
        refine x_gn (show _ = (V.bool (decide (r10.1 < 0))) from rfl) (decide_eq_true hp23) ?_
        refine x_gn (show _ = (V.bool (decide (r10.1 < 0))) from rfl) (decide_eq_true hp23) ?_
        refine x_pickt' (show _ = (V.bool (decide (r10.1 < 0))) from rfl) (decide_eq_true hp23) (show _ = (V.bool true) from rfl) ?_
        refine x_done ?_
        refine x_tN ?_
        refine x_ct (show _ = (V.bool true) from rfl) rfl ?_
        refine x_seq ?_
        refine x_start (b := false) ?_
        refine x_mv' (y := V.sl true 1 []) rfl ?_
        refine x_mv' (show _ = (V.int .i64 4) from rfl) ?_
        refine x_done ?_
        refine x_tN ?_
        refine x_retc ?_
        refine x_tR ?_
        obtain rfl := Option.some.inj hD
        exact hR _ (ends_tup (rvs_cons (rv_t (show V.nf _ = (V.sl false 1 (List.map V.str [])) from rfl)) (rvs_cons (rv_t (nf_of rfl (show _ = (V.int .i64 4) from rfl))) rvs_nil)) (by decide))
      · rw [if_neg hp23] at hD
        refine x_gy (show _ = (V.bool (decide (r10.1 < 0))) from rfl) (decide_eq_false hp23) ?_
        refine x_mv' (show _ = (V.int .i64 r10.1) from rfl) ?_
        refine x_gy (show _ = (V.bool (decide (r10.1 < 0))) from rfl) (decide_eq_false hp23) ?_
        refine x_mv' (nf_str h0) ?_
        refine x_gy (show _ = (V.bool (decide (r10.1 < 0))) from rfl) (decide_eq_false hp23) ?_
        refine x_lens (show _ = (V.str p0) from rfl) ?_
        refine x_gy (show _ = (V.bool (decide (r10.1 < 0))) from rfl) (decide_eq_false hp23) ?_
        refine x_bin (show _ = (V.int .i64 ((p0.length : Nat) : Int)) from rfl) (show _ = (V.int .i64 8) from rfl) (b_quo.trans (if_neg (by decide))) ?_
        refine x_gy (show _ = (V.bool (decide (r10.1 < 0))) from rfl) (decide_eq_false hp23) ?_
        refine x_bin (show _ = (V.int .i64 r10.1) from rfl) (show _ = (V.int .i64 (wi (Int.tdiv ((p0.length : Nat) : Int) 8))) from rfl) b_gtr ?_
        refine x_pickf' (show _ = (V.bool (decide (r10.1 < 0))) from rfl) (decide_eq_false hp23) (show _ = (V.bool (decide ((wi (Int.tdiv ((p0.length : Nat) : Int) 8)) < r10.1))) from rfl) ?_
        refine x_done ?_
        refine x_tN ?_
        by_cases hp24 : (wi (Int.tdiv ((p0.length : Nat) : Int) 8)) < r10.1
        · rw [if_pos hp24] at hD
          refine x_ct (show _ = (V.bool (decide ((wi (Int.tdiv ((p0.length : Nat) : Int) 8)) < r10.1))) from rfl) (decide_eq_true hp24) ?_
          refine x_seq ?_
          refine x_start (b := false) ?_
          refine x_mv' (y := V.sl true 1 []) rfl ?_
          refine x_mv' (show _ = (V.int .i64 4) from rfl) ?_
          refine x_done ?_
          refine x_tN ?_
          refine x_retc ?_
          refine x_tR ?_
          obtain rfl := Option.some.inj hD
          exact hR _ (ends_tup (rvs_cons (rv_t (show V.nf _ = (V.sl false 1 (List.map V.str [])) from rfl)) (rvs_cons (rv_t (nf_of rfl (show _ = (V.int .i64 4) from rfl))) rvs_nil)) (by decide))
        · rw [if_neg hp24] at hD
          refine x_cf (show _ = (V.bool (decide ((wi (Int.tdiv ((p0.length : Nat) : Int) 8)) < r10.1))) from rfl) (decide_eq_false hp24) ?_
          refine x_skip ?_
          refine x_tN ?_
          refine x_seq ?_
          refine x_start (b := false) ?_
          refine x_mv' (show _ = (V.int .i64 r10.1) from rfl) ?_
          refine x_mnx (show _ = (V.int .i64 r10.1) from rfl) (show _ = (V.int .i64 4096) from rfl) (vMnx_min _ _ _) ?_
          obtain ⟨u30, hx31, hD⟩ := Option.bind_eq_some_iff.1 hD
          refine x_mks (show _ = (V.int .i64 0) from rfl) (show _ = (V.int .i64 (imin r10.1 4096)) from rfl) (mk_ok hx31) fun v29 ov29 hv29 hov29 => ?_
          refine x_mvo (show V.nf _ = (V.sl false 1 (List.map V.str [])) from hv29) fun v32 ov32 hv32 hwv32 => ?_
          refine x_done ?_
          refine x_tN ?_
          refine x_seq ?_
          refine x_start (b := false) ?_
          refine x_mv' (nf_str h0) ?_
          obtain ⟨q35, hx36, hD⟩ := Option.bind_eq_some_iff.1 hD
          refine x_slsl (show _ = (V.str p0) from rfl) (show _ = (V.int .i64 8) from rfl) hx36 ?_
          refine x_mv' (show _ = (V.str q35) from rfl) ?_
          refine x_done ?_
          refine x_tN ?_
          refine x_seq ?_
          refine x_seq ?_
          refine x_start (b := false) ?_
          refine x_mv' (show _ = (V.int .i64 r10.1) from rfl) ?_
          refine x_mv' (show _ = (V.int .i64 0) from rfl) ?_
          refine x_done ?_
          refine x_tN ?_
          refine x_block ?_
          refine ok.code_Split_l1 (t36_83 := r10.1) hC_code_ReadNum (fun s185 t6_179 t7_181 h178 h178o h180 hD => ?_) (fun _ hE => ?_) _ _ _ _ _ ?_ ?_ ?_ ?_ ?_ hD
          · refine x_bE ?_
            refine x_tN ?_
            refine x_seq ?_
            refine x_seq ?_
            refine x_start (b := false) ?_
            refine x_mv' h180 ?_
            refine x_bin (show _ = (V.str t7_181) from rfl) (show _ = (V.str ([] : Bytes)) from rfl) s_neq ?_
            refine x_done ?_
            refine x_tN ?_
            by_cases hp182 : t7_181 = ([] : Bytes)
            · rw [if_pos hp182] at hD
              refine x_cf (show _ = (V.bool (!(decide (t7_181 = ([] : Bytes))))) from rfl) (bnot_t (decide_eq_true hp182)) ?_
              refine x_skip ?_
              refine x_tN ?_
              refine x_seq ?_
              refine x_start (b := false) ?_
              refine x_mvo h178 fun v183 ov183 hv183 hwv183 => ?_
              refine x_mvo hv183 fun v184 ov184 hv184 hwv184 => ?_
              refine x_mv' (show _ = (V.int .i64 0) from rfl) ?_
              refine x_done ?_
              refine x_tN ?_
              refine x_retc ?_
              obtain rfl := Option.some.inj hD
              exact hR _ (ends_tup (rvs_cons (rv_t hv184) (rvs_cons (rv_t (nf_of rfl (show _ = (V.int .i64 0) from rfl))) rvs_nil)) (by decide))
            · rw [if_neg hp182] at hD
              refine x_ct (show _ = (V.bool (!(decide (t7_181 = ([] : Bytes))))) from rfl) (bnot_f (decide_eq_false hp182)) ?_
              refine x_seq ?_
              refine x_start (b := false) ?_
              refine x_mv' (y := V.sl true 1 []) rfl ?_
              refine x_mv' (show _ = (V.int .i64 4) from rfl) ?_
              refine x_done ?_
              refine x_tN ?_
              refine x_retc ?_
              refine x_tR ?_
              obtain rfl := Option.some.inj hD
              exact hR _ (ends_tup (rvs_cons (rv_t (show V.nf _ = (V.sl false 1 (List.map V.str [])) from rfl)) (rvs_cons (rv_t (nf_of rfl (show _ = (V.int .i64 4) from rfl))) rvs_nil)) (by decide))
          · refine x_bR ?_; refine x_tR ?_; exact hR _ hE
          · exact hv32
          · exact (hwv32 hov29)
          · exact (show _ = (V.str q35) from rfl)
          · exact (show _ = (V.int .i64 r10.1) from rfl)
          · exact (show _ = (V.int .i64 0) from rfl)
    · rw [if_neg hp22] at hD
      refine x_gn (show _ = (V.bool (!r10.2)) from rfl) (bnot_f (Bool.eq_false_iff.2 hp22)) ?_
      refine x_gn (show _ = (V.bool (!r10.2)) from rfl) (bnot_f (Bool.eq_false_iff.2 hp22)) ?_
      refine x_pickt' (show _ = (V.bool (!r10.2)) from rfl) (bnot_f (Bool.eq_false_iff.2 hp22)) (show _ = (V.bool true) from rfl) ?_
      refine x_mv' (show _ = (V.bool true) from rfl) ?_
      refine x_gn (show _ = (V.bool true) from rfl) rfl ?_
      refine x_gn (show _ = (V.bool true) from rfl) rfl ?_
      refine x_gn (show _ = (V.bool true) from rfl) rfl ?_
      refine x_gn (show _ = (V.bool true) from rfl) rfl ?_
      refine x_gn (show _ = (V.bool true) from rfl) rfl ?_
      refine x_pickt' (show _ = (V.bool true) from rfl) rfl (show _ = (V.bool true) from rfl) ?_
      refine x_done ?_
      refine x_tN ?_
      refine x_ct (show _ = (V.bool true) from rfl) rfl ?_
      refine x_seq ?_
      refine x_start (b := false) ?_
      refine x_mv' (y := V.sl true 1 []) rfl ?_
      refine x_mv' (show _ = (V.int .i64 4) from rfl) ?_
      refine x_done ?_
      refine x_tN ?_
      refine x_retc ?_
      refine x_tR ?_
      obtain rfl := Option.some.inj hD
      exact hR _ (ends_tup (rvs_cons (rv_t (show V.nf _ = (V.sl false 1 (List.map V.str [])) from rfl)) (rvs_cons (rv_t (nf_of rfl (show _ = (V.int .i64 4) from rfl))) rvs_nil)) (by decide))
def K.code_Split : FC := fc F.code_Split (fun _ => true) false (fun (a : Bytes) => [(V.str a)]) (fun (y : ((List Bytes) × Int)) => (V.tup [(V.sl false 1 (List.map V.str y.1)), (V.int .i64 y.2)])) (fun a => g.code_Split a)
  (fun a => (cleanL_mk rfl rfl))
  (fun y => (cleanL_mk (E.Lstring_clean _) (cleanL_mk rfl rfl)))
  (fun a0 b0 h => by
    obtain ⟨h0, h⟩ := List.cons.inj h
    obtain rfl : a0 = b0 := V.str.inj h0
    rfl)
theorem H.code_Split (w : World) (hw : EnvOK w) : K.code_Split.Holds (cxD w) :=
  FC.holds_of (cs := [K.code_ReadNum]) (glD w) mixed cf_code_Split (fun _ _ ⟨_, _, h, _⟩ => by subst h; exact Nat.le_of_ble_eq_true rfl) fun v y ⟨a, r, hv, hD, hy⟩ => by
    subst hy
    exact ok.code_Split (specOf_calls (H.code_ReadNum w hw) (fun _ _ ⟨_, _, h, _⟩ => by subst h; rfl)) hv hD
def c_seicheref01_Num_l1 : ACode := (.seq (.seq (.region [
  ⟨(some 8), (.mv (.tmp 5)), none, []⟩, 
  ⟨(some 9), (.bin .lss .no (.tmp 8) (.const (.int .i64 8))), none, []⟩] false) (.cond (.tmp 9) .skip (.exit 0))) (.seq (.block 1 (.seq (.region [
  ⟨(some 12), (.mv (.tmp 3)), none, []⟩, 
  ⟨(some 13), (.bin .rem .no (.tmp 12) (.const (.int .u64 256))), none, []⟩, 
  ⟨(some 14), (.i2i .u8 (.tmp 13)), none, []⟩, 
  ⟨(some 15), (.bsl 1 [(.tmp 14)]), none, []⟩, 
  ⟨(some 16), (.b2s (.tmp 15)), none, []⟩, 
  ⟨(some 17), (.mv (.tmp 4)), none, []⟩, 
  ⟨(some 18), (.bin .add .no (.tmp 16) (.tmp 17)), none, []⟩, 
  ⟨(some 4), (.mv (.tmp 18)), none, []⟩] false) (.region [
  ⟨(some 19), (.mv (.tmp 3)), none, []⟩, 
  ⟨(some 20), (.bin .quo .no (.tmp 19) (.const (.int .u64 256))), none, []⟩, 
  ⟨(some 3), (.mv (.tmp 20)), none, []⟩] false))) (.region [
  ⟨(some 10), (.mv (.tmp 5)), none, []⟩, 
  ⟨(some 11), (.bin .add .no (.tmp 10) (.const (.int .i64 1))), none, []⟩, 
  ⟨(some 5), (.mv (.tmp 11)), none, []⟩] false)))
def c_seicheref01_Num : ACode := (.seq (.region [
  ⟨(some 2), (.mv (.const (.str []))), none, []⟩] false) (.seq (.region [
  ⟨(some 6), (.mv (.tmp 0)), none, []⟩, 
  ⟨(some 7), (.i2i .u64 (.tmp 6)), none, []⟩, 
  ⟨(some 3), (.mv (.tmp 7)), none, []⟩] false) (.seq (.region [
  ⟨(some 4), (.mv (.const (.str []))), none, []⟩] false) (.seq (.seq (.region [
  ⟨(some 5), (.mv (.const (.int .i64 0))), none, []⟩] false) (.block 0 (.loop c_seicheref01_Num_l1))) (.seq (.region [
  ⟨(some 21), (.mv (.tmp 4)), none, []⟩, 
  ⟨(some 2), (.mv (.tmp 21)), none, []⟩] false) .ret)))))
theorem cf_seicheref01_Num : cFn Go.Proofs.Tryd.prog F.seicheref01_Num = some ⟨22, c_seicheref01_Num, [.t 2]⟩ := by kernel_rfl
def L.seicheref01_Num_l1 (k0 : Bytes → Option Bytes) : Nat → Int → Bytes → Int → Option Bytes
  | 0, _, _, _ => none
  | n + 1, t3_13, t4_15, t5_17 =>
    if t5_17 < 8 then
      (cat ([(u8of (Int.tmod t3_13 256))] : (List UInt8)) t4_15).bind fun z23 =>
      L.seicheref01_Num_l1 k0 n (IntKind.wrap .u64 (Int.tdiv t3_13 256)) z23 (wi (t5_17 + 1))
    else
      k0 t4_15
theorem ok.seicheref01_Num_l1 {Γ : Abs.Spec} {gl : Glob} {Q : Ex → St → Prop} {r : Bytes} {k0 : Bytes → Option Bytes}
    (hk0 : ∀ (s : St) (t4_28 : Bytes), (s.tm 4 = (V.str t4_28)) → k0 t4_28 = some r → Q (.exit 0) s)
    (hR : ∀ s, EndsX [.t 2] false (V.str r) s → Q .ret s) : ∀ (n : Nat) (s : St) (t3_13 : Int) (t4_15 : Bytes) (t5_17 : Int),
    (s.tm 3 = (V.int .u64 t3_13)) → (s.tm 4 = (V.str t4_15)) → (s.tm 5 = (V.int .i64 t5_17)) → L.seicheref01_Num_l1 k0 n t3_13 t4_15 t5_17 = some r → awp Γ gl (.loop c_seicheref01_Num_l1) Q s := by
  intro n
  induction n with
  | zero => intro s t3_13 t4_15 t5_17 h12 h14 h16 hD; rw [L.seicheref01_Num_l1] at hD; cases hD
  | succ n ih =>
    intro s t3_13 t4_15 t5_17 h12 h14 h16 hD
    refine awp_roundK fun K hK => ?_
    rw [L.seicheref01_Num_l1] at hD
    refine x_seq ?_
    refine x_seq ?_
    refine x_start (b := false) ?_
    refine x_mv' h16 ?_
    refine x_bin (show _ = (V.int .i64 t5_17) from rfl) (show _ = (V.int .i64 8) from rfl) b_lss ?_
    refine x_done ?_
    refine x_tN ?_
    by_cases hp21 : t5_17 < 8
    · rw [if_pos hp21] at hD
      refine x_ct (show _ = (V.bool (decide (t5_17 < 8))) from rfl) (decide_eq_true hp21) ?_
      refine x_skip ?_
      refine x_tN ?_
      refine x_seq ?_
      refine x_block ?_
      refine x_seq ?_
      refine x_start (b := false) ?_
      refine x_mv' h12 ?_
      refine x_bin (show _ = (V.int .u64 t3_13) from rfl) (show _ = (V.int .u64 256) from rfl) (b_rem.trans (if_neg (by decide))) ?_
      refine x_i2u8 (show _ = (V.int .u64 (Int.tmod t3_13 256)) from rfl) ?_
      refine x_bsl (E := byteV) (l := ([(u8of (Int.tmod t3_13 256))] : (List UInt8))) (cons_eq (nf_of rfl (show _ = (V.int .u8 (((u8of (Int.tmod t3_13 256)) : UInt8).toNat : Int)) from rfl)) rfl) (fits_map (E := byteV) (sz := 1) (fun x => ⟨rfl, rfl⟩) _) fun v22 ov22 hv22 hov22 => ?_
      refine x_b2s hv22 ?_
      refine x_mv' h14 ?_
      obtain ⟨z23, hx24, hD⟩ := Option.bind_eq_some_iff.1 hD
      refine x_cat (show _ = (V.str ([(u8of (Int.tmod t3_13 256))] : (List UInt8))) from rfl) (show _ = (V.str t4_15) from rfl) hx24 ?_
      refine x_mv' (show _ = (V.str z23) from rfl) ?_
      refine x_done ?_
      refine x_tN ?_
      refine x_start (b := false) ?_
      refine x_mv' h12 ?_
      refine x_bin (show _ = (V.int .u64 t3_13) from rfl) (show _ = (V.int .u64 256) from rfl) (b_quo.trans (if_neg (by decide))) ?_
      refine x_mv' (show _ = (V.int .u64 (IntKind.wrap .u64 (Int.tdiv t3_13 256))) from rfl) ?_
      refine x_done ?_
      refine x_bN ?_
      refine x_tN ?_
      refine x_start (b := false) ?_
      refine x_mv' h16 ?_
      refine x_bin (show _ = (V.int .i64 t5_17) from rfl) (show _ = (V.int .i64 1) from rfl) b_add ?_
      refine x_mv' (show _ = (V.int .i64 (wi (t5_17 + 1))) from rfl) ?_
      refine x_done ?_
      refine x_tN ?_
      refine hK _ ?_
      refine ih _ _ _ _ ?_ ?_ ?_ hD
      · exact (show _ = (V.int .u64 (IntKind.wrap .u64 (Int.tdiv t3_13 256))) from rfl)
      · exact (show _ = (V.str z23) from rfl)
      · exact (show _ = (V.int .i64 (wi (t5_17 + 1))) from rfl)
    · rw [if_neg hp21] at hD
      refine x_cf (show _ = (V.bool (decide (t5_17 < 8))) from rfl) (decide_eq_false hp21) ?_
      refine x_exitc ?_
      refine x_tE ?_
      refine x_tE ?_
      refine hk0 _ _ ?_ hD
      · exact h14
def g.seicheref01_Num (p0 : Int) : Option Bytes :=
  L.seicheref01_Num_l1 (fun (t4_30 : Bytes) => some t4_30) fuel (IntKind.wrap .u64 p0) ([] : Bytes) 0
theorem ok.seicheref01_Num {Γ : Abs.Spec} {gl : Glob} {r : Bytes} {p0 : Int} {v : List V}
    (hv : nfL v = [(V.int .i64 p0)]) (hD : g.seicheref01_Num p0 = some r) : awp Γ gl c_seicheref01_Num (endQ [.t 2] false (V.str r)) (St.init v) := by
  obtain ⟨v0, v, rfl, h0, hv⟩ := nfL_cons hv
  obtain rfl := nfL_nil hv
  have hR : ∀ s, EndsX [.t 2] false (V.str r) s → endQ [.t 2] false (V.str r) .ret s := fun _ h => h
  unfold g.seicheref01_Num at hD
  unfold c_seicheref01_Num
  refine x_seq ?_
  refine x_start (b := false) ?_
  refine x_mv' (show _ = (V.str ([] : Bytes)) from rfl) ?_
  refine x_done ?_
  refine x_tN ?_
  refine x_seq ?_
  refine x_start (b := false) ?_
  refine x_mv' (nf_int h0) ?_
  refine x_i2i (show _ = (V.int .i64 p0) from rfl) ?_
  refine x_mv' (show _ = (V.int .u64 (IntKind.wrap .u64 p0)) from rfl) ?_
  refine x_done ?_
  refine x_tN ?_
  refine x_seq ?_
  refine x_start (b := false) ?_
  refine x_mv' (show _ = (V.str ([] : Bytes)) from rfl) ?_
  refine x_done ?_
  refine x_tN ?_
  refine x_seq ?_
  refine x_seq ?_
  refine x_start (b := false) ?_
  refine x_mv' (show _ = (V.int .i64 0) from rfl) ?_
  refine x_done ?_
  refine x_tN ?_
  refine x_block ?_
  refine ok.seicheref01_Num_l1 (fun s31 t4_30 h29 hD => ?_) (fun _ hE => ?_) _ _ _ _ _ ?_ ?_ ?_ hD
  · refine x_bE ?_
    refine x_tN ?_
    refine x_seq ?_
    refine x_start (b := false) ?_
    refine x_mv' h29 ?_
    refine x_mv' (show _ = (V.str t4_30) from rfl) ?_
    refine x_done ?_
    refine x_tN ?_
    refine x_retc ?_
    obtain rfl := Option.some.inj hD
    exact hR _ (ends_t (nf_of rfl (show _ = (V.str t4_30) from rfl)) (fun h => nomatch h))
  · refine x_bR ?_; refine x_tR ?_; exact hR _ hE
  · exact (show _ = (V.int .u64 (IntKind.wrap .u64 p0)) from rfl)
  · exact (show _ = (V.str ([] : Bytes)) from rfl)
  · exact (show _ = (V.int .i64 0) from rfl)
def K.seicheref01_Num : FC := fc F.seicheref01_Num (fun _ => true) false (fun (a : Int) => [(V.int .i64 a)]) (fun (y : Bytes) => (V.str y)) (fun a => g.seicheref01_Num a)
  (fun a => (cleanL_mk rfl rfl))
  (fun y => rfl)
  (fun a0 b0 h => by
    obtain ⟨h0, h⟩ := List.cons.inj h
    obtain rfl : a0 = b0 := (V.int.inj h0).2
    rfl)
theorem H.seicheref01_Num (w : World) (_hw : EnvOK w) : K.seicheref01_Num.Holds (cxD w) :=
  FC.holds_of (cs := []) (glD w) mixed cf_seicheref01_Num (fun _ _ ⟨_, _, h, _⟩ => by subst h; exact Nat.le_of_ble_eq_true rfl) fun v y ⟨a, r, hv, hD, hy⟩ => by
    subst hy
    exact ok.seicheref01_Num hv hD
def c_seicheref01_Join_l1 : ACode := (.seq (.region [
  ⟨(some 12), (.bin .lss .no (.tmp 11) (.tmp 10)), none, []⟩] false) (.seq (.cond (.tmp 12) .skip (.exit 0)) (.seq (.block 1 (.seq (.region [
  ⟨(some 13), (.iaddr 1 (.tmp 9) (.tmp 11)), none, []⟩, 
  ⟨(some 14), (.load none (.tmp 13)), none, []⟩, 
  ⟨(some 5), (.mv (.tmp 14)), none, []⟩] false) (.region [
  ⟨(some 15), (.mv (.tmp 3)), none, []⟩, 
  ⟨(some 16), (.mv (.tmp 5)), none, []⟩, 
  ⟨(some 17), (.len true (.tmp 16)), none, []⟩, 
  ⟨(some 18), (.call F.seicheref01_Num [(.tmp 17)]), none, []⟩, 
  ⟨(some 19), (.bin .add .no (.tmp 15) (.tmp 18)), none, []⟩, 
  ⟨(some 20), (.mv (.tmp 5)), none, []⟩, 
  ⟨(some 21), (.bin .add .no (.tmp 19) (.tmp 20)), none, []⟩, 
  ⟨(some 3), (.mv (.tmp 21)), none, []⟩] false))) (.region [
  ⟨(some 22), (.bin .add .no (.tmp 11) (.const (.int .i64 1))), none, []⟩, 
  ⟨(some 11), (.mv (.tmp 22)), none, []⟩] false))))
def c_seicheref01_Join : ACode := (.seq (.region [
  ⟨(some 2), (.mv (.const (.str []))), none, []⟩] false) (.seq (.region [
  ⟨(some 6), (.mv (.tmp 0)), none, []⟩, 
  ⟨(some 7), (.len false (.tmp 6)), none, []⟩, 
  ⟨(some 8), (.call F.seicheref01_Num [(.tmp 7)]), none, []⟩, 
  ⟨(some 3), (.mv (.tmp 8)), none, []⟩] false) (.seq (.seq (.region [
  ⟨(some 9), (.mv (.tmp 0)), none, []⟩, 
  ⟨(some 10), (.len false (.tmp 9)), none, []⟩, 
  ⟨(some 11), (.mv (.const (.int .i64 0))), none, []⟩] false) (.block 0 (.loop c_seicheref01_Join_l1))) (.seq (.region [
  ⟨(some 23), (.mv (.tmp 3)), none, []⟩, 
  ⟨(some 2), (.mv (.tmp 23)), none, []⟩] false) .ret))))
theorem cf_seicheref01_Join : cFn Go.Proofs.Tryd.prog F.seicheref01_Join = some ⟨24, c_seicheref01_Join, [.t 2]⟩ := by kernel_rfl
def L.seicheref01_Join_l1 (k0 : Bytes → Option Bytes) : List Bytes → Bytes → Option Bytes
  | [], t3_30 =>
    k0 t3_30
  | a33 :: rest, t3_30 =>
    (g.seicheref01_Num ((a33.length : Nat) : Int)).bind fun r39 =>
    (cat t3_30 r39).bind fun z41 =>
    (cat z41 a33).bind fun z43 =>
    L.seicheref01_Join_l1 k0 rest z43
theorem ok.seicheref01_Join_l1 {Γ : Abs.Spec} {gl : Glob} (hC_seicheref01_Num : CallsX Γ K.seicheref01_Num) {Q : Ex → St → Prop} {r : Bytes} {l11 : List Bytes} {k0 : Bytes → Option Bytes}
    (hk0 : ∀ (s : St) (t3_48 : Bytes), (s.tm 3 = (V.str t3_48)) → k0 t3_48 = some r → Q (.exit 0) s)
    (hR : ∀ s, EndsX [.t 2] false (V.str r) s → Q .ret s)
    (hlen : l11.length ≤ Lim) : ∀ (rest : List Bytes) (k12 : Nat) (s : St) (t3_30 : Bytes), l11.drop k12 = rest → k12 ≤ l11.length →
    ((s.tm 9).nf = V.sl false 1 (List.map V.str l11)) → (s.tm 10 = V.int .i64 ((l11.length : Nat) : Int)) → (s.tm 11 = V.int .i64 ((k12 : Nat) : Int)) → (s.tm 3 = (V.str t3_30)) →
    L.seicheref01_Join_l1 k0 rest t3_30 = some r → awp Γ gl (.loop c_seicheref01_Join_l1) Q s := by
  intro rest
  induction rest with
  | nil =>
    intro k12 s t3_30 hdrop hkl hX hN hI h29 hD
    have hkz := drop_nil hdrop hkl
    have hp0 : ¬ (((k12 : Nat) : Int) < ((l11.length : Nat) : Int)) := by omega
    refine awp_roundK fun K hK => ?_
    rw [L.seicheref01_Join_l1] at hD
    refine x_seq ?_
    refine x_start (b := false) ?_
    refine x_bin hI hN b_lss ?_
    refine x_done ?_
    refine x_tN ?_
    refine x_seq ?_
    refine x_cf (show _ = (V.bool (decide (((k12 : Nat) : Int) < ((l11.length : Nat) : Int)))) from rfl) (decide_eq_false hp0) ?_
    refine x_exitc ?_
    refine x_tE ?_
    refine x_tE ?_
    refine hk0 _ _ ?_ hD
    · exact h29
  | cons a33 rest ih =>
    intro k12 s t3_30 hdrop hkl hX hN hI h29 hD
    obtain ⟨hlt, -, hget, hdrop1, -⟩ := drop_cons hdrop
    have hp1 : ((k12 : Nat) : Int) < ((l11.length : Nat) : Int) := by omega
    have hwk := wi_succ (k := k12) (by unfold Lim at hlen; omega)
    refine awp_roundK fun K hK => ?_
    rw [L.seicheref01_Join_l1] at hD
    refine x_seq ?_
    refine x_start (b := false) ?_
    refine x_bin hI hN b_lss ?_
    refine x_done ?_
    refine x_tN ?_
    refine x_seq ?_
    refine x_ct (show _ = (V.bool (decide (((k12 : Nat) : Int) < ((l11.length : Nat) : Int)))) from rfl) (decide_eq_true hp1) ?_
    refine x_skip ?_
    refine x_tN ?_
    refine x_seq ?_
    refine x_block ?_
    refine x_seq ?_
    refine x_start (b := false) ?_
    refine x_iaddr hX hI (at_k hget) fun v36 (hv36 : v36.nf = V.el [(V.str a33)] 0) => ?_
    refine x_load_el hv36 (show _ = some (V.str a33) from rfl) fun v37 hv37 => ?_
    refine x_mv' (nf_str hv37) ?_
    refine x_done ?_
    refine x_tN ?_
    refine x_start (b := false) ?_
    refine x_mv' h29 ?_
    refine x_mv' (show _ = (V.str a33) from rfl) ?_
    refine x_lens (show _ = (V.str a33) from rfl) ?_
    obtain ⟨r39, hx40, hD⟩ := Option.bind_eq_some_iff.1 hD
    refine x_callF hC_seicheref01_Num (a := (((a33.length : Nat) : Int))) (cons_eq (nf_of rfl (show _ = (V.int .i64 ((a33.length : Nat) : Int)) from rfl)) rfl) hx40 fun v38 ov38 (hv38 : v38.nf = (V.str r39)) hov38 => ?_
    obtain ⟨z41, hx42, hD⟩ := Option.bind_eq_some_iff.1 hD
    refine x_cat (show _ = (V.str t3_30) from rfl) (nf_str hv38) hx42 ?_
    refine x_mv' (show _ = (V.str a33) from rfl) ?_
    obtain ⟨z43, hx44, hD⟩ := Option.bind_eq_some_iff.1 hD
    refine x_cat (show _ = (V.str z41) from rfl) (show _ = (V.str a33) from rfl) hx44 ?_
    refine x_mv' (show _ = (V.str z43) from rfl) ?_
    refine x_done ?_
    refine x_bN ?_
    refine x_tN ?_
    refine x_start (b := false) ?_
    refine x_bin hI (show _ = (V.int .i64 1) from rfl) b_add ?_
    refine x_mv' (show _ = (V.int .i64 (wi (((k12 : Nat) : Int) + 1))) from rfl) ?_
    refine x_done ?_
    refine x_tN ?_
    refine hK _ ?_
    refine ih (k12 + 1) _ _ hdrop1 hlt ?_ ?_ ?_ ?_ hD
    · exact hX
    · exact hN
    · exact (Eq.trans (show _ = (V.int .i64 (wi (((k12 : Nat) : Int) + 1))) from rfl) (congrArg (V.int .i64) hwk))
    · exact (show _ = (V.str z43) from rfl)
def g.seicheref01_Join (p0 : (List Bytes)) : Option Bytes :=
  (g.seicheref01_Num ((p0.length : Nat) : Int)).bind fun r7 =>
  if p0.length ≤ Lim then L.seicheref01_Join_l1 (fun (t3_50 : Bytes) => some t3_50) p0 r7 else none
theorem ok.seicheref01_Join {Γ : Abs.Spec} {gl : Glob} (hC_seicheref01_Num : CallsX Γ K.seicheref01_Num) {r : Bytes} {p0 : (List Bytes)} {v : List V}
    (hv : nfL v = [(V.sl false 1 (List.map V.str p0))]) (hD : g.seicheref01_Join p0 = some r) : awp Γ gl c_seicheref01_Join (endQ [.t 2] false (V.str r)) (St.init v) := by
  obtain ⟨v0, v, rfl, h0, hv⟩ := nfL_cons hv
  obtain rfl := nfL_nil hv
  have hR : ∀ s, EndsX [.t 2] false (V.str r) s → endQ [.t 2] false (V.str r) .ret s := fun _ h => h
  unfold g.seicheref01_Join at hD
  unfold c_seicheref01_Join
  refine x_seq ?_
  refine x_start (b := false) ?_
  refine x_mv' (show _ = (V.str ([] : Bytes)) from rfl) ?_
  refine x_done ?_
  refine x_tN ?_
  refine x_seq ?_
  refine x_start (b := false) ?_
  refine x_mv h0 fun v5 hv5 => ?_
  refine x_len hv5 ?_
  obtain ⟨r7, hx8, hD⟩ := Option.bind_eq_some_iff.1 hD
  refine x_callF hC_seicheref01_Num (a := (((p0.length : Nat) : Int))) (cons_eq (nf_of rfl (show _ = (V.int .i64 ((p0.length : Nat) : Int)) from rfl)) rfl) hx8 fun v6 ov6 (hv6 : v6.nf = (V.str r7)) hov6 => ?_
  refine x_mv' (nf_str hv6) ?_
  refine x_done ?_
  refine x_tN ?_
  refine x_seq ?_
  refine x_seq ?_
  refine x_start (b := false) ?_
  refine x_mv h0 fun v10 hv10 => ?_
  refine x_len hv10 ?_
  refine x_mv' (show _ = (V.int .i64 0) from rfl) ?_
  refine x_done ?_
  refine x_tN ?_
  refine x_block ?_
  by_cases hlen52 : p0.length ≤ Lim
  · rw [if_pos hlen52] at hD
    refine ok.seicheref01_Join_l1 (l11 := p0) hC_seicheref01_Num (fun s51 t3_50 h49 hD => ?_) (fun _ hE => ?_) hlen52 _ 0 _ _ rfl (Nat.zero_le _) ?_ ?_ ?_ ?_ hD
    · refine x_bE ?_
      refine x_tN ?_
      refine x_seq ?_
      refine x_start (b := false) ?_
      refine x_mv' h49 ?_
      refine x_mv' (show _ = (V.str t3_50) from rfl) ?_
      refine x_done ?_
      refine x_tN ?_
      refine x_retc ?_
      obtain rfl := Option.some.inj hD
      exact hR _ (ends_t (nf_of rfl (show _ = (V.str t3_50) from rfl)) (fun h => nomatch h))
    · refine x_bR ?_; refine x_tR ?_; exact hR _ hE
    · exact hv10
    · exact (show _ = (V.int .i64 ((p0.length : Nat) : Int)) from rfl)
    · exact (show _ = (V.int .i64 0) from rfl)
    · exact (show _ = (V.str r7) from rfl)
  · rw [if_neg hlen52] at hD; cases hD
def K.seicheref01_Join : FC := fc F.seicheref01_Join (fun _ => true) false (fun (a : (List Bytes)) => [(V.sl false 1 (List.map V.str a))]) (fun (y : Bytes) => (V.str y)) (fun a => g.seicheref01_Join a)
  (fun a => (cleanL_mk (E.Lstring_clean _) rfl))
  (fun y => rfl)
  (fun a0 b0 h => by
    obtain ⟨h0, h⟩ := List.cons.inj h
    obtain rfl : a0 = b0 := E.Lstring_inj h0
    rfl)
theorem H.seicheref01_Join (w : World) (hw : EnvOK w) : K.seicheref01_Join.Holds (cxD w) :=
  FC.holds_of (cs := [K.seicheref01_Num]) (glD w) mixed cf_seicheref01_Join (fun _ _ ⟨_, _, h, _⟩ => by subst h; exact Nat.le_of_ble_eq_true rfl) fun v y ⟨a, r, hv, hD, hy⟩ => by
    subst hy
    exact ok.seicheref01_Join (specOf_calls (H.seicheref01_Num w hw) (fun _ _ ⟨_, _, h, _⟩ => by subst h; rfl)) hv hD
def c_seicheref01_number_l1 : ACode := (.seq (.seq (.region [
  ⟨(some 9), (.mv (.tmp 5)), none, []⟩, 
  ⟨(some 10), (.bin .lss .no (.tmp 9) (.const (.int .i64 8))), none, []⟩] false) (.cond (.tmp 10) .skip (.exit 0))) (.seq (.block 1 (.seq (.seq (.region [
  ⟨(some 13), (.mv (.tmp 4)), none, []⟩, 
  ⟨(some 14), (.bin .gtr .no (.tmp 13) (.const (.int .i64 1099511627776))), none, []⟩] false) (.cond (.tmp 14) (.seq (.region [
  ⟨(some 2), (.mv (.const (.int .i64 0))), none, []⟩, 
  ⟨(some 3), (.mv (.const (.bool false))), none, []⟩] false) .ret) .skip)) (.region [
  ⟨(some 15), (.mv (.tmp 4)), none, []⟩, 
  ⟨(some 16), (.bin .mul .no (.const (.int .i64 256)) (.tmp 15)), none, []⟩, 
  ⟨(some 17), (.mv (.tmp 0)), none, []⟩, 
  ⟨(some 18), (.mv (.tmp 5)), none, []⟩, 
  ⟨(some 19), (.idx (.tmp 17) (.tmp 18)), none, []⟩, 
  ⟨(some 20), (.i2i .i64 (.tmp 19)), none, []⟩, 
  ⟨(some 21), (.bin .add .no (.tmp 16) (.tmp 20)), none, []⟩, 
  ⟨(some 4), (.mv (.tmp 21)), none, []⟩] false))) (.region [
  ⟨(some 11), (.mv (.tmp 5)), none, []⟩, 
  ⟨(some 12), (.bin .add .no (.tmp 11) (.const (.int .i64 1))), none, []⟩, 
  ⟨(some 5), (.mv (.tmp 12)), none, []⟩] false)))
def c_seicheref01_number : ACode := (.seq (.region [
  ⟨(some 2), (.mv (.const (.int .i64 0))), none, []⟩, 
  ⟨(some 3), (.mv (.const (.bool false))), none, []⟩] false) (.seq (.seq (.region [
  ⟨(some 6), (.mv (.tmp 0)), none, []⟩, 
  ⟨(some 7), (.len true (.tmp 6)), none, []⟩, 
  ⟨(some 8), (.bin .lss .no (.tmp 7) (.const (.int .i64 8))), none, []⟩] false) (.cond (.tmp 8) (.seq (.region [
  ⟨(some 2), (.mv (.const (.int .i64 0))), none, []⟩, 
  ⟨(some 3), (.mv (.const (.bool false))), none, []⟩] false) .ret) .skip)) (.seq (.region [
  ⟨(some 4), (.mv (.const (.int .i64 0))), none, []⟩] false) (.seq (.seq (.region [
  ⟨(some 5), (.mv (.const (.int .i64 0))), none, []⟩] false) (.block 0 (.loop c_seicheref01_number_l1))) (.seq (.region [
  ⟨(some 22), (.mv (.tmp 4)), none, []⟩, 
  ⟨(some 23), (.mv (.tmp 4)), none, []⟩, 
  ⟨(some 24), (.bin .leq .no (.tmp 23) (.const (.int .i64 1099511627776))), none, []⟩, 
  ⟨(some 2), (.mv (.tmp 22)), none, []⟩, 
  ⟨(some 3), (.mv (.tmp 24)), none, []⟩] false) .ret)))))
theorem cf_seicheref01_number : cFn Go.Proofs.Tryd.prog F.seicheref01_number = some ⟨25, c_seicheref01_number, [.t 2, .t 3]⟩ := by kernel_rfl
def L.seicheref01_number_l1 (t0_17 : Bytes) (k0 : Int → Option (Int × Bool)) : Nat → Int → Int → Option (Int × Bool)
  | 0, _, _ => none
  | n + 1, t4_31, t5_33 =>
    if t5_33 < 8 then
      if 1099511627776 < t4_31 then
        some (0, false)
      else
        (at? t0_17 t5_33).bind fun b40 =>
        L.seicheref01_number_l1 t0_17 k0 n (wi ((wi (256 * t4_31)) + ((b40).toNat : Int))) (wi (t5_33 + 1))
    else
      k0 t4_31
theorem ok.seicheref01_number_l1 {Γ : Abs.Spec} {gl : Glob} {Q : Ex → St → Prop} {r : (Int × Bool)} {t0_17 : Bytes} {k0 : Int → Option (Int × Bool)}
    (hk0 : ∀ (s : St) (t4_45 : Int), (s.tm 4 = (V.int .i64 t4_45)) → k0 t4_45 = some r → Q (.exit 0) s)
    (hR : ∀ s, EndsX [.t 2, .t 3] false (V.tup [(V.int .i64 r.1), (V.bool r.2)]) s → Q .ret s) : ∀ (n : Nat) (s : St) (t4_31 : Int) (t5_33 : Int),
    (s.tm 0 = (V.str t0_17)) → (s.tm 4 = (V.int .i64 t4_31)) → (s.tm 5 = (V.int .i64 t5_33)) → L.seicheref01_number_l1 t0_17 k0 n t4_31 t5_33 = some r → awp Γ gl (.loop c_seicheref01_number_l1) Q s := by
  intro n
  induction n with
  | zero => intro s t4_31 t5_33 h29 h30 h32 hD; rw [L.seicheref01_number_l1] at hD; cases hD
  | succ n ih =>
    intro s t4_31 t5_33 h29 h30 h32 hD
    refine awp_roundK fun K hK => ?_
    rw [L.seicheref01_number_l1] at hD
    refine x_seq ?_
    refine x_seq ?_
    refine x_start (b := false) ?_
    refine x_mv' h32 ?_
    refine x_bin (show _ = (V.int .i64 t5_33) from rfl) (show _ = (V.int .i64 8) from rfl) b_lss ?_
    refine x_done ?_
    refine x_tN ?_
    by_cases hp37 : t5_33 < 8
    · rw [if_pos hp37] at hD
      refine x_ct (show _ = (V.bool (decide (t5_33 < 8))) from rfl) (decide_eq_true hp37) ?_
      refine x_skip ?_
      refine x_tN ?_
      refine x_seq ?_
      refine x_block ?_
      refine x_seq ?_
      refine x_seq ?_
      refine x_start (b := false) ?_
      refine x_mv' h30 ?_
      refine x_bin (show _ = (V.int .i64 t4_31) from rfl) (show _ = (V.int .i64 1099511627776) from rfl) b_gtr ?_
      refine x_done ?_
      refine x_tN ?_
      by_cases hp39 : 1099511627776 < t4_31
      · rw [if_pos hp39] at hD
        refine x_ct (show _ = (V.bool (decide (1099511627776 < t4_31))) from rfl) (decide_eq_true hp39) ?_
        refine x_seq ?_
        refine x_start (b := false) ?_
        refine x_mv' (show _ = (V.int .i64 0) from rfl) ?_
        refine x_mv' (show _ = (V.bool false) from rfl) ?_
        refine x_done ?_
        refine x_tN ?_
        refine x_retc ?_
        refine x_tR ?_
        refine x_bR ?_
        refine x_tR ?_
        refine x_tR ?_
        obtain rfl := Option.some.inj hD
        exact hR _ (ends_tup (rvs_cons (rv_t (nf_of rfl (show _ = (V.int .i64 0) from rfl))) (rvs_cons (rv_t (nf_of rfl (show _ = (V.bool false) from rfl))) rvs_nil)) (by decide))
      · rw [if_neg hp39] at hD
        refine x_cf (show _ = (V.bool (decide (1099511627776 < t4_31))) from rfl) (decide_eq_false hp39) ?_
        refine x_skip ?_
        refine x_tN ?_
        refine x_start (b := false) ?_
        refine x_mv' h30 ?_
        refine x_bin (show _ = (V.int .i64 256) from rfl) (show _ = (V.int .i64 t4_31) from rfl) b_mul ?_
        refine x_mv' h29 ?_
        refine x_mv' h32 ?_
        obtain ⟨b40, hx41, hD⟩ := Option.bind_eq_some_iff.1 hD
        refine x_idx (show _ = (V.str t0_17) from rfl) (show _ = (V.int .i64 t5_33) from rfl) hx41 ?_
        refine x_i2i_u8 (kd := .i64) (show _ = (V.int .u8 ((b40 : UInt8).toNat : Int)) from rfl) (wrap_byte (by decide)) ?_
        refine x_bin (show _ = (V.int .i64 (wi (256 * t4_31))) from rfl) (show _ = (V.int .i64 ((b40).toNat : Int)) from rfl) b_add ?_
        refine x_mv' (show _ = (V.int .i64 (wi ((wi (256 * t4_31)) + ((b40).toNat : Int)))) from rfl) ?_
        refine x_done ?_
        refine x_bN ?_
        refine x_tN ?_
        refine x_start (b := false) ?_
        refine x_mv' h32 ?_
        refine x_bin (show _ = (V.int .i64 t5_33) from rfl) (show _ = (V.int .i64 1) from rfl) b_add ?_
        refine x_mv' (show _ = (V.int .i64 (wi (t5_33 + 1))) from rfl) ?_
        refine x_done ?_
        refine x_tN ?_
        refine hK _ ?_
        refine ih _ _ _ ?_ ?_ ?_ hD
        · exact h29
        · exact (show _ = (V.int .i64 (wi ((wi (256 * t4_31)) + ((b40).toNat : Int)))) from rfl)
        · exact (show _ = (V.int .i64 (wi (t5_33 + 1))) from rfl)
    · rw [if_neg hp37] at hD
      refine x_cf (show _ = (V.bool (decide (t5_33 < 8))) from rfl) (decide_eq_false hp37) ?_
      refine x_exitc ?_
      refine x_tE ?_
      refine x_tE ?_
      refine hk0 _ _ ?_ hD
      · exact h30
def g.seicheref01_number (p0 : Bytes) : Option (Int × Bool) :=
  if ((p0.length : Nat) : Int) < 8 then
    some (0, false)
  else
    L.seicheref01_number_l1 p0 (fun (t4_47 : Int) => some (t4_47, (decide (t4_47 ≤ 1099511627776)))) fuel 0 0
theorem ok.seicheref01_number {Γ : Abs.Spec} {gl : Glob} {r : (Int × Bool)} {p0 : Bytes} {v : List V}
    (hv : nfL v = [(V.str p0)]) (hD : g.seicheref01_number p0 = some r) : awp Γ gl c_seicheref01_number (endQ [.t 2, .t 3] false (V.tup [(V.int .i64 r.1), (V.bool r.2)])) (St.init v) := by
  obtain ⟨v0, v, rfl, h0, hv⟩ := nfL_cons hv
  obtain rfl := nfL_nil hv
  have hR : ∀ s, EndsX [.t 2, .t 3] false (V.tup [(V.int .i64 r.1), (V.bool r.2)]) s → endQ [.t 2, .t 3] false (V.tup [(V.int .i64 r.1), (V.bool r.2)]) .ret s := fun _ h => h
  unfold g.seicheref01_number at hD
  unfold c_seicheref01_number
  refine x_seq ?_
  refine x_start (b := false) ?_
  refine x_mv' (show _ = (V.int .i64 0) from rfl) ?_
  refine x_mv' (show _ = (V.bool false) from rfl) ?_
  refine x_done ?_
  refine x_tN ?_
  refine x_seq ?_
  refine x_seq ?_
  refine x_start (b := false) ?_
  refine x_mv' (nf_str h0) ?_
  refine x_lens (show _ = (V.str p0) from rfl) ?_
  refine x_bin (show _ = (V.int .i64 ((p0.length : Nat) : Int)) from rfl) (show _ = (V.int .i64 8) from rfl) b_lss ?_
  refine x_done ?_
  refine x_tN ?_
  by_cases hp2 : ((p0.length : Nat) : Int) < 8
  · rw [if_pos hp2] at hD
    refine x_ct (show _ = (V.bool (decide (((p0.length : Nat) : Int) < 8))) from rfl) (decide_eq_true hp2) ?_
    refine x_seq ?_
    refine x_start (b := false) ?_
    refine x_mv' (show _ = (V.int .i64 0) from rfl) ?_
    refine x_mv' (show _ = (V.bool false) from rfl) ?_
    refine x_done ?_
    refine x_tN ?_
    refine x_retc ?_
    refine x_tR ?_
    obtain rfl := Option.some.inj hD
    exact hR _ (ends_tup (rvs_cons (rv_t (nf_of rfl (show _ = (V.int .i64 0) from rfl))) (rvs_cons (rv_t (nf_of rfl (show _ = (V.bool false) from rfl))) rvs_nil)) (by decide))
  · rw [if_neg hp2] at hD
    refine x_cf (show _ = (V.bool (decide (((p0.length : Nat) : Int) < 8))) from rfl) (decide_eq_false hp2) ?_
    refine x_skip ?_
    refine x_tN ?_
    refine x_seq ?_
    refine x_start (b := false) ?_
    refine x_mv' (show _ = (V.int .i64 0) from rfl) ?_
    refine x_done ?_
    refine x_tN ?_
    refine x_seq ?_
    refine x_seq ?_
    refine x_start (b := false) ?_
    refine x_mv' (show _ = (V.int .i64 0) from rfl) ?_
    refine x_done ?_
    refine x_tN ?_
    refine x_block ?_
    refine ok.seicheref01_number_l1 (t0_17 := p0) (fun s48 t4_47 h46 hD => ?_) (fun _ hE => ?_) _ _ _ _ ?_ ?_ ?_ hD
    · refine x_bE ?_
      refine x_tN ?_
      refine x_seq ?_
      refine x_start (b := false) ?_
      refine x_mv' h46 ?_
      refine x_mv' h46 ?_
      refine x_bin (show _ = (V.int .i64 t4_47) from rfl) (show _ = (V.int .i64 1099511627776) from rfl) b_leq ?_
      refine x_mv' (show _ = (V.int .i64 t4_47) from rfl) ?_
      refine x_mv' (show _ = (V.bool (decide (t4_47 ≤ 1099511627776))) from rfl) ?_
      refine x_done ?_
      refine x_tN ?_
      refine x_retc ?_
      obtain rfl := Option.some.inj hD
      exact hR _ (ends_tup (rvs_cons (rv_t (nf_of rfl (show _ = (V.int .i64 t4_47) from rfl))) (rvs_cons (rv_t (nf_of rfl (show _ = (V.bool (decide (t4_47 ≤ 1099511627776))) from rfl))) rvs_nil)) (by decide))
    · refine x_bR ?_; refine x_tR ?_; exact hR _ hE
    · exact (nf_str h0)
    · exact (show _ = (V.int .i64 0) from rfl)
    · exact (show _ = (V.int .i64 0) from rfl)
def K.seicheref01_number : FC := fc F.seicheref01_number (fun _ => true) false (fun (a : Bytes) => [(V.str a)]) (fun (y : (Int × Bool)) => (V.tup [(V.int .i64 y.1), (V.bool y.2)])) (fun a => g.seicheref01_number a)
  (fun a => (cleanL_mk rfl rfl))
  (fun y => (cleanL_mk rfl (cleanL_mk rfl rfl)))
  (fun a0 b0 h => by
    obtain ⟨h0, h⟩ := List.cons.inj h
    obtain rfl : a0 = b0 := V.str.inj h0
    rfl)
theorem H.seicheref01_number (w : World) (_hw : EnvOK w) : K.seicheref01_number.Holds (cxD w) :=
  FC.holds_of (cs := []) (glD w) mixed cf_seicheref01_number (fun _ _ ⟨_, _, h, _⟩ => by subst h; exact Nat.le_of_ble_eq_true rfl) fun v y ⟨a, r, hv, hD, hy⟩ => by
    subst hy
    exact ok.seicheref01_number hv hD
def c_seicheref01_Split_l1 : ACode := (.seq (.seq (.region [
  ⟨(some 18), (.mv (.tmp 4)), none, []⟩, 
  ⟨(some 19), (.bin .gtr .no (.tmp 18) (.const (.int .i64 0))), none, []⟩] false) (.cond (.tmp 19) .skip (.exit 0))) (.seq (.block 1 (.seq (.region [
  ⟨(some 23), (.mv (.tmp 0)), none, []⟩, 
  ⟨(some 24), (.call F.seicheref01_number [(.tmp 23)]), none, []⟩, 
  ⟨(some 22), (.mv (.tmp 24)), none, []⟩, 
  ⟨(some 25), (.ext (.tmp 22) 0), none, []⟩, 
  ⟨(some 26), (.ext (.tmp 22) 1), none, []⟩, 
  ⟨(some 7), (.mv (.tmp 25)), none, []⟩, 
  ⟨(some 8), (.mv (.tmp 26)), none, []⟩] false) (.seq (.seq (.region [
  ⟨(some 27), (.mv (.tmp 8)), none, []⟩, 
  ⟨(some 28), (.un .not (.tmp 27)), none, []⟩, 
  ⟨(some 29), (.mv (.tmp 28)), none, []⟩, 
  ⟨(some 30), (.mv (.tmp 7)), (some (29, false)), []⟩, 
  ⟨(some 31), (.mv (.tmp 0)), (some (29, false)), []⟩, 
  ⟨(some 32), (.len true (.tmp 31)), (some (29, false)), []⟩, 
  ⟨(some 33), (.bin .sub .no (.tmp 32) (.const (.int .i64 8))), (some (29, false)), []⟩, 
  ⟨(some 34), (.bin .gtr .no (.tmp 30) (.tmp 33)), (some (29, false)), []⟩, 
  ⟨(some 35), (.pick (.tmp 29) (.const (.bool true)) (.tmp 34)), none, []⟩] false) (.cond (.tmp 35) (.seq (.region [
  ⟨(some 2), (.mv (.const (.sl true 1 []))), none, []⟩, 
  ⟨(some 3), (.mv (.const (.bool false))), none, []⟩] false) .ret) .skip)) (.seq (.region [
  ⟨(some 36), (.mvo 6), none, []⟩, 
  ⟨(some 37), (.mv (.tmp 0)), none, []⟩, 
  ⟨(some 38), (.mv (.tmp 7)), none, []⟩, 
  ⟨(some 39), (.bin .add .no (.const (.int .i64 8)) (.tmp 38)), none, []⟩, 
  ⟨(some 40), (.sls (.tmp 37) (some (.const (.int .i64 8))) (some (.tmp 39))), none, []⟩, 
  ⟨(some 41), (.bsl 1 [(.tmp 40)]), none, []⟩, 
  ⟨(some 42), (.app 1 (.tmp 36) (.tmp 41)), none, []⟩, 
  ⟨(some 6), (.mvo 42), none, []⟩] false) (.region [
  ⟨(some 43), (.mv (.tmp 0)), none, []⟩, 
  ⟨(some 44), (.mv (.tmp 7)), none, []⟩, 
  ⟨(some 45), (.bin .add .no (.const (.int .i64 8)) (.tmp 44)), none, []⟩, 
  ⟨(some 46), (.sls (.tmp 43) (some (.tmp 45)) none), none, []⟩, 
  ⟨(some 0), (.mv (.tmp 46)), none, []⟩] false))))) (.region [
  ⟨(some 20), (.mv (.tmp 4)), none, []⟩, 
  ⟨(some 21), (.bin .sub .no (.tmp 20) (.const (.int .i64 1))), none, []⟩, 
  ⟨(some 4), (.mv (.tmp 21)), none, []⟩] false)))
def c_seicheref01_Split : ACode := (.seq (.region [
  ⟨(some 2), (.mv (.const (.sl true 1 []))), none, []⟩, 
  ⟨(some 3), (.mv (.const (.bool false))), none, []⟩] false) (.seq (.region [
  ⟨(some 10), (.mv (.tmp 0)), none, []⟩, 
  ⟨(some 11), (.call F.seicheref01_number [(.tmp 10)]), none, []⟩, 
  ⟨(some 9), (.mv (.tmp 11)), none, []⟩, 
  ⟨(some 12), (.ext (.tmp 9) 0), none, []⟩, 
  ⟨(some 13), (.ext (.tmp 9) 1), none, []⟩, 
  ⟨(some 4), (.mv (.tmp 12)), none, []⟩, 
  ⟨(some 5), (.mv (.tmp 13)), none, []⟩] false) (.seq (.seq (.region [
  ⟨(some 14), (.mv (.tmp 5)), none, []⟩, 
  ⟨(some 15), (.un .not (.tmp 14)), none, []⟩] false) (.cond (.tmp 15) (.seq (.region [
  ⟨(some 2), (.mv (.const (.sl true 1 []))), none, []⟩, 
  ⟨(some 3), (.mv (.const (.bool false))), none, []⟩] false) .ret) .skip)) (.seq (.region [
  ⟨(some 16), (.mv (.tmp 0)), none, []⟩, 
  ⟨(some 17), (.sls (.tmp 16) (some (.const (.int .i64 8))) none), none, []⟩, 
  ⟨(some 0), (.mv (.tmp 17)), none, []⟩] false) (.seq (.region [
  ⟨(some 6), (.mv (.const (.sl true 1 []))), none, []⟩] false) (.seq (.block 0 (.loop c_seicheref01_Split_l1)) (.seq (.region [
  ⟨(some 47), (.mvo 6), none, []⟩, 
  ⟨(some 48), (.mv (.tmp 0)), none, []⟩, 
  ⟨(some 49), (.bin .eql .no (.tmp 48) (.const (.str []))), none, []⟩, 
  ⟨(some 2), (.mvo 47), none, []⟩, 
  ⟨(some 3), (.mv (.tmp 49)), none, []⟩] false) .ret)))))))
theorem cf_seicheref01_Split : cFn Go.Proofs.Tryd.prog F.seicheref01_Split = some ⟨50, c_seicheref01_Split, [.t 2, .t 3]⟩ := by kernel_rfl
def L.seicheref01_Split_l1 (k0 : Bytes → (List Bytes) → Option ((List Bytes) × Bool)) : Nat → Bytes → Int → (List Bytes) → Option ((List Bytes) × Bool)
  | 0, _, _, _ => none
  | n + 1, t0_112, t4_114, t6_116 =>
    if 0 < t4_114 then
      (g.seicheref01_number t0_112).bind fun r130 =>
      if r130.2 = true then
        if (wi (((t0_112.length : Nat) : Int) - 8)) < r130.1 then
          some ([], false)
        else
          (cut t0_112 8 (wi (8 + r130.1))).bind fun q150 =>
          (appL t6_116 ([q150] : (List Bytes))).bind fun l153 =>
          (cut t0_112 (wi (8 + r130.1)) (t0_112.length : Nat)).bind fun q157 =>
          L.seicheref01_Split_l1 k0 n q157 (wi (t4_114 - 1)) l153
      else
        some ([], false)
    else
      k0 t0_112 t6_116
theorem ok.seicheref01_Split_l1 {Γ : Abs.Spec} {gl : Glob} (hC_seicheref01_number : CallsX Γ K.seicheref01_number) {Q : Ex → St → Prop} {r : ((List Bytes) × Bool)} {k0 : Bytes → (List Bytes) → Option ((List Bytes) × Bool)}
    (hk0 : ∀ (s : St) (t0_164 : Bytes) (t6_166 : (List Bytes)), (s.tm 0 = (V.str t0_164)) → ((s.tm 6).nf = (V.sl false 1 (List.map V.str t6_166))) → (OwnS s 6) → k0 t0_164 t6_166 = some r → Q (.exit 0) s)
    (hR : ∀ s, EndsX [.t 2, .t 3] false (V.tup [(V.sl false 1 (List.map V.str r.1)), (V.bool r.2)]) s → Q .ret s) : ∀ (n : Nat) (s : St) (t0_112 : Bytes) (t4_114 : Int) (t6_116 : (List Bytes)),
    (s.tm 0 = (V.str t0_112)) → (s.tm 4 = (V.int .i64 t4_114)) → ((s.tm 6).nf = (V.sl false 1 (List.map V.str t6_116))) → (OwnS s 6) → L.seicheref01_Split_l1 k0 n t0_112 t4_114 t6_116 = some r → awp Γ gl (.loop c_seicheref01_Split_l1) Q s := by
  intro n
  induction n with
  | zero => intro s t0_112 t4_114 t6_116 h111 h113 h115 h115o hD; rw [L.seicheref01_Split_l1] at hD; cases hD
  | succ n ih =>
    intro s t0_112 t4_114 t6_116 h111 h113 h115 h115o hD
    refine awp_roundK fun K hK => ?_
    rw [L.seicheref01_Split_l1] at hD
    refine x_seq ?_
    refine x_seq ?_
    refine x_start (b := false) ?_
    refine x_mv' h113 ?_
    refine x_bin (show _ = (V.int .i64 t4_114) from rfl) (show _ = (V.int .i64 0) from rfl) b_gtr ?_
    refine x_done ?_
    refine x_tN ?_
    by_cases hp122 : 0 < t4_114
    · rw [if_pos hp122] at hD
      refine x_ct (show _ = (V.bool (decide (0 < t4_114))) from rfl) (decide_eq_true hp122) ?_
      refine x_skip ?_
      refine x_tN ?_
      refine x_seq ?_
      refine x_block ?_
      refine x_seq ?_
      refine x_start (b := false) ?_
      refine x_mv' h111 ?_
      obtain ⟨r130, hx131, hD⟩ := Option.bind_eq_some_iff.1 hD
      refine x_callF hC_seicheref01_number (a := (t0_112)) (cons_eq (nf_of rfl (show _ = (V.str t0_112) from rfl)) rfl) hx131 fun v129 ov129 (hv129 : v129.nf = (V.tup [(V.int .i64 r130.1), (V.bool r130.2)])) hov129 => ?_
      refine x_mv hv129 fun v132 hv132 => ?_
      refine x_ext hv132 (show _ = some (V.int .i64 r130.1) from rfl) fun v133 hv133 => ?_
      refine x_ext hv132 (show _ = some (V.bool r130.2) from rfl) fun v134 hv134 => ?_
      refine x_mv' (nf_int hv133) ?_
      refine x_mv' (nf_bool hv134) ?_
      refine x_done ?_
      refine x_tN ?_
      refine x_seq ?_
      refine x_seq ?_
      refine x_start (b := false) ?_
      refine x_mv' (show _ = (V.bool r130.2) from rfl) ?_
      refine x_un (show _ = (V.bool r130.2) from rfl) (aun_not _) ?_
      refine x_mv' (show _ = (V.bool (!r130.2)) from rfl) ?_
      by_cases hp139 : r130.2 = true
      · rw [if_pos hp139] at hD
        refine x_gy (show _ = (V.bool (!r130.2)) from rfl) (bnot_t hp139) ?_
        refine x_mv' (show _ = (V.int .i64 r130.1) from rfl) ?_
        refine x_gy (show _ = (V.bool (!r130.2)) from rfl) (bnot_t hp139) ?_
        refine x_mv' h111 ?_
        refine x_gy (show _ = (V.bool (!r130.2)) from rfl) (bnot_t hp139) ?_
        refine x_lens (show _ = (V.str t0_112) from rfl) ?_
        refine x_gy (show _ = (V.bool (!r130.2)) from rfl) (bnot_t hp139) ?_
        refine x_bin (show _ = (V.int .i64 ((t0_112.length : Nat) : Int)) from rfl) (show _ = (V.int .i64 8) from rfl) b_sub ?_
        refine x_gy (show _ = (V.bool (!r130.2)) from rfl) (bnot_t hp139) ?_
        refine x_bin (show _ = (V.int .i64 r130.1) from rfl) (show _ = (V.int .i64 (wi (((t0_112.length : Nat) : Int) - 8))) from rfl) b_gtr ?_
        refine x_pickf' (show _ = (V.bool (!r130.2)) from rfl) (bnot_t hp139) (show _ = (V.bool (decide ((wi (((t0_112.length : Nat) : Int) - 8)) < r130.1))) from rfl) ?_
        refine x_done ?_
        refine x_tN ?_
        by_cases hp140 : (wi (((t0_112.length : Nat) : Int) - 8)) < r130.1
        · rw [if_pos hp140] at hD
          refine x_ct (show _ = (V.bool (decide ((wi (((t0_112.length : Nat) : Int) - 8)) < r130.1))) from rfl) (decide_eq_true hp140) ?_
          refine x_seq ?_
          refine x_start (b := false) ?_
          refine x_mv' (y := V.sl true 1 []) rfl ?_
          refine x_mv' (show _ = (V.bool false) from rfl) ?_
          refine x_done ?_
          refine x_tN ?_
          refine x_retc ?_
          refine x_tR ?_
          refine x_bR ?_
          refine x_tR ?_
          refine x_tR ?_
          obtain rfl := Option.some.inj hD
          exact hR _ (ends_tup (rvs_cons (rv_t (show V.nf _ = (V.sl false 1 (List.map V.str [])) from rfl)) (rvs_cons (rv_t (nf_of rfl (show _ = (V.bool false) from rfl))) rvs_nil)) (by decide))
        · rw [if_neg hp140] at hD
          refine x_cf (show _ = (V.bool (decide ((wi (((t0_112.length : Nat) : Int) - 8)) < r130.1))) from rfl) (decide_eq_false hp140) ?_
          refine x_skip ?_
          refine x_tN ?_
          refine x_seq ?_
          refine x_start (b := false) ?_
          refine x_mvo h115 fun v149 ov149 hv149 hwv149 => ?_
          refine x_mv' h111 ?_
          refine x_mv' (show _ = (V.int .i64 r130.1) from rfl) ?_
          refine x_bin (show _ = (V.int .i64 8) from rfl) (show _ = (V.int .i64 r130.1) from rfl) b_add ?_
          obtain ⟨q150, hx151, hD⟩ := Option.bind_eq_some_iff.1 hD
          refine x_slslh (show _ = (V.str t0_112) from rfl) (show _ = (V.int .i64 8) from rfl) (show _ = (V.int .i64 (wi (8 + r130.1))) from rfl) hx151 ?_
          refine x_bsl (E := V.str) (l := ([q150] : (List Bytes))) (cons_eq (nf_of rfl (show _ = (V.str q150) from rfl)) rfl) (fits_map (E := V.str) (sz := 1) (fun x => ⟨rfl, rfl⟩) _) fun v152 ov152 hv152 hov152 => ?_
          obtain ⟨l153, hx154, hD⟩ := Option.bind_eq_some_iff.1 hD
          refine x_app hv149 (hwv149 h115o) (tail_sl hv152) hx154 fun v155 ov155 fv155 hv155 hov155 hfv155 => ?_
          refine x_mvo hv155 fun v156 ov156 hv156 hwv156 => ?_
          refine x_done ?_
          refine x_tN ?_
          refine x_start (b := false) ?_
          refine x_mv' h111 ?_
          refine x_mv' (show _ = (V.int .i64 r130.1) from rfl) ?_
          refine x_bin (show _ = (V.int .i64 8) from rfl) (show _ = (V.int .i64 r130.1) from rfl) b_add ?_
          obtain ⟨q157, hx158, hD⟩ := Option.bind_eq_some_iff.1 hD
          refine x_slsl (show _ = (V.str t0_112) from rfl) (show _ = (V.int .i64 (wi (8 + r130.1))) from rfl) hx158 ?_
          refine x_mv' (show _ = (V.str q157) from rfl) ?_
          refine x_done ?_
          refine x_bN ?_
          refine x_tN ?_
          refine x_start (b := false) ?_
          refine x_mv' h113 ?_
          refine x_bin (show _ = (V.int .i64 t4_114) from rfl) (show _ = (V.int .i64 1) from rfl) b_sub ?_
          refine x_mv' (show _ = (V.int .i64 (wi (t4_114 - 1))) from rfl) ?_
          refine x_done ?_
          refine x_tN ?_
          refine hK _ ?_
          refine ih _ _ _ _ ?_ ?_ ?_ ?_ hD
          · exact (show _ = (V.str q157) from rfl)
          · exact (show _ = (V.int .i64 (wi (t4_114 - 1))) from rfl)
          · exact hv156
          · exact (hwv156 hov155)
      · rw [if_neg hp139] at hD
        refine x_gn (show _ = (V.bool (!r130.2)) from rfl) (bnot_f (Bool.eq_false_iff.2 hp139)) ?_
        refine x_gn (show _ = (V.bool (!r130.2)) from rfl) (bnot_f (Bool.eq_false_iff.2 hp139)) ?_
        refine x_gn (show _ = (V.bool (!r130.2)) from rfl) (bnot_f (Bool.eq_false_iff.2 hp139)) ?_
        refine x_gn (show _ = (V.bool (!r130.2)) from rfl) (bnot_f (Bool.eq_false_iff.2 hp139)) ?_
        refine x_gn (show _ = (V.bool (!r130.2)) from rfl) (bnot_f (Bool.eq_false_iff.2 hp139)) ?_
        refine x_pickt' (show _ = (V.bool (!r130.2)) from rfl) (bnot_f (Bool.eq_false_iff.2 hp139)) (show _ = (V.bool true) from rfl) ?_
        refine x_done ?_
        refine x_tN ?_
        refine x_ct (show _ = (V.bool true) from rfl) rfl ?_
        refine x_seq ?_
        refine x_start (b := false) ?_
        refine x_mv' (y := V.sl true 1 []) rfl ?_
        refine x_mv' (show _ = (V.bool false) from rfl) ?_
        refine x_done ?_
        refine x_tN ?_
        refine x_retc ?_
        refine x_tR ?_
        refine x_bR ?_
        refine x_tR ?_
        refine x_tR ?_
        obtain rfl := Option.some.inj hD
        exact hR _ (ends_tup (rvs_cons (rv_t (show V.nf _ = (V.sl false 1 (List.map V.str [])) from rfl)) (rvs_cons (rv_t (nf_of rfl (show _ = (V.bool false) from rfl))) rvs_nil)) (by decide))
    · rw [if_neg hp122] at hD
      refine x_cf (show _ = (V.bool (decide (0 < t4_114))) from rfl) (decide_eq_false hp122) ?_
      refine x_exitc ?_
      refine x_tE ?_
      refine x_tE ?_
      refine hk0 _ _ _ ?_ ?_ ?_ hD
      · exact h111
      · exact h115
      · exact h115o
def g.seicheref01_Split (p0 : Bytes) : Option ((List Bytes) × Bool) :=
  (g.seicheref01_number p0).bind fun r8 =>
  if r8.2 = true then
    (cut p0 8 (p0.length : Nat)).bind fun q17 =>
    L.seicheref01_Split_l1 (fun (t0_168 : Bytes) (t6_170 : (List Bytes)) => some (t6_170, (decide (t0_168 = ([] : Bytes))))) fuel q17 r8.1 []
  else
    some ([], false)
theorem ok.seicheref01_Split {Γ : Abs.Spec} {gl : Glob} (hC_seicheref01_number : CallsX Γ K.seicheref01_number) {r : ((List Bytes) × Bool)} {p0 : Bytes} {v : List V}
    (hv : nfL v = [(V.str p0)]) (hD : g.seicheref01_Split p0 = some r) : awp Γ gl c_seicheref01_Split (endQ [.t 2, .t 3] false (V.tup [(V.sl false 1 (List.map V.str r.1)), (V.bool r.2)])) (St.init v) := by
  obtain ⟨v0, v, rfl, h0, hv⟩ := nfL_cons hv
  obtain rfl := nfL_nil hv
  have hR : ∀ s, EndsX [.t 2, .t 3] false (V.tup [(V.sl false 1 (List.map V.str r.1)), (V.bool r.2)]) s → endQ [.t 2, .t 3] false (V.tup [(V.sl false 1 (List.map V.str r.1)), (V.bool r.2)]) .ret s := fun _ h => h
  unfold g.seicheref01_Split at hD
  unfold c_seicheref01_Split
  refine x_seq ?_
  refine x_start (b := false) ?_
  refine x_mv' (y := V.sl true 1 []) rfl ?_
  refine x_mv' (show _ = (V.bool false) from rfl) ?_
  refine x_done ?_
  refine x_tN ?_
  refine x_seq ?_
  refine x_start (b := false) ?_
  refine x_mv' (nf_str h0) ?_
  obtain ⟨r8, hx9, hD⟩ := Option.bind_eq_some_iff.1 hD
  refine x_callF hC_seicheref01_number (a := (p0)) (cons_eq (nf_of rfl (show _ = (V.str p0) from rfl)) rfl) hx9 fun v7 ov7 (hv7 : v7.nf = (V.tup [(V.int .i64 r8.1), (V.bool r8.2)])) hov7 => ?_
  refine x_mv hv7 fun v10 hv10 => ?_
  refine x_ext hv10 (show _ = some (V.int .i64 r8.1) from rfl) fun v11 hv11 => ?_
  refine x_ext hv10 (show _ = some (V.bool r8.2) from rfl) fun v12 hv12 => ?_
  refine x_mv' (nf_int hv11) ?_
  refine x_mv' (nf_bool hv12) ?_
  refine x_done ?_
  refine x_tN ?_
  refine x_seq ?_
  refine x_seq ?_
  refine x_start (b := false) ?_
  refine x_mv' (show _ = (V.bool r8.2) from rfl) ?_
  refine x_un (show _ = (V.bool r8.2) from rfl) (aun_not _) ?_
  refine x_done ?_
  refine x_tN ?_
  by_cases hp14 : r8.2 = true
  · rw [if_pos hp14] at hD
    refine x_cf (show _ = (V.bool (!r8.2)) from rfl) (bnot_t hp14) ?_
    refine x_skip ?_
    refine x_tN ?_
    refine x_seq ?_
    refine x_start (b := false) ?_
    refine x_mv' (nf_str h0) ?_
    obtain ⟨q17, hx18, hD⟩ := Option.bind_eq_some_iff.1 hD
    refine x_slsl (show _ = (V.str p0) from rfl) (show _ = (V.int .i64 8) from rfl) hx18 ?_
    refine x_mv' (show _ = (V.str q17) from rfl) ?_
    refine x_done ?_
    refine x_tN ?_
    refine x_seq ?_
    refine x_start (b := false) ?_
    refine x_mv' (y := V.sl true 1 []) rfl ?_
    refine x_done ?_
    refine x_tN ?_
    refine x_seq ?_
    refine x_block ?_
    refine ok.seicheref01_Split_l1 hC_seicheref01_number (fun s173 t0_168 t6_170 h167 h169 h169o hD => ?_) (fun _ hE => ?_) _ _ _ _ _ ?_ ?_ ?_ ?_ hD
    · refine x_bE ?_
      refine x_tN ?_
      refine x_seq ?_
      refine x_start (b := false) ?_
      refine x_mvo h169 fun v171 ov171 hv171 hwv171 => ?_
      refine x_mv' h167 ?_
      refine x_bin (show _ = (V.str t0_168) from rfl) (show _ = (V.str ([] : Bytes)) from rfl) s_eql ?_
      refine x_mvo hv171 fun v172 ov172 hv172 hwv172 => ?_
      refine x_mv' (show _ = (V.bool (decide (t0_168 = ([] : Bytes)))) from rfl) ?_
      refine x_done ?_
      refine x_tN ?_
      refine x_retc ?_
      obtain rfl := Option.some.inj hD
      exact hR _ (ends_tup (rvs_cons (rv_t hv172) (rvs_cons (rv_t (nf_of rfl (show _ = (V.bool (decide (t0_168 = ([] : Bytes)))) from rfl))) rvs_nil)) (by decide))
    · refine x_bR ?_; refine x_tR ?_; exact hR _ hE
    · exact (show _ = (V.str q17) from rfl)
    · exact (show _ = (V.int .i64 r8.1) from rfl)
    · exact (show V.nf _ = (V.sl false 1 (List.map V.str [])) from rfl)
    · exact (Or.inr ⟨1, rfl⟩)
  · rw [if_neg hp14] at hD
    refine x_ct (show _ = (V.bool (!r8.2)) from rfl) (bnot_f (Bool.eq_false_iff.2 hp14)) ?_
    refine x_seq ?_
    refine x_start (b := false) ?_
    refine x_mv' (y := V.sl true 1 []) rfl ?_
    refine x_mv' (show _ = (V.bool false) from rfl) ?_
    refine x_done ?_
    refine x_tN ?_
    refine x_retc ?_
    refine x_tR ?_
    obtain rfl := Option.some.inj hD
    exact hR _ (ends_tup (rvs_cons (rv_t (show V.nf _ = (V.sl false 1 (List.map V.str [])) from rfl)) (rvs_cons (rv_t (nf_of rfl (show _ = (V.bool false) from rfl))) rvs_nil)) (by decide))
def K.seicheref01_Split : FC := fc F.seicheref01_Split (fun _ => true) false (fun (a : Bytes) => [(V.str a)]) (fun (y : ((List Bytes) × Bool)) => (V.tup [(V.sl false 1 (List.map V.str y.1)), (V.bool y.2)])) (fun a => g.seicheref01_Split a)
  (fun a => (cleanL_mk rfl rfl))
  (fun y => (cleanL_mk (E.Lstring_clean _) (cleanL_mk rfl rfl)))
  (fun a0 b0 h => by
    obtain ⟨h0, h⟩ := List.cons.inj h
    obtain rfl : a0 = b0 := V.str.inj h0
    rfl)
theorem H.seicheref01_Split (w : World) (hw : EnvOK w) : K.seicheref01_Split.Holds (cxD w) :=
  FC.holds_of (cs := [K.seicheref01_number]) (glD w) mixed cf_seicheref01_Split (fun _ _ ⟨_, _, h, _⟩ => by subst h; exact Nat.le_of_ble_eq_true rfl) fun v y ⟨a, r, hv, hD, hy⟩ => by
    subst hy
    exact ok.seicheref01_Split (specOf_calls (H.seicheref01_number w hw) (fun _ _ ⟨_, _, h, _⟩ => by subst h; rfl)) hv hD
end Go.Proofs.YtainplhaaklpeaaDoor
