/-
  Functions of the program as Lean functions over plain data, and the proofs that the loaded code comes to them. Printed by a program of this seat (wip/gen/gen.py).
-/
import Derived.Test.YtainplhaaklpeaaDoorProg
import Derived.Test.YtainplhaaklpeaaDoorL3
namespace Go.Proofs.YtainplhaaklpeaaDoor
open Go.Abs Go.RowKit

def F.plus_Line : Nat := 56
def F.plus_Lines : Nat := 57
def F.strings_Split : Nat := 73
def F.strings_Join : Nat := 75
def F.strings_CutPrefix : Nat := 82
def F.strings_FieldsFunc : Nat := 83
def F.plus_Line_1 : Nat := 84
def F.plus_joined : Nat := 85
def F.plus_option : Nat := 86
def F.internal_stringslite_CutPrefix : Nat := 103
def F.plus_term : Nat := 104
def F.seicheref13_Tag : Nat := 105
def F.internal_stringslite_HasPrefix : Nat := 112
def F.expr_Tag : Nat := 113
def F.seicheref13_Sign : Nat := 114
def F.slices_ContainsFunc_Lbyte_byte : Nat := 122
def F.expr_Tag_1 : Nat := 123
def F.expr_tag : Nat := 124
def F.slices_IndexFunc_Lbyte_byte : Nat := 130
def c_internal_stringslite_HasPrefix : ACode := (.seq (.region [
  ⟨(some 4), (.mv (.const (.bool false))), none, []⟩] false) (.seq (.region [
  ⟨(some 5), (.mv (.tmp 0)), none, []⟩, 
  ⟨(some 6), (.len true (.tmp 5)), none, []⟩, 
  ⟨(some 7), (.mv (.tmp 1)), none, []⟩, 
  ⟨(some 8), (.len true (.tmp 7)), none, []⟩, 
  ⟨(some 9), (.bin .geq .no (.tmp 6) (.tmp 8)), none, []⟩, 
  ⟨(some 10), (.mv (.tmp 9)), none, []⟩, 
  ⟨(some 11), (.mv (.tmp 0)), (some (10, true)), []⟩, 
  ⟨(some 12), (.mv (.tmp 1)), (some (10, true)), []⟩, 
  ⟨(some 13), (.len true (.tmp 12)), (some (10, true)), []⟩, 
  ⟨(some 14), (.sls (.tmp 11) none (some (.tmp 13))), (some (10, true)), []⟩, 
  ⟨(some 15), (.mv (.tmp 1)), (some (10, true)), []⟩, 
  ⟨(some 16), (.bin .eql .no (.tmp 14) (.tmp 15)), (some (10, true)), []⟩, 
  ⟨(some 17), (.pick (.tmp 10) (.tmp 16) (.const (.bool false))), none, []⟩, 
  ⟨(some 4), (.mv (.tmp 17)), none, []⟩] false) .ret))
theorem cf_internal_stringslite_HasPrefix : cFn Go.Proofs.Tryd.prog F.internal_stringslite_HasPrefix = some ⟨18, c_internal_stringslite_HasPrefix, [.t 4]⟩ := by kernel_rfl
def g.internal_stringslite_HasPrefix (p0 : Bytes) (p1 : Bytes) : Option Bool :=
  if ((p1.length : Nat) : Int) ≤ ((p0.length : Nat) : Int) then
    (cut p0 0 ((p1.length : Nat) : Int)).bind fun q2 =>
    some (decide (q2 = p1))
  else
    some false
theorem ok.internal_stringslite_HasPrefix {Γ : Abs.Spec} {gl : Glob} {r : Bool} {p0 : Bytes} {p1 : Bytes} {v : List V}
    (hv : nfL v = [(V.str p0), (V.str p1)]) (hD : g.internal_stringslite_HasPrefix p0 p1 = some r) : awp Γ gl c_internal_stringslite_HasPrefix (endQ [.t 4] false (V.bool r)) (St.init v) := by
  obtain ⟨v0, v, rfl, h0, hv⟩ := nfL_cons hv
  obtain ⟨v1, v, rfl, h1, hv⟩ := nfL_cons hv
  obtain rfl := nfL_nil hv
  have hR : ∀ s, EndsX [.t 4] false (V.bool r) s → endQ [.t 4] false (V.bool r) .ret s := fun _ h => h
  unfold g.internal_stringslite_HasPrefix at hD
  unfold c_internal_stringslite_HasPrefix
  refine x_seq ?_
  refine x_start (b := false) ?_
  refine x_mv' (show _ = (V.bool false) from rfl) ?_
  refine x_done ?_
  refine x_tN ?_
  refine x_seq ?_
  refine x_start (b := false) ?_
  refine x_mv' (nf_str h0) ?_
  refine x_lens (show _ = (V.str p0) from rfl) ?_
  refine x_mv' (nf_str h1) ?_
  refine x_lens (show _ = (V.str p1) from rfl) ?_
  refine x_bin (show _ = (V.int .i64 ((p0.length : Nat) : Int)) from rfl) (show _ = (V.int .i64 ((p1.length : Nat) : Int)) from rfl) b_geq ?_
  refine x_mv' (show _ = (V.bool (decide (((p1.length : Nat) : Int) ≤ ((p0.length : Nat) : Int)))) from rfl) ?_
  by_cases hp1 : ((p1.length : Nat) : Int) ≤ ((p0.length : Nat) : Int)
  · rw [if_pos hp1] at hD
    refine x_gy (show _ = (V.bool (decide (((p1.length : Nat) : Int) ≤ ((p0.length : Nat) : Int)))) from rfl) (decide_eq_true hp1) ?_
    refine x_mv' (nf_str h0) ?_
    refine x_gy (show _ = (V.bool (decide (((p1.length : Nat) : Int) ≤ ((p0.length : Nat) : Int)))) from rfl) (decide_eq_true hp1) ?_
    refine x_mv' (nf_str h1) ?_
    refine x_gy (show _ = (V.bool (decide (((p1.length : Nat) : Int) ≤ ((p0.length : Nat) : Int)))) from rfl) (decide_eq_true hp1) ?_
    refine x_lens (show _ = (V.str p1) from rfl) ?_
    refine x_gy (show _ = (V.bool (decide (((p1.length : Nat) : Int) ≤ ((p0.length : Nat) : Int)))) from rfl) (decide_eq_true hp1) ?_
    obtain ⟨q2, hx3, hD⟩ := Option.bind_eq_some_iff.1 hD
    refine x_slsh (show _ = (V.str p0) from rfl) (show _ = (V.int .i64 ((p1.length : Nat) : Int)) from rfl) hx3 ?_
    refine x_gy (show _ = (V.bool (decide (((p1.length : Nat) : Int) ≤ ((p0.length : Nat) : Int)))) from rfl) (decide_eq_true hp1) ?_
    refine x_mv' (nf_str h1) ?_
    refine x_gy (show _ = (V.bool (decide (((p1.length : Nat) : Int) ≤ ((p0.length : Nat) : Int)))) from rfl) (decide_eq_true hp1) ?_
    refine x_bin (show _ = (V.str q2) from rfl) (show _ = (V.str p1) from rfl) s_eql ?_
    refine x_pickt' (show _ = (V.bool (decide (((p1.length : Nat) : Int) ≤ ((p0.length : Nat) : Int)))) from rfl) (decide_eq_true hp1) (show _ = (V.bool (decide (q2 = p1))) from rfl) ?_
    refine x_mv' (show _ = (V.bool (decide (q2 = p1))) from rfl) ?_
    refine x_done ?_
    refine x_tN ?_
    refine x_retc ?_
    obtain rfl := Option.some.inj hD
    exact hR _ (ends_t (nf_of rfl (show _ = (V.bool (decide (q2 = p1))) from rfl)) (fun h => nomatch h))
  · rw [if_neg hp1] at hD
    refine x_gn (show _ = (V.bool (decide (((p1.length : Nat) : Int) ≤ ((p0.length : Nat) : Int)))) from rfl) (decide_eq_false hp1) ?_
    refine x_gn (show _ = (V.bool (decide (((p1.length : Nat) : Int) ≤ ((p0.length : Nat) : Int)))) from rfl) (decide_eq_false hp1) ?_
    refine x_gn (show _ = (V.bool (decide (((p1.length : Nat) : Int) ≤ ((p0.length : Nat) : Int)))) from rfl) (decide_eq_false hp1) ?_
    refine x_gn (show _ = (V.bool (decide (((p1.length : Nat) : Int) ≤ ((p0.length : Nat) : Int)))) from rfl) (decide_eq_false hp1) ?_
    refine x_gn (show _ = (V.bool (decide (((p1.length : Nat) : Int) ≤ ((p0.length : Nat) : Int)))) from rfl) (decide_eq_false hp1) ?_
    refine x_gn (show _ = (V.bool (decide (((p1.length : Nat) : Int) ≤ ((p0.length : Nat) : Int)))) from rfl) (decide_eq_false hp1) ?_
    refine x_pickf' (show _ = (V.bool (decide (((p1.length : Nat) : Int) ≤ ((p0.length : Nat) : Int)))) from rfl) (decide_eq_false hp1) (show _ = (V.bool false) from rfl) ?_
    refine x_mv' (show _ = (V.bool false) from rfl) ?_
    refine x_done ?_
    refine x_tN ?_
    refine x_retc ?_
    obtain rfl := Option.some.inj hD
    exact hR _ (ends_t (nf_of rfl (show _ = (V.bool false) from rfl)) (fun h => nomatch h))
def K.internal_stringslite_HasPrefix : FC := fc F.internal_stringslite_HasPrefix (fun _ => true) false (fun (a : (Bytes × Bytes)) => [(V.str a.1), (V.str a.2)]) (fun (y : Bool) => (V.bool y)) (fun a => g.internal_stringslite_HasPrefix a.1 a.2)
  (fun a => (cleanL_mk rfl (cleanL_mk rfl rfl)))
  (fun y => rfl)
  (fun ⟨a0, a1⟩ ⟨b0, b1⟩ h => by
    obtain ⟨h0, h⟩ := List.cons.inj h
    obtain rfl : a0 = b0 := V.str.inj h0
    obtain ⟨h0, h⟩ := List.cons.inj h
    obtain rfl : a1 = b1 := V.str.inj h0
    rfl)
theorem H.internal_stringslite_HasPrefix (w : World) (_hw : EnvOK w) : K.internal_stringslite_HasPrefix.Holds (cxD w) :=
  FC.holds_of (cs := []) (glD w) mixed cf_internal_stringslite_HasPrefix (fun _ _ ⟨_, _, h, _⟩ => by subst h; exact Nat.le_of_ble_eq_true rfl) fun v y ⟨a, r, hv, hD, hy⟩ => by
    subst hy
    exact ok.internal_stringslite_HasPrefix hv hD
def c_internal_stringslite_CutPrefix : ACode := (.seq (.region [
  ⟨(some 4), (.mv (.const (.str []))), none, []⟩, 
  ⟨(some 5), (.mv (.const (.bool false))), none, []⟩] false) (.seq (.seq (.region [
  ⟨(some 6), (.mv (.tmp 0)), none, []⟩, 
  ⟨(some 7), (.mv (.tmp 1)), none, []⟩, 
  ⟨(some 8), (.call F.internal_stringslite_HasPrefix [(.tmp 6), (.tmp 7)]), none, []⟩, 
  ⟨(some 9), (.un .not (.tmp 8)), none, []⟩] false) (.cond (.tmp 9) (.seq (.region [
  ⟨(some 10), (.mv (.tmp 0)), none, []⟩, 
  ⟨(some 4), (.mv (.tmp 10)), none, []⟩, 
  ⟨(some 5), (.mv (.const (.bool false))), none, []⟩] false) .ret) .skip)) (.seq (.region [
  ⟨(some 11), (.mv (.tmp 0)), none, []⟩, 
  ⟨(some 12), (.mv (.tmp 1)), none, []⟩, 
  ⟨(some 13), (.len true (.tmp 12)), none, []⟩, 
  ⟨(some 14), (.sls (.tmp 11) (some (.tmp 13)) none), none, []⟩, 
  ⟨(some 4), (.mv (.tmp 14)), none, []⟩, 
  ⟨(some 5), (.mv (.const (.bool true))), none, []⟩] false) .ret)))
theorem cf_internal_stringslite_CutPrefix : cFn Go.Proofs.Tryd.prog F.internal_stringslite_CutPrefix = some ⟨15, c_internal_stringslite_CutPrefix, [.t 4, .t 5]⟩ := by kernel_rfl
def g.internal_stringslite_CutPrefix (p0 : Bytes) (p1 : Bytes) : Option (Bytes × Bool) :=
  (g.internal_stringslite_HasPrefix p0 p1).bind fun r12 =>
  if r12 = true then
    (cut p0 ((p1.length : Nat) : Int) (p0.length : Nat)).bind fun q15 =>
    some (q15, true)
  else
    some (p0, false)
theorem ok.internal_stringslite_CutPrefix {Γ : Abs.Spec} {gl : Glob} (hC_internal_stringslite_HasPrefix : CallsX Γ K.internal_stringslite_HasPrefix) {r : (Bytes × Bool)} {p0 : Bytes} {p1 : Bytes} {v : List V}
    (hv : nfL v = [(V.str p0), (V.str p1)]) (hD : g.internal_stringslite_CutPrefix p0 p1 = some r) : awp Γ gl c_internal_stringslite_CutPrefix (endQ [.t 4, .t 5] false (V.tup [(V.str r.1), (V.bool r.2)])) (St.init v) := by
  obtain ⟨v0, v, rfl, h0, hv⟩ := nfL_cons hv
  obtain ⟨v1, v, rfl, h1, hv⟩ := nfL_cons hv
  obtain rfl := nfL_nil hv
  have hR : ∀ s, EndsX [.t 4, .t 5] false (V.tup [(V.str r.1), (V.bool r.2)]) s → endQ [.t 4, .t 5] false (V.tup [(V.str r.1), (V.bool r.2)]) .ret s := fun _ h => h
  unfold g.internal_stringslite_CutPrefix at hD
  unfold c_internal_stringslite_CutPrefix
  refine x_seq ?_
  refine x_start (b := false) ?_
  refine x_mv' (show _ = (V.str ([] : Bytes)) from rfl) ?_
  refine x_mv' (show _ = (V.bool false) from rfl) ?_
  refine x_done ?_
  refine x_tN ?_
  refine x_seq ?_
  refine x_seq ?_
  refine x_start (b := false) ?_
  refine x_mv' (nf_str h0) ?_
  refine x_mv' (nf_str h1) ?_
  obtain ⟨r12, hx13, hD⟩ := Option.bind_eq_some_iff.1 hD
  refine x_callF hC_internal_stringslite_HasPrefix (a := (p0, p1)) (cons_eq (nf_of rfl (show _ = (V.str p0) from rfl)) (cons_eq (nf_of rfl (show _ = (V.str p1) from rfl)) rfl)) hx13 fun v11 ov11 (hv11 : v11.nf = (V.bool r12)) hov11 => ?_
  refine x_un (nf_bool hv11) (aun_not _) ?_
  refine x_done ?_
  refine x_tN ?_
  by_cases hp14 : r12 = true
  · rw [if_pos hp14] at hD
    refine x_cf (show _ = (V.bool (!r12)) from rfl) (bnot_t hp14) ?_
    refine x_skip ?_
    refine x_tN ?_
    refine x_seq ?_
    refine x_start (b := false) ?_
    refine x_mv' (nf_str h0) ?_
    refine x_mv' (nf_str h1) ?_
    refine x_lens (show _ = (V.str p1) from rfl) ?_
    obtain ⟨q15, hx16, hD⟩ := Option.bind_eq_some_iff.1 hD
    refine x_slsl (show _ = (V.str p0) from rfl) (show _ = (V.int .i64 ((p1.length : Nat) : Int)) from rfl) hx16 ?_
    refine x_mv' (show _ = (V.str q15) from rfl) ?_
    refine x_mv' (show _ = (V.bool true) from rfl) ?_
    refine x_done ?_
    refine x_tN ?_
    refine x_retc ?_
    obtain rfl := Option.some.inj hD
    exact hR _ (ends_tup (rvs_cons (rv_t (nf_of rfl (show _ = (V.str q15) from rfl))) (rvs_cons (rv_t (nf_of rfl (show _ = (V.bool true) from rfl))) rvs_nil)) (by decide))
  · rw [if_neg hp14] at hD
    refine x_ct (show _ = (V.bool (!r12)) from rfl) (bnot_f (Bool.eq_false_iff.2 hp14)) ?_
    refine x_seq ?_
    refine x_start (b := false) ?_
    refine x_mv' (nf_str h0) ?_
    refine x_mv' (show _ = (V.str p0) from rfl) ?_
    refine x_mv' (show _ = (V.bool false) from rfl) ?_
    refine x_done ?_
    refine x_tN ?_
    refine x_retc ?_
    refine x_tR ?_
    obtain rfl := Option.some.inj hD
    exact hR _ (ends_tup (rvs_cons (rv_t (nf_of rfl (show _ = (V.str p0) from rfl))) (rvs_cons (rv_t (nf_of rfl (show _ = (V.bool false) from rfl))) rvs_nil)) (by decide))
def K.internal_stringslite_CutPrefix : FC := fc F.internal_stringslite_CutPrefix (fun _ => true) false (fun (a : (Bytes × Bytes)) => [(V.str a.1), (V.str a.2)]) (fun (y : (Bytes × Bool)) => (V.tup [(V.str y.1), (V.bool y.2)])) (fun a => g.internal_stringslite_CutPrefix a.1 a.2)
  (fun a => (cleanL_mk rfl (cleanL_mk rfl rfl)))
  (fun y => (cleanL_mk rfl (cleanL_mk rfl rfl)))
  (fun ⟨a0, a1⟩ ⟨b0, b1⟩ h => by
    obtain ⟨h0, h⟩ := List.cons.inj h
    obtain rfl : a0 = b0 := V.str.inj h0
    obtain ⟨h0, h⟩ := List.cons.inj h
    obtain rfl : a1 = b1 := V.str.inj h0
    rfl)
theorem H.internal_stringslite_CutPrefix (w : World) (hw : EnvOK w) : K.internal_stringslite_CutPrefix.Holds (cxD w) :=
  FC.holds_of (cs := [K.internal_stringslite_HasPrefix]) (glD w) mixed cf_internal_stringslite_CutPrefix (fun _ _ ⟨_, _, h, _⟩ => by subst h; exact Nat.le_of_ble_eq_true rfl) fun v y ⟨a, r, hv, hD, hy⟩ => by
    subst hy
    exact ok.internal_stringslite_CutPrefix (specOf_calls (H.internal_stringslite_HasPrefix w hw) (fun _ _ ⟨_, _, h, _⟩ => by subst h; rfl)) hv hD
def c_strings_CutPrefix : ACode := (.seq (.region [
  ⟨(some 4), (.mv (.const (.str []))), none, []⟩, 
  ⟨(some 5), (.mv (.const (.bool false))), none, []⟩] false) (.seq (.region [
  ⟨(some 6), (.mv (.tmp 0)), none, []⟩, 
  ⟨(some 7), (.mv (.tmp 1)), none, []⟩, 
  ⟨(some 8), (.call F.internal_stringslite_CutPrefix [(.tmp 6), (.tmp 7)]), none, []⟩, 
  ⟨(some 9), (.ext (.tmp 8) 0), none, []⟩, 
  ⟨(some 10), (.ext (.tmp 8) 1), none, []⟩, 
  ⟨(some 4), (.mv (.tmp 9)), none, []⟩, 
  ⟨(some 5), (.mv (.tmp 10)), none, []⟩] false) .ret))
theorem cf_strings_CutPrefix : cFn Go.Proofs.Tryd.prog F.strings_CutPrefix = some ⟨11, c_strings_CutPrefix, [.t 4, .t 5]⟩ := by kernel_rfl
def g.strings_CutPrefix (p0 : Bytes) (p1 : Bytes) : Option (Bytes × Bool) :=
  (g.internal_stringslite_CutPrefix p0 p1).bind fun r2 =>
  some (r2.1, r2.2)
theorem ok.strings_CutPrefix {Γ : Abs.Spec} {gl : Glob} (hC_internal_stringslite_CutPrefix : CallsX Γ K.internal_stringslite_CutPrefix) {r : (Bytes × Bool)} {p0 : Bytes} {p1 : Bytes} {v : List V}
    (hv : nfL v = [(V.str p0), (V.str p1)]) (hD : g.strings_CutPrefix p0 p1 = some r) : awp Γ gl c_strings_CutPrefix (endQ [.t 4, .t 5] false (V.tup [(V.str r.1), (V.bool r.2)])) (St.init v) := by
  obtain ⟨v0, v, rfl, h0, hv⟩ := nfL_cons hv
  obtain ⟨v1, v, rfl, h1, hv⟩ := nfL_cons hv
  obtain rfl := nfL_nil hv
  have hR : ∀ s, EndsX [.t 4, .t 5] false (V.tup [(V.str r.1), (V.bool r.2)]) s → endQ [.t 4, .t 5] false (V.tup [(V.str r.1), (V.bool r.2)]) .ret s := fun _ h => h
  unfold g.strings_CutPrefix at hD
  unfold c_strings_CutPrefix
  refine x_seq ?_
  refine x_start (b := false) ?_
  refine x_mv' (show _ = (V.str ([] : Bytes)) from rfl) ?_
  refine x_mv' (show _ = (V.bool false) from rfl) ?_
  refine x_done ?_
  refine x_tN ?_
  refine x_seq ?_
  refine x_start (b := false) ?_
  refine x_mv' (nf_str h0) ?_
  refine x_mv' (nf_str h1) ?_
  obtain ⟨r2, hx3, hD⟩ := Option.bind_eq_some_iff.1 hD
  refine x_callF hC_internal_stringslite_CutPrefix (a := (p0, p1)) (cons_eq (nf_of rfl (show _ = (V.str p0) from rfl)) (cons_eq (nf_of rfl (show _ = (V.str p1) from rfl)) rfl)) hx3 fun v1 ov1 (hv1 : v1.nf = (V.tup [(V.str r2.1), (V.bool r2.2)])) hov1 => ?_
  refine x_ext hv1 (show _ = some (V.str r2.1) from rfl) fun v4 hv4 => ?_
  refine x_ext hv1 (show _ = some (V.bool r2.2) from rfl) fun v5 hv5 => ?_
  refine x_mv' (nf_str hv4) ?_
  refine x_mv' (nf_bool hv5) ?_
  refine x_done ?_
  refine x_tN ?_
  refine x_retc ?_
  obtain rfl := Option.some.inj hD
  exact hR _ (ends_tup (rvs_cons (rv_t (nf_of rfl (show _ = (V.str r2.1) from rfl))) (rvs_cons (rv_t (nf_of rfl (show _ = (V.bool r2.2) from rfl))) rvs_nil)) (by decide))
def K.strings_CutPrefix : FC := fc F.strings_CutPrefix (fun _ => true) false (fun (a : (Bytes × Bytes)) => [(V.str a.1), (V.str a.2)]) (fun (y : (Bytes × Bool)) => (V.tup [(V.str y.1), (V.bool y.2)])) (fun a => g.strings_CutPrefix a.1 a.2)
  (fun a => (cleanL_mk rfl (cleanL_mk rfl rfl)))
  (fun y => (cleanL_mk rfl (cleanL_mk rfl rfl)))
  (fun ⟨a0, a1⟩ ⟨b0, b1⟩ h => by
    obtain ⟨h0, h⟩ := List.cons.inj h
    obtain rfl : a0 = b0 := V.str.inj h0
    obtain ⟨h0, h⟩ := List.cons.inj h
    obtain rfl : a1 = b1 := V.str.inj h0
    rfl)
theorem H.strings_CutPrefix (w : World) (hw : EnvOK w) : K.strings_CutPrefix.Holds (cxD w) :=
  FC.holds_of (cs := [K.internal_stringslite_CutPrefix]) (glD w) mixed cf_strings_CutPrefix (fun _ _ ⟨_, _, h, _⟩ => by subst h; exact Nat.le_of_ble_eq_true rfl) fun v y ⟨a, r, hv, hD, hy⟩ => by
    subst hy
    exact ok.strings_CutPrefix (specOf_calls (H.internal_stringslite_CutPrefix w hw) (fun _ _ ⟨_, _, h, _⟩ => by subst h; rfl)) hv hD
def c_expr_tag : ACode := (.seq (.region [
  ⟨(some 2), (.mv (.const (.bool false))), none, []⟩] false) (.seq (.region [
  ⟨(some 3), (.mv (.tmp 0)), none, []⟩, 
  ⟨(some 4), (.bin .leq .no (.const (.int .u8 97)) (.tmp 3)), none, []⟩, 
  ⟨(some 5), (.mv (.tmp 4)), none, []⟩, 
  ⟨(some 6), (.mv (.tmp 0)), (some (5, true)), []⟩, 
  ⟨(some 7), (.bin .leq .no (.tmp 6) (.const (.int .u8 122))), (some (5, true)), []⟩, 
  ⟨(some 8), (.pick (.tmp 5) (.tmp 7) (.const (.bool false))), none, []⟩, 
  ⟨(some 9), (.mv (.tmp 8)), none, []⟩, 
  ⟨(some 10), (.mv (.tmp 0)), (some (9, false)), []⟩, 
  ⟨(some 11), (.bin .leq .no (.const (.int .u8 65)) (.tmp 10)), (some (9, false)), []⟩, 
  ⟨(some 12), (.mv (.tmp 11)), (some (9, false)), []⟩, 
  ⟨(some 13), (.mv (.tmp 0)), (some (12, true)), []⟩, 
  ⟨(some 14), (.bin .leq .no (.tmp 13) (.const (.int .u8 90))), (some (12, true)), []⟩, 
  ⟨(some 15), (.pick (.tmp 12) (.tmp 14) (.const (.bool false))), (some (9, false)), []⟩, 
  ⟨(some 16), (.pick (.tmp 9) (.const (.bool true)) (.tmp 15)), none, []⟩, 
  ⟨(some 17), (.mv (.tmp 16)), none, []⟩, 
  ⟨(some 18), (.mv (.tmp 0)), (some (17, false)), []⟩, 
  ⟨(some 19), (.bin .leq .no (.const (.int .u8 48)) (.tmp 18)), (some (17, false)), []⟩, 
  ⟨(some 20), (.mv (.tmp 19)), (some (17, false)), []⟩, 
  ⟨(some 21), (.mv (.tmp 0)), (some (20, true)), []⟩, 
  ⟨(some 22), (.bin .leq .no (.tmp 21) (.const (.int .u8 57))), (some (20, true)), []⟩, 
  ⟨(some 23), (.pick (.tmp 20) (.tmp 22) (.const (.bool false))), (some (17, false)), []⟩, 
  ⟨(some 24), (.pick (.tmp 17) (.const (.bool true)) (.tmp 23)), none, []⟩, 
  ⟨(some 25), (.mv (.tmp 24)), none, []⟩, 
  ⟨(some 26), (.mv (.tmp 0)), (some (25, false)), []⟩, 
  ⟨(some 27), (.bin .eql .no (.tmp 26) (.const (.int .u8 95))), (some (25, false)), []⟩, 
  ⟨(some 28), (.pick (.tmp 25) (.const (.bool true)) (.tmp 27)), none, []⟩, 
  ⟨(some 29), (.mv (.tmp 28)), none, []⟩, 
  ⟨(some 30), (.mv (.tmp 0)), (some (29, false)), []⟩, 
  ⟨(some 31), (.bin .eql .no (.tmp 30) (.const (.int .u8 46))), (some (29, false)), []⟩, 
  ⟨(some 32), (.pick (.tmp 29) (.const (.bool true)) (.tmp 31)), none, []⟩, 
  ⟨(some 2), (.mv (.tmp 32)), none, []⟩] false) .ret))
theorem cf_expr_tag : cFn Go.Proofs.Tryd.prog F.expr_tag = some ⟨33, c_expr_tag, [.t 2]⟩ := by kernel_rfl
def g.expr_tag (p0 : UInt8) : Option Bool :=
  if 97 ≤ p0 then
    if p0 ≤ 122 then
      some true
    else
      if 65 ≤ p0 then
        if p0 ≤ 90 then
          some true
        else
          if 48 ≤ p0 then
            if p0 ≤ 57 then
              some true
            else
              if p0 = 95 then
                some true
              else
                some (decide (p0 = 46))
          else
            if p0 = 95 then
              some true
            else
              some (decide (p0 = 46))
      else
        if 48 ≤ p0 then
          if p0 ≤ 57 then
            some true
          else
            if p0 = 95 then
              some true
            else
              some (decide (p0 = 46))
        else
          if p0 = 95 then
            some true
          else
            some (decide (p0 = 46))
  else
    if 65 ≤ p0 then
      if p0 ≤ 90 then
        some true
      else
        if 48 ≤ p0 then
          if p0 ≤ 57 then
            some true
          else
            if p0 = 95 then
              some true
            else
              some (decide (p0 = 46))
        else
          if p0 = 95 then
            some true
          else
            some (decide (p0 = 46))
    else
      if 48 ≤ p0 then
        if p0 ≤ 57 then
          some true
        else
          if p0 = 95 then
            some true
          else
            some (decide (p0 = 46))
      else
        if p0 = 95 then
          some true
        else
          some (decide (p0 = 46))
theorem ok.expr_tag {Γ : Abs.Spec} {gl : Glob} {r : Bool} {p0 : UInt8} {v : List V}
    (hv : nfL v = [(V.int .u8 ((p0 : UInt8).toNat : Int))]) (hD : g.expr_tag p0 = some r) : awp Γ gl c_expr_tag (endQ [.t 2] false (V.bool r)) (St.init v) := by
  obtain ⟨v0, v, rfl, h0, hv⟩ := nfL_cons hv
  obtain rfl := nfL_nil hv
  have hR : ∀ s, EndsX [.t 2] false (V.bool r) s → endQ [.t 2] false (V.bool r) .ret s := fun _ h => h
  unfold g.expr_tag at hD
  unfold c_expr_tag
  refine x_seq ?_
  refine x_start (b := false) ?_
  refine x_mv' (show _ = (V.bool false) from rfl) ?_
  refine x_done ?_
  refine x_tN ?_
  refine x_seq ?_
  refine x_start (b := false) ?_
  refine x_mv' (nf_int h0) ?_
  refine x_bin (show _ = (V.int .u8 ((97 : UInt8).toNat : Int)) from rfl) (show _ = (V.int .u8 ((p0 : UInt8).toNat : Int)) from rfl) u8_leq ?_
  refine x_mv' (show _ = (V.bool (decide (97 ≤ p0))) from rfl) ?_
  by_cases hp1 : 97 ≤ p0
  · rw [if_pos hp1] at hD
    refine x_gy (show _ = (V.bool (decide (97 ≤ p0))) from rfl) (decide_eq_true hp1) ?_
    refine x_mv' (nf_int h0) ?_
    refine x_gy (show _ = (V.bool (decide (97 ≤ p0))) from rfl) (decide_eq_true hp1) ?_
    refine x_bin (show _ = (V.int .u8 ((p0 : UInt8).toNat : Int)) from rfl) (show _ = (V.int .u8 ((122 : UInt8).toNat : Int)) from rfl) u8_leq ?_
    refine x_pickt' (show _ = (V.bool (decide (97 ≤ p0))) from rfl) (decide_eq_true hp1) (show _ = (V.bool (decide (p0 ≤ 122))) from rfl) ?_
    refine x_mv' (show _ = (V.bool (decide (p0 ≤ 122))) from rfl) ?_
    by_cases hp2 : p0 ≤ 122
    · rw [if_pos hp2] at hD
      refine x_gn (show _ = (V.bool (decide (p0 ≤ 122))) from rfl) (decide_eq_true hp2) ?_
      refine x_gn (show _ = (V.bool (decide (p0 ≤ 122))) from rfl) (decide_eq_true hp2) ?_
      refine x_gn (show _ = (V.bool (decide (p0 ≤ 122))) from rfl) (decide_eq_true hp2) ?_
      refine x_gnil (show _ = Nil from rfl) ?_
      refine x_gnil (show _ = Nil from rfl) ?_
      refine x_gn (show _ = (V.bool (decide (p0 ≤ 122))) from rfl) (decide_eq_true hp2) ?_
      refine x_pickt' (show _ = (V.bool (decide (p0 ≤ 122))) from rfl) (decide_eq_true hp2) (show _ = (V.bool true) from rfl) ?_
      refine x_mv' (show _ = (V.bool true) from rfl) ?_
      refine x_gn (show _ = (V.bool true) from rfl) rfl ?_
      refine x_gn (show _ = (V.bool true) from rfl) rfl ?_
      refine x_gn (show _ = (V.bool true) from rfl) rfl ?_
      refine x_gnil (show _ = Nil from rfl) ?_
      refine x_gnil (show _ = Nil from rfl) ?_
      refine x_gn (show _ = (V.bool true) from rfl) rfl ?_
      refine x_pickt' (show _ = (V.bool true) from rfl) rfl (show _ = (V.bool true) from rfl) ?_
      refine x_mv' (show _ = (V.bool true) from rfl) ?_
      refine x_gn (show _ = (V.bool true) from rfl) rfl ?_
      refine x_gn (show _ = (V.bool true) from rfl) rfl ?_
      refine x_pickt' (show _ = (V.bool true) from rfl) rfl (show _ = (V.bool true) from rfl) ?_
      refine x_mv' (show _ = (V.bool true) from rfl) ?_
      refine x_gn (show _ = (V.bool true) from rfl) rfl ?_
      refine x_gn (show _ = (V.bool true) from rfl) rfl ?_
      refine x_pickt' (show _ = (V.bool true) from rfl) rfl (show _ = (V.bool true) from rfl) ?_
      refine x_mv' (show _ = (V.bool true) from rfl) ?_
      refine x_done ?_
      refine x_tN ?_
      refine x_retc ?_
      obtain rfl := Option.some.inj hD
      exact hR _ (ends_t (nf_of rfl (show _ = (V.bool true) from rfl)) (fun h => nomatch h))
    · rw [if_neg hp2] at hD
      refine x_gy (show _ = (V.bool (decide (p0 ≤ 122))) from rfl) (decide_eq_false hp2) ?_
      refine x_mv' (nf_int h0) ?_
      refine x_gy (show _ = (V.bool (decide (p0 ≤ 122))) from rfl) (decide_eq_false hp2) ?_
      refine x_bin (show _ = (V.int .u8 ((65 : UInt8).toNat : Int)) from rfl) (show _ = (V.int .u8 ((p0 : UInt8).toNat : Int)) from rfl) u8_leq ?_
      refine x_gy (show _ = (V.bool (decide (p0 ≤ 122))) from rfl) (decide_eq_false hp2) ?_
      refine x_mv' (show _ = (V.bool (decide (65 ≤ p0))) from rfl) ?_
      by_cases hp3 : 65 ≤ p0
      · rw [if_pos hp3] at hD
        refine x_gy (show _ = (V.bool (decide (65 ≤ p0))) from rfl) (decide_eq_true hp3) ?_
        refine x_mv' (nf_int h0) ?_
        refine x_gy (show _ = (V.bool (decide (65 ≤ p0))) from rfl) (decide_eq_true hp3) ?_
        refine x_bin (show _ = (V.int .u8 ((p0 : UInt8).toNat : Int)) from rfl) (show _ = (V.int .u8 ((90 : UInt8).toNat : Int)) from rfl) u8_leq ?_
        refine x_gy (show _ = (V.bool (decide (p0 ≤ 122))) from rfl) (decide_eq_false hp2) ?_
        refine x_pickt' (show _ = (V.bool (decide (65 ≤ p0))) from rfl) (decide_eq_true hp3) (show _ = (V.bool (decide (p0 ≤ 90))) from rfl) ?_
        refine x_pickf' (show _ = (V.bool (decide (p0 ≤ 122))) from rfl) (decide_eq_false hp2) (show _ = (V.bool (decide (p0 ≤ 90))) from rfl) ?_
        refine x_mv' (show _ = (V.bool (decide (p0 ≤ 90))) from rfl) ?_
        by_cases hp4 : p0 ≤ 90
        · rw [if_pos hp4] at hD
          refine x_gn (show _ = (V.bool (decide (p0 ≤ 90))) from rfl) (decide_eq_true hp4) ?_
          refine x_gn (show _ = (V.bool (decide (p0 ≤ 90))) from rfl) (decide_eq_true hp4) ?_
          refine x_gn (show _ = (V.bool (decide (p0 ≤ 90))) from rfl) (decide_eq_true hp4) ?_
          refine x_gnil (show _ = Nil from rfl) ?_
          refine x_gnil (show _ = Nil from rfl) ?_
          refine x_gn (show _ = (V.bool (decide (p0 ≤ 90))) from rfl) (decide_eq_true hp4) ?_
          refine x_pickt' (show _ = (V.bool (decide (p0 ≤ 90))) from rfl) (decide_eq_true hp4) (show _ = (V.bool true) from rfl) ?_
          refine x_mv' (show _ = (V.bool true) from rfl) ?_
          refine x_gn (show _ = (V.bool true) from rfl) rfl ?_
          refine x_gn (show _ = (V.bool true) from rfl) rfl ?_
          refine x_pickt' (show _ = (V.bool true) from rfl) rfl (show _ = (V.bool true) from rfl) ?_
          refine x_mv' (show _ = (V.bool true) from rfl) ?_
          refine x_gn (show _ = (V.bool true) from rfl) rfl ?_
          refine x_gn (show _ = (V.bool true) from rfl) rfl ?_
          refine x_pickt' (show _ = (V.bool true) from rfl) rfl (show _ = (V.bool true) from rfl) ?_
          refine x_mv' (show _ = (V.bool true) from rfl) ?_
          refine x_done ?_
          refine x_tN ?_
          refine x_retc ?_
          obtain rfl := Option.some.inj hD
          exact hR _ (ends_t (nf_of rfl (show _ = (V.bool true) from rfl)) (fun h => nomatch h))
        · rw [if_neg hp4] at hD
          refine x_gy (show _ = (V.bool (decide (p0 ≤ 90))) from rfl) (decide_eq_false hp4) ?_
          refine x_mv' (nf_int h0) ?_
          refine x_gy (show _ = (V.bool (decide (p0 ≤ 90))) from rfl) (decide_eq_false hp4) ?_
          refine x_bin (show _ = (V.int .u8 ((48 : UInt8).toNat : Int)) from rfl) (show _ = (V.int .u8 ((p0 : UInt8).toNat : Int)) from rfl) u8_leq ?_
          refine x_gy (show _ = (V.bool (decide (p0 ≤ 90))) from rfl) (decide_eq_false hp4) ?_
          refine x_mv' (show _ = (V.bool (decide (48 ≤ p0))) from rfl) ?_
          by_cases hp5 : 48 ≤ p0
          · rw [if_pos hp5] at hD
            refine x_gy (show _ = (V.bool (decide (48 ≤ p0))) from rfl) (decide_eq_true hp5) ?_
            refine x_mv' (nf_int h0) ?_
            refine x_gy (show _ = (V.bool (decide (48 ≤ p0))) from rfl) (decide_eq_true hp5) ?_
            refine x_bin (show _ = (V.int .u8 ((p0 : UInt8).toNat : Int)) from rfl) (show _ = (V.int .u8 ((57 : UInt8).toNat : Int)) from rfl) u8_leq ?_
            refine x_gy (show _ = (V.bool (decide (p0 ≤ 90))) from rfl) (decide_eq_false hp4) ?_
            refine x_pickt' (show _ = (V.bool (decide (48 ≤ p0))) from rfl) (decide_eq_true hp5) (show _ = (V.bool (decide (p0 ≤ 57))) from rfl) ?_
            refine x_pickf' (show _ = (V.bool (decide (p0 ≤ 90))) from rfl) (decide_eq_false hp4) (show _ = (V.bool (decide (p0 ≤ 57))) from rfl) ?_
            refine x_mv' (show _ = (V.bool (decide (p0 ≤ 57))) from rfl) ?_
            by_cases hp6 : p0 ≤ 57
            · rw [if_pos hp6] at hD
              refine x_gn (show _ = (V.bool (decide (p0 ≤ 57))) from rfl) (decide_eq_true hp6) ?_
              refine x_gn (show _ = (V.bool (decide (p0 ≤ 57))) from rfl) (decide_eq_true hp6) ?_
              refine x_pickt' (show _ = (V.bool (decide (p0 ≤ 57))) from rfl) (decide_eq_true hp6) (show _ = (V.bool true) from rfl) ?_
              refine x_mv' (show _ = (V.bool true) from rfl) ?_
              refine x_gn (show _ = (V.bool true) from rfl) rfl ?_
              refine x_gn (show _ = (V.bool true) from rfl) rfl ?_
              refine x_pickt' (show _ = (V.bool true) from rfl) rfl (show _ = (V.bool true) from rfl) ?_
              refine x_mv' (show _ = (V.bool true) from rfl) ?_
              refine x_done ?_
              refine x_tN ?_
              refine x_retc ?_
              obtain rfl := Option.some.inj hD
              exact hR _ (ends_t (nf_of rfl (show _ = (V.bool true) from rfl)) (fun h => nomatch h))
            · rw [if_neg hp6] at hD
              refine x_gy (show _ = (V.bool (decide (p0 ≤ 57))) from rfl) (decide_eq_false hp6) ?_
              refine x_mv' (nf_int h0) ?_
              refine x_gy (show _ = (V.bool (decide (p0 ≤ 57))) from rfl) (decide_eq_false hp6) ?_
              refine x_bin (show _ = (V.int .u8 ((p0 : UInt8).toNat : Int)) from rfl) (show _ = (V.int .u8 ((95 : UInt8).toNat : Int)) from rfl) u8_eql ?_
              refine x_pickf' (show _ = (V.bool (decide (p0 ≤ 57))) from rfl) (decide_eq_false hp6) (show _ = (V.bool (decide (p0 = 95))) from rfl) ?_
              refine x_mv' (show _ = (V.bool (decide (p0 = 95))) from rfl) ?_
              by_cases hp7 : p0 = 95
              · rw [if_pos hp7] at hD
                refine x_gn (show _ = (V.bool (decide (p0 = 95))) from rfl) (decide_eq_true hp7) ?_
                refine x_gn (show _ = (V.bool (decide (p0 = 95))) from rfl) (decide_eq_true hp7) ?_
                refine x_pickt' (show _ = (V.bool (decide (p0 = 95))) from rfl) (decide_eq_true hp7) (show _ = (V.bool true) from rfl) ?_
                refine x_mv' (show _ = (V.bool true) from rfl) ?_
                refine x_done ?_
                refine x_tN ?_
                refine x_retc ?_
                obtain rfl := Option.some.inj hD
                exact hR _ (ends_t (nf_of rfl (show _ = (V.bool true) from rfl)) (fun h => nomatch h))
              · rw [if_neg hp7] at hD
                refine x_gy (show _ = (V.bool (decide (p0 = 95))) from rfl) (decide_eq_false hp7) ?_
                refine x_mv' (nf_int h0) ?_
                refine x_gy (show _ = (V.bool (decide (p0 = 95))) from rfl) (decide_eq_false hp7) ?_
                refine x_bin (show _ = (V.int .u8 ((p0 : UInt8).toNat : Int)) from rfl) (show _ = (V.int .u8 ((46 : UInt8).toNat : Int)) from rfl) u8_eql ?_
                refine x_pickf' (show _ = (V.bool (decide (p0 = 95))) from rfl) (decide_eq_false hp7) (show _ = (V.bool (decide (p0 = 46))) from rfl) ?_
                refine x_mv' (show _ = (V.bool (decide (p0 = 46))) from rfl) ?_
                refine x_done ?_
                refine x_tN ?_
                refine x_retc ?_
                obtain rfl := Option.some.inj hD
                exact hR _ (ends_t (nf_of rfl (show _ = (V.bool (decide (p0 = 46))) from rfl)) (fun h => nomatch h))
          · rw [if_neg hp5] at hD
            refine x_gn (show _ = (V.bool (decide (48 ≤ p0))) from rfl) (decide_eq_false hp5) ?_
            refine x_gn (show _ = (V.bool (decide (48 ≤ p0))) from rfl) (decide_eq_false hp5) ?_
            refine x_gy (show _ = (V.bool (decide (p0 ≤ 90))) from rfl) (decide_eq_false hp4) ?_
            refine x_pickf' (show _ = (V.bool (decide (48 ≤ p0))) from rfl) (decide_eq_false hp5) (show _ = (V.bool false) from rfl) ?_
            refine x_pickf' (show _ = (V.bool (decide (p0 ≤ 90))) from rfl) (decide_eq_false hp4) (show _ = (V.bool false) from rfl) ?_
            refine x_mv' (show _ = (V.bool false) from rfl) ?_
            refine x_gy (show _ = (V.bool false) from rfl) rfl ?_
            refine x_mv' (nf_int h0) ?_
            refine x_gy (show _ = (V.bool false) from rfl) rfl ?_
            refine x_bin (show _ = (V.int .u8 ((p0 : UInt8).toNat : Int)) from rfl) (show _ = (V.int .u8 ((95 : UInt8).toNat : Int)) from rfl) u8_eql ?_
            refine x_pickf' (show _ = (V.bool false) from rfl) rfl (show _ = (V.bool (decide (p0 = 95))) from rfl) ?_
            refine x_mv' (show _ = (V.bool (decide (p0 = 95))) from rfl) ?_
            by_cases hp8 : p0 = 95
            · rw [if_pos hp8] at hD
              refine x_gn (show _ = (V.bool (decide (p0 = 95))) from rfl) (decide_eq_true hp8) ?_
              refine x_gn (show _ = (V.bool (decide (p0 = 95))) from rfl) (decide_eq_true hp8) ?_
              refine x_pickt' (show _ = (V.bool (decide (p0 = 95))) from rfl) (decide_eq_true hp8) (show _ = (V.bool true) from rfl) ?_
              refine x_mv' (show _ = (V.bool true) from rfl) ?_
              refine x_done ?_
              refine x_tN ?_
              refine x_retc ?_
              obtain rfl := Option.some.inj hD
              exact hR _ (ends_t (nf_of rfl (show _ = (V.bool true) from rfl)) (fun h => nomatch h))
            · rw [if_neg hp8] at hD
              refine x_gy (show _ = (V.bool (decide (p0 = 95))) from rfl) (decide_eq_false hp8) ?_
              refine x_mv' (nf_int h0) ?_
              refine x_gy (show _ = (V.bool (decide (p0 = 95))) from rfl) (decide_eq_false hp8) ?_
              refine x_bin (show _ = (V.int .u8 ((p0 : UInt8).toNat : Int)) from rfl) (show _ = (V.int .u8 ((46 : UInt8).toNat : Int)) from rfl) u8_eql ?_
              refine x_pickf' (show _ = (V.bool (decide (p0 = 95))) from rfl) (decide_eq_false hp8) (show _ = (V.bool (decide (p0 = 46))) from rfl) ?_
              refine x_mv' (show _ = (V.bool (decide (p0 = 46))) from rfl) ?_
              refine x_done ?_
              refine x_tN ?_
              refine x_retc ?_
              obtain rfl := Option.some.inj hD
              exact hR _ (ends_t (nf_of rfl (show _ = (V.bool (decide (p0 = 46))) from rfl)) (fun h => nomatch h))
      · rw [if_neg hp3] at hD
        refine x_gn (show _ = (V.bool (decide (65 ≤ p0))) from rfl) (decide_eq_false hp3) ?_
        refine x_gn (show _ = (V.bool (decide (65 ≤ p0))) from rfl) (decide_eq_false hp3) ?_
        refine x_gy (show _ = (V.bool (decide (p0 ≤ 122))) from rfl) (decide_eq_false hp2) ?_
        refine x_pickf' (show _ = (V.bool (decide (65 ≤ p0))) from rfl) (decide_eq_false hp3) (show _ = (V.bool false) from rfl) ?_
        refine x_pickf' (show _ = (V.bool (decide (p0 ≤ 122))) from rfl) (decide_eq_false hp2) (show _ = (V.bool false) from rfl) ?_
        refine x_mv' (show _ = (V.bool false) from rfl) ?_
        refine x_gy (show _ = (V.bool false) from rfl) rfl ?_
        refine x_mv' (nf_int h0) ?_
        refine x_gy (show _ = (V.bool false) from rfl) rfl ?_
        refine x_bin (show _ = (V.int .u8 ((48 : UInt8).toNat : Int)) from rfl) (show _ = (V.int .u8 ((p0 : UInt8).toNat : Int)) from rfl) u8_leq ?_
        refine x_gy (show _ = (V.bool false) from rfl) rfl ?_
        refine x_mv' (show _ = (V.bool (decide (48 ≤ p0))) from rfl) ?_
        by_cases hp9 : 48 ≤ p0
        · rw [if_pos hp9] at hD
          refine x_gy (show _ = (V.bool (decide (48 ≤ p0))) from rfl) (decide_eq_true hp9) ?_
          refine x_mv' (nf_int h0) ?_
          refine x_gy (show _ = (V.bool (decide (48 ≤ p0))) from rfl) (decide_eq_true hp9) ?_
          refine x_bin (show _ = (V.int .u8 ((p0 : UInt8).toNat : Int)) from rfl) (show _ = (V.int .u8 ((57 : UInt8).toNat : Int)) from rfl) u8_leq ?_
          refine x_gy (show _ = (V.bool false) from rfl) rfl ?_
          refine x_pickt' (show _ = (V.bool (decide (48 ≤ p0))) from rfl) (decide_eq_true hp9) (show _ = (V.bool (decide (p0 ≤ 57))) from rfl) ?_
          refine x_pickf' (show _ = (V.bool false) from rfl) rfl (show _ = (V.bool (decide (p0 ≤ 57))) from rfl) ?_
          refine x_mv' (show _ = (V.bool (decide (p0 ≤ 57))) from rfl) ?_
          by_cases hp10 : p0 ≤ 57
          · rw [if_pos hp10] at hD
            refine x_gn (show _ = (V.bool (decide (p0 ≤ 57))) from rfl) (decide_eq_true hp10) ?_
            refine x_gn (show _ = (V.bool (decide (p0 ≤ 57))) from rfl) (decide_eq_true hp10) ?_
            refine x_pickt' (show _ = (V.bool (decide (p0 ≤ 57))) from rfl) (decide_eq_true hp10) (show _ = (V.bool true) from rfl) ?_
            refine x_mv' (show _ = (V.bool true) from rfl) ?_
            refine x_gn (show _ = (V.bool true) from rfl) rfl ?_
            refine x_gn (show _ = (V.bool true) from rfl) rfl ?_
            refine x_pickt' (show _ = (V.bool true) from rfl) rfl (show _ = (V.bool true) from rfl) ?_
            refine x_mv' (show _ = (V.bool true) from rfl) ?_
            refine x_done ?_
            refine x_tN ?_
            refine x_retc ?_
            obtain rfl := Option.some.inj hD
            exact hR _ (ends_t (nf_of rfl (show _ = (V.bool true) from rfl)) (fun h => nomatch h))
          · rw [if_neg hp10] at hD
            refine x_gy (show _ = (V.bool (decide (p0 ≤ 57))) from rfl) (decide_eq_false hp10) ?_
            refine x_mv' (nf_int h0) ?_
            refine x_gy (show _ = (V.bool (decide (p0 ≤ 57))) from rfl) (decide_eq_false hp10) ?_
            refine x_bin (show _ = (V.int .u8 ((p0 : UInt8).toNat : Int)) from rfl) (show _ = (V.int .u8 ((95 : UInt8).toNat : Int)) from rfl) u8_eql ?_
            refine x_pickf' (show _ = (V.bool (decide (p0 ≤ 57))) from rfl) (decide_eq_false hp10) (show _ = (V.bool (decide (p0 = 95))) from rfl) ?_
            refine x_mv' (show _ = (V.bool (decide (p0 = 95))) from rfl) ?_
            by_cases hp11 : p0 = 95
            · rw [if_pos hp11] at hD
              refine x_gn (show _ = (V.bool (decide (p0 = 95))) from rfl) (decide_eq_true hp11) ?_
              refine x_gn (show _ = (V.bool (decide (p0 = 95))) from rfl) (decide_eq_true hp11) ?_
              refine x_pickt' (show _ = (V.bool (decide (p0 = 95))) from rfl) (decide_eq_true hp11) (show _ = (V.bool true) from rfl) ?_
              refine x_mv' (show _ = (V.bool true) from rfl) ?_
              refine x_done ?_
              refine x_tN ?_
              refine x_retc ?_
              obtain rfl := Option.some.inj hD
              exact hR _ (ends_t (nf_of rfl (show _ = (V.bool true) from rfl)) (fun h => nomatch h))
            · rw [if_neg hp11] at hD
              refine x_gy (show _ = (V.bool (decide (p0 = 95))) from rfl) (decide_eq_false hp11) ?_
              refine x_mv' (nf_int h0) ?_
              refine x_gy (show _ = (V.bool (decide (p0 = 95))) from rfl) (decide_eq_false hp11) ?_
              refine x_bin (show _ = (V.int .u8 ((p0 : UInt8).toNat : Int)) from rfl) (show _ = (V.int .u8 ((46 : UInt8).toNat : Int)) from rfl) u8_eql ?_
              refine x_pickf' (show _ = (V.bool (decide (p0 = 95))) from rfl) (decide_eq_false hp11) (show _ = (V.bool (decide (p0 = 46))) from rfl) ?_
              refine x_mv' (show _ = (V.bool (decide (p0 = 46))) from rfl) ?_
              refine x_done ?_
              refine x_tN ?_
              refine x_retc ?_
              obtain rfl := Option.some.inj hD
              exact hR _ (ends_t (nf_of rfl (show _ = (V.bool (decide (p0 = 46))) from rfl)) (fun h => nomatch h))
        · rw [if_neg hp9] at hD
          refine x_gn (show _ = (V.bool (decide (48 ≤ p0))) from rfl) (decide_eq_false hp9) ?_
          refine x_gn (show _ = (V.bool (decide (48 ≤ p0))) from rfl) (decide_eq_false hp9) ?_
          refine x_gy (show _ = (V.bool false) from rfl) rfl ?_
          refine x_pickf' (show _ = (V.bool (decide (48 ≤ p0))) from rfl) (decide_eq_false hp9) (show _ = (V.bool false) from rfl) ?_
          refine x_pickf' (show _ = (V.bool false) from rfl) rfl (show _ = (V.bool false) from rfl) ?_
          refine x_mv' (show _ = (V.bool false) from rfl) ?_
          refine x_gy (show _ = (V.bool false) from rfl) rfl ?_
          refine x_mv' (nf_int h0) ?_
          refine x_gy (show _ = (V.bool false) from rfl) rfl ?_
          refine x_bin (show _ = (V.int .u8 ((p0 : UInt8).toNat : Int)) from rfl) (show _ = (V.int .u8 ((95 : UInt8).toNat : Int)) from rfl) u8_eql ?_
          refine x_pickf' (show _ = (V.bool false) from rfl) rfl (show _ = (V.bool (decide (p0 = 95))) from rfl) ?_
          refine x_mv' (show _ = (V.bool (decide (p0 = 95))) from rfl) ?_
          by_cases hp12 : p0 = 95
          · rw [if_pos hp12] at hD
            refine x_gn (show _ = (V.bool (decide (p0 = 95))) from rfl) (decide_eq_true hp12) ?_
            refine x_gn (show _ = (V.bool (decide (p0 = 95))) from rfl) (decide_eq_true hp12) ?_
            refine x_pickt' (show _ = (V.bool (decide (p0 = 95))) from rfl) (decide_eq_true hp12) (show _ = (V.bool true) from rfl) ?_
            refine x_mv' (show _ = (V.bool true) from rfl) ?_
            refine x_done ?_
            refine x_tN ?_
            refine x_retc ?_
            obtain rfl := Option.some.inj hD
            exact hR _ (ends_t (nf_of rfl (show _ = (V.bool true) from rfl)) (fun h => nomatch h))
          · rw [if_neg hp12] at hD
            refine x_gy (show _ = (V.bool (decide (p0 = 95))) from rfl) (decide_eq_false hp12) ?_
            refine x_mv' (nf_int h0) ?_
            refine x_gy (show _ = (V.bool (decide (p0 = 95))) from rfl) (decide_eq_false hp12) ?_
            refine x_bin (show _ = (V.int .u8 ((p0 : UInt8).toNat : Int)) from rfl) (show _ = (V.int .u8 ((46 : UInt8).toNat : Int)) from rfl) u8_eql ?_
            refine x_pickf' (show _ = (V.bool (decide (p0 = 95))) from rfl) (decide_eq_false hp12) (show _ = (V.bool (decide (p0 = 46))) from rfl) ?_
            refine x_mv' (show _ = (V.bool (decide (p0 = 46))) from rfl) ?_
            refine x_done ?_
            refine x_tN ?_
            refine x_retc ?_
            obtain rfl := Option.some.inj hD
            exact hR _ (ends_t (nf_of rfl (show _ = (V.bool (decide (p0 = 46))) from rfl)) (fun h => nomatch h))
  · rw [if_neg hp1] at hD
    refine x_gn (show _ = (V.bool (decide (97 ≤ p0))) from rfl) (decide_eq_false hp1) ?_
    refine x_gn (show _ = (V.bool (decide (97 ≤ p0))) from rfl) (decide_eq_false hp1) ?_
    refine x_pickf' (show _ = (V.bool (decide (97 ≤ p0))) from rfl) (decide_eq_false hp1) (show _ = (V.bool false) from rfl) ?_
    refine x_mv' (show _ = (V.bool false) from rfl) ?_
    refine x_gy (show _ = (V.bool false) from rfl) rfl ?_
    refine x_mv' (nf_int h0) ?_
    refine x_gy (show _ = (V.bool false) from rfl) rfl ?_
    refine x_bin (show _ = (V.int .u8 ((65 : UInt8).toNat : Int)) from rfl) (show _ = (V.int .u8 ((p0 : UInt8).toNat : Int)) from rfl) u8_leq ?_
    refine x_gy (show _ = (V.bool false) from rfl) rfl ?_
    refine x_mv' (show _ = (V.bool (decide (65 ≤ p0))) from rfl) ?_
    by_cases hp13 : 65 ≤ p0
    · rw [if_pos hp13] at hD
      refine x_gy (show _ = (V.bool (decide (65 ≤ p0))) from rfl) (decide_eq_true hp13) ?_
      refine x_mv' (nf_int h0) ?_
      refine x_gy (show _ = (V.bool (decide (65 ≤ p0))) from rfl) (decide_eq_true hp13) ?_
      refine x_bin (show _ = (V.int .u8 ((p0 : UInt8).toNat : Int)) from rfl) (show _ = (V.int .u8 ((90 : UInt8).toNat : Int)) from rfl) u8_leq ?_
      refine x_gy (show _ = (V.bool false) from rfl) rfl ?_
      refine x_pickt' (show _ = (V.bool (decide (65 ≤ p0))) from rfl) (decide_eq_true hp13) (show _ = (V.bool (decide (p0 ≤ 90))) from rfl) ?_
      refine x_pickf' (show _ = (V.bool false) from rfl) rfl (show _ = (V.bool (decide (p0 ≤ 90))) from rfl) ?_
      refine x_mv' (show _ = (V.bool (decide (p0 ≤ 90))) from rfl) ?_
      by_cases hp14 : p0 ≤ 90
      · rw [if_pos hp14] at hD
        refine x_gn (show _ = (V.bool (decide (p0 ≤ 90))) from rfl) (decide_eq_true hp14) ?_
        refine x_gn (show _ = (V.bool (decide (p0 ≤ 90))) from rfl) (decide_eq_true hp14) ?_
        refine x_gn (show _ = (V.bool (decide (p0 ≤ 90))) from rfl) (decide_eq_true hp14) ?_
        refine x_gnil (show _ = Nil from rfl) ?_
        refine x_gnil (show _ = Nil from rfl) ?_
        refine x_gn (show _ = (V.bool (decide (p0 ≤ 90))) from rfl) (decide_eq_true hp14) ?_
        refine x_pickt' (show _ = (V.bool (decide (p0 ≤ 90))) from rfl) (decide_eq_true hp14) (show _ = (V.bool true) from rfl) ?_
        refine x_mv' (show _ = (V.bool true) from rfl) ?_
        refine x_gn (show _ = (V.bool true) from rfl) rfl ?_
        refine x_gn (show _ = (V.bool true) from rfl) rfl ?_
        refine x_pickt' (show _ = (V.bool true) from rfl) rfl (show _ = (V.bool true) from rfl) ?_
        refine x_mv' (show _ = (V.bool true) from rfl) ?_
        refine x_gn (show _ = (V.bool true) from rfl) rfl ?_
        refine x_gn (show _ = (V.bool true) from rfl) rfl ?_
        refine x_pickt' (show _ = (V.bool true) from rfl) rfl (show _ = (V.bool true) from rfl) ?_
        refine x_mv' (show _ = (V.bool true) from rfl) ?_
        refine x_done ?_
        refine x_tN ?_
        refine x_retc ?_
        obtain rfl := Option.some.inj hD
        exact hR _ (ends_t (nf_of rfl (show _ = (V.bool true) from rfl)) (fun h => nomatch h))
      · rw [if_neg hp14] at hD
        refine x_gy (show _ = (V.bool (decide (p0 ≤ 90))) from rfl) (decide_eq_false hp14) ?_
        refine x_mv' (nf_int h0) ?_
        refine x_gy (show _ = (V.bool (decide (p0 ≤ 90))) from rfl) (decide_eq_false hp14) ?_
        refine x_bin (show _ = (V.int .u8 ((48 : UInt8).toNat : Int)) from rfl) (show _ = (V.int .u8 ((p0 : UInt8).toNat : Int)) from rfl) u8_leq ?_
        refine x_gy (show _ = (V.bool (decide (p0 ≤ 90))) from rfl) (decide_eq_false hp14) ?_
        refine x_mv' (show _ = (V.bool (decide (48 ≤ p0))) from rfl) ?_
        by_cases hp15 : 48 ≤ p0
        · rw [if_pos hp15] at hD
          refine x_gy (show _ = (V.bool (decide (48 ≤ p0))) from rfl) (decide_eq_true hp15) ?_
          refine x_mv' (nf_int h0) ?_
          refine x_gy (show _ = (V.bool (decide (48 ≤ p0))) from rfl) (decide_eq_true hp15) ?_
          refine x_bin (show _ = (V.int .u8 ((p0 : UInt8).toNat : Int)) from rfl) (show _ = (V.int .u8 ((57 : UInt8).toNat : Int)) from rfl) u8_leq ?_
          refine x_gy (show _ = (V.bool (decide (p0 ≤ 90))) from rfl) (decide_eq_false hp14) ?_
          refine x_pickt' (show _ = (V.bool (decide (48 ≤ p0))) from rfl) (decide_eq_true hp15) (show _ = (V.bool (decide (p0 ≤ 57))) from rfl) ?_
          refine x_pickf' (show _ = (V.bool (decide (p0 ≤ 90))) from rfl) (decide_eq_false hp14) (show _ = (V.bool (decide (p0 ≤ 57))) from rfl) ?_
          refine x_mv' (show _ = (V.bool (decide (p0 ≤ 57))) from rfl) ?_
          by_cases hp16 : p0 ≤ 57
          · rw [if_pos hp16] at hD
            refine x_gn (show _ = (V.bool (decide (p0 ≤ 57))) from rfl) (decide_eq_true hp16) ?_
            refine x_gn (show _ = (V.bool (decide (p0 ≤ 57))) from rfl) (decide_eq_true hp16) ?_
            refine x_pickt' (show _ = (V.bool (decide (p0 ≤ 57))) from rfl) (decide_eq_true hp16) (show _ = (V.bool true) from rfl) ?_
            refine x_mv' (show _ = (V.bool true) from rfl) ?_
            refine x_gn (show _ = (V.bool true) from rfl) rfl ?_
            refine x_gn (show _ = (V.bool true) from rfl) rfl ?_
            refine x_pickt' (show _ = (V.bool true) from rfl) rfl (show _ = (V.bool true) from rfl) ?_
            refine x_mv' (show _ = (V.bool true) from rfl) ?_
            refine x_done ?_
            refine x_tN ?_
            refine x_retc ?_
            obtain rfl := Option.some.inj hD
            exact hR _ (ends_t (nf_of rfl (show _ = (V.bool true) from rfl)) (fun h => nomatch h))
          · rw [if_neg hp16] at hD
            refine x_gy (show _ = (V.bool (decide (p0 ≤ 57))) from rfl) (decide_eq_false hp16) ?_
            refine x_mv' (nf_int h0) ?_
            refine x_gy (show _ = (V.bool (decide (p0 ≤ 57))) from rfl) (decide_eq_false hp16) ?_
            refine x_bin (show _ = (V.int .u8 ((p0 : UInt8).toNat : Int)) from rfl) (show _ = (V.int .u8 ((95 : UInt8).toNat : Int)) from rfl) u8_eql ?_
            refine x_pickf' (show _ = (V.bool (decide (p0 ≤ 57))) from rfl) (decide_eq_false hp16) (show _ = (V.bool (decide (p0 = 95))) from rfl) ?_
            refine x_mv' (show _ = (V.bool (decide (p0 = 95))) from rfl) ?_
            by_cases hp17 : p0 = 95
            · rw [if_pos hp17] at hD
              refine x_gn (show _ = (V.bool (decide (p0 = 95))) from rfl) (decide_eq_true hp17) ?_
              refine x_gn (show _ = (V.bool (decide (p0 = 95))) from rfl) (decide_eq_true hp17) ?_
              refine x_pickt' (show _ = (V.bool (decide (p0 = 95))) from rfl) (decide_eq_true hp17) (show _ = (V.bool true) from rfl) ?_
              refine x_mv' (show _ = (V.bool true) from rfl) ?_
              refine x_done ?_
              refine x_tN ?_
              refine x_retc ?_
              obtain rfl := Option.some.inj hD
              exact hR _ (ends_t (nf_of rfl (show _ = (V.bool true) from rfl)) (fun h => nomatch h))
            · rw [if_neg hp17] at hD
              refine x_gy (show _ = (V.bool (decide (p0 = 95))) from rfl) (decide_eq_false hp17) ?_
              refine x_mv' (nf_int h0) ?_
              refine x_gy (show _ = (V.bool (decide (p0 = 95))) from rfl) (decide_eq_false hp17) ?_
              refine x_bin (show _ = (V.int .u8 ((p0 : UInt8).toNat : Int)) from rfl) (show _ = (V.int .u8 ((46 : UInt8).toNat : Int)) from rfl) u8_eql ?_
              refine x_pickf' (show _ = (V.bool (decide (p0 = 95))) from rfl) (decide_eq_false hp17) (show _ = (V.bool (decide (p0 = 46))) from rfl) ?_
              refine x_mv' (show _ = (V.bool (decide (p0 = 46))) from rfl) ?_
              refine x_done ?_
              refine x_tN ?_
              refine x_retc ?_
              obtain rfl := Option.some.inj hD
              exact hR _ (ends_t (nf_of rfl (show _ = (V.bool (decide (p0 = 46))) from rfl)) (fun h => nomatch h))
        · rw [if_neg hp15] at hD
          refine x_gn (show _ = (V.bool (decide (48 ≤ p0))) from rfl) (decide_eq_false hp15) ?_
          refine x_gn (show _ = (V.bool (decide (48 ≤ p0))) from rfl) (decide_eq_false hp15) ?_
          refine x_gy (show _ = (V.bool (decide (p0 ≤ 90))) from rfl) (decide_eq_false hp14) ?_
          refine x_pickf' (show _ = (V.bool (decide (48 ≤ p0))) from rfl) (decide_eq_false hp15) (show _ = (V.bool false) from rfl) ?_
          refine x_pickf' (show _ = (V.bool (decide (p0 ≤ 90))) from rfl) (decide_eq_false hp14) (show _ = (V.bool false) from rfl) ?_
          refine x_mv' (show _ = (V.bool false) from rfl) ?_
          refine x_gy (show _ = (V.bool false) from rfl) rfl ?_
          refine x_mv' (nf_int h0) ?_
          refine x_gy (show _ = (V.bool false) from rfl) rfl ?_
          refine x_bin (show _ = (V.int .u8 ((p0 : UInt8).toNat : Int)) from rfl) (show _ = (V.int .u8 ((95 : UInt8).toNat : Int)) from rfl) u8_eql ?_
          refine x_pickf' (show _ = (V.bool false) from rfl) rfl (show _ = (V.bool (decide (p0 = 95))) from rfl) ?_
          refine x_mv' (show _ = (V.bool (decide (p0 = 95))) from rfl) ?_
          by_cases hp18 : p0 = 95
          · rw [if_pos hp18] at hD
            refine x_gn (show _ = (V.bool (decide (p0 = 95))) from rfl) (decide_eq_true hp18) ?_
            refine x_gn (show _ = (V.bool (decide (p0 = 95))) from rfl) (decide_eq_true hp18) ?_
            refine x_pickt' (show _ = (V.bool (decide (p0 = 95))) from rfl) (decide_eq_true hp18) (show _ = (V.bool true) from rfl) ?_
            refine x_mv' (show _ = (V.bool true) from rfl) ?_
            refine x_done ?_
            refine x_tN ?_
            refine x_retc ?_
            obtain rfl := Option.some.inj hD
            exact hR _ (ends_t (nf_of rfl (show _ = (V.bool true) from rfl)) (fun h => nomatch h))
          · rw [if_neg hp18] at hD
            refine x_gy (show _ = (V.bool (decide (p0 = 95))) from rfl) (decide_eq_false hp18) ?_
            refine x_mv' (nf_int h0) ?_
            refine x_gy (show _ = (V.bool (decide (p0 = 95))) from rfl) (decide_eq_false hp18) ?_
            refine x_bin (show _ = (V.int .u8 ((p0 : UInt8).toNat : Int)) from rfl) (show _ = (V.int .u8 ((46 : UInt8).toNat : Int)) from rfl) u8_eql ?_
            refine x_pickf' (show _ = (V.bool (decide (p0 = 95))) from rfl) (decide_eq_false hp18) (show _ = (V.bool (decide (p0 = 46))) from rfl) ?_
            refine x_mv' (show _ = (V.bool (decide (p0 = 46))) from rfl) ?_
            refine x_done ?_
            refine x_tN ?_
            refine x_retc ?_
            obtain rfl := Option.some.inj hD
            exact hR _ (ends_t (nf_of rfl (show _ = (V.bool (decide (p0 = 46))) from rfl)) (fun h => nomatch h))
    · rw [if_neg hp13] at hD
      refine x_gn (show _ = (V.bool (decide (65 ≤ p0))) from rfl) (decide_eq_false hp13) ?_
      refine x_gn (show _ = (V.bool (decide (65 ≤ p0))) from rfl) (decide_eq_false hp13) ?_
      refine x_gy (show _ = (V.bool false) from rfl) rfl ?_
      refine x_pickf' (show _ = (V.bool (decide (65 ≤ p0))) from rfl) (decide_eq_false hp13) (show _ = (V.bool false) from rfl) ?_
      refine x_pickf' (show _ = (V.bool false) from rfl) rfl (show _ = (V.bool false) from rfl) ?_
      refine x_mv' (show _ = (V.bool false) from rfl) ?_
      refine x_gy (show _ = (V.bool false) from rfl) rfl ?_
      refine x_mv' (nf_int h0) ?_
      refine x_gy (show _ = (V.bool false) from rfl) rfl ?_
      refine x_bin (show _ = (V.int .u8 ((48 : UInt8).toNat : Int)) from rfl) (show _ = (V.int .u8 ((p0 : UInt8).toNat : Int)) from rfl) u8_leq ?_
      refine x_gy (show _ = (V.bool false) from rfl) rfl ?_
      refine x_mv' (show _ = (V.bool (decide (48 ≤ p0))) from rfl) ?_
      by_cases hp19 : 48 ≤ p0
      · rw [if_pos hp19] at hD
        refine x_gy (show _ = (V.bool (decide (48 ≤ p0))) from rfl) (decide_eq_true hp19) ?_
        refine x_mv' (nf_int h0) ?_
        refine x_gy (show _ = (V.bool (decide (48 ≤ p0))) from rfl) (decide_eq_true hp19) ?_
        refine x_bin (show _ = (V.int .u8 ((p0 : UInt8).toNat : Int)) from rfl) (show _ = (V.int .u8 ((57 : UInt8).toNat : Int)) from rfl) u8_leq ?_
        refine x_gy (show _ = (V.bool false) from rfl) rfl ?_
        refine x_pickt' (show _ = (V.bool (decide (48 ≤ p0))) from rfl) (decide_eq_true hp19) (show _ = (V.bool (decide (p0 ≤ 57))) from rfl) ?_
        refine x_pickf' (show _ = (V.bool false) from rfl) rfl (show _ = (V.bool (decide (p0 ≤ 57))) from rfl) ?_
        refine x_mv' (show _ = (V.bool (decide (p0 ≤ 57))) from rfl) ?_
        by_cases hp20 : p0 ≤ 57
        · rw [if_pos hp20] at hD
          refine x_gn (show _ = (V.bool (decide (p0 ≤ 57))) from rfl) (decide_eq_true hp20) ?_
          refine x_gn (show _ = (V.bool (decide (p0 ≤ 57))) from rfl) (decide_eq_true hp20) ?_
          refine x_pickt' (show _ = (V.bool (decide (p0 ≤ 57))) from rfl) (decide_eq_true hp20) (show _ = (V.bool true) from rfl) ?_
          refine x_mv' (show _ = (V.bool true) from rfl) ?_
          refine x_gn (show _ = (V.bool true) from rfl) rfl ?_
          refine x_gn (show _ = (V.bool true) from rfl) rfl ?_
          refine x_pickt' (show _ = (V.bool true) from rfl) rfl (show _ = (V.bool true) from rfl) ?_
          refine x_mv' (show _ = (V.bool true) from rfl) ?_
          refine x_done ?_
          refine x_tN ?_
          refine x_retc ?_
          obtain rfl := Option.some.inj hD
          exact hR _ (ends_t (nf_of rfl (show _ = (V.bool true) from rfl)) (fun h => nomatch h))
        · rw [if_neg hp20] at hD
          refine x_gy (show _ = (V.bool (decide (p0 ≤ 57))) from rfl) (decide_eq_false hp20) ?_
          refine x_mv' (nf_int h0) ?_
          refine x_gy (show _ = (V.bool (decide (p0 ≤ 57))) from rfl) (decide_eq_false hp20) ?_
          refine x_bin (show _ = (V.int .u8 ((p0 : UInt8).toNat : Int)) from rfl) (show _ = (V.int .u8 ((95 : UInt8).toNat : Int)) from rfl) u8_eql ?_
          refine x_pickf' (show _ = (V.bool (decide (p0 ≤ 57))) from rfl) (decide_eq_false hp20) (show _ = (V.bool (decide (p0 = 95))) from rfl) ?_
          refine x_mv' (show _ = (V.bool (decide (p0 = 95))) from rfl) ?_
          by_cases hp21 : p0 = 95
          · rw [if_pos hp21] at hD
            refine x_gn (show _ = (V.bool (decide (p0 = 95))) from rfl) (decide_eq_true hp21) ?_
            refine x_gn (show _ = (V.bool (decide (p0 = 95))) from rfl) (decide_eq_true hp21) ?_
            refine x_pickt' (show _ = (V.bool (decide (p0 = 95))) from rfl) (decide_eq_true hp21) (show _ = (V.bool true) from rfl) ?_
            refine x_mv' (show _ = (V.bool true) from rfl) ?_
            refine x_done ?_
            refine x_tN ?_
            refine x_retc ?_
            obtain rfl := Option.some.inj hD
            exact hR _ (ends_t (nf_of rfl (show _ = (V.bool true) from rfl)) (fun h => nomatch h))
          · rw [if_neg hp21] at hD
            refine x_gy (show _ = (V.bool (decide (p0 = 95))) from rfl) (decide_eq_false hp21) ?_
            refine x_mv' (nf_int h0) ?_
            refine x_gy (show _ = (V.bool (decide (p0 = 95))) from rfl) (decide_eq_false hp21) ?_
            refine x_bin (show _ = (V.int .u8 ((p0 : UInt8).toNat : Int)) from rfl) (show _ = (V.int .u8 ((46 : UInt8).toNat : Int)) from rfl) u8_eql ?_
            refine x_pickf' (show _ = (V.bool (decide (p0 = 95))) from rfl) (decide_eq_false hp21) (show _ = (V.bool (decide (p0 = 46))) from rfl) ?_
            refine x_mv' (show _ = (V.bool (decide (p0 = 46))) from rfl) ?_
            refine x_done ?_
            refine x_tN ?_
            refine x_retc ?_
            obtain rfl := Option.some.inj hD
            exact hR _ (ends_t (nf_of rfl (show _ = (V.bool (decide (p0 = 46))) from rfl)) (fun h => nomatch h))
      · rw [if_neg hp19] at hD
        refine x_gn (show _ = (V.bool (decide (48 ≤ p0))) from rfl) (decide_eq_false hp19) ?_
        refine x_gn (show _ = (V.bool (decide (48 ≤ p0))) from rfl) (decide_eq_false hp19) ?_
        refine x_gy (show _ = (V.bool false) from rfl) rfl ?_
        refine x_pickf' (show _ = (V.bool (decide (48 ≤ p0))) from rfl) (decide_eq_false hp19) (show _ = (V.bool false) from rfl) ?_
        refine x_pickf' (show _ = (V.bool false) from rfl) rfl (show _ = (V.bool false) from rfl) ?_
        refine x_mv' (show _ = (V.bool false) from rfl) ?_
        refine x_gy (show _ = (V.bool false) from rfl) rfl ?_
        refine x_mv' (nf_int h0) ?_
        refine x_gy (show _ = (V.bool false) from rfl) rfl ?_
        refine x_bin (show _ = (V.int .u8 ((p0 : UInt8).toNat : Int)) from rfl) (show _ = (V.int .u8 ((95 : UInt8).toNat : Int)) from rfl) u8_eql ?_
        refine x_pickf' (show _ = (V.bool false) from rfl) rfl (show _ = (V.bool (decide (p0 = 95))) from rfl) ?_
        refine x_mv' (show _ = (V.bool (decide (p0 = 95))) from rfl) ?_
        by_cases hp22 : p0 = 95
        · rw [if_pos hp22] at hD
          refine x_gn (show _ = (V.bool (decide (p0 = 95))) from rfl) (decide_eq_true hp22) ?_
          refine x_gn (show _ = (V.bool (decide (p0 = 95))) from rfl) (decide_eq_true hp22) ?_
          refine x_pickt' (show _ = (V.bool (decide (p0 = 95))) from rfl) (decide_eq_true hp22) (show _ = (V.bool true) from rfl) ?_
          refine x_mv' (show _ = (V.bool true) from rfl) ?_
          refine x_done ?_
          refine x_tN ?_
          refine x_retc ?_
          obtain rfl := Option.some.inj hD
          exact hR _ (ends_t (nf_of rfl (show _ = (V.bool true) from rfl)) (fun h => nomatch h))
        · rw [if_neg hp22] at hD
          refine x_gy (show _ = (V.bool (decide (p0 = 95))) from rfl) (decide_eq_false hp22) ?_
          refine x_mv' (nf_int h0) ?_
          refine x_gy (show _ = (V.bool (decide (p0 = 95))) from rfl) (decide_eq_false hp22) ?_
          refine x_bin (show _ = (V.int .u8 ((p0 : UInt8).toNat : Int)) from rfl) (show _ = (V.int .u8 ((46 : UInt8).toNat : Int)) from rfl) u8_eql ?_
          refine x_pickf' (show _ = (V.bool (decide (p0 = 95))) from rfl) (decide_eq_false hp22) (show _ = (V.bool (decide (p0 = 46))) from rfl) ?_
          refine x_mv' (show _ = (V.bool (decide (p0 = 46))) from rfl) ?_
          refine x_done ?_
          refine x_tN ?_
          refine x_retc ?_
          obtain rfl := Option.some.inj hD
          exact hR _ (ends_t (nf_of rfl (show _ = (V.bool (decide (p0 = 46))) from rfl)) (fun h => nomatch h))
def K.expr_tag : FC := fc F.expr_tag (fun _ => true) false (fun (a : UInt8) => [(V.int .u8 ((a : UInt8).toNat : Int))]) (fun (y : Bool) => (V.bool y)) (fun a => g.expr_tag a)
  (fun a => (cleanL_mk rfl rfl))
  (fun y => rfl)
  (fun a0 b0 h => by
    obtain ⟨h0, h⟩ := List.cons.inj h
    obtain rfl : a0 = b0 := byteV_inj h0
    rfl)
theorem H.expr_tag (w : World) (_hw : EnvOK w) : K.expr_tag.Holds (cxD w) :=
  FC.holds_of (cs := []) (glD w) mixed cf_expr_tag (fun _ _ ⟨_, _, h, _⟩ => by subst h; exact Nat.le_of_ble_eq_true rfl) fun v y ⟨a, r, hv, hD, hy⟩ => by
    subst hy
    exact ok.expr_tag hv hD
def c_expr_Tag_1 : ACode := (.seq (.region [
  ⟨(some 2), (.mv (.const (.bool false))), none, []⟩] false) (.seq (.region [
  ⟨(some 3), (.mv (.tmp 0)), none, []⟩, 
  ⟨(some 4), (.call F.expr_tag [(.tmp 3)]), none, []⟩, 
  ⟨(some 5), (.un .not (.tmp 4)), none, []⟩, 
  ⟨(some 2), (.mv (.tmp 5)), none, []⟩] false) .ret))
theorem cf_expr_Tag_1 : cFn Go.Proofs.Tryd.prog F.expr_Tag_1 = some ⟨6, c_expr_Tag_1, [.t 2]⟩ := by kernel_rfl
def g.expr_Tag_1 (p0 : UInt8) : Option Bool :=
  (g.expr_tag p0).bind fun r2 =>
  some (!r2)
theorem ok.expr_Tag_1 {Γ : Abs.Spec} {gl : Glob} (hC_expr_tag : CallsX Γ K.expr_tag) {r : Bool} {p0 : UInt8} {v : List V}
    (hv : nfL v = [(V.int .u8 ((p0 : UInt8).toNat : Int))]) (hD : g.expr_Tag_1 p0 = some r) : awp Γ gl c_expr_Tag_1 (endQ [.t 2] false (V.bool r)) (St.init v) := by
  obtain ⟨v0, v, rfl, h0, hv⟩ := nfL_cons hv
  obtain rfl := nfL_nil hv
  have hR : ∀ s, EndsX [.t 2] false (V.bool r) s → endQ [.t 2] false (V.bool r) .ret s := fun _ h => h
  unfold g.expr_Tag_1 at hD
  unfold c_expr_Tag_1
  refine x_seq ?_
  refine x_start (b := false) ?_
  refine x_mv' (show _ = (V.bool false) from rfl) ?_
  refine x_done ?_
  refine x_tN ?_
  refine x_seq ?_
  refine x_start (b := false) ?_
  refine x_mv' (nf_int h0) ?_
  obtain ⟨r2, hx3, hD⟩ := Option.bind_eq_some_iff.1 hD
  refine x_callF hC_expr_tag (a := (p0)) (cons_eq (nf_of rfl (show _ = (V.int .u8 ((p0 : UInt8).toNat : Int)) from rfl)) rfl) hx3 fun v1 ov1 (hv1 : v1.nf = (V.bool r2)) hov1 => ?_
  refine x_un (nf_bool hv1) (aun_not _) ?_
  refine x_mv' (show _ = (V.bool (!r2)) from rfl) ?_
  refine x_done ?_
  refine x_tN ?_
  refine x_retc ?_
  obtain rfl := Option.some.inj hD
  exact hR _ (ends_t (nf_of rfl (show _ = (V.bool (!r2)) from rfl)) (fun h => nomatch h))
def K.expr_Tag_1 : FC := fc F.expr_Tag_1 (fun _ => true) false (fun (a : UInt8) => [(V.int .u8 ((a : UInt8).toNat : Int))]) (fun (y : Bool) => (V.bool y)) (fun a => g.expr_Tag_1 a)
  (fun a => (cleanL_mk rfl rfl))
  (fun y => rfl)
  (fun a0 b0 h => by
    obtain ⟨h0, h⟩ := List.cons.inj h
    obtain rfl : a0 = b0 := byteV_inj h0
    rfl)
theorem H.expr_Tag_1 (w : World) (hw : EnvOK w) : K.expr_Tag_1.Holds (cxD w) :=
  FC.holds_of (cs := [K.expr_tag]) (glD w) mixed cf_expr_Tag_1 (fun _ _ ⟨_, _, h, _⟩ => by subst h; exact Nat.le_of_ble_eq_true rfl) fun v y ⟨a, r, hv, hD, hy⟩ => by
    subst hy
    exact ok.expr_Tag_1 (specOf_calls (H.expr_tag w hw) (fun _ _ ⟨_, _, h, _⟩ => by subst h; rfl)) hv hD
def E.Lu8 (l : (List UInt8)) : V := .sl false 1 (l.map byteV)
theorem E.Lu8_clean (l : (List UInt8)) : (E.Lu8 l).clean = true := cleanL_map (fun x => rfl) l
theorem E.Lu8_inj {a b : (List UInt8)} (h : E.Lu8 a = E.Lu8 b) : a = b := by
  simp only [E.Lu8, V.sl.injEq, true_and] at h
  exact map_inj (fun x y h => byteV_inj h) h
theorem E.Lu8_fit (l : (List UInt8)) : (E.Lu8 l).cells.length = 1 ∧ (E.Lu8 l).cells.all V.sc = true := ⟨rfl, rfl⟩
def c_slices_IndexFunc_Lbyte_byte_expr_Tag_1_l1 : ACode := (.seq (.region [
  ⟨(some 9), (.bin .lss .no (.tmp 8) (.tmp 7)), none, []⟩] false) (.seq (.cond (.tmp 9) .skip (.exit 0)) (.seq (.block 1 (.seq (.region [
  ⟨(some 10), (.mv (.tmp 8)), none, []⟩, 
  ⟨(some 5), (.mv (.tmp 10)), none, []⟩] false) (.seq (.region [
  ⟨(some 11), (.mv (.tmp 1)), none, []⟩, 
  ⟨(some 12), (.mv (.tmp 0)), none, []⟩, 
  ⟨(some 13), (.mv (.tmp 5)), none, []⟩, 
  ⟨(some 14), (.iaddr 1 (.tmp 12) (.tmp 13)), none, []⟩, 
  ⟨(some 15), (.load none (.tmp 14)), none, []⟩, 
  ⟨(some 16), (.callv (.tmp 11) [(.tmp 15)]), none, []⟩] false) (.cond (.tmp 16) (.seq (.region [
  ⟨(some 17), (.mv (.tmp 5)), none, []⟩, 
  ⟨(some 4), (.mv (.tmp 17)), none, []⟩] false) .ret) .skip)))) (.region [
  ⟨(some 18), (.bin .add .no (.tmp 8) (.const (.int .i64 1))), none, []⟩, 
  ⟨(some 8), (.mv (.tmp 18)), none, []⟩] false))))
def c_slices_IndexFunc_Lbyte_byte_expr_Tag_1 : ACode := (.seq (.region [
  ⟨(some 4), (.mv (.const (.int .i64 0))), none, []⟩] false) (.seq (.seq (.region [
  ⟨(some 6), (.mv (.tmp 0)), none, []⟩, 
  ⟨(some 7), (.len false (.tmp 6)), none, []⟩, 
  ⟨(some 8), (.mv (.const (.int .i64 0))), none, []⟩] false) (.block 0 (.loop c_slices_IndexFunc_Lbyte_byte_expr_Tag_1_l1))) (.seq (.region [
  ⟨(some 4), (.mv (.const (.int .i64 (-1)))), none, []⟩] false) .ret)))
theorem cf_slices_IndexFunc_Lbyte_byte_expr_Tag_1 : cFn Go.Proofs.Tryd.prog F.slices_IndexFunc_Lbyte_byte = some ⟨19, c_slices_IndexFunc_Lbyte_byte_expr_Tag_1, [.t 4]⟩ := by kernel_rfl
def L.slices_IndexFunc_Lbyte_byte_expr_Tag_1_l1 (k0 : Option Int) : List UInt8 → Nat → Option Int
  | [], k4 =>
    k0
  | a25 :: rest, k4 =>
    (g.expr_Tag_1 a25).bind fun r38 =>
    if r38 = true then
      some ((k4 : Nat) : Int)
    else
      L.slices_IndexFunc_Lbyte_byte_expr_Tag_1_l1 k0 rest (k4 + 1)
theorem ok.slices_IndexFunc_Lbyte_byte_expr_Tag_1_l1 {Γ : Abs.Spec} {gl : Glob} (hC_expr_Tag_1 : CallsX Γ K.expr_Tag_1) {Q : Ex → St → Prop} {r : Int} {l3 : List UInt8} {k0 : Option Int}
    (hk0 : ∀ (s : St), k0 = some r → Q (.exit 0) s)
    (hR : ∀ s, EndsX [.t 4] false (V.int .i64 r) s → Q .ret s)
    (hlen : l3.length ≤ Lim) : ∀ (rest : List UInt8) (k4 : Nat) (s : St), l3.drop k4 = rest → k4 ≤ l3.length →
    ((s.tm 0).nf = V.sl false 1 (List.map byteV l3)) → (s.tm 7 = V.int .i64 ((l3.length : Nat) : Int)) → (s.tm 8 = V.int .i64 ((k4 : Nat) : Int)) → ((s.tm 1).nf = (V.fn F.expr_Tag_1 [])) →
    L.slices_IndexFunc_Lbyte_byte_expr_Tag_1_l1 k0 rest k4 = some r → awp Γ gl (.loop c_slices_IndexFunc_Lbyte_byte_expr_Tag_1_l1) Q s := by
  intro rest
  induction rest with
  | nil =>
    intro k4 s hdrop hkl hX hN hI h24 hD
    have hkz := drop_nil hdrop hkl
    have hp0 : ¬ (((k4 : Nat) : Int) < ((l3.length : Nat) : Int)) := by omega
    refine awp_roundK fun K hK => ?_
    rw [L.slices_IndexFunc_Lbyte_byte_expr_Tag_1_l1] at hD
    refine x_seq ?_
    refine x_start (b := false) ?_
    refine x_bin hI hN b_lss ?_
    refine x_done ?_
    refine x_tN ?_
    refine x_seq ?_
    refine x_cf (show _ = (V.bool (decide (((k4 : Nat) : Int) < ((l3.length : Nat) : Int)))) from rfl) (decide_eq_false hp0) ?_
    refine x_exitc ?_
    refine x_tE ?_
    refine x_tE ?_
    refine hk0 _ hD
  | cons a25 rest ih =>
    intro k4 s hdrop hkl hX hN hI h24 hD
    obtain ⟨hlt, -, hget, hdrop1, -⟩ := drop_cons hdrop
    have hp1 : ((k4 : Nat) : Int) < ((l3.length : Nat) : Int) := by omega
    have hwk := wi_succ (k := k4) (by unfold Lim at hlen; omega)
    refine awp_roundK fun K hK => ?_
    rw [L.slices_IndexFunc_Lbyte_byte_expr_Tag_1_l1] at hD
    refine x_seq ?_
    refine x_start (b := false) ?_
    refine x_bin hI hN b_lss ?_
    refine x_done ?_
    refine x_tN ?_
    refine x_seq ?_
    refine x_ct (show _ = (V.bool (decide (((k4 : Nat) : Int) < ((l3.length : Nat) : Int)))) from rfl) (decide_eq_true hp1) ?_
    refine x_skip ?_
    refine x_tN ?_
    refine x_seq ?_
    refine x_block ?_
    refine x_seq ?_
    refine x_start (b := false) ?_
    refine x_mv' hI ?_
    refine x_mv' (show _ = (V.int .i64 ((k4 : Nat) : Int)) from rfl) ?_
    refine x_done ?_
    refine x_tN ?_
    refine x_seq ?_
    refine x_start (b := false) ?_
    refine x_mv h24 fun v33 hv33 => ?_
    refine x_mv hX fun v34 hv34 => ?_
    refine x_mv' (show _ = (V.int .i64 ((k4 : Nat) : Int)) from rfl) ?_
    refine x_iaddr hv34 (show _ = (V.int .i64 ((k4 : Nat) : Int)) from rfl) (at_k hget) fun v35 (hv35 : v35.nf = V.el [(V.int .u8 ((a25 : UInt8).toNat : Int))] 0) => ?_
    refine x_load_el hv35 (show _ = some (V.int .u8 ((a25 : UInt8).toNat : Int)) from rfl) fun v36 hv36 => ?_
    obtain ⟨r38, hx39, hD⟩ := Option.bind_eq_some_iff.1 hD
    refine x_callvF hC_expr_Tag_1 hv33 (a := (a25)) (cons_eq (nf_of rfl (nf_int hv36)) rfl) hx39 fun v37 ov37 (hv37 : v37.nf = (V.bool r38)) hov37 => ?_
    refine x_done ?_
    refine x_tN ?_
    by_cases hp40 : r38 = true
    · rw [if_pos hp40] at hD
      refine x_ct (nf_bool hv37) hp40 ?_
      refine x_seq ?_
      refine x_start (b := false) ?_
      refine x_mv' (show _ = (V.int .i64 ((k4 : Nat) : Int)) from rfl) ?_
      refine x_mv' (show _ = (V.int .i64 ((k4 : Nat) : Int)) from rfl) ?_
      refine x_done ?_
      refine x_tN ?_
      refine x_retc ?_
      refine x_bR ?_
      refine x_tR ?_
      refine x_tR ?_
      obtain rfl := Option.some.inj hD
      exact hR _ (ends_t (nf_of rfl (show _ = (V.int .i64 ((k4 : Nat) : Int)) from rfl)) (fun h => nomatch h))
    · rw [if_neg hp40] at hD
      refine x_cf (nf_bool hv37) (Bool.eq_false_iff.2 hp40) ?_
      refine x_skip ?_
      refine x_bN ?_
      refine x_tN ?_
      refine x_start (b := false) ?_
      refine x_bin hI (show _ = (V.int .i64 1) from rfl) b_add ?_
      refine x_mv' (show _ = (V.int .i64 (wi (((k4 : Nat) : Int) + 1))) from rfl) ?_
      refine x_done ?_
      refine x_tN ?_
      refine hK _ ?_
      refine ih (k4 + 1) _ hdrop1 hlt ?_ ?_ ?_ ?_ hD
      · exact hX
      · exact hN
      · exact (Eq.trans (show _ = (V.int .i64 (wi (((k4 : Nat) : Int) + 1))) from rfl) (congrArg (V.int .i64) hwk))
      · exact h24
def g.slices_IndexFunc_Lbyte_byte_expr_Tag_1 (p0 : (List UInt8)) : Option Int :=
  if p0.length ≤ Lim then L.slices_IndexFunc_Lbyte_byte_expr_Tag_1_l1 (some (-1)) p0 0 else none
theorem ok.slices_IndexFunc_Lbyte_byte_expr_Tag_1 {Γ : Abs.Spec} {gl : Glob} (hC_expr_Tag_1 : CallsX Γ K.expr_Tag_1) {r : Int} {p0 : (List UInt8)} {v : List V}
    (hv : nfL v = [(V.sl false 1 (List.map byteV p0)), (V.fn F.expr_Tag_1 [])]) (hD : g.slices_IndexFunc_Lbyte_byte_expr_Tag_1 p0 = some r) : awp Γ gl c_slices_IndexFunc_Lbyte_byte_expr_Tag_1 (endQ [.t 4] false (V.int .i64 r)) (St.init v) := by
  obtain ⟨v0, v, rfl, h0, hv⟩ := nfL_cons hv
  obtain ⟨v1, v, rfl, h1, hv⟩ := nfL_cons hv
  obtain rfl := nfL_nil hv
  have hR : ∀ s, EndsX [.t 4] false (V.int .i64 r) s → endQ [.t 4] false (V.int .i64 r) .ret s := fun _ h => h
  unfold g.slices_IndexFunc_Lbyte_byte_expr_Tag_1 at hD
  unfold c_slices_IndexFunc_Lbyte_byte_expr_Tag_1
  refine x_seq ?_
  refine x_start (b := false) ?_
  refine x_mv' (show _ = (V.int .i64 0) from rfl) ?_
  refine x_done ?_
  refine x_tN ?_
  refine x_seq ?_
  refine x_seq ?_
  refine x_start (b := false) ?_
  refine x_mv h0 fun v2 hv2 => ?_
  refine x_len hv2 ?_
  refine x_mv' (show _ = (V.int .i64 0) from rfl) ?_
  refine x_done ?_
  refine x_tN ?_
  refine x_block ?_
  by_cases hlen42 : p0.length ≤ Lim
  · rw [if_pos hlen42] at hD
    refine ok.slices_IndexFunc_Lbyte_byte_expr_Tag_1_l1 (l3 := p0) hC_expr_Tag_1 (fun s41 hD => ?_) (fun _ hE => ?_) hlen42 _ 0 _ rfl (Nat.zero_le _) ?_ ?_ ?_ ?_ hD
    · refine x_bE ?_
      refine x_tN ?_
      refine x_seq ?_
      refine x_start (b := false) ?_
      refine x_mv' (show _ = (V.int .i64 (-1)) from rfl) ?_
      refine x_done ?_
      refine x_tN ?_
      refine x_retc ?_
      obtain rfl := Option.some.inj hD
      exact hR _ (ends_t (nf_of rfl (show _ = (V.int .i64 (-1)) from rfl)) (fun h => nomatch h))
    · refine x_bR ?_; refine x_tR ?_; exact hR _ hE
    · exact h0
    · exact (show _ = (V.int .i64 ((p0.length : Nat) : Int)) from rfl)
    · exact (show _ = (V.int .i64 0) from rfl)
    · exact h1
  · rw [if_neg hlen42] at hD; cases hD
def K.slices_IndexFunc_Lbyte_byte_expr_Tag_1 : FC := fc F.slices_IndexFunc_Lbyte_byte (fun avs => isFn F.expr_Tag_1 avs[1]?) false (fun (a : (List UInt8)) => [(V.sl false 1 (List.map byteV a)), (V.fn F.expr_Tag_1 [])]) (fun (y : Int) => (V.int .i64 y)) (fun a => g.slices_IndexFunc_Lbyte_byte_expr_Tag_1 a)
  (fun a => (cleanL_mk (E.Lu8_clean _) (cleanL_mk rfl rfl)))
  (fun y => rfl)
  (fun a0 b0 h => by
    obtain ⟨h0, h⟩ := List.cons.inj h
    obtain rfl : a0 = b0 := E.Lu8_inj h0
    obtain ⟨h0, h⟩ := List.cons.inj h
    rfl)
theorem H.slices_IndexFunc_Lbyte_byte_expr_Tag_1 (w : World) (hw : EnvOK w) : K.slices_IndexFunc_Lbyte_byte_expr_Tag_1.Holds (cxD w) :=
  FC.holds_of (cs := [K.expr_Tag_1]) (glD w) mixed cf_slices_IndexFunc_Lbyte_byte_expr_Tag_1 (fun _ _ ⟨_, _, h, _⟩ => by subst h; exact Nat.le_of_ble_eq_true rfl) fun v y ⟨a, r, hv, hD, hy⟩ => by
    subst hy
    exact ok.slices_IndexFunc_Lbyte_byte_expr_Tag_1 (specOf_calls (H.expr_Tag_1 w hw) (fun _ _ ⟨_, _, h, _⟩ => by subst h; rfl)) hv hD
def c_slices_ContainsFunc_Lbyte_byte_expr_Tag_1 : ACode := (.seq (.region [
  ⟨(some 4), (.mv (.const (.bool false))), none, []⟩] false) (.seq (.region [
  ⟨(some 5), (.mv (.tmp 0)), none, []⟩, 
  ⟨(some 6), (.mv (.tmp 1)), none, []⟩, 
  ⟨(some 7), (.call F.slices_IndexFunc_Lbyte_byte [(.tmp 5), (.tmp 6)]), none, []⟩, 
  ⟨(some 8), (.bin .geq .no (.tmp 7) (.const (.int .i64 0))), none, []⟩, 
  ⟨(some 4), (.mv (.tmp 8)), none, []⟩] false) .ret))
theorem cf_slices_ContainsFunc_Lbyte_byte_expr_Tag_1 : cFn Go.Proofs.Tryd.prog F.slices_ContainsFunc_Lbyte_byte = some ⟨9, c_slices_ContainsFunc_Lbyte_byte_expr_Tag_1, [.t 4]⟩ := by kernel_rfl
def g.slices_ContainsFunc_Lbyte_byte_expr_Tag_1 (p0 : (List UInt8)) : Option Bool :=
  (g.slices_IndexFunc_Lbyte_byte_expr_Tag_1 p0).bind fun r4 =>
  some (decide (0 ≤ r4))
theorem ok.slices_ContainsFunc_Lbyte_byte_expr_Tag_1 {Γ : Abs.Spec} {gl : Glob} (hC_slices_IndexFunc_Lbyte_byte_expr_Tag_1 : CallsX Γ K.slices_IndexFunc_Lbyte_byte_expr_Tag_1) {r : Bool} {p0 : (List UInt8)} {v : List V}
    (hv : nfL v = [(V.sl false 1 (List.map byteV p0)), (V.fn F.expr_Tag_1 [])]) (hD : g.slices_ContainsFunc_Lbyte_byte_expr_Tag_1 p0 = some r) : awp Γ gl c_slices_ContainsFunc_Lbyte_byte_expr_Tag_1 (endQ [.t 4] false (V.bool r)) (St.init v) := by
  obtain ⟨v0, v, rfl, h0, hv⟩ := nfL_cons hv
  obtain ⟨v1, v, rfl, h1, hv⟩ := nfL_cons hv
  obtain rfl := nfL_nil hv
  have hR : ∀ s, EndsX [.t 4] false (V.bool r) s → endQ [.t 4] false (V.bool r) .ret s := fun _ h => h
  unfold g.slices_ContainsFunc_Lbyte_byte_expr_Tag_1 at hD
  unfold c_slices_ContainsFunc_Lbyte_byte_expr_Tag_1
  refine x_seq ?_
  refine x_start (b := false) ?_
  refine x_mv' (show _ = (V.bool false) from rfl) ?_
  refine x_done ?_
  refine x_tN ?_
  refine x_seq ?_
  refine x_start (b := false) ?_
  refine x_mv h0 fun v1 hv1 => ?_
  refine x_mv h1 fun v2 hv2 => ?_
  obtain ⟨r4, hx5, hD⟩ := Option.bind_eq_some_iff.1 hD
  refine x_callF hC_slices_IndexFunc_Lbyte_byte_expr_Tag_1 (a := (p0)) (cons_eq hv1 (cons_eq hv2 rfl)) hx5 fun v3 ov3 (hv3 : v3.nf = (V.int .i64 r4)) hov3 => ?_
  refine x_bin (nf_int hv3) (show _ = (V.int .i64 0) from rfl) b_geq ?_
  refine x_mv' (show _ = (V.bool (decide (0 ≤ r4))) from rfl) ?_
  refine x_done ?_
  refine x_tN ?_
  refine x_retc ?_
  obtain rfl := Option.some.inj hD
  exact hR _ (ends_t (nf_of rfl (show _ = (V.bool (decide (0 ≤ r4))) from rfl)) (fun h => nomatch h))
def K.slices_ContainsFunc_Lbyte_byte_expr_Tag_1 : FC := fc F.slices_ContainsFunc_Lbyte_byte (fun avs => isFn F.expr_Tag_1 avs[1]?) false (fun (a : (List UInt8)) => [(V.sl false 1 (List.map byteV a)), (V.fn F.expr_Tag_1 [])]) (fun (y : Bool) => (V.bool y)) (fun a => g.slices_ContainsFunc_Lbyte_byte_expr_Tag_1 a)
  (fun a => (cleanL_mk (E.Lu8_clean _) (cleanL_mk rfl rfl)))
  (fun y => rfl)
  (fun a0 b0 h => by
    obtain ⟨h0, h⟩ := List.cons.inj h
    obtain rfl : a0 = b0 := E.Lu8_inj h0
    obtain ⟨h0, h⟩ := List.cons.inj h
    rfl)
theorem H.slices_ContainsFunc_Lbyte_byte_expr_Tag_1 (w : World) (hw : EnvOK w) : K.slices_ContainsFunc_Lbyte_byte_expr_Tag_1.Holds (cxD w) :=
  FC.holds_of (cs := [K.slices_IndexFunc_Lbyte_byte_expr_Tag_1]) (glD w) mixed cf_slices_ContainsFunc_Lbyte_byte_expr_Tag_1 (fun _ _ ⟨_, _, h, _⟩ => by subst h; exact Nat.le_of_ble_eq_true rfl) fun v y ⟨a, r, hv, hD, hy⟩ => by
    subst hy
    exact ok.slices_ContainsFunc_Lbyte_byte_expr_Tag_1 (specOf_calls (H.slices_IndexFunc_Lbyte_byte_expr_Tag_1 w hw) (fun _ _ ⟨_, _, h, _⟩ => by subst h; rfl)) hv hD
def c_expr_Tag : ACode := (.seq (.region [
  ⟨(some 2), (.mv (.const (.bool false))), none, []⟩] false) (.seq (.region [
  ⟨(some 3), (.mv (.tmp 0)), none, []⟩, 
  ⟨(some 4), (.bin .neq .no (.tmp 3) (.const (.str []))), none, []⟩, 
  ⟨(some 5), (.mv (.tmp 4)), none, []⟩, 
  ⟨(some 6), (.mv (.tmp 0)), (some (5, true)), []⟩, 
  ⟨(some 7), (.s2b (.tmp 6)), (some (5, true)), []⟩, 
  ⟨(some 8), (.call F.slices_ContainsFunc_Lbyte_byte [(.tmp 7), (.const (.fn F.expr_Tag_1 []))]), (some (5, true)), []⟩, 
  ⟨(some 9), (.un .not (.tmp 8)), (some (5, true)), []⟩, 
  ⟨(some 10), (.pick (.tmp 5) (.tmp 9) (.const (.bool false))), none, []⟩, 
  ⟨(some 2), (.mv (.tmp 10)), none, []⟩] false) .ret))
theorem cf_expr_Tag : cFn Go.Proofs.Tryd.prog F.expr_Tag = some ⟨11, c_expr_Tag, [.t 2]⟩ := by kernel_rfl
def g.expr_Tag (p0 : Bytes) : Option Bool :=
  if p0 = ([] : Bytes) then
    some false
  else
    (g.slices_ContainsFunc_Lbyte_byte_expr_Tag_1 p0).bind fun r4 =>
    some (!r4)
theorem ok.expr_Tag {Γ : Abs.Spec} {gl : Glob} (hC_slices_ContainsFunc_Lbyte_byte_expr_Tag_1 : CallsX Γ K.slices_ContainsFunc_Lbyte_byte_expr_Tag_1) {r : Bool} {p0 : Bytes} {v : List V}
    (hv : nfL v = [(V.str p0)]) (hD : g.expr_Tag p0 = some r) : awp Γ gl c_expr_Tag (endQ [.t 2] false (V.bool r)) (St.init v) := by
  obtain ⟨v0, v, rfl, h0, hv⟩ := nfL_cons hv
  obtain rfl := nfL_nil hv
  have hR : ∀ s, EndsX [.t 2] false (V.bool r) s → endQ [.t 2] false (V.bool r) .ret s := fun _ h => h
  unfold g.expr_Tag at hD
  unfold c_expr_Tag
  refine x_seq ?_
  refine x_start (b := false) ?_
  refine x_mv' (show _ = (V.bool false) from rfl) ?_
  refine x_done ?_
  refine x_tN ?_
  refine x_seq ?_
  refine x_start (b := false) ?_
  refine x_mv' (nf_str h0) ?_
  refine x_bin (show _ = (V.str p0) from rfl) (show _ = (V.str ([] : Bytes)) from rfl) s_neq ?_
  refine x_mv' (show _ = (V.bool (!(decide (p0 = ([] : Bytes))))) from rfl) ?_
  by_cases hp1 : p0 = ([] : Bytes)
  · rw [if_pos hp1] at hD
    refine x_gn (show _ = (V.bool (!(decide (p0 = ([] : Bytes))))) from rfl) (bnot_t (decide_eq_true hp1)) ?_
    refine x_gn (show _ = (V.bool (!(decide (p0 = ([] : Bytes))))) from rfl) (bnot_t (decide_eq_true hp1)) ?_
    refine x_gn (show _ = (V.bool (!(decide (p0 = ([] : Bytes))))) from rfl) (bnot_t (decide_eq_true hp1)) ?_
    refine x_gn (show _ = (V.bool (!(decide (p0 = ([] : Bytes))))) from rfl) (bnot_t (decide_eq_true hp1)) ?_
    refine x_pickf' (show _ = (V.bool (!(decide (p0 = ([] : Bytes))))) from rfl) (bnot_t (decide_eq_true hp1)) (show _ = (V.bool false) from rfl) ?_
    refine x_mv' (show _ = (V.bool false) from rfl) ?_
    refine x_done ?_
    refine x_tN ?_
    refine x_retc ?_
    obtain rfl := Option.some.inj hD
    exact hR _ (ends_t (nf_of rfl (show _ = (V.bool false) from rfl)) (fun h => nomatch h))
  · rw [if_neg hp1] at hD
    refine x_gy (show _ = (V.bool (!(decide (p0 = ([] : Bytes))))) from rfl) (bnot_f (decide_eq_false hp1)) ?_
    refine x_mv' (nf_str h0) ?_
    refine x_gy (show _ = (V.bool (!(decide (p0 = ([] : Bytes))))) from rfl) (bnot_f (decide_eq_false hp1)) ?_
    refine x_s2b (show _ = (V.str p0) from rfl) fun v2 ov2 hv2 hov2 => ?_
    refine x_gy (show _ = (V.bool (!(decide (p0 = ([] : Bytes))))) from rfl) (bnot_f (decide_eq_false hp1)) ?_
    obtain ⟨r4, hx5, hD⟩ := Option.bind_eq_some_iff.1 hD
    refine x_callF hC_slices_ContainsFunc_Lbyte_byte_expr_Tag_1 (a := (p0)) (cons_eq hv2 (cons_eq (show V.nf _ = (V.fn F.expr_Tag_1 []) from rfl) rfl)) hx5 fun v3 ov3 (hv3 : v3.nf = (V.bool r4)) hov3 => ?_
    refine x_gy (show _ = (V.bool (!(decide (p0 = ([] : Bytes))))) from rfl) (bnot_f (decide_eq_false hp1)) ?_
    refine x_un (nf_bool hv3) (aun_not _) ?_
    refine x_pickt' (show _ = (V.bool (!(decide (p0 = ([] : Bytes))))) from rfl) (bnot_f (decide_eq_false hp1)) (show _ = (V.bool (!r4)) from rfl) ?_
    refine x_mv' (show _ = (V.bool (!r4)) from rfl) ?_
    refine x_done ?_
    refine x_tN ?_
    refine x_retc ?_
    obtain rfl := Option.some.inj hD
    exact hR _ (ends_t (nf_of rfl (show _ = (V.bool (!r4)) from rfl)) (fun h => nomatch h))
def K.expr_Tag : FC := fc F.expr_Tag (fun _ => true) false (fun (a : Bytes) => [(V.str a)]) (fun (y : Bool) => (V.bool y)) (fun a => g.expr_Tag a)
  (fun a => (cleanL_mk rfl rfl))
  (fun y => rfl)
  (fun a0 b0 h => by
    obtain ⟨h0, h⟩ := List.cons.inj h
    obtain rfl : a0 = b0 := V.str.inj h0
    rfl)
theorem H.expr_Tag (w : World) (hw : EnvOK w) : K.expr_Tag.Holds (cxD w) :=
  FC.holds_of (cs := [K.slices_ContainsFunc_Lbyte_byte_expr_Tag_1]) (glD w) mixed cf_expr_Tag (fun _ _ ⟨_, _, h, _⟩ => by subst h; exact Nat.le_of_ble_eq_true rfl) fun v y ⟨a, r, hv, hD, hy⟩ => by
    subst hy
    exact ok.expr_Tag (specOf_calls (H.slices_ContainsFunc_Lbyte_byte_expr_Tag_1 w hw) (fun _ _ ⟨_, _, h, _⟩ => by subst h; rfl)) hv hD
def c_plus_term : ACode := (.seq (.region [
  ⟨(some 2), (.mv (.const (.str []))), none, []⟩, 
  ⟨(some 3), (.mv (.const (.int .i64 0))), none, []⟩] false) (.seq (.region [
  ⟨(some 7), (.mv (.tmp 0)), none, []⟩, 
  ⟨(some 8), (.call F.strings_CutPrefix [(.tmp 7), (.const (.str [33]))]), none, []⟩, 
  ⟨(some 6), (.mv (.tmp 8)), none, []⟩, 
  ⟨(some 9), (.ext (.tmp 6) 0), none, []⟩, 
  ⟨(some 10), (.ext (.tmp 6) 1), none, []⟩, 
  ⟨(some 4), (.mv (.tmp 9)), none, []⟩, 
  ⟨(some 5), (.mv (.tmp 10)), none, []⟩] false) (.seq (.seq (.region [
  ⟨(some 11), (.mv (.tmp 4)), none, []⟩, 
  ⟨(some 12), (.call F.expr_Tag [(.tmp 11)]), none, []⟩, 
  ⟨(some 13), (.un .not (.tmp 12)), none, []⟩] false) (.cond (.tmp 13) (.seq (.region [
  ⟨(some 2), (.mv (.const (.str []))), none, []⟩, 
  ⟨(some 3), (.mv (.const (.int .i64 4))), none, []⟩] false) .ret) .skip)) (.seq (.seq (.region [
  ⟨(some 14), (.mv (.tmp 5)), none, []⟩] false) (.cond (.tmp 14) (.seq (.region [
  ⟨(some 15), (.mv (.tmp 4)), none, []⟩, 
  ⟨(some 16), (.bin .add .no (.const (.str [33])) (.tmp 15)), none, []⟩, 
  ⟨(some 2), (.mv (.tmp 16)), none, []⟩, 
  ⟨(some 3), (.mv (.const (.int .i64 0))), none, []⟩] false) .ret) .skip)) (.seq (.region [
  ⟨(some 17), (.mv (.tmp 4)), none, []⟩, 
  ⟨(some 2), (.mv (.tmp 17)), none, []⟩, 
  ⟨(some 3), (.mv (.const (.int .i64 0))), none, []⟩] false) .ret)))))
theorem cf_plus_term : cFn Go.Proofs.Tryd.prog F.plus_term = some ⟨18, c_plus_term, [.t 2, .t 3]⟩ := by kernel_rfl
def g.plus_term (p0 : Bytes) : Option (Bytes × Int) :=
  (g.strings_CutPrefix p0 ([33] : Bytes)).bind fun r8 =>
  (g.expr_Tag r8.1).bind fun r24 =>
  if r24 = true then
    if r8.2 = true then
      (cat ([33] : Bytes) r8.1).bind fun z28 =>
      some (z28, 0)
    else
      some (r8.1, 0)
  else
    some (([] : Bytes), 4)
theorem ok.plus_term {Γ : Abs.Spec} {gl : Glob} (hC_strings_CutPrefix : CallsX Γ K.strings_CutPrefix) (hC_expr_Tag : CallsX Γ K.expr_Tag) {r : (Bytes × Int)} {p0 : Bytes} {v : List V}
    (hv : nfL v = [(V.str p0)]) (hD : g.plus_term p0 = some r) : awp Γ gl c_plus_term (endQ [.t 2, .t 3] false (V.tup [(V.str r.1), (V.int .i64 r.2)])) (St.init v) := by
  obtain ⟨v0, v, rfl, h0, hv⟩ := nfL_cons hv
  obtain rfl := nfL_nil hv
  have hR : ∀ s, EndsX [.t 2, .t 3] false (V.tup [(V.str r.1), (V.int .i64 r.2)]) s → endQ [.t 2, .t 3] false (V.tup [(V.str r.1), (V.int .i64 r.2)]) .ret s := fun _ h => h
  unfold g.plus_term at hD
  unfold c_plus_term
  refine x_seq ?_
  refine x_start (b := false) ?_
  refine x_mv' (show _ = (V.str ([] : Bytes)) from rfl) ?_
  refine x_mv' (show _ = (V.int .i64 0) from rfl) ?_
  refine x_done ?_
  refine x_tN ?_
  refine x_seq ?_
  refine x_start (b := false) ?_
  refine x_mv' (nf_str h0) ?_
  obtain ⟨r8, hx9, hD⟩ := Option.bind_eq_some_iff.1 hD
  refine x_callF hC_strings_CutPrefix (a := (p0, ([33] : Bytes))) (cons_eq (nf_of rfl (show _ = (V.str p0) from rfl)) (cons_eq (nf_of rfl (show _ = (V.str ([33] : Bytes)) from rfl)) rfl)) hx9 fun v7 ov7 (hv7 : v7.nf = (V.tup [(V.str r8.1), (V.bool r8.2)])) hov7 => ?_
  refine x_mv hv7 fun v10 hv10 => ?_
  refine x_ext hv10 (show _ = some (V.str r8.1) from rfl) fun v11 hv11 => ?_
  refine x_ext hv10 (show _ = some (V.bool r8.2) from rfl) fun v12 hv12 => ?_
  refine x_mv' (nf_str hv11) ?_
  refine x_mv' (nf_bool hv12) ?_
  refine x_done ?_
  refine x_tN ?_
  refine x_seq ?_
  refine x_seq ?_
  refine x_start (b := false) ?_
  refine x_mv' (show _ = (V.str r8.1) from rfl) ?_
  obtain ⟨r24, hx25, hD⟩ := Option.bind_eq_some_iff.1 hD
  refine x_callF hC_expr_Tag (a := (r8.1)) (cons_eq (nf_of rfl (show _ = (V.str r8.1) from rfl)) rfl) hx25 fun v23 ov23 (hv23 : v23.nf = (V.bool r24)) hov23 => ?_
  refine x_un (nf_bool hv23) (aun_not _) ?_
  refine x_done ?_
  refine x_tN ?_
  by_cases hp26 : r24 = true
  · rw [if_pos hp26] at hD
    refine x_cf (show _ = (V.bool (!r24)) from rfl) (bnot_t hp26) ?_
    refine x_skip ?_
    refine x_tN ?_
    refine x_seq ?_
    refine x_seq ?_
    refine x_start (b := false) ?_
    refine x_mv' (show _ = (V.bool r8.2) from rfl) ?_
    refine x_done ?_
    refine x_tN ?_
    by_cases hp27 : r8.2 = true
    · rw [if_pos hp27] at hD
      refine x_ct (show _ = (V.bool r8.2) from rfl) hp27 ?_
      refine x_seq ?_
      refine x_start (b := false) ?_
      refine x_mv' (show _ = (V.str r8.1) from rfl) ?_
      obtain ⟨z28, hx29, hD⟩ := Option.bind_eq_some_iff.1 hD
      refine x_cat (show _ = (V.str ([33] : Bytes)) from rfl) (show _ = (V.str r8.1) from rfl) hx29 ?_
      refine x_mv' (show _ = (V.str z28) from rfl) ?_
      refine x_mv' (show _ = (V.int .i64 0) from rfl) ?_
      refine x_done ?_
      refine x_tN ?_
      refine x_retc ?_
      refine x_tR ?_
      obtain rfl := Option.some.inj hD
      exact hR _ (ends_tup (rvs_cons (rv_t (nf_of rfl (show _ = (V.str z28) from rfl))) (rvs_cons (rv_t (nf_of rfl (show _ = (V.int .i64 0) from rfl))) rvs_nil)) (by decide))
    · rw [if_neg hp27] at hD
      refine x_cf (show _ = (V.bool r8.2) from rfl) (Bool.eq_false_iff.2 hp27) ?_
      refine x_skip ?_
      refine x_tN ?_
      refine x_seq ?_
      refine x_start (b := false) ?_
      refine x_mv' (show _ = (V.str r8.1) from rfl) ?_
      refine x_mv' (show _ = (V.str r8.1) from rfl) ?_
      refine x_mv' (show _ = (V.int .i64 0) from rfl) ?_
      refine x_done ?_
      refine x_tN ?_
      refine x_retc ?_
      obtain rfl := Option.some.inj hD
      exact hR _ (ends_tup (rvs_cons (rv_t (nf_of rfl (show _ = (V.str r8.1) from rfl))) (rvs_cons (rv_t (nf_of rfl (show _ = (V.int .i64 0) from rfl))) rvs_nil)) (by decide))
  · rw [if_neg hp26] at hD
    refine x_ct (show _ = (V.bool (!r24)) from rfl) (bnot_f (Bool.eq_false_iff.2 hp26)) ?_
    refine x_seq ?_
    refine x_start (b := false) ?_
    refine x_mv' (show _ = (V.str ([] : Bytes)) from rfl) ?_
    refine x_mv' (show _ = (V.int .i64 4) from rfl) ?_
    refine x_done ?_
    refine x_tN ?_
    refine x_retc ?_
    refine x_tR ?_
    obtain rfl := Option.some.inj hD
    exact hR _ (ends_tup (rvs_cons (rv_t (nf_of rfl (show _ = (V.str ([] : Bytes)) from rfl))) (rvs_cons (rv_t (nf_of rfl (show _ = (V.int .i64 4) from rfl))) rvs_nil)) (by decide))
def K.plus_term : FC := fc F.plus_term (fun _ => true) false (fun (a : Bytes) => [(V.str a)]) (fun (y : (Bytes × Int)) => (V.tup [(V.str y.1), (V.int .i64 y.2)])) (fun a => g.plus_term a)
  (fun a => (cleanL_mk rfl rfl))
  (fun y => (cleanL_mk rfl (cleanL_mk rfl rfl)))
  (fun a0 b0 h => by
    obtain ⟨h0, h⟩ := List.cons.inj h
    obtain rfl : a0 = b0 := V.str.inj h0
    rfl)
theorem H.plus_term (w : World) (hw : EnvOK w) : K.plus_term.Holds (cxD w) :=
  FC.holds_of (cs := [K.strings_CutPrefix, K.expr_Tag]) (glD w) mixed cf_plus_term (fun _ _ ⟨_, _, h, _⟩ => by subst h; exact Nat.le_of_ble_eq_true rfl) fun v y ⟨a, r, hv, hD, hy⟩ => by
    subst hy
    exact ok.plus_term (specOf_calls (H.strings_CutPrefix w hw) (fun _ _ ⟨_, _, h, _⟩ => by subst h; rfl)) (specOf_calls (H.expr_Tag w hw) (fun _ _ ⟨_, _, h, _⟩ => by subst h; rfl)) hv hD
def E.Lstring (l : (List Bytes)) : V := .sl false 1 (l.map V.str)
theorem E.Lstring_clean (l : (List Bytes)) : (E.Lstring l).clean = true := cleanL_map (fun x => rfl) l
theorem E.Lstring_inj {a b : (List Bytes)} (h : E.Lstring a = E.Lstring b) : a = b := by
  simp only [E.Lstring, V.sl.injEq, true_and] at h
  exact map_inj (fun x y h => V.str.inj h) h
theorem E.Lstring_fit (l : (List Bytes)) : (E.Lstring l).cells.length = 1 ∧ (E.Lstring l).cells.all V.sc = true := ⟨rfl, rfl⟩
def c_plus_joined_plus_term_l1 : ACode := (.seq (.region [
  ⟨(some 16), (.bin .lss .no (.tmp 15) (.tmp 14)), none, []⟩] false) (.seq (.cond (.tmp 16) .skip (.exit 0)) (.seq (.block 1 (.seq (.region [
  ⟨(some 17), (.iaddr 1 (.tmp 13) (.tmp 15)), none, []⟩, 
  ⟨(some 18), (.load none (.tmp 17)), none, []⟩, 
  ⟨(some 10), (.mv (.tmp 18)), none, []⟩] false) (.seq (.region [
  ⟨(some 20), (.mv (.tmp 2)), none, []⟩, 
  ⟨(some 21), (.mv (.tmp 10)), none, []⟩, 
  ⟨(some 22), (.callv (.tmp 20) [(.tmp 21)]), none, []⟩, 
  ⟨(some 19), (.mv (.tmp 22)), none, []⟩, 
  ⟨(some 23), (.ext (.tmp 19) 0), none, []⟩, 
  ⟨(some 24), (.ext (.tmp 19) 1), none, []⟩, 
  ⟨(some 11), (.mv (.tmp 23)), none, []⟩, 
  ⟨(some 12), (.mv (.tmp 24)), none, []⟩] false) (.seq (.seq (.region [
  ⟨(some 25), (.mv (.tmp 12)), none, []⟩, 
  ⟨(some 26), (.bin .neq .no (.tmp 25) (.const (.int .i64 0))), none, []⟩] false) (.cond (.tmp 26) (.seq (.region [
  ⟨(some 27), (.mv (.tmp 12)), none, []⟩, 
  ⟨(some 6), (.mv (.const (.str []))), none, []⟩, 
  ⟨(some 7), (.mv (.tmp 27)), none, []⟩] false) .ret) .skip)) (.region [
  ⟨(some 28), (.mvo 8), none, []⟩, 
  ⟨(some 29), (.mv (.tmp 11)), none, []⟩, 
  ⟨(some 30), (.bsl 1 [(.tmp 29)]), none, []⟩, 
  ⟨(some 31), (.app 1 (.tmp 28) (.tmp 30)), none, []⟩, 
  ⟨(some 8), (.mvo 31), none, []⟩] false))))) (.region [
  ⟨(some 32), (.bin .add .no (.tmp 15) (.const (.int .i64 1))), none, []⟩, 
  ⟨(some 15), (.mv (.tmp 32)), none, []⟩] false))))
def c_plus_joined_plus_term : ACode := (.seq (.region [
  ⟨(some 6), (.mv (.const (.str []))), none, []⟩, 
  ⟨(some 7), (.mv (.const (.int .i64 0))), none, []⟩] false) (.seq (.region [
  ⟨(some 8), (.mv (.const (.sl true 1 []))), none, []⟩] false) (.seq (.seq (.region [
  ⟨(some 13), (.mv (.tmp 0)), none, []⟩, 
  ⟨(some 14), (.len false (.tmp 13)), none, []⟩, 
  ⟨(some 15), (.mv (.const (.int .i64 0))), none, []⟩] false) (.block 0 (.loop c_plus_joined_plus_term_l1))) (.seq (.seq (.region [
  ⟨(some 33), (.mv (.tmp 8)), none, []⟩, 
  ⟨(some 34), (.len false (.tmp 33)), none, []⟩, 
  ⟨(some 35), (.bin .eql .no (.tmp 34) (.const (.int .i64 1))), none, []⟩] false) (.cond (.tmp 35) (.seq (.region [
  ⟨(some 36), (.mv (.tmp 8)), none, []⟩, 
  ⟨(some 37), (.iaddr 1 (.tmp 36) (.const (.int .i64 0))), none, []⟩, 
  ⟨(some 38), (.load none (.tmp 37)), none, []⟩, 
  ⟨(some 6), (.mv (.tmp 38)), none, []⟩, 
  ⟨(some 7), (.mv (.const (.int .i64 0))), none, []⟩] false) .ret) .skip)) (.seq (.region [
  ⟨(some 39), (.mv (.tmp 8)), none, []⟩, 
  ⟨(some 40), (.mv (.tmp 1)), none, []⟩, 
  ⟨(some 41), (.call F.strings_Join [(.tmp 39), (.tmp 40)]), none, []⟩, 
  ⟨(some 42), (.bin .add .no (.const (.str [40])) (.tmp 41)), none, []⟩, 
  ⟨(some 43), (.bin .add .no (.tmp 42) (.const (.str [41]))), none, []⟩, 
  ⟨(some 6), (.mv (.tmp 43)), none, []⟩, 
  ⟨(some 7), (.mv (.const (.int .i64 0))), none, []⟩] false) .ret)))))
theorem cf_plus_joined_plus_term : cFn Go.Proofs.Tryd.prog F.plus_joined = some ⟨44, c_plus_joined_plus_term, [.t 6, .t 7]⟩ := by kernel_rfl
def L.plus_joined_plus_term_l1 (k0 : (List Bytes) → Option (Bytes × Int)) : List Bytes → (List Bytes) → Option (Bytes × Int)
  | [], t8_83 =>
    k0 t8_83
  | a87 :: rest, t8_83 =>
    (g.plus_term a87).bind fun r101 =>
    if r101.2 = 0 then
      (appL t8_83 ([r101.1] : (List Bytes))).bind fun l110 =>
      L.plus_joined_plus_term_l1 k0 rest l110
    else
      some (([] : Bytes), r101.2)
theorem ok.plus_joined_plus_term_l1 {Γ : Abs.Spec} {gl : Glob} (hC_plus_term : CallsX Γ K.plus_term) (hC_strings_Join : CallsX Γ K.strings_Join) {Q : Ex → St → Prop} {r : (Bytes × Int)} {t1_46 : Bytes} {l44 : List Bytes} {k0 : (List Bytes) → Option (Bytes × Int)}
    (hk0 : ∀ (s : St) (t8_119 : (List Bytes)), (s.tm 1 = (V.str t1_46)) → ((s.tm 8).nf = (V.sl false 1 (List.map V.str t8_119))) → (OwnS s 8) → k0 t8_119 = some r → Q (.exit 0) s)
    (hR : ∀ s, EndsX [.t 6, .t 7] false (V.tup [(V.str r.1), (V.int .i64 r.2)]) s → Q .ret s)
    (hlen : l44.length ≤ Lim) : ∀ (rest : List Bytes) (k45 : Nat) (s : St) (t8_83 : (List Bytes)), l44.drop k45 = rest → k45 ≤ l44.length →
    ((s.tm 13).nf = V.sl false 1 (List.map V.str l44)) → (s.tm 14 = V.int .i64 ((l44.length : Nat) : Int)) → (s.tm 15 = V.int .i64 ((k45 : Nat) : Int)) → (s.tm 1 = (V.str t1_46)) → ((s.tm 2).nf = (V.fn F.plus_term [])) → ((s.tm 8).nf = (V.sl false 1 (List.map V.str t8_83))) → (OwnS s 8) →
    L.plus_joined_plus_term_l1 k0 rest t8_83 = some r → awp Γ gl (.loop c_plus_joined_plus_term_l1) Q s := by
  intro rest
  induction rest with
  | nil =>
    intro k45 s t8_83 hdrop hkl hX hN hI h80 h81 h82 h82o hD
    have hkz := drop_nil hdrop hkl
    have hp0 : ¬ (((k45 : Nat) : Int) < ((l44.length : Nat) : Int)) := by omega
    refine awp_roundK fun K hK => ?_
    rw [L.plus_joined_plus_term_l1] at hD
    refine x_seq ?_
    refine x_start (b := false) ?_
    refine x_bin hI hN b_lss ?_
    refine x_done ?_
    refine x_tN ?_
    refine x_seq ?_
    refine x_cf (show _ = (V.bool (decide (((k45 : Nat) : Int) < ((l44.length : Nat) : Int)))) from rfl) (decide_eq_false hp0) ?_
    refine x_exitc ?_
    refine x_tE ?_
    refine x_tE ?_
    refine hk0 _ _ ?_ ?_ ?_ hD
    · exact h80
    · exact h82
    · exact h82o
  | cons a87 rest ih =>
    intro k45 s t8_83 hdrop hkl hX hN hI h80 h81 h82 h82o hD
    obtain ⟨hlt, -, hget, hdrop1, -⟩ := drop_cons hdrop
    have hp1 : ((k45 : Nat) : Int) < ((l44.length : Nat) : Int) := by omega
    have hwk := wi_succ (k := k45) (by unfold Lim at hlen; omega)
    refine awp_roundK fun K hK => ?_
    rw [L.plus_joined_plus_term_l1] at hD
    refine x_seq ?_
    refine x_start (b := false) ?_
    refine x_bin hI hN b_lss ?_
    refine x_done ?_
    refine x_tN ?_
    refine x_seq ?_
    refine x_ct (show _ = (V.bool (decide (((k45 : Nat) : Int) < ((l44.length : Nat) : Int)))) from rfl) (decide_eq_true hp1) ?_
    refine x_skip ?_
    refine x_tN ?_
    refine x_seq ?_
    refine x_block ?_
    refine x_seq ?_
    refine x_start (b := false) ?_
    refine x_iaddr hX hI (at_k hget) fun v90 (hv90 : v90.nf = V.el [(V.str a87)] 0) => ?_
    refine x_load_el hv90 (show _ = some (V.str a87) from rfl) fun v91 hv91 => ?_
    refine x_mv' (nf_str hv91) ?_
    refine x_done ?_
    refine x_tN ?_
    refine x_seq ?_
    refine x_start (b := false) ?_
    refine x_mv h81 fun v99 hv99 => ?_
    refine x_mv' (show _ = (V.str a87) from rfl) ?_
    obtain ⟨r101, hx102, hD⟩ := Option.bind_eq_some_iff.1 hD
    refine x_callvF hC_plus_term hv99 (a := (a87)) (cons_eq (nf_of rfl (show _ = (V.str a87) from rfl)) rfl) hx102 fun v100 ov100 (hv100 : v100.nf = (V.tup [(V.str r101.1), (V.int .i64 r101.2)])) hov100 => ?_
    refine x_mv hv100 fun v103 hv103 => ?_
    refine x_ext hv103 (show _ = some (V.str r101.1) from rfl) fun v104 hv104 => ?_
    refine x_ext hv103 (show _ = some (V.int .i64 r101.2) from rfl) fun v105 hv105 => ?_
    refine x_mv' (nf_str hv104) ?_
    refine x_mv' (nf_int hv105) ?_
    refine x_done ?_
    refine x_tN ?_
    refine x_seq ?_
    refine x_seq ?_
    refine x_start (b := false) ?_
    refine x_mv' (show _ = (V.int .i64 r101.2) from rfl) ?_
    refine x_bin (show _ = (V.int .i64 r101.2) from rfl) (show _ = (V.int .i64 0) from rfl) b_neq ?_
    refine x_done ?_
    refine x_tN ?_
    by_cases hp107 : r101.2 = 0
    · rw [if_pos hp107] at hD
      refine x_cf (show _ = (V.bool (!(decide (r101.2 = 0)))) from rfl) (bnot_t (decide_eq_true hp107)) ?_
      refine x_skip ?_
      refine x_tN ?_
      refine x_start (b := false) ?_
      refine x_mvo h82 fun v108 ov108 hv108 hwv108 => ?_
      refine x_mv' (show _ = (V.str r101.1) from rfl) ?_
      refine x_bsl (E := V.str) (l := ([r101.1] : (List Bytes))) (cons_eq (nf_of rfl (show _ = (V.str r101.1) from rfl)) rfl) (fits_map (E := V.str) (sz := 1) (fun x => ⟨rfl, rfl⟩) _) fun v109 ov109 hv109 hov109 => ?_
      obtain ⟨l110, hx111, hD⟩ := Option.bind_eq_some_iff.1 hD
      refine x_app hv108 (hwv108 h82o) (tail_sl hv109) hx111 fun v112 ov112 fv112 hv112 hov112 hfv112 => ?_
      refine x_mvo hv112 fun v113 ov113 hv113 hwv113 => ?_
      refine x_done ?_
      refine x_bN ?_
      refine x_tN ?_
      refine x_start (b := false) ?_
      refine x_bin hI (show _ = (V.int .i64 1) from rfl) b_add ?_
      refine x_mv' (show _ = (V.int .i64 (wi (((k45 : Nat) : Int) + 1))) from rfl) ?_
      refine x_done ?_
      refine x_tN ?_
      refine hK _ ?_
      refine ih (k45 + 1) _ _ hdrop1 hlt ?_ ?_ ?_ ?_ ?_ ?_ ?_ hD
      · exact hX
      · exact hN
      · exact (Eq.trans (show _ = (V.int .i64 (wi (((k45 : Nat) : Int) + 1))) from rfl) (congrArg (V.int .i64) hwk))
      · exact h80
      · exact h81
      · exact hv113
      · exact (hwv113 hov112)
    · rw [if_neg hp107] at hD
      refine x_ct (show _ = (V.bool (!(decide (r101.2 = 0)))) from rfl) (bnot_f (decide_eq_false hp107)) ?_
      refine x_seq ?_
      refine x_start (b := false) ?_
      refine x_mv' (show _ = (V.int .i64 r101.2) from rfl) ?_
      refine x_mv' (show _ = (V.str ([] : Bytes)) from rfl) ?_
      refine x_mv' (show _ = (V.int .i64 r101.2) from rfl) ?_
      refine x_done ?_
      refine x_tN ?_
      refine x_retc ?_
      refine x_tR ?_
      refine x_bR ?_
      refine x_tR ?_
      refine x_tR ?_
      obtain rfl := Option.some.inj hD
      exact hR _ (ends_tup (rvs_cons (rv_t (nf_of rfl (show _ = (V.str ([] : Bytes)) from rfl))) (rvs_cons (rv_t (nf_of rfl (show _ = (V.int .i64 r101.2) from rfl))) rvs_nil)) (by decide))
def g.plus_joined_plus_term (p0 : (List Bytes)) (p1 : Bytes) : Option (Bytes × Int) :=
  if p0.length ≤ Lim then L.plus_joined_plus_term_l1 (fun (t8_122 : (List Bytes)) => if ((t8_122.length : Nat) : Int) = 1 then
    (at? t8_122 0).bind fun a135 =>
    some (a135, 0)
  else
    (g.strings_Join t8_122 p1).bind fun r141 =>
    (cat ([40] : Bytes) r141).bind fun z143 =>
    (cat z143 ([41] : Bytes)).bind fun z145 =>
    some (z145, 0)) p0 [] else none
theorem ok.plus_joined_plus_term {Γ : Abs.Spec} {gl : Glob} (hC_plus_term : CallsX Γ K.plus_term) (hC_strings_Join : CallsX Γ K.strings_Join) {r : (Bytes × Int)} {p0 : (List Bytes)} {p1 : Bytes} {v : List V}
    (hv : nfL v = [(V.sl false 1 (List.map V.str p0)), (V.str p1), (V.fn F.plus_term [])]) (hD : g.plus_joined_plus_term p0 p1 = some r) : awp Γ gl c_plus_joined_plus_term (endQ [.t 6, .t 7] false (V.tup [(V.str r.1), (V.int .i64 r.2)])) (St.init v) := by
  obtain ⟨v0, v, rfl, h0, hv⟩ := nfL_cons hv
  obtain ⟨v1, v, rfl, h1, hv⟩ := nfL_cons hv
  obtain ⟨v2, v, rfl, h2, hv⟩ := nfL_cons hv
  obtain rfl := nfL_nil hv
  have hR : ∀ s, EndsX [.t 6, .t 7] false (V.tup [(V.str r.1), (V.int .i64 r.2)]) s → endQ [.t 6, .t 7] false (V.tup [(V.str r.1), (V.int .i64 r.2)]) .ret s := fun _ h => h
  unfold g.plus_joined_plus_term at hD
  unfold c_plus_joined_plus_term
  refine x_seq ?_
  refine x_start (b := false) ?_
  refine x_mv' (show _ = (V.str ([] : Bytes)) from rfl) ?_
  refine x_mv' (show _ = (V.int .i64 0) from rfl) ?_
  refine x_done ?_
  refine x_tN ?_
  refine x_seq ?_
  refine x_start (b := false) ?_
  refine x_mv' (y := V.sl true 1 []) rfl ?_
  refine x_done ?_
  refine x_tN ?_
  refine x_seq ?_
  refine x_seq ?_
  refine x_start (b := false) ?_
  refine x_mv h0 fun v43 hv43 => ?_
  refine x_len hv43 ?_
  refine x_mv' (show _ = (V.int .i64 0) from rfl) ?_
  refine x_done ?_
  refine x_tN ?_
  refine x_block ?_
  by_cases hlen148 : p0.length ≤ Lim
  · rw [if_pos hlen148] at hD
    refine ok.plus_joined_plus_term_l1 (t1_46 := p1) (l44 := p0) hC_plus_term hC_strings_Join (fun s147 t8_122 h120 h121 h121o hD => ?_) (fun _ hE => ?_) hlen148 _ 0 _ _ rfl (Nat.zero_le _) ?_ ?_ ?_ ?_ ?_ ?_ ?_ hD
    · refine x_bE ?_
      refine x_tN ?_
      refine x_seq ?_
      refine x_seq ?_
      refine x_start (b := false) ?_
      refine x_mv h121 fun v132 hv132 => ?_
      refine x_len hv132 ?_
      refine x_bin (show _ = (V.int .i64 ((t8_122.length : Nat) : Int)) from rfl) (show _ = (V.int .i64 1) from rfl) b_eql ?_
      refine x_done ?_
      refine x_tN ?_
      by_cases hp133 : ((t8_122.length : Nat) : Int) = 1
      · rw [if_pos hp133] at hD
        refine x_ct (show _ = (V.bool (decide (((t8_122.length : Nat) : Int) = 1))) from rfl) (decide_eq_true hp133) ?_
        refine x_seq ?_
        refine x_start (b := false) ?_
        refine x_mv h121 fun v134 hv134 => ?_
        obtain ⟨a135, hx136, hD⟩ := Option.bind_eq_some_iff.1 hD
        refine x_iaddr hv134 (show _ = (V.int .i64 0) from rfl) hx136 fun v137 (hv137 : v137.nf = V.el [(V.str a135)] 0) => ?_
        refine x_load_el hv137 (show _ = some (V.str a135) from rfl) fun v138 hv138 => ?_
        refine x_mv' (nf_str hv138) ?_
        refine x_mv' (show _ = (V.int .i64 0) from rfl) ?_
        refine x_done ?_
        refine x_tN ?_
        refine x_retc ?_
        refine x_tR ?_
        obtain rfl := Option.some.inj hD
        exact hR _ (ends_tup (rvs_cons (rv_t (nf_of rfl (show _ = (V.str a135) from rfl))) (rvs_cons (rv_t (nf_of rfl (show _ = (V.int .i64 0) from rfl))) rvs_nil)) (by decide))
      · rw [if_neg hp133] at hD
        refine x_cf (show _ = (V.bool (decide (((t8_122.length : Nat) : Int) = 1))) from rfl) (decide_eq_false hp133) ?_
        refine x_skip ?_
        refine x_tN ?_
        refine x_seq ?_
        refine x_start (b := false) ?_
        refine x_mv h121 fun v139 hv139 => ?_
        refine x_mv' h120 ?_
        obtain ⟨r141, hx142, hD⟩ := Option.bind_eq_some_iff.1 hD
        refine x_callF hC_strings_Join (a := (t8_122, p1)) (cons_eq hv139 (cons_eq (nf_of rfl (show _ = (V.str p1) from rfl)) rfl)) hx142 fun v140 ov140 (hv140 : v140.nf = (V.str r141)) hov140 => ?_
        obtain ⟨z143, hx144, hD⟩ := Option.bind_eq_some_iff.1 hD
        refine x_cat (show _ = (V.str ([40] : Bytes)) from rfl) (nf_str hv140) hx144 ?_
        obtain ⟨z145, hx146, hD⟩ := Option.bind_eq_some_iff.1 hD
        refine x_cat (show _ = (V.str z143) from rfl) (show _ = (V.str ([41] : Bytes)) from rfl) hx146 ?_
        refine x_mv' (show _ = (V.str z145) from rfl) ?_
        refine x_mv' (show _ = (V.int .i64 0) from rfl) ?_
        refine x_done ?_
        refine x_tN ?_
        refine x_retc ?_
        obtain rfl := Option.some.inj hD
        exact hR _ (ends_tup (rvs_cons (rv_t (nf_of rfl (show _ = (V.str z145) from rfl))) (rvs_cons (rv_t (nf_of rfl (show _ = (V.int .i64 0) from rfl))) rvs_nil)) (by decide))
    · refine x_bR ?_; refine x_tR ?_; exact hR _ hE
    · exact hv43
    · exact (show _ = (V.int .i64 ((p0.length : Nat) : Int)) from rfl)
    · exact (show _ = (V.int .i64 0) from rfl)
    · exact (nf_str h1)
    · exact h2
    · exact (show V.nf _ = (V.sl false 1 (List.map V.str [])) from rfl)
    · exact (Or.inr ⟨1, rfl⟩)
  · rw [if_neg hlen148] at hD; cases hD
def K.plus_joined_plus_term : FC := fc F.plus_joined (fun avs => isFn F.plus_term avs[2]?) false (fun (a : ((List Bytes) × Bytes)) => [(V.sl false 1 (List.map V.str a.1)), (V.str a.2), (V.fn F.plus_term [])]) (fun (y : (Bytes × Int)) => (V.tup [(V.str y.1), (V.int .i64 y.2)])) (fun a => g.plus_joined_plus_term a.1 a.2)
  (fun a => (cleanL_mk (E.Lstring_clean _) (cleanL_mk rfl (cleanL_mk rfl rfl))))
  (fun y => (cleanL_mk rfl (cleanL_mk rfl rfl)))
  (fun ⟨a0, a1⟩ ⟨b0, b1⟩ h => by
    obtain ⟨h0, h⟩ := List.cons.inj h
    obtain rfl : a0 = b0 := E.Lstring_inj h0
    obtain ⟨h0, h⟩ := List.cons.inj h
    obtain rfl : a1 = b1 := V.str.inj h0
    obtain ⟨h0, h⟩ := List.cons.inj h
    rfl)
theorem H.plus_joined_plus_term (w : World) (hw : EnvOK w) : K.plus_joined_plus_term.Holds (cxD w) :=
  FC.holds_of (cs := [K.plus_term, K.strings_Join]) (glD w) mixed cf_plus_joined_plus_term (fun _ _ ⟨_, _, h, _⟩ => by subst h; exact Nat.le_of_ble_eq_true rfl) fun v y ⟨a, r, hv, hD, hy⟩ => by
    subst hy
    exact ok.plus_joined_plus_term (specOf_calls (H.plus_term w hw) (fun _ _ ⟨_, _, h, _⟩ => by subst h; rfl)) (specOf_calls (H.strings_Join w hw) (fun _ _ ⟨_, _, h, _⟩ => by subst h; rfl)) hv hD
def c_plus_option : ACode := (.seq (.region [
  ⟨(some 2), (.mv (.const (.str []))), none, []⟩, 
  ⟨(some 3), (.mv (.const (.int .i64 0))), none, []⟩] false) (.seq (.region [
  ⟨(some 4), (.mv (.tmp 0)), none, []⟩, 
  ⟨(some 5), (.call F.strings_Split [(.tmp 4), (.const (.str [44]))]), none, []⟩, 
  ⟨(some 6), (.call F.plus_joined [(.tmp 5), (.const (.str [32, 38, 38, 32])), (.const (.fn F.plus_term []))]), none, []⟩, 
  ⟨(some 7), (.ext (.tmp 6) 0), none, []⟩, 
  ⟨(some 8), (.ext (.tmp 6) 1), none, []⟩, 
  ⟨(some 2), (.mv (.tmp 7)), none, []⟩, 
  ⟨(some 3), (.mv (.tmp 8)), none, []⟩] false) .ret))
theorem cf_plus_option : cFn Go.Proofs.Tryd.prog F.plus_option = some ⟨9, c_plus_option, [.t 2, .t 3]⟩ := by kernel_rfl
def g.plus_option (p0 : Bytes) : Option (Bytes × Int) :=
  (g.strings_Split p0 ([44] : Bytes)).bind fun r2 =>
  (g.plus_joined_plus_term r2 ([32, 38, 38, 32] : Bytes)).bind fun r5 =>
  some (r5.1, r5.2)
theorem ok.plus_option {Γ : Abs.Spec} {gl : Glob} (hC_strings_Split : CallsX Γ K.strings_Split) (hC_plus_joined_plus_term : CallsX Γ K.plus_joined_plus_term) {r : (Bytes × Int)} {p0 : Bytes} {v : List V}
    (hv : nfL v = [(V.str p0)]) (hD : g.plus_option p0 = some r) : awp Γ gl c_plus_option (endQ [.t 2, .t 3] false (V.tup [(V.str r.1), (V.int .i64 r.2)])) (St.init v) := by
  obtain ⟨v0, v, rfl, h0, hv⟩ := nfL_cons hv
  obtain rfl := nfL_nil hv
  have hR : ∀ s, EndsX [.t 2, .t 3] false (V.tup [(V.str r.1), (V.int .i64 r.2)]) s → endQ [.t 2, .t 3] false (V.tup [(V.str r.1), (V.int .i64 r.2)]) .ret s := fun _ h => h
  unfold g.plus_option at hD
  unfold c_plus_option
  refine x_seq ?_
  refine x_start (b := false) ?_
  refine x_mv' (show _ = (V.str ([] : Bytes)) from rfl) ?_
  refine x_mv' (show _ = (V.int .i64 0) from rfl) ?_
  refine x_done ?_
  refine x_tN ?_
  refine x_seq ?_
  refine x_start (b := false) ?_
  refine x_mv' (nf_str h0) ?_
  obtain ⟨r2, hx3, hD⟩ := Option.bind_eq_some_iff.1 hD
  refine x_callF hC_strings_Split (a := (p0, ([44] : Bytes))) (cons_eq (nf_of rfl (show _ = (V.str p0) from rfl)) (cons_eq (nf_of rfl (show _ = (V.str ([44] : Bytes)) from rfl)) rfl)) hx3 fun v1 ov1 (hv1 : v1.nf = (V.sl false 1 (List.map V.str r2))) hov1 => ?_
  obtain ⟨r5, hx6, hD⟩ := Option.bind_eq_some_iff.1 hD
  refine x_callF hC_plus_joined_plus_term (a := (r2, ([32, 38, 38, 32] : Bytes))) (cons_eq hv1 (cons_eq (nf_of rfl (show _ = (V.str ([32, 38, 38, 32] : Bytes)) from rfl)) (cons_eq (show V.nf _ = (V.fn F.plus_term []) from rfl) rfl))) hx6 fun v4 ov4 (hv4 : v4.nf = (V.tup [(V.str r5.1), (V.int .i64 r5.2)])) hov4 => ?_
  refine x_ext hv4 (show _ = some (V.str r5.1) from rfl) fun v7 hv7 => ?_
  refine x_ext hv4 (show _ = some (V.int .i64 r5.2) from rfl) fun v8 hv8 => ?_
  refine x_mv' (nf_str hv7) ?_
  refine x_mv' (nf_int hv8) ?_
  refine x_done ?_
  refine x_tN ?_
  refine x_retc ?_
  obtain rfl := Option.some.inj hD
  exact hR _ (ends_tup (rvs_cons (rv_t (nf_of rfl (show _ = (V.str r5.1) from rfl))) (rvs_cons (rv_t (nf_of rfl (show _ = (V.int .i64 r5.2) from rfl))) rvs_nil)) (by decide))
def K.plus_option : FC := fc F.plus_option (fun _ => true) false (fun (a : Bytes) => [(V.str a)]) (fun (y : (Bytes × Int)) => (V.tup [(V.str y.1), (V.int .i64 y.2)])) (fun a => g.plus_option a)
  (fun a => (cleanL_mk rfl rfl))
  (fun y => (cleanL_mk rfl (cleanL_mk rfl rfl)))
  (fun a0 b0 h => by
    obtain ⟨h0, h⟩ := List.cons.inj h
    obtain rfl : a0 = b0 := V.str.inj h0
    rfl)
theorem H.plus_option (w : World) (hw : EnvOK w) : K.plus_option.Holds (cxD w) :=
  FC.holds_of (cs := [K.strings_Split, K.plus_joined_plus_term]) (glD w) mixed cf_plus_option (fun _ _ ⟨_, _, h, _⟩ => by subst h; exact Nat.le_of_ble_eq_true rfl) fun v y ⟨a, r, hv, hD, hy⟩ => by
    subst hy
    exact ok.plus_option (specOf_calls (H.strings_Split w hw) (fun _ _ ⟨_, _, h, _⟩ => by subst h; rfl)) (specOf_calls (H.plus_joined_plus_term w hw) (fun _ _ ⟨_, _, h, _⟩ => by subst h; rfl)) hv hD
def c_plus_joined_plus_option_l1 : ACode := (.seq (.region [
  ⟨(some 16), (.bin .lss .no (.tmp 15) (.tmp 14)), none, []⟩] false) (.seq (.cond (.tmp 16) .skip (.exit 0)) (.seq (.block 1 (.seq (.region [
  ⟨(some 17), (.iaddr 1 (.tmp 13) (.tmp 15)), none, []⟩, 
  ⟨(some 18), (.load none (.tmp 17)), none, []⟩, 
  ⟨(some 10), (.mv (.tmp 18)), none, []⟩] false) (.seq (.region [
  ⟨(some 20), (.mv (.tmp 2)), none, []⟩, 
  ⟨(some 21), (.mv (.tmp 10)), none, []⟩, 
  ⟨(some 22), (.callv (.tmp 20) [(.tmp 21)]), none, []⟩, 
  ⟨(some 19), (.mv (.tmp 22)), none, []⟩, 
  ⟨(some 23), (.ext (.tmp 19) 0), none, []⟩, 
  ⟨(some 24), (.ext (.tmp 19) 1), none, []⟩, 
  ⟨(some 11), (.mv (.tmp 23)), none, []⟩, 
  ⟨(some 12), (.mv (.tmp 24)), none, []⟩] false) (.seq (.seq (.region [
  ⟨(some 25), (.mv (.tmp 12)), none, []⟩, 
  ⟨(some 26), (.bin .neq .no (.tmp 25) (.const (.int .i64 0))), none, []⟩] false) (.cond (.tmp 26) (.seq (.region [
  ⟨(some 27), (.mv (.tmp 12)), none, []⟩, 
  ⟨(some 6), (.mv (.const (.str []))), none, []⟩, 
  ⟨(some 7), (.mv (.tmp 27)), none, []⟩] false) .ret) .skip)) (.region [
  ⟨(some 28), (.mvo 8), none, []⟩, 
  ⟨(some 29), (.mv (.tmp 11)), none, []⟩, 
  ⟨(some 30), (.bsl 1 [(.tmp 29)]), none, []⟩, 
  ⟨(some 31), (.app 1 (.tmp 28) (.tmp 30)), none, []⟩, 
  ⟨(some 8), (.mvo 31), none, []⟩] false))))) (.region [
  ⟨(some 32), (.bin .add .no (.tmp 15) (.const (.int .i64 1))), none, []⟩, 
  ⟨(some 15), (.mv (.tmp 32)), none, []⟩] false))))
def c_plus_joined_plus_option : ACode := (.seq (.region [
  ⟨(some 6), (.mv (.const (.str []))), none, []⟩, 
  ⟨(some 7), (.mv (.const (.int .i64 0))), none, []⟩] false) (.seq (.region [
  ⟨(some 8), (.mv (.const (.sl true 1 []))), none, []⟩] false) (.seq (.seq (.region [
  ⟨(some 13), (.mv (.tmp 0)), none, []⟩, 
  ⟨(some 14), (.len false (.tmp 13)), none, []⟩, 
  ⟨(some 15), (.mv (.const (.int .i64 0))), none, []⟩] false) (.block 0 (.loop c_plus_joined_plus_option_l1))) (.seq (.seq (.region [
  ⟨(some 33), (.mv (.tmp 8)), none, []⟩, 
  ⟨(some 34), (.len false (.tmp 33)), none, []⟩, 
  ⟨(some 35), (.bin .eql .no (.tmp 34) (.const (.int .i64 1))), none, []⟩] false) (.cond (.tmp 35) (.seq (.region [
  ⟨(some 36), (.mv (.tmp 8)), none, []⟩, 
  ⟨(some 37), (.iaddr 1 (.tmp 36) (.const (.int .i64 0))), none, []⟩, 
  ⟨(some 38), (.load none (.tmp 37)), none, []⟩, 
  ⟨(some 6), (.mv (.tmp 38)), none, []⟩, 
  ⟨(some 7), (.mv (.const (.int .i64 0))), none, []⟩] false) .ret) .skip)) (.seq (.region [
  ⟨(some 39), (.mv (.tmp 8)), none, []⟩, 
  ⟨(some 40), (.mv (.tmp 1)), none, []⟩, 
  ⟨(some 41), (.call F.strings_Join [(.tmp 39), (.tmp 40)]), none, []⟩, 
  ⟨(some 42), (.bin .add .no (.const (.str [40])) (.tmp 41)), none, []⟩, 
  ⟨(some 43), (.bin .add .no (.tmp 42) (.const (.str [41]))), none, []⟩, 
  ⟨(some 6), (.mv (.tmp 43)), none, []⟩, 
  ⟨(some 7), (.mv (.const (.int .i64 0))), none, []⟩] false) .ret)))))
theorem cf_plus_joined_plus_option : cFn Go.Proofs.Tryd.prog F.plus_joined = some ⟨44, c_plus_joined_plus_option, [.t 6, .t 7]⟩ := by kernel_rfl
def L.plus_joined_plus_option_l1 (k0 : (List Bytes) → Option (Bytes × Int)) : List Bytes → (List Bytes) → Option (Bytes × Int)
  | [], t8_83 =>
    k0 t8_83
  | a87 :: rest, t8_83 =>
    (g.plus_option a87).bind fun r101 =>
    if r101.2 = 0 then
      (appL t8_83 ([r101.1] : (List Bytes))).bind fun l110 =>
      L.plus_joined_plus_option_l1 k0 rest l110
    else
      some (([] : Bytes), r101.2)
theorem ok.plus_joined_plus_option_l1 {Γ : Abs.Spec} {gl : Glob} (hC_plus_option : CallsX Γ K.plus_option) (hC_strings_Join : CallsX Γ K.strings_Join) {Q : Ex → St → Prop} {r : (Bytes × Int)} {t1_46 : Bytes} {l44 : List Bytes} {k0 : (List Bytes) → Option (Bytes × Int)}
    (hk0 : ∀ (s : St) (t8_119 : (List Bytes)), (s.tm 1 = (V.str t1_46)) → ((s.tm 8).nf = (V.sl false 1 (List.map V.str t8_119))) → (OwnS s 8) → k0 t8_119 = some r → Q (.exit 0) s)
    (hR : ∀ s, EndsX [.t 6, .t 7] false (V.tup [(V.str r.1), (V.int .i64 r.2)]) s → Q .ret s)
    (hlen : l44.length ≤ Lim) : ∀ (rest : List Bytes) (k45 : Nat) (s : St) (t8_83 : (List Bytes)), l44.drop k45 = rest → k45 ≤ l44.length →
    ((s.tm 13).nf = V.sl false 1 (List.map V.str l44)) → (s.tm 14 = V.int .i64 ((l44.length : Nat) : Int)) → (s.tm 15 = V.int .i64 ((k45 : Nat) : Int)) → (s.tm 1 = (V.str t1_46)) → ((s.tm 2).nf = (V.fn F.plus_option [])) → ((s.tm 8).nf = (V.sl false 1 (List.map V.str t8_83))) → (OwnS s 8) →
    L.plus_joined_plus_option_l1 k0 rest t8_83 = some r → awp Γ gl (.loop c_plus_joined_plus_option_l1) Q s := by
  intro rest
  induction rest with
  | nil =>
    intro k45 s t8_83 hdrop hkl hX hN hI h80 h81 h82 h82o hD
    have hkz := drop_nil hdrop hkl
    have hp0 : ¬ (((k45 : Nat) : Int) < ((l44.length : Nat) : Int)) := by omega
    refine awp_roundK fun K hK => ?_
    rw [L.plus_joined_plus_option_l1] at hD
    refine x_seq ?_
    refine x_start (b := false) ?_
    refine x_bin hI hN b_lss ?_
    refine x_done ?_
    refine x_tN ?_
    refine x_seq ?_
    refine x_cf (show _ = (V.bool (decide (((k45 : Nat) : Int) < ((l44.length : Nat) : Int)))) from rfl) (decide_eq_false hp0) ?_
    refine x_exitc ?_
    refine x_tE ?_
    refine x_tE ?_
    refine hk0 _ _ ?_ ?_ ?_ hD
    · exact h80
    · exact h82
    · exact h82o
  | cons a87 rest ih =>
    intro k45 s t8_83 hdrop hkl hX hN hI h80 h81 h82 h82o hD
    obtain ⟨hlt, -, hget, hdrop1, -⟩ := drop_cons hdrop
    have hp1 : ((k45 : Nat) : Int) < ((l44.length : Nat) : Int) := by omega
    have hwk := wi_succ (k := k45) (by unfold Lim at hlen; omega)
    refine awp_roundK fun K hK => ?_
    rw [L.plus_joined_plus_option_l1] at hD
    refine x_seq ?_
    refine x_start (b := false) ?_
    refine x_bin hI hN b_lss ?_
    refine x_done ?_
    refine x_tN ?_
    refine x_seq ?_
    refine x_ct (show _ = (V.bool (decide (((k45 : Nat) : Int) < ((l44.length : Nat) : Int)))) from rfl) (decide_eq_true hp1) ?_
    refine x_skip ?_
    refine x_tN ?_
    refine x_seq ?_
    refine x_block ?_
    refine x_seq ?_
    refine x_start (b := false) ?_
    refine x_iaddr hX hI (at_k hget) fun v90 (hv90 : v90.nf = V.el [(V.str a87)] 0) => ?_
    refine x_load_el hv90 (show _ = some (V.str a87) from rfl) fun v91 hv91 => ?_
    refine x_mv' (nf_str hv91) ?_
    refine x_done ?_
    refine x_tN ?_
    refine x_seq ?_
    refine x_start (b := false) ?_
    refine x_mv h81 fun v99 hv99 => ?_
    refine x_mv' (show _ = (V.str a87) from rfl) ?_
    obtain ⟨r101, hx102, hD⟩ := Option.bind_eq_some_iff.1 hD
    refine x_callvF hC_plus_option hv99 (a := (a87)) (cons_eq (nf_of rfl (show _ = (V.str a87) from rfl)) rfl) hx102 fun v100 ov100 (hv100 : v100.nf = (V.tup [(V.str r101.1), (V.int .i64 r101.2)])) hov100 => ?_
    refine x_mv hv100 fun v103 hv103 => ?_
    refine x_ext hv103 (show _ = some (V.str r101.1) from rfl) fun v104 hv104 => ?_
    refine x_ext hv103 (show _ = some (V.int .i64 r101.2) from rfl) fun v105 hv105 => ?_
    refine x_mv' (nf_str hv104) ?_
    refine x_mv' (nf_int hv105) ?_
    refine x_done ?_
    refine x_tN ?_
    refine x_seq ?_
    refine x_seq ?_
    refine x_start (b := false) ?_
    refine x_mv' (show _ = (V.int .i64 r101.2) from rfl) ?_
    refine x_bin (show _ = (V.int .i64 r101.2) from rfl) (show _ = (V.int .i64 0) from rfl) b_neq ?_
    refine x_done ?_
    refine x_tN ?_
    by_cases hp107 : r101.2 = 0
    · rw [if_pos hp107] at hD
      refine x_cf (show _ = (V.bool (!(decide (r101.2 = 0)))) from rfl) (bnot_t (decide_eq_true hp107)) ?_
      refine x_skip ?_
      refine x_tN ?_
      refine x_start (b := false) ?_
      refine x_mvo h82 fun v108 ov108 hv108 hwv108 => ?_
      refine x_mv' (show _ = (V.str r101.1) from rfl) ?_
      refine x_bsl (E := V.str) (l := ([r101.1] : (List Bytes))) (cons_eq (nf_of rfl (show _ = (V.str r101.1) from rfl)) rfl) (fits_map (E := V.str) (sz := 1) (fun x => ⟨rfl, rfl⟩) _) fun v109 ov109 hv109 hov109 => ?_
      obtain ⟨l110, hx111, hD⟩ := Option.bind_eq_some_iff.1 hD
      refine x_app hv108 (hwv108 h82o) (tail_sl hv109) hx111 fun v112 ov112 fv112 hv112 hov112 hfv112 => ?_
      refine x_mvo hv112 fun v113 ov113 hv113 hwv113 => ?_
      refine x_done ?_
      refine x_bN ?_
      refine x_tN ?_
      refine x_start (b := false) ?_
      refine x_bin hI (show _ = (V.int .i64 1) from rfl) b_add ?_
      refine x_mv' (show _ = (V.int .i64 (wi (((k45 : Nat) : Int) + 1))) from rfl) ?_
      refine x_done ?_
      refine x_tN ?_
      refine hK _ ?_
      refine ih (k45 + 1) _ _ hdrop1 hlt ?_ ?_ ?_ ?_ ?_ ?_ ?_ hD
      · exact hX
      · exact hN
      · exact (Eq.trans (show _ = (V.int .i64 (wi (((k45 : Nat) : Int) + 1))) from rfl) (congrArg (V.int .i64) hwk))
      · exact h80
      · exact h81
      · exact hv113
      · exact (hwv113 hov112)
    · rw [if_neg hp107] at hD
      refine x_ct (show _ = (V.bool (!(decide (r101.2 = 0)))) from rfl) (bnot_f (decide_eq_false hp107)) ?_
      refine x_seq ?_
      refine x_start (b := false) ?_
      refine x_mv' (show _ = (V.int .i64 r101.2) from rfl) ?_
      refine x_mv' (show _ = (V.str ([] : Bytes)) from rfl) ?_
      refine x_mv' (show _ = (V.int .i64 r101.2) from rfl) ?_
      refine x_done ?_
      refine x_tN ?_
      refine x_retc ?_
      refine x_tR ?_
      refine x_bR ?_
      refine x_tR ?_
      refine x_tR ?_
      obtain rfl := Option.some.inj hD
      exact hR _ (ends_tup (rvs_cons (rv_t (nf_of rfl (show _ = (V.str ([] : Bytes)) from rfl))) (rvs_cons (rv_t (nf_of rfl (show _ = (V.int .i64 r101.2) from rfl))) rvs_nil)) (by decide))
def g.plus_joined_plus_option (p0 : (List Bytes)) (p1 : Bytes) : Option (Bytes × Int) :=
  if p0.length ≤ Lim then L.plus_joined_plus_option_l1 (fun (t8_122 : (List Bytes)) => if ((t8_122.length : Nat) : Int) = 1 then
    (at? t8_122 0).bind fun a135 =>
    some (a135, 0)
  else
    (g.strings_Join t8_122 p1).bind fun r141 =>
    (cat ([40] : Bytes) r141).bind fun z143 =>
    (cat z143 ([41] : Bytes)).bind fun z145 =>
    some (z145, 0)) p0 [] else none
theorem ok.plus_joined_plus_option {Γ : Abs.Spec} {gl : Glob} (hC_plus_option : CallsX Γ K.plus_option) (hC_strings_Join : CallsX Γ K.strings_Join) {r : (Bytes × Int)} {p0 : (List Bytes)} {p1 : Bytes} {v : List V}
    (hv : nfL v = [(V.sl false 1 (List.map V.str p0)), (V.str p1), (V.fn F.plus_option [])]) (hD : g.plus_joined_plus_option p0 p1 = some r) : awp Γ gl c_plus_joined_plus_option (endQ [.t 6, .t 7] false (V.tup [(V.str r.1), (V.int .i64 r.2)])) (St.init v) := by
  obtain ⟨v0, v, rfl, h0, hv⟩ := nfL_cons hv
  obtain ⟨v1, v, rfl, h1, hv⟩ := nfL_cons hv
  obtain ⟨v2, v, rfl, h2, hv⟩ := nfL_cons hv
  obtain rfl := nfL_nil hv
  have hR : ∀ s, EndsX [.t 6, .t 7] false (V.tup [(V.str r.1), (V.int .i64 r.2)]) s → endQ [.t 6, .t 7] false (V.tup [(V.str r.1), (V.int .i64 r.2)]) .ret s := fun _ h => h
  unfold g.plus_joined_plus_option at hD
  unfold c_plus_joined_plus_option
  refine x_seq ?_
  refine x_start (b := false) ?_
  refine x_mv' (show _ = (V.str ([] : Bytes)) from rfl) ?_
  refine x_mv' (show _ = (V.int .i64 0) from rfl) ?_
  refine x_done ?_
  refine x_tN ?_
  refine x_seq ?_
  refine x_start (b := false) ?_
  refine x_mv' (y := V.sl true 1 []) rfl ?_
  refine x_done ?_
  refine x_tN ?_
  refine x_seq ?_
  refine x_seq ?_
  refine x_start (b := false) ?_
  refine x_mv h0 fun v43 hv43 => ?_
  refine x_len hv43 ?_
  refine x_mv' (show _ = (V.int .i64 0) from rfl) ?_
  refine x_done ?_
  refine x_tN ?_
  refine x_block ?_
  by_cases hlen148 : p0.length ≤ Lim
  · rw [if_pos hlen148] at hD
    refine ok.plus_joined_plus_option_l1 (t1_46 := p1) (l44 := p0) hC_plus_option hC_strings_Join (fun s147 t8_122 h120 h121 h121o hD => ?_) (fun _ hE => ?_) hlen148 _ 0 _ _ rfl (Nat.zero_le _) ?_ ?_ ?_ ?_ ?_ ?_ ?_ hD
    · refine x_bE ?_
      refine x_tN ?_
      refine x_seq ?_
      refine x_seq ?_
      refine x_start (b := false) ?_
      refine x_mv h121 fun v132 hv132 => ?_
      refine x_len hv132 ?_
      refine x_bin (show _ = (V.int .i64 ((t8_122.length : Nat) : Int)) from rfl) (show _ = (V.int .i64 1) from rfl) b_eql ?_
      refine x_done ?_
      refine x_tN ?_
      by_cases hp133 : ((t8_122.length : Nat) : Int) = 1
      · rw [if_pos hp133] at hD
        refine x_ct (show _ = (V.bool (decide (((t8_122.length : Nat) : Int) = 1))) from rfl) (decide_eq_true hp133) ?_
        refine x_seq ?_
        refine x_start (b := false) ?_
        refine x_mv h121 fun v134 hv134 => ?_
        obtain ⟨a135, hx136, hD⟩ := Option.bind_eq_some_iff.1 hD
        refine x_iaddr hv134 (show _ = (V.int .i64 0) from rfl) hx136 fun v137 (hv137 : v137.nf = V.el [(V.str a135)] 0) => ?_
        refine x_load_el hv137 (show _ = some (V.str a135) from rfl) fun v138 hv138 => ?_
        refine x_mv' (nf_str hv138) ?_
        refine x_mv' (show _ = (V.int .i64 0) from rfl) ?_
        refine x_done ?_
        refine x_tN ?_
        refine x_retc ?_
        refine x_tR ?_
        obtain rfl := Option.some.inj hD
        exact hR _ (ends_tup (rvs_cons (rv_t (nf_of rfl (show _ = (V.str a135) from rfl))) (rvs_cons (rv_t (nf_of rfl (show _ = (V.int .i64 0) from rfl))) rvs_nil)) (by decide))
      · rw [if_neg hp133] at hD
        refine x_cf (show _ = (V.bool (decide (((t8_122.length : Nat) : Int) = 1))) from rfl) (decide_eq_false hp133) ?_
        refine x_skip ?_
        refine x_tN ?_
        refine x_seq ?_
        refine x_start (b := false) ?_
        refine x_mv h121 fun v139 hv139 => ?_
        refine x_mv' h120 ?_
        obtain ⟨r141, hx142, hD⟩ := Option.bind_eq_some_iff.1 hD
        refine x_callF hC_strings_Join (a := (t8_122, p1)) (cons_eq hv139 (cons_eq (nf_of rfl (show _ = (V.str p1) from rfl)) rfl)) hx142 fun v140 ov140 (hv140 : v140.nf = (V.str r141)) hov140 => ?_
        obtain ⟨z143, hx144, hD⟩ := Option.bind_eq_some_iff.1 hD
        refine x_cat (show _ = (V.str ([40] : Bytes)) from rfl) (nf_str hv140) hx144 ?_
        obtain ⟨z145, hx146, hD⟩ := Option.bind_eq_some_iff.1 hD
        refine x_cat (show _ = (V.str z143) from rfl) (show _ = (V.str ([41] : Bytes)) from rfl) hx146 ?_
        refine x_mv' (show _ = (V.str z145) from rfl) ?_
        refine x_mv' (show _ = (V.int .i64 0) from rfl) ?_
        refine x_done ?_
        refine x_tN ?_
        refine x_retc ?_
        obtain rfl := Option.some.inj hD
        exact hR _ (ends_tup (rvs_cons (rv_t (nf_of rfl (show _ = (V.str z145) from rfl))) (rvs_cons (rv_t (nf_of rfl (show _ = (V.int .i64 0) from rfl))) rvs_nil)) (by decide))
    · refine x_bR ?_; refine x_tR ?_; exact hR _ hE
    · exact hv43
    · exact (show _ = (V.int .i64 ((p0.length : Nat) : Int)) from rfl)
    · exact (show _ = (V.int .i64 0) from rfl)
    · exact (nf_str h1)
    · exact h2
    · exact (show V.nf _ = (V.sl false 1 (List.map V.str [])) from rfl)
    · exact (Or.inr ⟨1, rfl⟩)
  · rw [if_neg hlen148] at hD; cases hD
def K.plus_joined_plus_option : FC := fc F.plus_joined (fun avs => isFn F.plus_option avs[2]?) false (fun (a : ((List Bytes) × Bytes)) => [(V.sl false 1 (List.map V.str a.1)), (V.str a.2), (V.fn F.plus_option [])]) (fun (y : (Bytes × Int)) => (V.tup [(V.str y.1), (V.int .i64 y.2)])) (fun a => g.plus_joined_plus_option a.1 a.2)
  (fun a => (cleanL_mk (E.Lstring_clean _) (cleanL_mk rfl (cleanL_mk rfl rfl))))
  (fun y => (cleanL_mk rfl (cleanL_mk rfl rfl)))
  (fun ⟨a0, a1⟩ ⟨b0, b1⟩ h => by
    obtain ⟨h0, h⟩ := List.cons.inj h
    obtain rfl : a0 = b0 := E.Lstring_inj h0
    obtain ⟨h0, h⟩ := List.cons.inj h
    obtain rfl : a1 = b1 := V.str.inj h0
    obtain ⟨h0, h⟩ := List.cons.inj h
    rfl)
theorem H.plus_joined_plus_option (w : World) (hw : EnvOK w) : K.plus_joined_plus_option.Holds (cxD w) :=
  FC.holds_of (cs := [K.plus_option, K.strings_Join]) (glD w) mixed cf_plus_joined_plus_option (fun _ _ ⟨_, _, h, _⟩ => by subst h; exact Nat.le_of_ble_eq_true rfl) fun v y ⟨a, r, hv, hD, hy⟩ => by
    subst hy
    exact ok.plus_joined_plus_option (specOf_calls (H.plus_option w hw) (fun _ _ ⟨_, _, h, _⟩ => by subst h; rfl)) (specOf_calls (H.strings_Join w hw) (fun _ _ ⟨_, _, h, _⟩ => by subst h; rfl)) hv hD
def c_plus_Line : ACode := (.seq (.region [
  ⟨(some 2), (.mv (.const (.str []))), none, []⟩, 
  ⟨(some 3), (.mv (.const (.int .i64 0))), none, []⟩] false) (.seq (.region [
  ⟨(some 5), (.mv (.tmp 0)), none, []⟩, 
  ⟨(some 6), (.call F.strings_FieldsFunc [(.tmp 5), (.const (.fn F.plus_Line_1 []))]), none, []⟩, 
  ⟨(some 4), (.mvo 6), none, []⟩] false) (.seq (.seq (.region [
  ⟨(some 7), (.mv (.tmp 4)), none, []⟩, 
  ⟨(some 8), (.len false (.tmp 7)), none, []⟩, 
  ⟨(some 9), (.bin .eql .no (.tmp 8) (.const (.int .i64 0))), none, []⟩] false) (.cond (.tmp 9) (.seq (.region [
  ⟨(some 2), (.mv (.const (.str []))), none, []⟩, 
  ⟨(some 3), (.mv (.const (.int .i64 4))), none, []⟩] false) .ret) .skip)) (.seq (.region [
  ⟨(some 10), (.mv (.tmp 4)), none, []⟩, 
  ⟨(some 11), (.call F.plus_joined [(.tmp 10), (.const (.str [32, 124, 124, 32])), (.const (.fn F.plus_option []))]), none, []⟩, 
  ⟨(some 12), (.ext (.tmp 11) 0), none, []⟩, 
  ⟨(some 13), (.ext (.tmp 11) 1), none, []⟩, 
  ⟨(some 2), (.mv (.tmp 12)), none, []⟩, 
  ⟨(some 3), (.mv (.tmp 13)), none, []⟩] false) .ret))))
theorem cf_plus_Line : cFn Go.Proofs.Tryd.prog F.plus_Line = some ⟨14, c_plus_Line, [.t 2, .t 3]⟩ := by kernel_rfl
def g.plus_Line (p0 : Bytes) : Option (Bytes × Int) :=
  (g.strings_FieldsFunc_plus_Line_1 p0).bind fun r6 =>
  if ((r6.length : Nat) : Int) = 0 then
    some (([] : Bytes), 4)
  else
    (g.plus_joined_plus_option r6 ([32, 124, 124, 32] : Bytes)).bind fun r17 =>
    some (r17.1, r17.2)
theorem ok.plus_Line {Γ : Abs.Spec} {gl : Glob} (hC_strings_FieldsFunc_plus_Line_1 : CallsX Γ K.strings_FieldsFunc_plus_Line_1) (hC_plus_joined_plus_option : CallsX Γ K.plus_joined_plus_option) {r : (Bytes × Int)} {p0 : Bytes} {v : List V}
    (hv : nfL v = [(V.str p0)]) (hD : g.plus_Line p0 = some r) : awp Γ gl c_plus_Line (endQ [.t 2, .t 3] false (V.tup [(V.str r.1), (V.int .i64 r.2)])) (St.init v) := by
  obtain ⟨v0, v, rfl, h0, hv⟩ := nfL_cons hv
  obtain rfl := nfL_nil hv
  have hR : ∀ s, EndsX [.t 2, .t 3] false (V.tup [(V.str r.1), (V.int .i64 r.2)]) s → endQ [.t 2, .t 3] false (V.tup [(V.str r.1), (V.int .i64 r.2)]) .ret s := fun _ h => h
  unfold g.plus_Line at hD
  unfold c_plus_Line
  refine x_seq ?_
  refine x_start (b := false) ?_
  refine x_mv' (show _ = (V.str ([] : Bytes)) from rfl) ?_
  refine x_mv' (show _ = (V.int .i64 0) from rfl) ?_
  refine x_done ?_
  refine x_tN ?_
  refine x_seq ?_
  refine x_start (b := false) ?_
  refine x_mv' (nf_str h0) ?_
  obtain ⟨r6, hx7, hD⟩ := Option.bind_eq_some_iff.1 hD
  refine x_callF hC_strings_FieldsFunc_plus_Line_1 (a := (p0)) (cons_eq (nf_of rfl (show _ = (V.str p0) from rfl)) (cons_eq (show V.nf _ = (V.fn F.plus_Line_1 []) from rfl) rfl)) hx7 fun v5 ov5 (hv5 : v5.nf = (V.sl false 1 (List.map V.str r6))) hov5 => ?_
  refine x_mvo hv5 fun v8 ov8 hv8 hwv8 => ?_
  refine x_done ?_
  refine x_tN ?_
  refine x_seq ?_
  refine x_seq ?_
  refine x_start (b := false) ?_
  refine x_mv hv8 fun v13 hv13 => ?_
  refine x_len hv13 ?_
  refine x_bin (show _ = (V.int .i64 ((r6.length : Nat) : Int)) from rfl) (show _ = (V.int .i64 0) from rfl) b_eql ?_
  refine x_done ?_
  refine x_tN ?_
  by_cases hp14 : ((r6.length : Nat) : Int) = 0
  · rw [if_pos hp14] at hD
    refine x_ct (show _ = (V.bool (decide (((r6.length : Nat) : Int) = 0))) from rfl) (decide_eq_true hp14) ?_
    refine x_seq ?_
    refine x_start (b := false) ?_
    refine x_mv' (show _ = (V.str ([] : Bytes)) from rfl) ?_
    refine x_mv' (show _ = (V.int .i64 4) from rfl) ?_
    refine x_done ?_
    refine x_tN ?_
    refine x_retc ?_
    refine x_tR ?_
    obtain rfl := Option.some.inj hD
    exact hR _ (ends_tup (rvs_cons (rv_t (nf_of rfl (show _ = (V.str ([] : Bytes)) from rfl))) (rvs_cons (rv_t (nf_of rfl (show _ = (V.int .i64 4) from rfl))) rvs_nil)) (by decide))
  · rw [if_neg hp14] at hD
    refine x_cf (show _ = (V.bool (decide (((r6.length : Nat) : Int) = 0))) from rfl) (decide_eq_false hp14) ?_
    refine x_skip ?_
    refine x_tN ?_
    refine x_seq ?_
    refine x_start (b := false) ?_
    refine x_mv hv8 fun v15 hv15 => ?_
    obtain ⟨r17, hx18, hD⟩ := Option.bind_eq_some_iff.1 hD
    refine x_callF hC_plus_joined_plus_option (a := (r6, ([32, 124, 124, 32] : Bytes))) (cons_eq hv15 (cons_eq (nf_of rfl (show _ = (V.str ([32, 124, 124, 32] : Bytes)) from rfl)) (cons_eq (show V.nf _ = (V.fn F.plus_option []) from rfl) rfl))) hx18 fun v16 ov16 (hv16 : v16.nf = (V.tup [(V.str r17.1), (V.int .i64 r17.2)])) hov16 => ?_
    refine x_ext hv16 (show _ = some (V.str r17.1) from rfl) fun v19 hv19 => ?_
    refine x_ext hv16 (show _ = some (V.int .i64 r17.2) from rfl) fun v20 hv20 => ?_
    refine x_mv' (nf_str hv19) ?_
    refine x_mv' (nf_int hv20) ?_
    refine x_done ?_
    refine x_tN ?_
    refine x_retc ?_
    obtain rfl := Option.some.inj hD
    exact hR _ (ends_tup (rvs_cons (rv_t (nf_of rfl (show _ = (V.str r17.1) from rfl))) (rvs_cons (rv_t (nf_of rfl (show _ = (V.int .i64 r17.2) from rfl))) rvs_nil)) (by decide))
def K.plus_Line : FC := fc F.plus_Line (fun _ => true) false (fun (a : Bytes) => [(V.str a)]) (fun (y : (Bytes × Int)) => (V.tup [(V.str y.1), (V.int .i64 y.2)])) (fun a => g.plus_Line a)
  (fun a => (cleanL_mk rfl rfl))
  (fun y => (cleanL_mk rfl (cleanL_mk rfl rfl)))
  (fun a0 b0 h => by
    obtain ⟨h0, h⟩ := List.cons.inj h
    obtain rfl : a0 = b0 := V.str.inj h0
    rfl)
theorem H.plus_Line (w : World) (hw : EnvOK w) : K.plus_Line.Holds (cxD w) :=
  FC.holds_of (cs := [K.strings_FieldsFunc_plus_Line_1, K.plus_joined_plus_option]) (glD w) mixed cf_plus_Line (fun _ _ ⟨_, _, h, _⟩ => by subst h; exact Nat.le_of_ble_eq_true rfl) fun v y ⟨a, r, hv, hD, hy⟩ => by
    subst hy
    exact ok.plus_Line (specOf_calls (H.strings_FieldsFunc_plus_Line_1 w hw) (fun _ _ ⟨_, _, h, _⟩ => by subst h; rfl)) (specOf_calls (H.plus_joined_plus_option w hw) (fun _ _ ⟨_, _, h, _⟩ => by subst h; rfl)) hv hD
def c_plus_joined_plus_Line_l1 : ACode := (.seq (.region [
  ⟨(some 16), (.bin .lss .no (.tmp 15) (.tmp 14)), none, []⟩] false) (.seq (.cond (.tmp 16) .skip (.exit 0)) (.seq (.block 1 (.seq (.region [
  ⟨(some 17), (.iaddr 1 (.tmp 13) (.tmp 15)), none, []⟩, 
  ⟨(some 18), (.load none (.tmp 17)), none, []⟩, 
  ⟨(some 10), (.mv (.tmp 18)), none, []⟩] false) (.seq (.region [
  ⟨(some 20), (.mv (.tmp 2)), none, []⟩, 
  ⟨(some 21), (.mv (.tmp 10)), none, []⟩, 
  ⟨(some 22), (.callv (.tmp 20) [(.tmp 21)]), none, []⟩, 
  ⟨(some 19), (.mv (.tmp 22)), none, []⟩, 
  ⟨(some 23), (.ext (.tmp 19) 0), none, []⟩, 
  ⟨(some 24), (.ext (.tmp 19) 1), none, []⟩, 
  ⟨(some 11), (.mv (.tmp 23)), none, []⟩, 
  ⟨(some 12), (.mv (.tmp 24)), none, []⟩] false) (.seq (.seq (.region [
  ⟨(some 25), (.mv (.tmp 12)), none, []⟩, 
  ⟨(some 26), (.bin .neq .no (.tmp 25) (.const (.int .i64 0))), none, []⟩] false) (.cond (.tmp 26) (.seq (.region [
  ⟨(some 27), (.mv (.tmp 12)), none, []⟩, 
  ⟨(some 6), (.mv (.const (.str []))), none, []⟩, 
  ⟨(some 7), (.mv (.tmp 27)), none, []⟩] false) .ret) .skip)) (.region [
  ⟨(some 28), (.mvo 8), none, []⟩, 
  ⟨(some 29), (.mv (.tmp 11)), none, []⟩, 
  ⟨(some 30), (.bsl 1 [(.tmp 29)]), none, []⟩, 
  ⟨(some 31), (.app 1 (.tmp 28) (.tmp 30)), none, []⟩, 
  ⟨(some 8), (.mvo 31), none, []⟩] false))))) (.region [
  ⟨(some 32), (.bin .add .no (.tmp 15) (.const (.int .i64 1))), none, []⟩, 
  ⟨(some 15), (.mv (.tmp 32)), none, []⟩] false))))
def c_plus_joined_plus_Line : ACode := (.seq (.region [
  ⟨(some 6), (.mv (.const (.str []))), none, []⟩, 
  ⟨(some 7), (.mv (.const (.int .i64 0))), none, []⟩] false) (.seq (.region [
  ⟨(some 8), (.mv (.const (.sl true 1 []))), none, []⟩] false) (.seq (.seq (.region [
  ⟨(some 13), (.mv (.tmp 0)), none, []⟩, 
  ⟨(some 14), (.len false (.tmp 13)), none, []⟩, 
  ⟨(some 15), (.mv (.const (.int .i64 0))), none, []⟩] false) (.block 0 (.loop c_plus_joined_plus_Line_l1))) (.seq (.seq (.region [
  ⟨(some 33), (.mv (.tmp 8)), none, []⟩, 
  ⟨(some 34), (.len false (.tmp 33)), none, []⟩, 
  ⟨(some 35), (.bin .eql .no (.tmp 34) (.const (.int .i64 1))), none, []⟩] false) (.cond (.tmp 35) (.seq (.region [
  ⟨(some 36), (.mv (.tmp 8)), none, []⟩, 
  ⟨(some 37), (.iaddr 1 (.tmp 36) (.const (.int .i64 0))), none, []⟩, 
  ⟨(some 38), (.load none (.tmp 37)), none, []⟩, 
  ⟨(some 6), (.mv (.tmp 38)), none, []⟩, 
  ⟨(some 7), (.mv (.const (.int .i64 0))), none, []⟩] false) .ret) .skip)) (.seq (.region [
  ⟨(some 39), (.mv (.tmp 8)), none, []⟩, 
  ⟨(some 40), (.mv (.tmp 1)), none, []⟩, 
  ⟨(some 41), (.call F.strings_Join [(.tmp 39), (.tmp 40)]), none, []⟩, 
  ⟨(some 42), (.bin .add .no (.const (.str [40])) (.tmp 41)), none, []⟩, 
  ⟨(some 43), (.bin .add .no (.tmp 42) (.const (.str [41]))), none, []⟩, 
  ⟨(some 6), (.mv (.tmp 43)), none, []⟩, 
  ⟨(some 7), (.mv (.const (.int .i64 0))), none, []⟩] false) .ret)))))
theorem cf_plus_joined_plus_Line : cFn Go.Proofs.Tryd.prog F.plus_joined = some ⟨44, c_plus_joined_plus_Line, [.t 6, .t 7]⟩ := by kernel_rfl
def L.plus_joined_plus_Line_l1 (k0 : (List Bytes) → Option (Bytes × Int)) : List Bytes → (List Bytes) → Option (Bytes × Int)
  | [], t8_83 =>
    k0 t8_83
  | a87 :: rest, t8_83 =>
    (g.plus_Line a87).bind fun r101 =>
    if r101.2 = 0 then
      (appL t8_83 ([r101.1] : (List Bytes))).bind fun l110 =>
      L.plus_joined_plus_Line_l1 k0 rest l110
    else
      some (([] : Bytes), r101.2)
theorem ok.plus_joined_plus_Line_l1 {Γ : Abs.Spec} {gl : Glob} (hC_plus_Line : CallsX Γ K.plus_Line) (hC_strings_Join : CallsX Γ K.strings_Join) {Q : Ex → St → Prop} {r : (Bytes × Int)} {t1_46 : Bytes} {l44 : List Bytes} {k0 : (List Bytes) → Option (Bytes × Int)}
    (hk0 : ∀ (s : St) (t8_119 : (List Bytes)), (s.tm 1 = (V.str t1_46)) → ((s.tm 8).nf = (V.sl false 1 (List.map V.str t8_119))) → (OwnS s 8) → k0 t8_119 = some r → Q (.exit 0) s)
    (hR : ∀ s, EndsX [.t 6, .t 7] false (V.tup [(V.str r.1), (V.int .i64 r.2)]) s → Q .ret s)
    (hlen : l44.length ≤ Lim) : ∀ (rest : List Bytes) (k45 : Nat) (s : St) (t8_83 : (List Bytes)), l44.drop k45 = rest → k45 ≤ l44.length →
    ((s.tm 13).nf = V.sl false 1 (List.map V.str l44)) → (s.tm 14 = V.int .i64 ((l44.length : Nat) : Int)) → (s.tm 15 = V.int .i64 ((k45 : Nat) : Int)) → (s.tm 1 = (V.str t1_46)) → ((s.tm 2).nf = (V.fn F.plus_Line [])) → ((s.tm 8).nf = (V.sl false 1 (List.map V.str t8_83))) → (OwnS s 8) →
    L.plus_joined_plus_Line_l1 k0 rest t8_83 = some r → awp Γ gl (.loop c_plus_joined_plus_Line_l1) Q s := by
  intro rest
  induction rest with
  | nil =>
    intro k45 s t8_83 hdrop hkl hX hN hI h80 h81 h82 h82o hD
    have hkz := drop_nil hdrop hkl
    have hp0 : ¬ (((k45 : Nat) : Int) < ((l44.length : Nat) : Int)) := by omega
    refine awp_roundK fun K hK => ?_
    rw [L.plus_joined_plus_Line_l1] at hD
    refine x_seq ?_
    refine x_start (b := false) ?_
    refine x_bin hI hN b_lss ?_
    refine x_done ?_
    refine x_tN ?_
    refine x_seq ?_
    refine x_cf (show _ = (V.bool (decide (((k45 : Nat) : Int) < ((l44.length : Nat) : Int)))) from rfl) (decide_eq_false hp0) ?_
    refine x_exitc ?_
    refine x_tE ?_
    refine x_tE ?_
    refine hk0 _ _ ?_ ?_ ?_ hD
    · exact h80
    · exact h82
    · exact h82o
  | cons a87 rest ih =>
    intro k45 s t8_83 hdrop hkl hX hN hI h80 h81 h82 h82o hD
    obtain ⟨hlt, -, hget, hdrop1, -⟩ := drop_cons hdrop
    have hp1 : ((k45 : Nat) : Int) < ((l44.length : Nat) : Int) := by omega
    have hwk := wi_succ (k := k45) (by unfold Lim at hlen; omega)
    refine awp_roundK fun K hK => ?_
    rw [L.plus_joined_plus_Line_l1] at hD
    refine x_seq ?_
    refine x_start (b := false) ?_
    refine x_bin hI hN b_lss ?_
    refine x_done ?_
    refine x_tN ?_
    refine x_seq ?_
    refine x_ct (show _ = (V.bool (decide (((k45 : Nat) : Int) < ((l44.length : Nat) : Int)))) from rfl) (decide_eq_true hp1) ?_
    refine x_skip ?_
    refine x_tN ?_
    refine x_seq ?_
    refine x_block ?_
    refine x_seq ?_
    refine x_start (b := false) ?_
    refine x_iaddr hX hI (at_k hget) fun v90 (hv90 : v90.nf = V.el [(V.str a87)] 0) => ?_
    refine x_load_el hv90 (show _ = some (V.str a87) from rfl) fun v91 hv91 => ?_
    refine x_mv' (nf_str hv91) ?_
    refine x_done ?_
    refine x_tN ?_
    refine x_seq ?_
    refine x_start (b := false) ?_
    refine x_mv h81 fun v99 hv99 => ?_
    refine x_mv' (show _ = (V.str a87) from rfl) ?_
    obtain ⟨r101, hx102, hD⟩ := Option.bind_eq_some_iff.1 hD
    refine x_callvF hC_plus_Line hv99 (a := (a87)) (cons_eq (nf_of rfl (show _ = (V.str a87) from rfl)) rfl) hx102 fun v100 ov100 (hv100 : v100.nf = (V.tup [(V.str r101.1), (V.int .i64 r101.2)])) hov100 => ?_
    refine x_mv hv100 fun v103 hv103 => ?_
    refine x_ext hv103 (show _ = some (V.str r101.1) from rfl) fun v104 hv104 => ?_
    refine x_ext hv103 (show _ = some (V.int .i64 r101.2) from rfl) fun v105 hv105 => ?_
    refine x_mv' (nf_str hv104) ?_
    refine x_mv' (nf_int hv105) ?_
    refine x_done ?_
    refine x_tN ?_
    refine x_seq ?_
    refine x_seq ?_
    refine x_start (b := false) ?_
    refine x_mv' (show _ = (V.int .i64 r101.2) from rfl) ?_
    refine x_bin (show _ = (V.int .i64 r101.2) from rfl) (show _ = (V.int .i64 0) from rfl) b_neq ?_
    refine x_done ?_
    refine x_tN ?_
    by_cases hp107 : r101.2 = 0
    · rw [if_pos hp107] at hD
      refine x_cf (show _ = (V.bool (!(decide (r101.2 = 0)))) from rfl) (bnot_t (decide_eq_true hp107)) ?_
      refine x_skip ?_
      refine x_tN ?_
      refine x_start (b := false) ?_
      refine x_mvo h82 fun v108 ov108 hv108 hwv108 => ?_
      refine x_mv' (show _ = (V.str r101.1) from rfl) ?_
      refine x_bsl (E := V.str) (l := ([r101.1] : (List Bytes))) (cons_eq (nf_of rfl (show _ = (V.str r101.1) from rfl)) rfl) (fits_map (E := V.str) (sz := 1) (fun x => ⟨rfl, rfl⟩) _) fun v109 ov109 hv109 hov109 => ?_
      obtain ⟨l110, hx111, hD⟩ := Option.bind_eq_some_iff.1 hD
      refine x_app hv108 (hwv108 h82o) (tail_sl hv109) hx111 fun v112 ov112 fv112 hv112 hov112 hfv112 => ?_
      refine x_mvo hv112 fun v113 ov113 hv113 hwv113 => ?_
      refine x_done ?_
      refine x_bN ?_
      refine x_tN ?_
      refine x_start (b := false) ?_
      refine x_bin hI (show _ = (V.int .i64 1) from rfl) b_add ?_
      refine x_mv' (show _ = (V.int .i64 (wi (((k45 : Nat) : Int) + 1))) from rfl) ?_
      refine x_done ?_
      refine x_tN ?_
      refine hK _ ?_
      refine ih (k45 + 1) _ _ hdrop1 hlt ?_ ?_ ?_ ?_ ?_ ?_ ?_ hD
      · exact hX
      · exact hN
      · exact (Eq.trans (show _ = (V.int .i64 (wi (((k45 : Nat) : Int) + 1))) from rfl) (congrArg (V.int .i64) hwk))
      · exact h80
      · exact h81
      · exact hv113
      · exact (hwv113 hov112)
    · rw [if_neg hp107] at hD
      refine x_ct (show _ = (V.bool (!(decide (r101.2 = 0)))) from rfl) (bnot_f (decide_eq_false hp107)) ?_
      refine x_seq ?_
      refine x_start (b := false) ?_
      refine x_mv' (show _ = (V.int .i64 r101.2) from rfl) ?_
      refine x_mv' (show _ = (V.str ([] : Bytes)) from rfl) ?_
      refine x_mv' (show _ = (V.int .i64 r101.2) from rfl) ?_
      refine x_done ?_
      refine x_tN ?_
      refine x_retc ?_
      refine x_tR ?_
      refine x_bR ?_
      refine x_tR ?_
      refine x_tR ?_
      obtain rfl := Option.some.inj hD
      exact hR _ (ends_tup (rvs_cons (rv_t (nf_of rfl (show _ = (V.str ([] : Bytes)) from rfl))) (rvs_cons (rv_t (nf_of rfl (show _ = (V.int .i64 r101.2) from rfl))) rvs_nil)) (by decide))
def g.plus_joined_plus_Line (p0 : (List Bytes)) (p1 : Bytes) : Option (Bytes × Int) :=
  if p0.length ≤ Lim then L.plus_joined_plus_Line_l1 (fun (t8_122 : (List Bytes)) => if ((t8_122.length : Nat) : Int) = 1 then
    (at? t8_122 0).bind fun a135 =>
    some (a135, 0)
  else
    (g.strings_Join t8_122 p1).bind fun r141 =>
    (cat ([40] : Bytes) r141).bind fun z143 =>
    (cat z143 ([41] : Bytes)).bind fun z145 =>
    some (z145, 0)) p0 [] else none
theorem ok.plus_joined_plus_Line {Γ : Abs.Spec} {gl : Glob} (hC_plus_Line : CallsX Γ K.plus_Line) (hC_strings_Join : CallsX Γ K.strings_Join) {r : (Bytes × Int)} {p0 : (List Bytes)} {p1 : Bytes} {v : List V}
    (hv : nfL v = [(V.sl false 1 (List.map V.str p0)), (V.str p1), (V.fn F.plus_Line [])]) (hD : g.plus_joined_plus_Line p0 p1 = some r) : awp Γ gl c_plus_joined_plus_Line (endQ [.t 6, .t 7] false (V.tup [(V.str r.1), (V.int .i64 r.2)])) (St.init v) := by
  obtain ⟨v0, v, rfl, h0, hv⟩ := nfL_cons hv
  obtain ⟨v1, v, rfl, h1, hv⟩ := nfL_cons hv
  obtain ⟨v2, v, rfl, h2, hv⟩ := nfL_cons hv
  obtain rfl := nfL_nil hv
  have hR : ∀ s, EndsX [.t 6, .t 7] false (V.tup [(V.str r.1), (V.int .i64 r.2)]) s → endQ [.t 6, .t 7] false (V.tup [(V.str r.1), (V.int .i64 r.2)]) .ret s := fun _ h => h
  unfold g.plus_joined_plus_Line at hD
  unfold c_plus_joined_plus_Line
  refine x_seq ?_
  refine x_start (b := false) ?_
  refine x_mv' (show _ = (V.str ([] : Bytes)) from rfl) ?_
  refine x_mv' (show _ = (V.int .i64 0) from rfl) ?_
  refine x_done ?_
  refine x_tN ?_
  refine x_seq ?_
  refine x_start (b := false) ?_
  refine x_mv' (y := V.sl true 1 []) rfl ?_
  refine x_done ?_
  refine x_tN ?_
  refine x_seq ?_
  refine x_seq ?_
  refine x_start (b := false) ?_
  refine x_mv h0 fun v43 hv43 => ?_
  refine x_len hv43 ?_
  refine x_mv' (show _ = (V.int .i64 0) from rfl) ?_
  refine x_done ?_
  refine x_tN ?_
  refine x_block ?_
  by_cases hlen148 : p0.length ≤ Lim
  · rw [if_pos hlen148] at hD
    refine ok.plus_joined_plus_Line_l1 (t1_46 := p1) (l44 := p0) hC_plus_Line hC_strings_Join (fun s147 t8_122 h120 h121 h121o hD => ?_) (fun _ hE => ?_) hlen148 _ 0 _ _ rfl (Nat.zero_le _) ?_ ?_ ?_ ?_ ?_ ?_ ?_ hD
    · refine x_bE ?_
      refine x_tN ?_
      refine x_seq ?_
      refine x_seq ?_
      refine x_start (b := false) ?_
      refine x_mv h121 fun v132 hv132 => ?_
      refine x_len hv132 ?_
      refine x_bin (show _ = (V.int .i64 ((t8_122.length : Nat) : Int)) from rfl) (show _ = (V.int .i64 1) from rfl) b_eql ?_
      refine x_done ?_
      refine x_tN ?_
      by_cases hp133 : ((t8_122.length : Nat) : Int) = 1
      · rw [if_pos hp133] at hD
        refine x_ct (show _ = (V.bool (decide (((t8_122.length : Nat) : Int) = 1))) from rfl) (decide_eq_true hp133) ?_
        refine x_seq ?_
        refine x_start (b := false) ?_
        refine x_mv h121 fun v134 hv134 => ?_
        obtain ⟨a135, hx136, hD⟩ := Option.bind_eq_some_iff.1 hD
        refine x_iaddr hv134 (show _ = (V.int .i64 0) from rfl) hx136 fun v137 (hv137 : v137.nf = V.el [(V.str a135)] 0) => ?_
        refine x_load_el hv137 (show _ = some (V.str a135) from rfl) fun v138 hv138 => ?_
        refine x_mv' (nf_str hv138) ?_
        refine x_mv' (show _ = (V.int .i64 0) from rfl) ?_
        refine x_done ?_
        refine x_tN ?_
        refine x_retc ?_
        refine x_tR ?_
        obtain rfl := Option.some.inj hD
        exact hR _ (ends_tup (rvs_cons (rv_t (nf_of rfl (show _ = (V.str a135) from rfl))) (rvs_cons (rv_t (nf_of rfl (show _ = (V.int .i64 0) from rfl))) rvs_nil)) (by decide))
      · rw [if_neg hp133] at hD
        refine x_cf (show _ = (V.bool (decide (((t8_122.length : Nat) : Int) = 1))) from rfl) (decide_eq_false hp133) ?_
        refine x_skip ?_
        refine x_tN ?_
        refine x_seq ?_
        refine x_start (b := false) ?_
        refine x_mv h121 fun v139 hv139 => ?_
        refine x_mv' h120 ?_
        obtain ⟨r141, hx142, hD⟩ := Option.bind_eq_some_iff.1 hD
        refine x_callF hC_strings_Join (a := (t8_122, p1)) (cons_eq hv139 (cons_eq (nf_of rfl (show _ = (V.str p1) from rfl)) rfl)) hx142 fun v140 ov140 (hv140 : v140.nf = (V.str r141)) hov140 => ?_
        obtain ⟨z143, hx144, hD⟩ := Option.bind_eq_some_iff.1 hD
        refine x_cat (show _ = (V.str ([40] : Bytes)) from rfl) (nf_str hv140) hx144 ?_
        obtain ⟨z145, hx146, hD⟩ := Option.bind_eq_some_iff.1 hD
        refine x_cat (show _ = (V.str z143) from rfl) (show _ = (V.str ([41] : Bytes)) from rfl) hx146 ?_
        refine x_mv' (show _ = (V.str z145) from rfl) ?_
        refine x_mv' (show _ = (V.int .i64 0) from rfl) ?_
        refine x_done ?_
        refine x_tN ?_
        refine x_retc ?_
        obtain rfl := Option.some.inj hD
        exact hR _ (ends_tup (rvs_cons (rv_t (nf_of rfl (show _ = (V.str z145) from rfl))) (rvs_cons (rv_t (nf_of rfl (show _ = (V.int .i64 0) from rfl))) rvs_nil)) (by decide))
    · refine x_bR ?_; refine x_tR ?_; exact hR _ hE
    · exact hv43
    · exact (show _ = (V.int .i64 ((p0.length : Nat) : Int)) from rfl)
    · exact (show _ = (V.int .i64 0) from rfl)
    · exact (nf_str h1)
    · exact h2
    · exact (show V.nf _ = (V.sl false 1 (List.map V.str [])) from rfl)
    · exact (Or.inr ⟨1, rfl⟩)
  · rw [if_neg hlen148] at hD; cases hD
def K.plus_joined_plus_Line : FC := fc F.plus_joined (fun avs => isFn F.plus_Line avs[2]?) false (fun (a : ((List Bytes) × Bytes)) => [(V.sl false 1 (List.map V.str a.1)), (V.str a.2), (V.fn F.plus_Line [])]) (fun (y : (Bytes × Int)) => (V.tup [(V.str y.1), (V.int .i64 y.2)])) (fun a => g.plus_joined_plus_Line a.1 a.2)
  (fun a => (cleanL_mk (E.Lstring_clean _) (cleanL_mk rfl (cleanL_mk rfl rfl))))
  (fun y => (cleanL_mk rfl (cleanL_mk rfl rfl)))
  (fun ⟨a0, a1⟩ ⟨b0, b1⟩ h => by
    obtain ⟨h0, h⟩ := List.cons.inj h
    obtain rfl : a0 = b0 := E.Lstring_inj h0
    obtain ⟨h0, h⟩ := List.cons.inj h
    obtain rfl : a1 = b1 := V.str.inj h0
    obtain ⟨h0, h⟩ := List.cons.inj h
    rfl)
theorem H.plus_joined_plus_Line (w : World) (hw : EnvOK w) : K.plus_joined_plus_Line.Holds (cxD w) :=
  FC.holds_of (cs := [K.plus_Line, K.strings_Join]) (glD w) mixed cf_plus_joined_plus_Line (fun _ _ ⟨_, _, h, _⟩ => by subst h; exact Nat.le_of_ble_eq_true rfl) fun v y ⟨a, r, hv, hD, hy⟩ => by
    subst hy
    exact ok.plus_joined_plus_Line (specOf_calls (H.plus_Line w hw) (fun _ _ ⟨_, _, h, _⟩ => by subst h; rfl)) (specOf_calls (H.strings_Join w hw) (fun _ _ ⟨_, _, h, _⟩ => by subst h; rfl)) hv hD
def c_plus_Lines : ACode := (.seq (.region [
  ⟨(some 2), (.mv (.const (.str []))), none, []⟩, 
  ⟨(some 3), (.mv (.const (.int .i64 0))), none, []⟩] false) (.seq (.seq (.region [
  ⟨(some 4), (.mv (.tmp 0)), none, []⟩, 
  ⟨(some 5), (.len false (.tmp 4)), none, []⟩, 
  ⟨(some 6), (.bin .eql .no (.tmp 5) (.const (.int .i64 0))), none, []⟩] false) (.cond (.tmp 6) (.seq (.region [
  ⟨(some 2), (.mv (.const (.str []))), none, []⟩, 
  ⟨(some 3), (.mv (.const (.int .i64 4))), none, []⟩] false) .ret) .skip)) (.seq (.region [
  ⟨(some 7), (.mv (.tmp 0)), none, []⟩, 
  ⟨(some 8), (.call F.plus_joined [(.tmp 7), (.const (.str [32, 38, 38, 32])), (.const (.fn F.plus_Line []))]), none, []⟩, 
  ⟨(some 9), (.ext (.tmp 8) 0), none, []⟩, 
  ⟨(some 10), (.ext (.tmp 8) 1), none, []⟩, 
  ⟨(some 2), (.mv (.tmp 9)), none, []⟩, 
  ⟨(some 3), (.mv (.tmp 10)), none, []⟩] false) .ret)))
theorem cf_plus_Lines : cFn Go.Proofs.Tryd.prog F.plus_Lines = some ⟨11, c_plus_Lines, [.t 2, .t 3]⟩ := by kernel_rfl
def g.plus_Lines (p0 : (List Bytes)) : Option (Bytes × Int) :=
  if ((p0.length : Nat) : Int) = 0 then
    some (([] : Bytes), 4)
  else
    (g.plus_joined_plus_Line p0 ([32, 38, 38, 32] : Bytes)).bind fun r9 =>
    some (r9.1, r9.2)
theorem ok.plus_Lines {Γ : Abs.Spec} {gl : Glob} (hC_plus_joined_plus_Line : CallsX Γ K.plus_joined_plus_Line) {r : (Bytes × Int)} {p0 : (List Bytes)} {v : List V}
    (hv : nfL v = [(V.sl false 1 (List.map V.str p0))]) (hD : g.plus_Lines p0 = some r) : awp Γ gl c_plus_Lines (endQ [.t 2, .t 3] false (V.tup [(V.str r.1), (V.int .i64 r.2)])) (St.init v) := by
  obtain ⟨v0, v, rfl, h0, hv⟩ := nfL_cons hv
  obtain rfl := nfL_nil hv
  have hR : ∀ s, EndsX [.t 2, .t 3] false (V.tup [(V.str r.1), (V.int .i64 r.2)]) s → endQ [.t 2, .t 3] false (V.tup [(V.str r.1), (V.int .i64 r.2)]) .ret s := fun _ h => h
  unfold g.plus_Lines at hD
  unfold c_plus_Lines
  refine x_seq ?_
  refine x_start (b := false) ?_
  refine x_mv' (show _ = (V.str ([] : Bytes)) from rfl) ?_
  refine x_mv' (show _ = (V.int .i64 0) from rfl) ?_
  refine x_done ?_
  refine x_tN ?_
  refine x_seq ?_
  refine x_seq ?_
  refine x_start (b := false) ?_
  refine x_mv h0 fun v5 hv5 => ?_
  refine x_len hv5 ?_
  refine x_bin (show _ = (V.int .i64 ((p0.length : Nat) : Int)) from rfl) (show _ = (V.int .i64 0) from rfl) b_eql ?_
  refine x_done ?_
  refine x_tN ?_
  by_cases hp6 : ((p0.length : Nat) : Int) = 0
  · rw [if_pos hp6] at hD
    refine x_ct (show _ = (V.bool (decide (((p0.length : Nat) : Int) = 0))) from rfl) (decide_eq_true hp6) ?_
    refine x_seq ?_
    refine x_start (b := false) ?_
    refine x_mv' (show _ = (V.str ([] : Bytes)) from rfl) ?_
    refine x_mv' (show _ = (V.int .i64 4) from rfl) ?_
    refine x_done ?_
    refine x_tN ?_
    refine x_retc ?_
    refine x_tR ?_
    obtain rfl := Option.some.inj hD
    exact hR _ (ends_tup (rvs_cons (rv_t (nf_of rfl (show _ = (V.str ([] : Bytes)) from rfl))) (rvs_cons (rv_t (nf_of rfl (show _ = (V.int .i64 4) from rfl))) rvs_nil)) (by decide))
  · rw [if_neg hp6] at hD
    refine x_cf (show _ = (V.bool (decide (((p0.length : Nat) : Int) = 0))) from rfl) (decide_eq_false hp6) ?_
    refine x_skip ?_
    refine x_tN ?_
    refine x_seq ?_
    refine x_start (b := false) ?_
    refine x_mv h0 fun v7 hv7 => ?_
    obtain ⟨r9, hx10, hD⟩ := Option.bind_eq_some_iff.1 hD
    refine x_callF hC_plus_joined_plus_Line (a := (p0, ([32, 38, 38, 32] : Bytes))) (cons_eq hv7 (cons_eq (nf_of rfl (show _ = (V.str ([32, 38, 38, 32] : Bytes)) from rfl)) (cons_eq (show V.nf _ = (V.fn F.plus_Line []) from rfl) rfl))) hx10 fun v8 ov8 (hv8 : v8.nf = (V.tup [(V.str r9.1), (V.int .i64 r9.2)])) hov8 => ?_
    refine x_ext hv8 (show _ = some (V.str r9.1) from rfl) fun v11 hv11 => ?_
    refine x_ext hv8 (show _ = some (V.int .i64 r9.2) from rfl) fun v12 hv12 => ?_
    refine x_mv' (nf_str hv11) ?_
    refine x_mv' (nf_int hv12) ?_
    refine x_done ?_
    refine x_tN ?_
    refine x_retc ?_
    obtain rfl := Option.some.inj hD
    exact hR _ (ends_tup (rvs_cons (rv_t (nf_of rfl (show _ = (V.str r9.1) from rfl))) (rvs_cons (rv_t (nf_of rfl (show _ = (V.int .i64 r9.2) from rfl))) rvs_nil)) (by decide))
def K.plus_Lines : FC := fc F.plus_Lines (fun _ => true) false (fun (a : (List Bytes)) => [(V.sl false 1 (List.map V.str a))]) (fun (y : (Bytes × Int)) => (V.tup [(V.str y.1), (V.int .i64 y.2)])) (fun a => g.plus_Lines a)
  (fun a => (cleanL_mk (E.Lstring_clean _) rfl))
  (fun y => (cleanL_mk rfl (cleanL_mk rfl rfl)))
  (fun a0 b0 h => by
    obtain ⟨h0, h⟩ := List.cons.inj h
    obtain rfl : a0 = b0 := E.Lstring_inj h0
    rfl)
theorem H.plus_Lines (w : World) (hw : EnvOK w) : K.plus_Lines.Holds (cxD w) :=
  FC.holds_of (cs := [K.plus_joined_plus_Line]) (glD w) mixed cf_plus_Lines (fun _ _ ⟨_, _, h, _⟩ => by subst h; exact Nat.le_of_ble_eq_true rfl) fun v y ⟨a, r, hv, hD, hy⟩ => by
    subst hy
    exact ok.plus_Lines (specOf_calls (H.plus_joined_plus_Line w hw) (fun _ _ ⟨_, _, h, _⟩ => by subst h; rfl)) hv hD
def c_seicheref13_Sign : ACode := (.seq (.region [
  ⟨(some 2), (.mv (.const (.bool false))), none, []⟩] false) (.seq (.region [
  ⟨(some 3), (.mv (.tmp 0)), none, []⟩, 
  ⟨(some 4), (.bin .geq .no (.tmp 3) (.const (.int .u8 97))), none, []⟩, 
  ⟨(some 5), (.mv (.tmp 4)), none, []⟩, 
  ⟨(some 6), (.mv (.tmp 0)), (some (5, true)), []⟩, 
  ⟨(some 7), (.bin .leq .no (.tmp 6) (.const (.int .u8 122))), (some (5, true)), []⟩, 
  ⟨(some 8), (.pick (.tmp 5) (.tmp 7) (.const (.bool false))), none, []⟩, 
  ⟨(some 9), (.mv (.tmp 8)), none, []⟩, 
  ⟨(some 10), (.mv (.tmp 0)), (some (9, false)), []⟩, 
  ⟨(some 11), (.bin .geq .no (.tmp 10) (.const (.int .u8 65))), (some (9, false)), []⟩, 
  ⟨(some 12), (.mv (.tmp 11)), (some (9, false)), []⟩, 
  ⟨(some 13), (.mv (.tmp 0)), (some (12, true)), []⟩, 
  ⟨(some 14), (.bin .leq .no (.tmp 13) (.const (.int .u8 90))), (some (12, true)), []⟩, 
  ⟨(some 15), (.pick (.tmp 12) (.tmp 14) (.const (.bool false))), (some (9, false)), []⟩, 
  ⟨(some 16), (.pick (.tmp 9) (.const (.bool true)) (.tmp 15)), none, []⟩, 
  ⟨(some 17), (.mv (.tmp 16)), none, []⟩, 
  ⟨(some 18), (.mv (.tmp 0)), (some (17, false)), []⟩, 
  ⟨(some 19), (.bin .geq .no (.tmp 18) (.const (.int .u8 48))), (some (17, false)), []⟩, 
  ⟨(some 20), (.mv (.tmp 19)), (some (17, false)), []⟩, 
  ⟨(some 21), (.mv (.tmp 0)), (some (20, true)), []⟩, 
  ⟨(some 22), (.bin .leq .no (.tmp 21) (.const (.int .u8 57))), (some (20, true)), []⟩, 
  ⟨(some 23), (.pick (.tmp 20) (.tmp 22) (.const (.bool false))), (some (17, false)), []⟩, 
  ⟨(some 24), (.pick (.tmp 17) (.const (.bool true)) (.tmp 23)), none, []⟩, 
  ⟨(some 25), (.mv (.tmp 24)), none, []⟩, 
  ⟨(some 26), (.mv (.tmp 0)), (some (25, false)), []⟩, 
  ⟨(some 27), (.bin .eql .no (.tmp 26) (.const (.int .u8 95))), (some (25, false)), []⟩, 
  ⟨(some 28), (.pick (.tmp 25) (.const (.bool true)) (.tmp 27)), none, []⟩, 
  ⟨(some 29), (.mv (.tmp 28)), none, []⟩, 
  ⟨(some 30), (.mv (.tmp 0)), (some (29, false)), []⟩, 
  ⟨(some 31), (.bin .eql .no (.tmp 30) (.const (.int .u8 46))), (some (29, false)), []⟩, 
  ⟨(some 32), (.pick (.tmp 29) (.const (.bool true)) (.tmp 31)), none, []⟩, 
  ⟨(some 2), (.mv (.tmp 32)), none, []⟩] false) .ret))
theorem cf_seicheref13_Sign : cFn Go.Proofs.Tryd.prog F.seicheref13_Sign = some ⟨33, c_seicheref13_Sign, [.t 2]⟩ := by kernel_rfl
def g.seicheref13_Sign (p0 : UInt8) : Option Bool :=
  if 97 ≤ p0 then
    if p0 ≤ 122 then
      some true
    else
      if 65 ≤ p0 then
        if p0 ≤ 90 then
          some true
        else
          if 48 ≤ p0 then
            if p0 ≤ 57 then
              some true
            else
              if p0 = 95 then
                some true
              else
                some (decide (p0 = 46))
          else
            if p0 = 95 then
              some true
            else
              some (decide (p0 = 46))
      else
        if 48 ≤ p0 then
          if p0 ≤ 57 then
            some true
          else
            if p0 = 95 then
              some true
            else
              some (decide (p0 = 46))
        else
          if p0 = 95 then
            some true
          else
            some (decide (p0 = 46))
  else
    if 65 ≤ p0 then
      if p0 ≤ 90 then
        some true
      else
        if 48 ≤ p0 then
          if p0 ≤ 57 then
            some true
          else
            if p0 = 95 then
              some true
            else
              some (decide (p0 = 46))
        else
          if p0 = 95 then
            some true
          else
            some (decide (p0 = 46))
    else
      if 48 ≤ p0 then
        if p0 ≤ 57 then
          some true
        else
          if p0 = 95 then
            some true
          else
            some (decide (p0 = 46))
      else
        if p0 = 95 then
          some true
        else
          some (decide (p0 = 46))
theorem ok.seicheref13_Sign {Γ : Abs.Spec} {gl : Glob} {r : Bool} {p0 : UInt8} {v : List V}
    (hv : nfL v = [(V.int .u8 ((p0 : UInt8).toNat : Int))]) (hD : g.seicheref13_Sign p0 = some r) : awp Γ gl c_seicheref13_Sign (endQ [.t 2] false (V.bool r)) (St.init v) := by
  obtain ⟨v0, v, rfl, h0, hv⟩ := nfL_cons hv
  obtain rfl := nfL_nil hv
  have hR : ∀ s, EndsX [.t 2] false (V.bool r) s → endQ [.t 2] false (V.bool r) .ret s := fun _ h => h
  unfold g.seicheref13_Sign at hD
  unfold c_seicheref13_Sign
  refine x_seq ?_
  refine x_start (b := false) ?_
  refine x_mv' (show _ = (V.bool false) from rfl) ?_
  refine x_done ?_
  refine x_tN ?_
  refine x_seq ?_
  refine x_start (b := false) ?_
  refine x_mv' (nf_int h0) ?_
  refine x_bin (show _ = (V.int .u8 ((p0 : UInt8).toNat : Int)) from rfl) (show _ = (V.int .u8 ((97 : UInt8).toNat : Int)) from rfl) u8_geq ?_
  refine x_mv' (show _ = (V.bool (decide (97 ≤ p0))) from rfl) ?_
  by_cases hp1 : 97 ≤ p0
  · rw [if_pos hp1] at hD
    refine x_gy (show _ = (V.bool (decide (97 ≤ p0))) from rfl) (decide_eq_true hp1) ?_
    refine x_mv' (nf_int h0) ?_
    refine x_gy (show _ = (V.bool (decide (97 ≤ p0))) from rfl) (decide_eq_true hp1) ?_
    refine x_bin (show _ = (V.int .u8 ((p0 : UInt8).toNat : Int)) from rfl) (show _ = (V.int .u8 ((122 : UInt8).toNat : Int)) from rfl) u8_leq ?_
    refine x_pickt' (show _ = (V.bool (decide (97 ≤ p0))) from rfl) (decide_eq_true hp1) (show _ = (V.bool (decide (p0 ≤ 122))) from rfl) ?_
    refine x_mv' (show _ = (V.bool (decide (p0 ≤ 122))) from rfl) ?_
    by_cases hp2 : p0 ≤ 122
    · rw [if_pos hp2] at hD
      refine x_gn (show _ = (V.bool (decide (p0 ≤ 122))) from rfl) (decide_eq_true hp2) ?_
      refine x_gn (show _ = (V.bool (decide (p0 ≤ 122))) from rfl) (decide_eq_true hp2) ?_
      refine x_gn (show _ = (V.bool (decide (p0 ≤ 122))) from rfl) (decide_eq_true hp2) ?_
      refine x_gnil (show _ = Nil from rfl) ?_
      refine x_gnil (show _ = Nil from rfl) ?_
      refine x_gn (show _ = (V.bool (decide (p0 ≤ 122))) from rfl) (decide_eq_true hp2) ?_
      refine x_pickt' (show _ = (V.bool (decide (p0 ≤ 122))) from rfl) (decide_eq_true hp2) (show _ = (V.bool true) from rfl) ?_
      refine x_mv' (show _ = (V.bool true) from rfl) ?_
      refine x_gn (show _ = (V.bool true) from rfl) rfl ?_
      refine x_gn (show _ = (V.bool true) from rfl) rfl ?_
      refine x_gn (show _ = (V.bool true) from rfl) rfl ?_
      refine x_gnil (show _ = Nil from rfl) ?_
      refine x_gnil (show _ = Nil from rfl) ?_
      refine x_gn (show _ = (V.bool true) from rfl) rfl ?_
      refine x_pickt' (show _ = (V.bool true) from rfl) rfl (show _ = (V.bool true) from rfl) ?_
      refine x_mv' (show _ = (V.bool true) from rfl) ?_
      refine x_gn (show _ = (V.bool true) from rfl) rfl ?_
      refine x_gn (show _ = (V.bool true) from rfl) rfl ?_
      refine x_pickt' (show _ = (V.bool true) from rfl) rfl (show _ = (V.bool true) from rfl) ?_
      refine x_mv' (show _ = (V.bool true) from rfl) ?_
      refine x_gn (show _ = (V.bool true) from rfl) rfl ?_
      refine x_gn (show _ = (V.bool true) from rfl) rfl ?_
      refine x_pickt' (show _ = (V.bool true) from rfl) rfl (show _ = (V.bool true) from rfl) ?_
      refine x_mv' (show _ = (V.bool true) from rfl) ?_
      refine x_done ?_
      refine x_tN ?_
      refine x_retc ?_
      obtain rfl := Option.some.inj hD
      exact hR _ (ends_t (nf_of rfl (show _ = (V.bool true) from rfl)) (fun h => nomatch h))
    · rw [if_neg hp2] at hD
      refine x_gy (show _ = (V.bool (decide (p0 ≤ 122))) from rfl) (decide_eq_false hp2) ?_
      refine x_mv' (nf_int h0) ?_
      refine x_gy (show _ = (V.bool (decide (p0 ≤ 122))) from rfl) (decide_eq_false hp2) ?_
      refine x_bin (show _ = (V.int .u8 ((p0 : UInt8).toNat : Int)) from rfl) (show _ = (V.int .u8 ((65 : UInt8).toNat : Int)) from rfl) u8_geq ?_
      refine x_gy (show _ = (V.bool (decide (p0 ≤ 122))) from rfl) (decide_eq_false hp2) ?_
      refine x_mv' (show _ = (V.bool (decide (65 ≤ p0))) from rfl) ?_
      by_cases hp3 : 65 ≤ p0
      · rw [if_pos hp3] at hD
        refine x_gy (show _ = (V.bool (decide (65 ≤ p0))) from rfl) (decide_eq_true hp3) ?_
        refine x_mv' (nf_int h0) ?_
        refine x_gy (show _ = (V.bool (decide (65 ≤ p0))) from rfl) (decide_eq_true hp3) ?_
        refine x_bin (show _ = (V.int .u8 ((p0 : UInt8).toNat : Int)) from rfl) (show _ = (V.int .u8 ((90 : UInt8).toNat : Int)) from rfl) u8_leq ?_
        refine x_gy (show _ = (V.bool (decide (p0 ≤ 122))) from rfl) (decide_eq_false hp2) ?_
        refine x_pickt' (show _ = (V.bool (decide (65 ≤ p0))) from rfl) (decide_eq_true hp3) (show _ = (V.bool (decide (p0 ≤ 90))) from rfl) ?_
        refine x_pickf' (show _ = (V.bool (decide (p0 ≤ 122))) from rfl) (decide_eq_false hp2) (show _ = (V.bool (decide (p0 ≤ 90))) from rfl) ?_
        refine x_mv' (show _ = (V.bool (decide (p0 ≤ 90))) from rfl) ?_
        by_cases hp4 : p0 ≤ 90
        · rw [if_pos hp4] at hD
          refine x_gn (show _ = (V.bool (decide (p0 ≤ 90))) from rfl) (decide_eq_true hp4) ?_
          refine x_gn (show _ = (V.bool (decide (p0 ≤ 90))) from rfl) (decide_eq_true hp4) ?_
          refine x_gn (show _ = (V.bool (decide (p0 ≤ 90))) from rfl) (decide_eq_true hp4) ?_
          refine x_gnil (show _ = Nil from rfl) ?_
          refine x_gnil (show _ = Nil from rfl) ?_
          refine x_gn (show _ = (V.bool (decide (p0 ≤ 90))) from rfl) (decide_eq_true hp4) ?_
          refine x_pickt' (show _ = (V.bool (decide (p0 ≤ 90))) from rfl) (decide_eq_true hp4) (show _ = (V.bool true) from rfl) ?_
          refine x_mv' (show _ = (V.bool true) from rfl) ?_
          refine x_gn (show _ = (V.bool true) from rfl) rfl ?_
          refine x_gn (show _ = (V.bool true) from rfl) rfl ?_
          refine x_pickt' (show _ = (V.bool true) from rfl) rfl (show _ = (V.bool true) from rfl) ?_
          refine x_mv' (show _ = (V.bool true) from rfl) ?_
          refine x_gn (show _ = (V.bool true) from rfl) rfl ?_
          refine x_gn (show _ = (V.bool true) from rfl) rfl ?_
          refine x_pickt' (show _ = (V.bool true) from rfl) rfl (show _ = (V.bool true) from rfl) ?_
          refine x_mv' (show _ = (V.bool true) from rfl) ?_
          refine x_done ?_
          refine x_tN ?_
          refine x_retc ?_
          obtain rfl := Option.some.inj hD
          exact hR _ (ends_t (nf_of rfl (show _ = (V.bool true) from rfl)) (fun h => nomatch h))
        · rw [if_neg hp4] at hD
          refine x_gy (show _ = (V.bool (decide (p0 ≤ 90))) from rfl) (decide_eq_false hp4) ?_
          refine x_mv' (nf_int h0) ?_
          refine x_gy (show _ = (V.bool (decide (p0 ≤ 90))) from rfl) (decide_eq_false hp4) ?_
          refine x_bin (show _ = (V.int .u8 ((p0 : UInt8).toNat : Int)) from rfl) (show _ = (V.int .u8 ((48 : UInt8).toNat : Int)) from rfl) u8_geq ?_
          refine x_gy (show _ = (V.bool (decide (p0 ≤ 90))) from rfl) (decide_eq_false hp4) ?_
          refine x_mv' (show _ = (V.bool (decide (48 ≤ p0))) from rfl) ?_
          by_cases hp5 : 48 ≤ p0
          · rw [if_pos hp5] at hD
            refine x_gy (show _ = (V.bool (decide (48 ≤ p0))) from rfl) (decide_eq_true hp5) ?_
            refine x_mv' (nf_int h0) ?_
            refine x_gy (show _ = (V.bool (decide (48 ≤ p0))) from rfl) (decide_eq_true hp5) ?_
            refine x_bin (show _ = (V.int .u8 ((p0 : UInt8).toNat : Int)) from rfl) (show _ = (V.int .u8 ((57 : UInt8).toNat : Int)) from rfl) u8_leq ?_
            refine x_gy (show _ = (V.bool (decide (p0 ≤ 90))) from rfl) (decide_eq_false hp4) ?_
            refine x_pickt' (show _ = (V.bool (decide (48 ≤ p0))) from rfl) (decide_eq_true hp5) (show _ = (V.bool (decide (p0 ≤ 57))) from rfl) ?_
            refine x_pickf' (show _ = (V.bool (decide (p0 ≤ 90))) from rfl) (decide_eq_false hp4) (show _ = (V.bool (decide (p0 ≤ 57))) from rfl) ?_
            refine x_mv' (show _ = (V.bool (decide (p0 ≤ 57))) from rfl) ?_
            by_cases hp6 : p0 ≤ 57
            · rw [if_pos hp6] at hD
              refine x_gn (show _ = (V.bool (decide (p0 ≤ 57))) from rfl) (decide_eq_true hp6) ?_
              refine x_gn (show _ = (V.bool (decide (p0 ≤ 57))) from rfl) (decide_eq_true hp6) ?_
              refine x_pickt' (show _ = (V.bool (decide (p0 ≤ 57))) from rfl) (decide_eq_true hp6) (show _ = (V.bool true) from rfl) ?_
              refine x_mv' (show _ = (V.bool true) from rfl) ?_
              refine x_gn (show _ = (V.bool true) from rfl) rfl ?_
              refine x_gn (show _ = (V.bool true) from rfl) rfl ?_
              refine x_pickt' (show _ = (V.bool true) from rfl) rfl (show _ = (V.bool true) from rfl) ?_
              refine x_mv' (show _ = (V.bool true) from rfl) ?_
              refine x_done ?_
              refine x_tN ?_
              refine x_retc ?_
              obtain rfl := Option.some.inj hD
              exact hR _ (ends_t (nf_of rfl (show _ = (V.bool true) from rfl)) (fun h => nomatch h))
            · rw [if_neg hp6] at hD
              refine x_gy (show _ = (V.bool (decide (p0 ≤ 57))) from rfl) (decide_eq_false hp6) ?_
              refine x_mv' (nf_int h0) ?_
              refine x_gy (show _ = (V.bool (decide (p0 ≤ 57))) from rfl) (decide_eq_false hp6) ?_
              refine x_bin (show _ = (V.int .u8 ((p0 : UInt8).toNat : Int)) from rfl) (show _ = (V.int .u8 ((95 : UInt8).toNat : Int)) from rfl) u8_eql ?_
              refine x_pickf' (show _ = (V.bool (decide (p0 ≤ 57))) from rfl) (decide_eq_false hp6) (show _ = (V.bool (decide (p0 = 95))) from rfl) ?_
              refine x_mv' (show _ = (V.bool (decide (p0 = 95))) from rfl) ?_
              by_cases hp7 : p0 = 95
              · rw [if_pos hp7] at hD
                refine x_gn (show _ = (V.bool (decide (p0 = 95))) from rfl) (decide_eq_true hp7) ?_
                refine x_gn (show _ = (V.bool (decide (p0 = 95))) from rfl) (decide_eq_true hp7) ?_
                refine x_pickt' (show _ = (V.bool (decide (p0 = 95))) from rfl) (decide_eq_true hp7) (show _ = (V.bool true) from rfl) ?_
                refine x_mv' (show _ = (V.bool true) from rfl) ?_
                refine x_done ?_
                refine x_tN ?_
                refine x_retc ?_
                obtain rfl := Option.some.inj hD
                exact hR _ (ends_t (nf_of rfl (show _ = (V.bool true) from rfl)) (fun h => nomatch h))
              · rw [if_neg hp7] at hD
                refine x_gy (show _ = (V.bool (decide (p0 = 95))) from rfl) (decide_eq_false hp7) ?_
                refine x_mv' (nf_int h0) ?_
                refine x_gy (show _ = (V.bool (decide (p0 = 95))) from rfl) (decide_eq_false hp7) ?_
                refine x_bin (show _ = (V.int .u8 ((p0 : UInt8).toNat : Int)) from rfl) (show _ = (V.int .u8 ((46 : UInt8).toNat : Int)) from rfl) u8_eql ?_
                refine x_pickf' (show _ = (V.bool (decide (p0 = 95))) from rfl) (decide_eq_false hp7) (show _ = (V.bool (decide (p0 = 46))) from rfl) ?_
                refine x_mv' (show _ = (V.bool (decide (p0 = 46))) from rfl) ?_
                refine x_done ?_
                refine x_tN ?_
                refine x_retc ?_
                obtain rfl := Option.some.inj hD
                exact hR _ (ends_t (nf_of rfl (show _ = (V.bool (decide (p0 = 46))) from rfl)) (fun h => nomatch h))
          · rw [if_neg hp5] at hD
            refine x_gn (show _ = (V.bool (decide (48 ≤ p0))) from rfl) (decide_eq_false hp5) ?_
            refine x_gn (show _ = (V.bool (decide (48 ≤ p0))) from rfl) (decide_eq_false hp5) ?_
            refine x_gy (show _ = (V.bool (decide (p0 ≤ 90))) from rfl) (decide_eq_false hp4) ?_
            refine x_pickf' (show _ = (V.bool (decide (48 ≤ p0))) from rfl) (decide_eq_false hp5) (show _ = (V.bool false) from rfl) ?_
            refine x_pickf' (show _ = (V.bool (decide (p0 ≤ 90))) from rfl) (decide_eq_false hp4) (show _ = (V.bool false) from rfl) ?_
            refine x_mv' (show _ = (V.bool false) from rfl) ?_
            refine x_gy (show _ = (V.bool false) from rfl) rfl ?_
            refine x_mv' (nf_int h0) ?_
            refine x_gy (show _ = (V.bool false) from rfl) rfl ?_
            refine x_bin (show _ = (V.int .u8 ((p0 : UInt8).toNat : Int)) from rfl) (show _ = (V.int .u8 ((95 : UInt8).toNat : Int)) from rfl) u8_eql ?_
            refine x_pickf' (show _ = (V.bool false) from rfl) rfl (show _ = (V.bool (decide (p0 = 95))) from rfl) ?_
            refine x_mv' (show _ = (V.bool (decide (p0 = 95))) from rfl) ?_
            by_cases hp8 : p0 = 95
            · rw [if_pos hp8] at hD
              refine x_gn (show _ = (V.bool (decide (p0 = 95))) from rfl) (decide_eq_true hp8) ?_
              refine x_gn (show _ = (V.bool (decide (p0 = 95))) from rfl) (decide_eq_true hp8) ?_
              refine x_pickt' (show _ = (V.bool (decide (p0 = 95))) from rfl) (decide_eq_true hp8) (show _ = (V.bool true) from rfl) ?_
              refine x_mv' (show _ = (V.bool true) from rfl) ?_
              refine x_done ?_
              refine x_tN ?_
              refine x_retc ?_
              obtain rfl := Option.some.inj hD
              exact hR _ (ends_t (nf_of rfl (show _ = (V.bool true) from rfl)) (fun h => nomatch h))
            · rw [if_neg hp8] at hD
              refine x_gy (show _ = (V.bool (decide (p0 = 95))) from rfl) (decide_eq_false hp8) ?_
              refine x_mv' (nf_int h0) ?_
              refine x_gy (show _ = (V.bool (decide (p0 = 95))) from rfl) (decide_eq_false hp8) ?_
              refine x_bin (show _ = (V.int .u8 ((p0 : UInt8).toNat : Int)) from rfl) (show _ = (V.int .u8 ((46 : UInt8).toNat : Int)) from rfl) u8_eql ?_
              refine x_pickf' (show _ = (V.bool (decide (p0 = 95))) from rfl) (decide_eq_false hp8) (show _ = (V.bool (decide (p0 = 46))) from rfl) ?_
              refine x_mv' (show _ = (V.bool (decide (p0 = 46))) from rfl) ?_
              refine x_done ?_
              refine x_tN ?_
              refine x_retc ?_
              obtain rfl := Option.some.inj hD
              exact hR _ (ends_t (nf_of rfl (show _ = (V.bool (decide (p0 = 46))) from rfl)) (fun h => nomatch h))
      · rw [if_neg hp3] at hD
        refine x_gn (show _ = (V.bool (decide (65 ≤ p0))) from rfl) (decide_eq_false hp3) ?_
        refine x_gn (show _ = (V.bool (decide (65 ≤ p0))) from rfl) (decide_eq_false hp3) ?_
        refine x_gy (show _ = (V.bool (decide (p0 ≤ 122))) from rfl) (decide_eq_false hp2) ?_
        refine x_pickf' (show _ = (V.bool (decide (65 ≤ p0))) from rfl) (decide_eq_false hp3) (show _ = (V.bool false) from rfl) ?_
        refine x_pickf' (show _ = (V.bool (decide (p0 ≤ 122))) from rfl) (decide_eq_false hp2) (show _ = (V.bool false) from rfl) ?_
        refine x_mv' (show _ = (V.bool false) from rfl) ?_
        refine x_gy (show _ = (V.bool false) from rfl) rfl ?_
        refine x_mv' (nf_int h0) ?_
        refine x_gy (show _ = (V.bool false) from rfl) rfl ?_
        refine x_bin (show _ = (V.int .u8 ((p0 : UInt8).toNat : Int)) from rfl) (show _ = (V.int .u8 ((48 : UInt8).toNat : Int)) from rfl) u8_geq ?_
        refine x_gy (show _ = (V.bool false) from rfl) rfl ?_
        refine x_mv' (show _ = (V.bool (decide (48 ≤ p0))) from rfl) ?_
        by_cases hp9 : 48 ≤ p0
        · rw [if_pos hp9] at hD
          refine x_gy (show _ = (V.bool (decide (48 ≤ p0))) from rfl) (decide_eq_true hp9) ?_
          refine x_mv' (nf_int h0) ?_
          refine x_gy (show _ = (V.bool (decide (48 ≤ p0))) from rfl) (decide_eq_true hp9) ?_
          refine x_bin (show _ = (V.int .u8 ((p0 : UInt8).toNat : Int)) from rfl) (show _ = (V.int .u8 ((57 : UInt8).toNat : Int)) from rfl) u8_leq ?_
          refine x_gy (show _ = (V.bool false) from rfl) rfl ?_
          refine x_pickt' (show _ = (V.bool (decide (48 ≤ p0))) from rfl) (decide_eq_true hp9) (show _ = (V.bool (decide (p0 ≤ 57))) from rfl) ?_
          refine x_pickf' (show _ = (V.bool false) from rfl) rfl (show _ = (V.bool (decide (p0 ≤ 57))) from rfl) ?_
          refine x_mv' (show _ = (V.bool (decide (p0 ≤ 57))) from rfl) ?_
          by_cases hp10 : p0 ≤ 57
          · rw [if_pos hp10] at hD
            refine x_gn (show _ = (V.bool (decide (p0 ≤ 57))) from rfl) (decide_eq_true hp10) ?_
            refine x_gn (show _ = (V.bool (decide (p0 ≤ 57))) from rfl) (decide_eq_true hp10) ?_
            refine x_pickt' (show _ = (V.bool (decide (p0 ≤ 57))) from rfl) (decide_eq_true hp10) (show _ = (V.bool true) from rfl) ?_
            refine x_mv' (show _ = (V.bool true) from rfl) ?_
            refine x_gn (show _ = (V.bool true) from rfl) rfl ?_
            refine x_gn (show _ = (V.bool true) from rfl) rfl ?_
            refine x_pickt' (show _ = (V.bool true) from rfl) rfl (show _ = (V.bool true) from rfl) ?_
            refine x_mv' (show _ = (V.bool true) from rfl) ?_
            refine x_done ?_
            refine x_tN ?_
            refine x_retc ?_
            obtain rfl := Option.some.inj hD
            exact hR _ (ends_t (nf_of rfl (show _ = (V.bool true) from rfl)) (fun h => nomatch h))
          · rw [if_neg hp10] at hD
            refine x_gy (show _ = (V.bool (decide (p0 ≤ 57))) from rfl) (decide_eq_false hp10) ?_
            refine x_mv' (nf_int h0) ?_
            refine x_gy (show _ = (V.bool (decide (p0 ≤ 57))) from rfl) (decide_eq_false hp10) ?_
            refine x_bin (show _ = (V.int .u8 ((p0 : UInt8).toNat : Int)) from rfl) (show _ = (V.int .u8 ((95 : UInt8).toNat : Int)) from rfl) u8_eql ?_
            refine x_pickf' (show _ = (V.bool (decide (p0 ≤ 57))) from rfl) (decide_eq_false hp10) (show _ = (V.bool (decide (p0 = 95))) from rfl) ?_
            refine x_mv' (show _ = (V.bool (decide (p0 = 95))) from rfl) ?_
            by_cases hp11 : p0 = 95
            · rw [if_pos hp11] at hD
              refine x_gn (show _ = (V.bool (decide (p0 = 95))) from rfl) (decide_eq_true hp11) ?_
              refine x_gn (show _ = (V.bool (decide (p0 = 95))) from rfl) (decide_eq_true hp11) ?_
              refine x_pickt' (show _ = (V.bool (decide (p0 = 95))) from rfl) (decide_eq_true hp11) (show _ = (V.bool true) from rfl) ?_
              refine x_mv' (show _ = (V.bool true) from rfl) ?_
              refine x_done ?_
              refine x_tN ?_
              refine x_retc ?_
              obtain rfl := Option.some.inj hD
              exact hR _ (ends_t (nf_of rfl (show _ = (V.bool true) from rfl)) (fun h => nomatch h))
            · rw [if_neg hp11] at hD
              refine x_gy (show _ = (V.bool (decide (p0 = 95))) from rfl) (decide_eq_false hp11) ?_
              refine x_mv' (nf_int h0) ?_
              refine x_gy (show _ = (V.bool (decide (p0 = 95))) from rfl) (decide_eq_false hp11) ?_
              refine x_bin (show _ = (V.int .u8 ((p0 : UInt8).toNat : Int)) from rfl) (show _ = (V.int .u8 ((46 : UInt8).toNat : Int)) from rfl) u8_eql ?_
              refine x_pickf' (show _ = (V.bool (decide (p0 = 95))) from rfl) (decide_eq_false hp11) (show _ = (V.bool (decide (p0 = 46))) from rfl) ?_
              refine x_mv' (show _ = (V.bool (decide (p0 = 46))) from rfl) ?_
              refine x_done ?_
              refine x_tN ?_
              refine x_retc ?_
              obtain rfl := Option.some.inj hD
              exact hR _ (ends_t (nf_of rfl (show _ = (V.bool (decide (p0 = 46))) from rfl)) (fun h => nomatch h))
        · rw [if_neg hp9] at hD
          refine x_gn (show _ = (V.bool (decide (48 ≤ p0))) from rfl) (decide_eq_false hp9) ?_
          refine x_gn (show _ = (V.bool (decide (48 ≤ p0))) from rfl) (decide_eq_false hp9) ?_
          refine x_gy (show _ = (V.bool false) from rfl) rfl ?_
          refine x_pickf' (show _ = (V.bool (decide (48 ≤ p0))) from rfl) (decide_eq_false hp9) (show _ = (V.bool false) from rfl) ?_
          refine x_pickf' (show _ = (V.bool false) from rfl) rfl (show _ = (V.bool false) from rfl) ?_
          refine x_mv' (show _ = (V.bool false) from rfl) ?_
          refine x_gy (show _ = (V.bool false) from rfl) rfl ?_
          refine x_mv' (nf_int h0) ?_
          refine x_gy (show _ = (V.bool false) from rfl) rfl ?_
          refine x_bin (show _ = (V.int .u8 ((p0 : UInt8).toNat : Int)) from rfl) (show _ = (V.int .u8 ((95 : UInt8).toNat : Int)) from rfl) u8_eql ?_
          refine x_pickf' (show _ = (V.bool false) from rfl) rfl (show _ = (V.bool (decide (p0 = 95))) from rfl) ?_
          refine x_mv' (show _ = (V.bool (decide (p0 = 95))) from rfl) ?_
          by_cases hp12 : p0 = 95
          · rw [if_pos hp12] at hD
            refine x_gn (show _ = (V.bool (decide (p0 = 95))) from rfl) (decide_eq_true hp12) ?_
            refine x_gn (show _ = (V.bool (decide (p0 = 95))) from rfl) (decide_eq_true hp12) ?_
            refine x_pickt' (show _ = (V.bool (decide (p0 = 95))) from rfl) (decide_eq_true hp12) (show _ = (V.bool true) from rfl) ?_
            refine x_mv' (show _ = (V.bool true) from rfl) ?_
            refine x_done ?_
            refine x_tN ?_
            refine x_retc ?_
            obtain rfl := Option.some.inj hD
            exact hR _ (ends_t (nf_of rfl (show _ = (V.bool true) from rfl)) (fun h => nomatch h))
          · rw [if_neg hp12] at hD
            refine x_gy (show _ = (V.bool (decide (p0 = 95))) from rfl) (decide_eq_false hp12) ?_
            refine x_mv' (nf_int h0) ?_
            refine x_gy (show _ = (V.bool (decide (p0 = 95))) from rfl) (decide_eq_false hp12) ?_
            refine x_bin (show _ = (V.int .u8 ((p0 : UInt8).toNat : Int)) from rfl) (show _ = (V.int .u8 ((46 : UInt8).toNat : Int)) from rfl) u8_eql ?_
            refine x_pickf' (show _ = (V.bool (decide (p0 = 95))) from rfl) (decide_eq_false hp12) (show _ = (V.bool (decide (p0 = 46))) from rfl) ?_
            refine x_mv' (show _ = (V.bool (decide (p0 = 46))) from rfl) ?_
            refine x_done ?_
            refine x_tN ?_
            refine x_retc ?_
            obtain rfl := Option.some.inj hD
            exact hR _ (ends_t (nf_of rfl (show _ = (V.bool (decide (p0 = 46))) from rfl)) (fun h => nomatch h))
  · rw [if_neg hp1] at hD
    refine x_gn (show _ = (V.bool (decide (97 ≤ p0))) from rfl) (decide_eq_false hp1) ?_
    refine x_gn (show _ = (V.bool (decide (97 ≤ p0))) from rfl) (decide_eq_false hp1) ?_
    refine x_pickf' (show _ = (V.bool (decide (97 ≤ p0))) from rfl) (decide_eq_false hp1) (show _ = (V.bool false) from rfl) ?_
    refine x_mv' (show _ = (V.bool false) from rfl) ?_
    refine x_gy (show _ = (V.bool false) from rfl) rfl ?_
    refine x_mv' (nf_int h0) ?_
    refine x_gy (show _ = (V.bool false) from rfl) rfl ?_
    refine x_bin (show _ = (V.int .u8 ((p0 : UInt8).toNat : Int)) from rfl) (show _ = (V.int .u8 ((65 : UInt8).toNat : Int)) from rfl) u8_geq ?_
    refine x_gy (show _ = (V.bool false) from rfl) rfl ?_
    refine x_mv' (show _ = (V.bool (decide (65 ≤ p0))) from rfl) ?_
    by_cases hp13 : 65 ≤ p0
    · rw [if_pos hp13] at hD
      refine x_gy (show _ = (V.bool (decide (65 ≤ p0))) from rfl) (decide_eq_true hp13) ?_
      refine x_mv' (nf_int h0) ?_
      refine x_gy (show _ = (V.bool (decide (65 ≤ p0))) from rfl) (decide_eq_true hp13) ?_
      refine x_bin (show _ = (V.int .u8 ((p0 : UInt8).toNat : Int)) from rfl) (show _ = (V.int .u8 ((90 : UInt8).toNat : Int)) from rfl) u8_leq ?_
      refine x_gy (show _ = (V.bool false) from rfl) rfl ?_
      refine x_pickt' (show _ = (V.bool (decide (65 ≤ p0))) from rfl) (decide_eq_true hp13) (show _ = (V.bool (decide (p0 ≤ 90))) from rfl) ?_
      refine x_pickf' (show _ = (V.bool false) from rfl) rfl (show _ = (V.bool (decide (p0 ≤ 90))) from rfl) ?_
      refine x_mv' (show _ = (V.bool (decide (p0 ≤ 90))) from rfl) ?_
      by_cases hp14 : p0 ≤ 90
      · rw [if_pos hp14] at hD
        refine x_gn (show _ = (V.bool (decide (p0 ≤ 90))) from rfl) (decide_eq_true hp14) ?_
        refine x_gn (show _ = (V.bool (decide (p0 ≤ 90))) from rfl) (decide_eq_true hp14) ?_
        refine x_gn (show _ = (V.bool (decide (p0 ≤ 90))) from rfl) (decide_eq_true hp14) ?_
        refine x_gnil (show _ = Nil from rfl) ?_
        refine x_gnil (show _ = Nil from rfl) ?_
        refine x_gn (show _ = (V.bool (decide (p0 ≤ 90))) from rfl) (decide_eq_true hp14) ?_
        refine x_pickt' (show _ = (V.bool (decide (p0 ≤ 90))) from rfl) (decide_eq_true hp14) (show _ = (V.bool true) from rfl) ?_
        refine x_mv' (show _ = (V.bool true) from rfl) ?_
        refine x_gn (show _ = (V.bool true) from rfl) rfl ?_
        refine x_gn (show _ = (V.bool true) from rfl) rfl ?_
        refine x_pickt' (show _ = (V.bool true) from rfl) rfl (show _ = (V.bool true) from rfl) ?_
        refine x_mv' (show _ = (V.bool true) from rfl) ?_
        refine x_gn (show _ = (V.bool true) from rfl) rfl ?_
        refine x_gn (show _ = (V.bool true) from rfl) rfl ?_
        refine x_pickt' (show _ = (V.bool true) from rfl) rfl (show _ = (V.bool true) from rfl) ?_
        refine x_mv' (show _ = (V.bool true) from rfl) ?_
        refine x_done ?_
        refine x_tN ?_
        refine x_retc ?_
        obtain rfl := Option.some.inj hD
        exact hR _ (ends_t (nf_of rfl (show _ = (V.bool true) from rfl)) (fun h => nomatch h))
      · rw [if_neg hp14] at hD
        refine x_gy (show _ = (V.bool (decide (p0 ≤ 90))) from rfl) (decide_eq_false hp14) ?_
        refine x_mv' (nf_int h0) ?_
        refine x_gy (show _ = (V.bool (decide (p0 ≤ 90))) from rfl) (decide_eq_false hp14) ?_
        refine x_bin (show _ = (V.int .u8 ((p0 : UInt8).toNat : Int)) from rfl) (show _ = (V.int .u8 ((48 : UInt8).toNat : Int)) from rfl) u8_geq ?_
        refine x_gy (show _ = (V.bool (decide (p0 ≤ 90))) from rfl) (decide_eq_false hp14) ?_
        refine x_mv' (show _ = (V.bool (decide (48 ≤ p0))) from rfl) ?_
        by_cases hp15 : 48 ≤ p0
        · rw [if_pos hp15] at hD
          refine x_gy (show _ = (V.bool (decide (48 ≤ p0))) from rfl) (decide_eq_true hp15) ?_
          refine x_mv' (nf_int h0) ?_
          refine x_gy (show _ = (V.bool (decide (48 ≤ p0))) from rfl) (decide_eq_true hp15) ?_
          refine x_bin (show _ = (V.int .u8 ((p0 : UInt8).toNat : Int)) from rfl) (show _ = (V.int .u8 ((57 : UInt8).toNat : Int)) from rfl) u8_leq ?_
          refine x_gy (show _ = (V.bool (decide (p0 ≤ 90))) from rfl) (decide_eq_false hp14) ?_
          refine x_pickt' (show _ = (V.bool (decide (48 ≤ p0))) from rfl) (decide_eq_true hp15) (show _ = (V.bool (decide (p0 ≤ 57))) from rfl) ?_
          refine x_pickf' (show _ = (V.bool (decide (p0 ≤ 90))) from rfl) (decide_eq_false hp14) (show _ = (V.bool (decide (p0 ≤ 57))) from rfl) ?_
          refine x_mv' (show _ = (V.bool (decide (p0 ≤ 57))) from rfl) ?_
          by_cases hp16 : p0 ≤ 57
          · rw [if_pos hp16] at hD
            refine x_gn (show _ = (V.bool (decide (p0 ≤ 57))) from rfl) (decide_eq_true hp16) ?_
            refine x_gn (show _ = (V.bool (decide (p0 ≤ 57))) from rfl) (decide_eq_true hp16) ?_
            refine x_pickt' (show _ = (V.bool (decide (p0 ≤ 57))) from rfl) (decide_eq_true hp16) (show _ = (V.bool true) from rfl) ?_
            refine x_mv' (show _ = (V.bool true) from rfl) ?_
            refine x_gn (show _ = (V.bool true) from rfl) rfl ?_
            refine x_gn (show _ = (V.bool true) from rfl) rfl ?_
            refine x_pickt' (show _ = (V.bool true) from rfl) rfl (show _ = (V.bool true) from rfl) ?_
            refine x_mv' (show _ = (V.bool true) from rfl) ?_
            refine x_done ?_
            refine x_tN ?_
            refine x_retc ?_
            obtain rfl := Option.some.inj hD
            exact hR _ (ends_t (nf_of rfl (show _ = (V.bool true) from rfl)) (fun h => nomatch h))
          · rw [if_neg hp16] at hD
            refine x_gy (show _ = (V.bool (decide (p0 ≤ 57))) from rfl) (decide_eq_false hp16) ?_
            refine x_mv' (nf_int h0) ?_
            refine x_gy (show _ = (V.bool (decide (p0 ≤ 57))) from rfl) (decide_eq_false hp16) ?_
            refine x_bin (show _ = (V.int .u8 ((p0 : UInt8).toNat : Int)) from rfl) (show _ = (V.int .u8 ((95 : UInt8).toNat : Int)) from rfl) u8_eql ?_
            refine x_pickf' (show _ = (V.bool (decide (p0 ≤ 57))) from rfl) (decide_eq_false hp16) (show _ = (V.bool (decide (p0 = 95))) from rfl) ?_
            refine x_mv' (show _ = (V.bool (decide (p0 = 95))) from rfl) ?_
            by_cases hp17 : p0 = 95
            · rw [if_pos hp17] at hD
              refine x_gn (show _ = (V.bool (decide (p0 = 95))) from rfl) (decide_eq_true hp17) ?_
              refine x_gn (show _ = (V.bool (decide (p0 = 95))) from rfl) (decide_eq_true hp17) ?_
              refine x_pickt' (show _ = (V.bool (decide (p0 = 95))) from rfl) (decide_eq_true hp17) (show _ = (V.bool true) from rfl) ?_
              refine x_mv' (show _ = (V.bool true) from rfl) ?_
              refine x_done ?_
              refine x_tN ?_
              refine x_retc ?_
              obtain rfl := Option.some.inj hD
              exact hR _ (ends_t (nf_of rfl (show _ = (V.bool true) from rfl)) (fun h => nomatch h))
            · rw [if_neg hp17] at hD
              refine x_gy (show _ = (V.bool (decide (p0 = 95))) from rfl) (decide_eq_false hp17) ?_
              refine x_mv' (nf_int h0) ?_
              refine x_gy (show _ = (V.bool (decide (p0 = 95))) from rfl) (decide_eq_false hp17) ?_
              refine x_bin (show _ = (V.int .u8 ((p0 : UInt8).toNat : Int)) from rfl) (show _ = (V.int .u8 ((46 : UInt8).toNat : Int)) from rfl) u8_eql ?_
              refine x_pickf' (show _ = (V.bool (decide (p0 = 95))) from rfl) (decide_eq_false hp17) (show _ = (V.bool (decide (p0 = 46))) from rfl) ?_
              refine x_mv' (show _ = (V.bool (decide (p0 = 46))) from rfl) ?_
              refine x_done ?_
              refine x_tN ?_
              refine x_retc ?_
              obtain rfl := Option.some.inj hD
              exact hR _ (ends_t (nf_of rfl (show _ = (V.bool (decide (p0 = 46))) from rfl)) (fun h => nomatch h))
        · rw [if_neg hp15] at hD
          refine x_gn (show _ = (V.bool (decide (48 ≤ p0))) from rfl) (decide_eq_false hp15) ?_
          refine x_gn (show _ = (V.bool (decide (48 ≤ p0))) from rfl) (decide_eq_false hp15) ?_
          refine x_gy (show _ = (V.bool (decide (p0 ≤ 90))) from rfl) (decide_eq_false hp14) ?_
          refine x_pickf' (show _ = (V.bool (decide (48 ≤ p0))) from rfl) (decide_eq_false hp15) (show _ = (V.bool false) from rfl) ?_
          refine x_pickf' (show _ = (V.bool (decide (p0 ≤ 90))) from rfl) (decide_eq_false hp14) (show _ = (V.bool false) from rfl) ?_
          refine x_mv' (show _ = (V.bool false) from rfl) ?_
          refine x_gy (show _ = (V.bool false) from rfl) rfl ?_
          refine x_mv' (nf_int h0) ?_
          refine x_gy (show _ = (V.bool false) from rfl) rfl ?_
          refine x_bin (show _ = (V.int .u8 ((p0 : UInt8).toNat : Int)) from rfl) (show _ = (V.int .u8 ((95 : UInt8).toNat : Int)) from rfl) u8_eql ?_
          refine x_pickf' (show _ = (V.bool false) from rfl) rfl (show _ = (V.bool (decide (p0 = 95))) from rfl) ?_
          refine x_mv' (show _ = (V.bool (decide (p0 = 95))) from rfl) ?_
          by_cases hp18 : p0 = 95
          · rw [if_pos hp18] at hD
            refine x_gn (show _ = (V.bool (decide (p0 = 95))) from rfl) (decide_eq_true hp18) ?_
            refine x_gn (show _ = (V.bool (decide (p0 = 95))) from rfl) (decide_eq_true hp18) ?_
            refine x_pickt' (show _ = (V.bool (decide (p0 = 95))) from rfl) (decide_eq_true hp18) (show _ = (V.bool true) from rfl) ?_
            refine x_mv' (show _ = (V.bool true) from rfl) ?_
            refine x_done ?_
            refine x_tN ?_
            refine x_retc ?_
            obtain rfl := Option.some.inj hD
            exact hR _ (ends_t (nf_of rfl (show _ = (V.bool true) from rfl)) (fun h => nomatch h))
          · rw [if_neg hp18] at hD
            refine x_gy (show _ = (V.bool (decide (p0 = 95))) from rfl) (decide_eq_false hp18) ?_
            refine x_mv' (nf_int h0) ?_
            refine x_gy (show _ = (V.bool (decide (p0 = 95))) from rfl) (decide_eq_false hp18) ?_
            refine x_bin (show _ = (V.int .u8 ((p0 : UInt8).toNat : Int)) from rfl) (show _ = (V.int .u8 ((46 : UInt8).toNat : Int)) from rfl) u8_eql ?_
            refine x_pickf' (show _ = (V.bool (decide (p0 = 95))) from rfl) (decide_eq_false hp18) (show _ = (V.bool (decide (p0 = 46))) from rfl) ?_
            refine x_mv' (show _ = (V.bool (decide (p0 = 46))) from rfl) ?_
            refine x_done ?_
            refine x_tN ?_
            refine x_retc ?_
            obtain rfl := Option.some.inj hD
            exact hR _ (ends_t (nf_of rfl (show _ = (V.bool (decide (p0 = 46))) from rfl)) (fun h => nomatch h))
    · rw [if_neg hp13] at hD
      refine x_gn (show _ = (V.bool (decide (65 ≤ p0))) from rfl) (decide_eq_false hp13) ?_
      refine x_gn (show _ = (V.bool (decide (65 ≤ p0))) from rfl) (decide_eq_false hp13) ?_
      refine x_gy (show _ = (V.bool false) from rfl) rfl ?_
      refine x_pickf' (show _ = (V.bool (decide (65 ≤ p0))) from rfl) (decide_eq_false hp13) (show _ = (V.bool false) from rfl) ?_
      refine x_pickf' (show _ = (V.bool false) from rfl) rfl (show _ = (V.bool false) from rfl) ?_
      refine x_mv' (show _ = (V.bool false) from rfl) ?_
      refine x_gy (show _ = (V.bool false) from rfl) rfl ?_
      refine x_mv' (nf_int h0) ?_
      refine x_gy (show _ = (V.bool false) from rfl) rfl ?_
      refine x_bin (show _ = (V.int .u8 ((p0 : UInt8).toNat : Int)) from rfl) (show _ = (V.int .u8 ((48 : UInt8).toNat : Int)) from rfl) u8_geq ?_
      refine x_gy (show _ = (V.bool false) from rfl) rfl ?_
      refine x_mv' (show _ = (V.bool (decide (48 ≤ p0))) from rfl) ?_
      by_cases hp19 : 48 ≤ p0
      · rw [if_pos hp19] at hD
        refine x_gy (show _ = (V.bool (decide (48 ≤ p0))) from rfl) (decide_eq_true hp19) ?_
        refine x_mv' (nf_int h0) ?_
        refine x_gy (show _ = (V.bool (decide (48 ≤ p0))) from rfl) (decide_eq_true hp19) ?_
        refine x_bin (show _ = (V.int .u8 ((p0 : UInt8).toNat : Int)) from rfl) (show _ = (V.int .u8 ((57 : UInt8).toNat : Int)) from rfl) u8_leq ?_
        refine x_gy (show _ = (V.bool false) from rfl) rfl ?_
        refine x_pickt' (show _ = (V.bool (decide (48 ≤ p0))) from rfl) (decide_eq_true hp19) (show _ = (V.bool (decide (p0 ≤ 57))) from rfl) ?_
        refine x_pickf' (show _ = (V.bool false) from rfl) rfl (show _ = (V.bool (decide (p0 ≤ 57))) from rfl) ?_
        refine x_mv' (show _ = (V.bool (decide (p0 ≤ 57))) from rfl) ?_
        by_cases hp20 : p0 ≤ 57
        · rw [if_pos hp20] at hD
          refine x_gn (show _ = (V.bool (decide (p0 ≤ 57))) from rfl) (decide_eq_true hp20) ?_
          refine x_gn (show _ = (V.bool (decide (p0 ≤ 57))) from rfl) (decide_eq_true hp20) ?_
          refine x_pickt' (show _ = (V.bool (decide (p0 ≤ 57))) from rfl) (decide_eq_true hp20) (show _ = (V.bool true) from rfl) ?_
          refine x_mv' (show _ = (V.bool true) from rfl) ?_
          refine x_gn (show _ = (V.bool true) from rfl) rfl ?_
          refine x_gn (show _ = (V.bool true) from rfl) rfl ?_
          refine x_pickt' (show _ = (V.bool true) from rfl) rfl (show _ = (V.bool true) from rfl) ?_
          refine x_mv' (show _ = (V.bool true) from rfl) ?_
          refine x_done ?_
          refine x_tN ?_
          refine x_retc ?_
          obtain rfl := Option.some.inj hD
          exact hR _ (ends_t (nf_of rfl (show _ = (V.bool true) from rfl)) (fun h => nomatch h))
        · rw [if_neg hp20] at hD
          refine x_gy (show _ = (V.bool (decide (p0 ≤ 57))) from rfl) (decide_eq_false hp20) ?_
          refine x_mv' (nf_int h0) ?_
          refine x_gy (show _ = (V.bool (decide (p0 ≤ 57))) from rfl) (decide_eq_false hp20) ?_
          refine x_bin (show _ = (V.int .u8 ((p0 : UInt8).toNat : Int)) from rfl) (show _ = (V.int .u8 ((95 : UInt8).toNat : Int)) from rfl) u8_eql ?_
          refine x_pickf' (show _ = (V.bool (decide (p0 ≤ 57))) from rfl) (decide_eq_false hp20) (show _ = (V.bool (decide (p0 = 95))) from rfl) ?_
          refine x_mv' (show _ = (V.bool (decide (p0 = 95))) from rfl) ?_
          by_cases hp21 : p0 = 95
          · rw [if_pos hp21] at hD
            refine x_gn (show _ = (V.bool (decide (p0 = 95))) from rfl) (decide_eq_true hp21) ?_
            refine x_gn (show _ = (V.bool (decide (p0 = 95))) from rfl) (decide_eq_true hp21) ?_
            refine x_pickt' (show _ = (V.bool (decide (p0 = 95))) from rfl) (decide_eq_true hp21) (show _ = (V.bool true) from rfl) ?_
            refine x_mv' (show _ = (V.bool true) from rfl) ?_
            refine x_done ?_
            refine x_tN ?_
            refine x_retc ?_
            obtain rfl := Option.some.inj hD
            exact hR _ (ends_t (nf_of rfl (show _ = (V.bool true) from rfl)) (fun h => nomatch h))
          · rw [if_neg hp21] at hD
            refine x_gy (show _ = (V.bool (decide (p0 = 95))) from rfl) (decide_eq_false hp21) ?_
            refine x_mv' (nf_int h0) ?_
            refine x_gy (show _ = (V.bool (decide (p0 = 95))) from rfl) (decide_eq_false hp21) ?_
            refine x_bin (show _ = (V.int .u8 ((p0 : UInt8).toNat : Int)) from rfl) (show _ = (V.int .u8 ((46 : UInt8).toNat : Int)) from rfl) u8_eql ?_
            refine x_pickf' (show _ = (V.bool (decide (p0 = 95))) from rfl) (decide_eq_false hp21) (show _ = (V.bool (decide (p0 = 46))) from rfl) ?_
            refine x_mv' (show _ = (V.bool (decide (p0 = 46))) from rfl) ?_
            refine x_done ?_
            refine x_tN ?_
            refine x_retc ?_
            obtain rfl := Option.some.inj hD
            exact hR _ (ends_t (nf_of rfl (show _ = (V.bool (decide (p0 = 46))) from rfl)) (fun h => nomatch h))
      · rw [if_neg hp19] at hD
        refine x_gn (show _ = (V.bool (decide (48 ≤ p0))) from rfl) (decide_eq_false hp19) ?_
        refine x_gn (show _ = (V.bool (decide (48 ≤ p0))) from rfl) (decide_eq_false hp19) ?_
        refine x_gy (show _ = (V.bool false) from rfl) rfl ?_
        refine x_pickf' (show _ = (V.bool (decide (48 ≤ p0))) from rfl) (decide_eq_false hp19) (show _ = (V.bool false) from rfl) ?_
        refine x_pickf' (show _ = (V.bool false) from rfl) rfl (show _ = (V.bool false) from rfl) ?_
        refine x_mv' (show _ = (V.bool false) from rfl) ?_
        refine x_gy (show _ = (V.bool false) from rfl) rfl ?_
        refine x_mv' (nf_int h0) ?_
        refine x_gy (show _ = (V.bool false) from rfl) rfl ?_
        refine x_bin (show _ = (V.int .u8 ((p0 : UInt8).toNat : Int)) from rfl) (show _ = (V.int .u8 ((95 : UInt8).toNat : Int)) from rfl) u8_eql ?_
        refine x_pickf' (show _ = (V.bool false) from rfl) rfl (show _ = (V.bool (decide (p0 = 95))) from rfl) ?_
        refine x_mv' (show _ = (V.bool (decide (p0 = 95))) from rfl) ?_
        by_cases hp22 : p0 = 95
        · rw [if_pos hp22] at hD
          refine x_gn (show _ = (V.bool (decide (p0 = 95))) from rfl) (decide_eq_true hp22) ?_
          refine x_gn (show _ = (V.bool (decide (p0 = 95))) from rfl) (decide_eq_true hp22) ?_
          refine x_pickt' (show _ = (V.bool (decide (p0 = 95))) from rfl) (decide_eq_true hp22) (show _ = (V.bool true) from rfl) ?_
          refine x_mv' (show _ = (V.bool true) from rfl) ?_
          refine x_done ?_
          refine x_tN ?_
          refine x_retc ?_
          obtain rfl := Option.some.inj hD
          exact hR _ (ends_t (nf_of rfl (show _ = (V.bool true) from rfl)) (fun h => nomatch h))
        · rw [if_neg hp22] at hD
          refine x_gy (show _ = (V.bool (decide (p0 = 95))) from rfl) (decide_eq_false hp22) ?_
          refine x_mv' (nf_int h0) ?_
          refine x_gy (show _ = (V.bool (decide (p0 = 95))) from rfl) (decide_eq_false hp22) ?_
          refine x_bin (show _ = (V.int .u8 ((p0 : UInt8).toNat : Int)) from rfl) (show _ = (V.int .u8 ((46 : UInt8).toNat : Int)) from rfl) u8_eql ?_
          refine x_pickf' (show _ = (V.bool (decide (p0 = 95))) from rfl) (decide_eq_false hp22) (show _ = (V.bool (decide (p0 = 46))) from rfl) ?_
          refine x_mv' (show _ = (V.bool (decide (p0 = 46))) from rfl) ?_
          refine x_done ?_
          refine x_tN ?_
          refine x_retc ?_
          obtain rfl := Option.some.inj hD
          exact hR _ (ends_t (nf_of rfl (show _ = (V.bool (decide (p0 = 46))) from rfl)) (fun h => nomatch h))
def K.seicheref13_Sign : FC := fc F.seicheref13_Sign (fun _ => true) false (fun (a : UInt8) => [(V.int .u8 ((a : UInt8).toNat : Int))]) (fun (y : Bool) => (V.bool y)) (fun a => g.seicheref13_Sign a)
  (fun a => (cleanL_mk rfl rfl))
  (fun y => rfl)
  (fun a0 b0 h => by
    obtain ⟨h0, h⟩ := List.cons.inj h
    obtain rfl : a0 = b0 := byteV_inj h0
    rfl)
theorem H.seicheref13_Sign (w : World) (_hw : EnvOK w) : K.seicheref13_Sign.Holds (cxD w) :=
  FC.holds_of (cs := []) (glD w) mixed cf_seicheref13_Sign (fun _ _ ⟨_, _, h, _⟩ => by subst h; exact Nat.le_of_ble_eq_true rfl) fun v y ⟨a, r, hv, hD, hy⟩ => by
    subst hy
    exact ok.seicheref13_Sign hv hD
def c_seicheref13_Tag_l1 : ACode := (.seq (.seq (.region [
  ⟨(some 4), (.mv (.tmp 3)), none, []⟩, 
  ⟨(some 5), (.mv (.tmp 0)), none, []⟩, 
  ⟨(some 6), (.len true (.tmp 5)), none, []⟩, 
  ⟨(some 7), (.bin .lss .no (.tmp 4) (.tmp 6)), none, []⟩] false) (.cond (.tmp 7) .skip (.exit 0))) (.seq (.block 1 (.seq (.region [
  ⟨(some 10), (.mv (.tmp 0)), none, []⟩, 
  ⟨(some 11), (.mv (.tmp 3)), none, []⟩, 
  ⟨(some 12), (.idx (.tmp 10) (.tmp 11)), none, []⟩, 
  ⟨(some 13), (.call F.seicheref13_Sign [(.tmp 12)]), none, []⟩, 
  ⟨(some 14), (.un .not (.tmp 13)), none, []⟩] false) (.cond (.tmp 14) (.seq (.region [
  ⟨(some 2), (.mv (.const (.bool false))), none, []⟩] false) .ret) .skip))) (.region [
  ⟨(some 8), (.mv (.tmp 3)), none, []⟩, 
  ⟨(some 9), (.bin .add .no (.tmp 8) (.const (.int .i64 1))), none, []⟩, 
  ⟨(some 3), (.mv (.tmp 9)), none, []⟩] false)))
def c_seicheref13_Tag : ACode := (.seq (.region [
  ⟨(some 2), (.mv (.const (.bool false))), none, []⟩] false) (.seq (.seq (.region [
  ⟨(some 3), (.mv (.const (.int .i64 0))), none, []⟩] false) (.block 0 (.loop c_seicheref13_Tag_l1))) (.seq (.region [
  ⟨(some 15), (.mv (.tmp 0)), none, []⟩, 
  ⟨(some 16), (.bin .neq .no (.tmp 15) (.const (.str []))), none, []⟩, 
  ⟨(some 2), (.mv (.tmp 16)), none, []⟩] false) .ret)))
theorem cf_seicheref13_Tag : cFn Go.Proofs.Tryd.prog F.seicheref13_Tag = some ⟨17, c_seicheref13_Tag, [.t 2]⟩ := by kernel_rfl
def L.seicheref13_Tag_l1 (t0_1 : Bytes) (k0 : Option Bool) : Nat → Int → Option Bool
  | 0, _ => none
  | n + 1, t3_20 =>
    if t3_20 < ((t0_1.length : Nat) : Int) then
      (at? t0_1 t3_20).bind fun b29 =>
      (g.seicheref13_Sign b29).bind fun r32 =>
      if r32 = true then
        L.seicheref13_Tag_l1 t0_1 k0 n (wi (t3_20 + 1))
      else
        some false
    else
      k0
theorem ok.seicheref13_Tag_l1 {Γ : Abs.Spec} {gl : Glob} (hC_seicheref13_Sign : CallsX Γ K.seicheref13_Sign) {Q : Ex → St → Prop} {r : Bool} {t0_1 : Bytes} {k0 : Option Bool}
    (hk0 : ∀ (s : St), (s.tm 0 = (V.str t0_1)) → k0 = some r → Q (.exit 0) s)
    (hR : ∀ s, EndsX [.t 2] false (V.bool r) s → Q .ret s) : ∀ (n : Nat) (s : St) (t3_20 : Int),
    (s.tm 0 = (V.str t0_1)) → (s.tm 3 = (V.int .i64 t3_20)) → L.seicheref13_Tag_l1 t0_1 k0 n t3_20 = some r → awp Γ gl (.loop c_seicheref13_Tag_l1) Q s := by
  intro n
  induction n with
  | zero => intro s t3_20 h18 h19 hD; rw [L.seicheref13_Tag_l1] at hD; cases hD
  | succ n ih =>
    intro s t3_20 h18 h19 hD
    refine awp_roundK fun K hK => ?_
    rw [L.seicheref13_Tag_l1] at hD
    refine x_seq ?_
    refine x_seq ?_
    refine x_start (b := false) ?_
    refine x_mv' h19 ?_
    refine x_mv' h18 ?_
    refine x_lens (show _ = (V.str t0_1) from rfl) ?_
    refine x_bin (show _ = (V.int .i64 t3_20) from rfl) (show _ = (V.int .i64 ((t0_1.length : Nat) : Int)) from rfl) b_lss ?_
    refine x_done ?_
    refine x_tN ?_
    by_cases hp23 : t3_20 < ((t0_1.length : Nat) : Int)
    · rw [if_pos hp23] at hD
      refine x_ct (show _ = (V.bool (decide (t3_20 < ((t0_1.length : Nat) : Int)))) from rfl) (decide_eq_true hp23) ?_
      refine x_skip ?_
      refine x_tN ?_
      refine x_seq ?_
      refine x_block ?_
      refine x_seq ?_
      refine x_start (b := false) ?_
      refine x_mv' h18 ?_
      refine x_mv' h19 ?_
      obtain ⟨b29, hx30, hD⟩ := Option.bind_eq_some_iff.1 hD
      refine x_idx (show _ = (V.str t0_1) from rfl) (show _ = (V.int .i64 t3_20) from rfl) hx30 ?_
      obtain ⟨r32, hx33, hD⟩ := Option.bind_eq_some_iff.1 hD
      refine x_callF hC_seicheref13_Sign (a := (b29)) (cons_eq (nf_of rfl (show _ = (V.int .u8 ((b29 : UInt8).toNat : Int)) from rfl)) rfl) hx33 fun v31 ov31 (hv31 : v31.nf = (V.bool r32)) hov31 => ?_
      refine x_un (nf_bool hv31) (aun_not _) ?_
      refine x_done ?_
      refine x_tN ?_
      by_cases hp34 : r32 = true
      · rw [if_pos hp34] at hD
        refine x_cf (show _ = (V.bool (!r32)) from rfl) (bnot_t hp34) ?_
        refine x_skip ?_
        refine x_bN ?_
        refine x_tN ?_
        refine x_start (b := false) ?_
        refine x_mv' h19 ?_
        refine x_bin (show _ = (V.int .i64 t3_20) from rfl) (show _ = (V.int .i64 1) from rfl) b_add ?_
        refine x_mv' (show _ = (V.int .i64 (wi (t3_20 + 1))) from rfl) ?_
        refine x_done ?_
        refine x_tN ?_
        refine hK _ ?_
        refine ih _ _ ?_ ?_ hD
        · exact h18
        · exact (show _ = (V.int .i64 (wi (t3_20 + 1))) from rfl)
      · rw [if_neg hp34] at hD
        refine x_ct (show _ = (V.bool (!r32)) from rfl) (bnot_f (Bool.eq_false_iff.2 hp34)) ?_
        refine x_seq ?_
        refine x_start (b := false) ?_
        refine x_mv' (show _ = (V.bool false) from rfl) ?_
        refine x_done ?_
        refine x_tN ?_
        refine x_retc ?_
        refine x_bR ?_
        refine x_tR ?_
        refine x_tR ?_
        obtain rfl := Option.some.inj hD
        exact hR _ (ends_t (nf_of rfl (show _ = (V.bool false) from rfl)) (fun h => nomatch h))
    · rw [if_neg hp23] at hD
      refine x_cf (show _ = (V.bool (decide (t3_20 < ((t0_1.length : Nat) : Int)))) from rfl) (decide_eq_false hp23) ?_
      refine x_exitc ?_
      refine x_tE ?_
      refine x_tE ?_
      refine hk0 _ ?_ hD
      · exact h18
def g.seicheref13_Tag (p0 : Bytes) : Option Bool :=
  L.seicheref13_Tag_l1 p0 (some (!(decide (p0 = ([] : Bytes))))) fuel 0
theorem ok.seicheref13_Tag {Γ : Abs.Spec} {gl : Glob} (hC_seicheref13_Sign : CallsX Γ K.seicheref13_Sign) {r : Bool} {p0 : Bytes} {v : List V}
    (hv : nfL v = [(V.str p0)]) (hD : g.seicheref13_Tag p0 = some r) : awp Γ gl c_seicheref13_Tag (endQ [.t 2] false (V.bool r)) (St.init v) := by
  obtain ⟨v0, v, rfl, h0, hv⟩ := nfL_cons hv
  obtain rfl := nfL_nil hv
  have hR : ∀ s, EndsX [.t 2] false (V.bool r) s → endQ [.t 2] false (V.bool r) .ret s := fun _ h => h
  unfold g.seicheref13_Tag at hD
  unfold c_seicheref13_Tag
  refine x_seq ?_
  refine x_start (b := false) ?_
  refine x_mv' (show _ = (V.bool false) from rfl) ?_
  refine x_done ?_
  refine x_tN ?_
  refine x_seq ?_
  refine x_seq ?_
  refine x_start (b := false) ?_
  refine x_mv' (show _ = (V.int .i64 0) from rfl) ?_
  refine x_done ?_
  refine x_tN ?_
  refine x_block ?_
  refine ok.seicheref13_Tag_l1 (t0_1 := p0) hC_seicheref13_Sign (fun s38 h37 hD => ?_) (fun _ hE => ?_) _ _ _ ?_ ?_ hD
  · refine x_bE ?_
    refine x_tN ?_
    refine x_seq ?_
    refine x_start (b := false) ?_
    refine x_mv' h37 ?_
    refine x_bin (show _ = (V.str p0) from rfl) (show _ = (V.str ([] : Bytes)) from rfl) s_neq ?_
    refine x_mv' (show _ = (V.bool (!(decide (p0 = ([] : Bytes))))) from rfl) ?_
    refine x_done ?_
    refine x_tN ?_
    refine x_retc ?_
    obtain rfl := Option.some.inj hD
    exact hR _ (ends_t (nf_of rfl (show _ = (V.bool (!(decide (p0 = ([] : Bytes))))) from rfl)) (fun h => nomatch h))
  · refine x_bR ?_; refine x_tR ?_; exact hR _ hE
  · exact (nf_str h0)
  · exact (show _ = (V.int .i64 0) from rfl)
def K.seicheref13_Tag : FC := fc F.seicheref13_Tag (fun _ => true) false (fun (a : Bytes) => [(V.str a)]) (fun (y : Bool) => (V.bool y)) (fun a => g.seicheref13_Tag a)
  (fun a => (cleanL_mk rfl rfl))
  (fun y => rfl)
  (fun a0 b0 h => by
    obtain ⟨h0, h⟩ := List.cons.inj h
    obtain rfl : a0 = b0 := V.str.inj h0
    rfl)
theorem H.seicheref13_Tag (w : World) (hw : EnvOK w) : K.seicheref13_Tag.Holds (cxD w) :=
  FC.holds_of (cs := [K.seicheref13_Sign]) (glD w) mixed cf_seicheref13_Tag (fun _ _ ⟨_, _, h, _⟩ => by subst h; exact Nat.le_of_ble_eq_true rfl) fun v y ⟨a, r, hv, hD, hy⟩ => by
    subst hy
    exact ok.seicheref13_Tag (specOf_calls (H.seicheref13_Sign w hw) (fun _ _ ⟨_, _, h, _⟩ => by subst h; rfl)) hv hD
end Go.Proofs.YtainplhaaklpeaaDoor
