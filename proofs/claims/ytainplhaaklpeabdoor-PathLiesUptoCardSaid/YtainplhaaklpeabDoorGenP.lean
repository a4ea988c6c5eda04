/-
  Functions of the program as Lean functions over plain data, and the proofs that the loaded code comes to them. Printed by a program of this seat (wip/gen/gen.py).
-/
import Derived.Test.YtainplhaaklpeabDoorProg
import Derived.Test.YtainplhaaklpeabDoorGenG
import Derived.Test.YtainplhaaklpeabDoorL2
namespace Go.Proofs.YtainplhaaklpeabDoor
open Go.Abs Go.RowKit

def F.seichelaw06_PathOrders : Nat := 4
def F.seichelaw06_PathLies : Nat := 6
def F.seichelaw06_alive : Nat := 15
def F.path_Join : Nat := 24
def F.path_Under : Nat := 25
def F.seicheref01_Same : Nat := 28
def F.path_From : Nat := 40
def F.strings_CutPrefix : Nat := 57
def F.internal_stringslite_CutPrefix : Nat := 88
def F.internal_stringslite_HasPrefix : Nat := 89
def c_internal_stringslite_HasPrefix : ACode := (.seq (.region [
  ⟨(some 4), (.mv (.const (.bool false))), none, []⟩] false) (.seq (.region [
  ⟨(some 5), (.mv (.tmp 0)), none, []⟩, 
  ⟨(some 6), (.len true (.tmp 5)), none, []⟩, 
  ⟨(some 7), (.mv (.tmp 1)), none, []⟩, 
  ⟨(some 8), (.len true (.tmp 7)), none, []⟩, 
  ⟨(some 9), (.bin .geq .no (.tmp 6) (.tmp 8)), none, []⟩, 
  ⟨(some 10), (.mv (.tmp 9)), none, []⟩, 
  ⟨(some 11), (.mv (.tmp 0)), (some (10, true)), []⟩, 
  ⟨(some 12), (.mv (.tmp 1)), (some (10, true)), []⟩, 
  ⟨(some 13), (.len true (.tmp 12)), (some (10, true)), []⟩, 
  ⟨(some 14), (.sls (.tmp 11) none (some (.tmp 13))), (some (10, true)), []⟩, 
  ⟨(some 15), (.mv (.tmp 1)), (some (10, true)), []⟩, 
  ⟨(some 16), (.bin .eql .no (.tmp 14) (.tmp 15)), (some (10, true)), []⟩, 
  ⟨(some 17), (.pick (.tmp 10) (.tmp 16) (.const (.bool false))), none, []⟩, 
  ⟨(some 4), (.mv (.tmp 17)), none, []⟩] false) .ret))
theorem cf_internal_stringslite_HasPrefix : cFn Go.Proofs.Tryd.prog F.internal_stringslite_HasPrefix = some ⟨18, c_internal_stringslite_HasPrefix, [.t 4]⟩ := by kernel_rfl
def g.internal_stringslite_HasPrefix (p0 : Bytes) (p1 : Bytes) : Option Bool :=
  if ((p1.length : Nat) : Int) ≤ ((p0.length : Nat) : Int) then
    (cut p0 0 ((p1.length : Nat) : Int)).bind fun q2 =>
    some (decide (q2 = p1))
  else
    some false
theorem ok.internal_stringslite_HasPrefix {Γ : Abs.Spec} {gl : Glob} {r : Bool} {p0 : Bytes} {p1 : Bytes} {v : List V}
    (hv : nfL v = [(V.str p0), (V.str p1)]) (hD : g.internal_stringslite_HasPrefix p0 p1 = some r) : awp Γ gl c_internal_stringslite_HasPrefix (endQ [.t 4] false (V.bool r)) (St.init v) := by
  obtain ⟨v0, v, rfl, h0, hv⟩ := nfL_cons hv
  obtain ⟨v1, v, rfl, h1, hv⟩ := nfL_cons hv
  obtain rfl := nfL_nil hv
  have hR : ∀ s, EndsX [.t 4] false (V.bool r) s → endQ [.t 4] false (V.bool r) .ret s := fun _ h => h
  unfold g.internal_stringslite_HasPrefix at hD
  unfold c_internal_stringslite_HasPrefix
  refine x_seq ?_
  refine x_start (b := false) ?_
  refine x_mv' (show _ = (V.bool false) from rfl) ?_
  refine x_done ?_
  refine x_tN ?_
  refine x_seq ?_
  refine x_start (b := false) ?_
  refine x_mv' (nf_str h0) ?_
  refine x_lens (show _ = (V.str p0) from rfl) ?_
  refine x_mv' (nf_str h1) ?_
  refine x_lens (show _ = (V.str p1) from rfl) ?_
  refine x_bin (show _ = (V.int .i64 ((p0.length : Nat) : Int)) from rfl) (show _ = (V.int .i64 ((p1.length : Nat) : Int)) from rfl) b_geq ?_
  refine x_mv' (show _ = (V.bool (decide (((p1.length : Nat) : Int) ≤ ((p0.length : Nat) : Int)))) from rfl) ?_
  by_cases hp1 : ((p1.length : Nat) : Int) ≤ ((p0.length : Nat) : Int)
  · rw [if_pos hp1] at hD
    refine x_gy (show _ = (V.bool (decide (((p1.length : Nat) : Int) ≤ ((p0.length : Nat) : Int)))) from rfl) (decide_eq_true hp1) ?_
    refine x_mv' (nf_str h0) ?_
    refine x_gy (show _ = (V.bool (decide (((p1.length : Nat) : Int) ≤ ((p0.length : Nat) : Int)))) from rfl) (decide_eq_true hp1) ?_
    refine x_mv' (nf_str h1) ?_
    refine x_gy (show _ = (V.bool (decide (((p1.length : Nat) : Int) ≤ ((p0.length : Nat) : Int)))) from rfl) (decide_eq_true hp1) ?_
    refine x_lens (show _ = (V.str p1) from rfl) ?_
    refine x_gy (show _ = (V.bool (decide (((p1.length : Nat) : Int) ≤ ((p0.length : Nat) : Int)))) from rfl) (decide_eq_true hp1) ?_
    obtain ⟨q2, hx3, hD⟩ := Option.bind_eq_some_iff.1 hD
    refine x_slsh (show _ = (V.str p0) from rfl) (show _ = (V.int .i64 ((p1.length : Nat) : Int)) from rfl) hx3 ?_
    refine x_gy (show _ = (V.bool (decide (((p1.length : Nat) : Int) ≤ ((p0.length : Nat) : Int)))) from rfl) (decide_eq_true hp1) ?_
    refine x_mv' (nf_str h1) ?_
    refine x_gy (show _ = (V.bool (decide (((p1.length : Nat) : Int) ≤ ((p0.length : Nat) : Int)))) from rfl) (decide_eq_true hp1) ?_
    refine x_bin (show _ = (V.str q2) from rfl) (show _ = (V.str p1) from rfl) s_eql ?_
    refine x_pickt' (show _ = (V.bool (decide (((p1.length : Nat) : Int) ≤ ((p0.length : Nat) : Int)))) from rfl) (decide_eq_true hp1) (show _ = (V.bool (decide (q2 = p1))) from rfl) ?_
    refine x_mv' (show _ = (V.bool (decide (q2 = p1))) from rfl) ?_
    refine x_done ?_
    refine x_tN ?_
    refine x_retc ?_
    obtain rfl := Option.some.inj hD
    exact hR _ (ends_t (nf_of rfl (show _ = (V.bool (decide (q2 = p1))) from rfl)) (fun h => nomatch h))
  · rw [if_neg hp1] at hD
    refine x_gn (show _ = (V.bool (decide (((p1.length : Nat) : Int) ≤ ((p0.length : Nat) : Int)))) from rfl) (decide_eq_false hp1) ?_
    refine x_gn (show _ = (V.bool (decide (((p1.length : Nat) : Int) ≤ ((p0.length : Nat) : Int)))) from rfl) (decide_eq_false hp1) ?_
    refine x_gn (show _ = (V.bool (decide (((p1.length : Nat) : Int) ≤ ((p0.length : Nat) : Int)))) from rfl) (decide_eq_false hp1) ?_
    refine x_gn (show _ = (V.bool (decide (((p1.length : Nat) : Int) ≤ ((p0.length : Nat) : Int)))) from rfl) (decide_eq_false hp1) ?_
    refine x_gn (show _ = (V.bool (decide (((p1.length : Nat) : Int) ≤ ((p0.length : Nat) : Int)))) from rfl) (decide_eq_false hp1) ?_
    refine x_gn (show _ = (V.bool (decide (((p1.length : Nat) : Int) ≤ ((p0.length : Nat) : Int)))) from rfl) (decide_eq_false hp1) ?_
    refine x_pickf' (show _ = (V.bool (decide (((p1.length : Nat) : Int) ≤ ((p0.length : Nat) : Int)))) from rfl) (decide_eq_false hp1) (show _ = (V.bool false) from rfl) ?_
    refine x_mv' (show _ = (V.bool false) from rfl) ?_
    refine x_done ?_
    refine x_tN ?_
    refine x_retc ?_
    obtain rfl := Option.some.inj hD
    exact hR _ (ends_t (nf_of rfl (show _ = (V.bool false) from rfl)) (fun h => nomatch h))
def K.internal_stringslite_HasPrefix : FC := fc F.internal_stringslite_HasPrefix (fun _ => true) false (fun (a : (Bytes × Bytes)) => [(V.str a.1), (V.str a.2)]) (fun (y : Bool) => (V.bool y)) (fun a => g.internal_stringslite_HasPrefix a.1 a.2)
  (fun a => (cleanL_mk rfl (cleanL_mk rfl rfl)))
  (fun y => rfl)
  (fun ⟨a0, a1⟩ ⟨b0, b1⟩ h => by
    obtain ⟨h0, h⟩ := List.cons.inj h
    obtain rfl : a0 = b0 := V.str.inj h0
    obtain ⟨h0, h⟩ := List.cons.inj h
    obtain rfl : a1 = b1 := V.str.inj h0
    rfl)
theorem H.internal_stringslite_HasPrefix (w : World) (_hw : EnvOK w) : K.internal_stringslite_HasPrefix.Holds (cxD w) :=
  FC.holds_of (cs := []) (glD w) mixed cf_internal_stringslite_HasPrefix (fun _ _ ⟨_, _, h, _⟩ => by subst h; exact Nat.le_of_ble_eq_true rfl) fun v y ⟨a, r, hv, hD, hy⟩ => by
    subst hy
    exact ok.internal_stringslite_HasPrefix hv hD
def c_internal_stringslite_CutPrefix : ACode := (.seq (.region [
  ⟨(some 4), (.mv (.const (.str []))), none, []⟩, 
  ⟨(some 5), (.mv (.const (.bool false))), none, []⟩] false) (.seq (.seq (.region [
  ⟨(some 6), (.mv (.tmp 0)), none, []⟩, 
  ⟨(some 7), (.mv (.tmp 1)), none, []⟩, 
  ⟨(some 8), (.call F.internal_stringslite_HasPrefix [(.tmp 6), (.tmp 7)]), none, []⟩, 
  ⟨(some 9), (.un .not (.tmp 8)), none, []⟩] false) (.cond (.tmp 9) (.seq (.region [
  ⟨(some 10), (.mv (.tmp 0)), none, []⟩, 
  ⟨(some 4), (.mv (.tmp 10)), none, []⟩, 
  ⟨(some 5), (.mv (.const (.bool false))), none, []⟩] false) .ret) .skip)) (.seq (.region [
  ⟨(some 11), (.mv (.tmp 0)), none, []⟩, 
  ⟨(some 12), (.mv (.tmp 1)), none, []⟩, 
  ⟨(some 13), (.len true (.tmp 12)), none, []⟩, 
  ⟨(some 14), (.sls (.tmp 11) (some (.tmp 13)) none), none, []⟩, 
  ⟨(some 4), (.mv (.tmp 14)), none, []⟩, 
  ⟨(some 5), (.mv (.const (.bool true))), none, []⟩] false) .ret)))
theorem cf_internal_stringslite_CutPrefix : cFn Go.Proofs.Tryd.prog F.internal_stringslite_CutPrefix = some ⟨15, c_internal_stringslite_CutPrefix, [.t 4, .t 5]⟩ := by kernel_rfl
def g.internal_stringslite_CutPrefix (p0 : Bytes) (p1 : Bytes) : Option (Bytes × Bool) :=
  (g.internal_stringslite_HasPrefix p0 p1).bind fun r12 =>
  if r12 = true then
    (cut p0 ((p1.length : Nat) : Int) (p0.length : Nat)).bind fun q15 =>
    some (q15, true)
  else
    some (p0, false)
theorem ok.internal_stringslite_CutPrefix {Γ : Abs.Spec} {gl : Glob} (hC_internal_stringslite_HasPrefix : CallsX Γ K.internal_stringslite_HasPrefix) {r : (Bytes × Bool)} {p0 : Bytes} {p1 : Bytes} {v : List V}
    (hv : nfL v = [(V.str p0), (V.str p1)]) (hD : g.internal_stringslite_CutPrefix p0 p1 = some r) : awp Γ gl c_internal_stringslite_CutPrefix (endQ [.t 4, .t 5] false (V.tup [(V.str r.1), (V.bool r.2)])) (St.init v) := by
  obtain ⟨v0, v, rfl, h0, hv⟩ := nfL_cons hv
  obtain ⟨v1, v, rfl, h1, hv⟩ := nfL_cons hv
  obtain rfl := nfL_nil hv
  have hR : ∀ s, EndsX [.t 4, .t 5] false (V.tup [(V.str r.1), (V.bool r.2)]) s → endQ [.t 4, .t 5] false (V.tup [(V.str r.1), (V.bool r.2)]) .ret s := fun _ h => h
  unfold g.internal_stringslite_CutPrefix at hD
  unfold c_internal_stringslite_CutPrefix
  refine x_seq ?_
  refine x_start (b := false) ?_
  refine x_mv' (show _ = (V.str ([] : Bytes)) from rfl) ?_
  refine x_mv' (show _ = (V.bool false) from rfl) ?_
  refine x_done ?_
  refine x_tN ?_
  refine x_seq ?_
  refine x_seq ?_
  refine x_start (b := false) ?_
  refine x_mv' (nf_str h0) ?_
  refine x_mv' (nf_str h1) ?_
  obtain ⟨r12, hx13, hD⟩ := Option.bind_eq_some_iff.1 hD
  refine x_callF hC_internal_stringslite_HasPrefix (a := (p0, p1)) (cons_eq (nf_of rfl (show _ = (V.str p0) from rfl)) (cons_eq (nf_of rfl (show _ = (V.str p1) from rfl)) rfl)) hx13 fun v11 ov11 (hv11 : v11.nf = (V.bool r12)) hov11 => ?_
  refine x_un (nf_bool hv11) (aun_not _) ?_
  refine x_done ?_
  refine x_tN ?_
  by_cases hp14 : r12 = true
  · rw [if_pos hp14] at hD
    refine x_cf (show _ = (V.bool (!r12)) from rfl) (bnot_t hp14) ?_
    refine x_skip ?_
    refine x_tN ?_
    refine x_seq ?_
    refine x_start (b := false) ?_
    refine x_mv' (nf_str h0) ?_
    refine x_mv' (nf_str h1) ?_
    refine x_lens (show _ = (V.str p1) from rfl) ?_
    obtain ⟨q15, hx16, hD⟩ := Option.bind_eq_some_iff.1 hD
    refine x_slsl (show _ = (V.str p0) from rfl) (show _ = (V.int .i64 ((p1.length : Nat) : Int)) from rfl) hx16 ?_
    refine x_mv' (show _ = (V.str q15) from rfl) ?_
    refine x_mv' (show _ = (V.bool true) from rfl) ?_
    refine x_done ?_
    refine x_tN ?_
    refine x_retc ?_
    obtain rfl := Option.some.inj hD
    exact hR _ (ends_tup (rvs_cons (rv_t (nf_of rfl (show _ = (V.str q15) from rfl))) (rvs_cons (rv_t (nf_of rfl (show _ = (V.bool true) from rfl))) rvs_nil)) (by decide))
  · rw [if_neg hp14] at hD
    refine x_ct (show _ = (V.bool (!r12)) from rfl) (bnot_f (Bool.eq_false_iff.2 hp14)) ?_
    refine x_seq ?_
    refine x_start (b := false) ?_
    refine x_mv' (nf_str h0) ?_
    refine x_mv' (show _ = (V.str p0) from rfl) ?_
    refine x_mv' (show _ = (V.bool false) from rfl) ?_
    refine x_done ?_
    refine x_tN ?_
    refine x_retc ?_
    refine x_tR ?_
    obtain rfl := Option.some.inj hD
    exact hR _ (ends_tup (rvs_cons (rv_t (nf_of rfl (show _ = (V.str p0) from rfl))) (rvs_cons (rv_t (nf_of rfl (show _ = (V.bool false) from rfl))) rvs_nil)) (by decide))
def K.internal_stringslite_CutPrefix : FC := fc F.internal_stringslite_CutPrefix (fun _ => true) false (fun (a : (Bytes × Bytes)) => [(V.str a.1), (V.str a.2)]) (fun (y : (Bytes × Bool)) => (V.tup [(V.str y.1), (V.bool y.2)])) (fun a => g.internal_stringslite_CutPrefix a.1 a.2)
  (fun a => (cleanL_mk rfl (cleanL_mk rfl rfl)))
  (fun y => (cleanL_mk rfl (cleanL_mk rfl rfl)))
  (fun ⟨a0, a1⟩ ⟨b0, b1⟩ h => by
    obtain ⟨h0, h⟩ := List.cons.inj h
    obtain rfl : a0 = b0 := V.str.inj h0
    obtain ⟨h0, h⟩ := List.cons.inj h
    obtain rfl : a1 = b1 := V.str.inj h0
    rfl)
theorem H.internal_stringslite_CutPrefix (w : World) (hw : EnvOK w) : K.internal_stringslite_CutPrefix.Holds (cxD w) :=
  FC.holds_of (cs := [K.internal_stringslite_HasPrefix]) (glD w) mixed cf_internal_stringslite_CutPrefix (fun _ _ ⟨_, _, h, _⟩ => by subst h; exact Nat.le_of_ble_eq_true rfl) fun v y ⟨a, r, hv, hD, hy⟩ => by
    subst hy
    exact ok.internal_stringslite_CutPrefix (specOf_calls (H.internal_stringslite_HasPrefix w hw) (fun _ _ ⟨_, _, h, _⟩ => by subst h; rfl)) hv hD
def c_strings_CutPrefix : ACode := (.seq (.region [
  ⟨(some 4), (.mv (.const (.str []))), none, []⟩, 
  ⟨(some 5), (.mv (.const (.bool false))), none, []⟩] false) (.seq (.region [
  ⟨(some 6), (.mv (.tmp 0)), none, []⟩, 
  ⟨(some 7), (.mv (.tmp 1)), none, []⟩, 
  ⟨(some 8), (.call F.internal_stringslite_CutPrefix [(.tmp 6), (.tmp 7)]), none, []⟩, 
  ⟨(some 9), (.ext (.tmp 8) 0), none, []⟩, 
  ⟨(some 10), (.ext (.tmp 8) 1), none, []⟩, 
  ⟨(some 4), (.mv (.tmp 9)), none, []⟩, 
  ⟨(some 5), (.mv (.tmp 10)), none, []⟩] false) .ret))
theorem cf_strings_CutPrefix : cFn Go.Proofs.Tryd.prog F.strings_CutPrefix = some ⟨11, c_strings_CutPrefix, [.t 4, .t 5]⟩ := by kernel_rfl
def g.strings_CutPrefix (p0 : Bytes) (p1 : Bytes) : Option (Bytes × Bool) :=
  (g.internal_stringslite_CutPrefix p0 p1).bind fun r2 =>
  some (r2.1, r2.2)
theorem ok.strings_CutPrefix {Γ : Abs.Spec} {gl : Glob} (hC_internal_stringslite_CutPrefix : CallsX Γ K.internal_stringslite_CutPrefix) {r : (Bytes × Bool)} {p0 : Bytes} {p1 : Bytes} {v : List V}
    (hv : nfL v = [(V.str p0), (V.str p1)]) (hD : g.strings_CutPrefix p0 p1 = some r) : awp Γ gl c_strings_CutPrefix (endQ [.t 4, .t 5] false (V.tup [(V.str r.1), (V.bool r.2)])) (St.init v) := by
  obtain ⟨v0, v, rfl, h0, hv⟩ := nfL_cons hv
  obtain ⟨v1, v, rfl, h1, hv⟩ := nfL_cons hv
  obtain rfl := nfL_nil hv
  have hR : ∀ s, EndsX [.t 4, .t 5] false (V.tup [(V.str r.1), (V.bool r.2)]) s → endQ [.t 4, .t 5] false (V.tup [(V.str r.1), (V.bool r.2)]) .ret s := fun _ h => h
  unfold g.strings_CutPrefix at hD
  unfold c_strings_CutPrefix
  refine x_seq ?_
  refine x_start (b := false) ?_
  refine x_mv' (show _ = (V.str ([] : Bytes)) from rfl) ?_
  refine x_mv' (show _ = (V.bool false) from rfl) ?_
  refine x_done ?_
  refine x_tN ?_
  refine x_seq ?_
  refine x_start (b := false) ?_
  refine x_mv' (nf_str h0) ?_
  refine x_mv' (nf_str h1) ?_
  obtain ⟨r2, hx3, hD⟩ := Option.bind_eq_some_iff.1 hD
  refine x_callF hC_internal_stringslite_CutPrefix (a := (p0, p1)) (cons_eq (nf_of rfl (show _ = (V.str p0) from rfl)) (cons_eq (nf_of rfl (show _ = (V.str p1) from rfl)) rfl)) hx3 fun v1 ov1 (hv1 : v1.nf = (V.tup [(V.str r2.1), (V.bool r2.2)])) hov1 => ?_
  refine x_ext hv1 (show _ = some (V.str r2.1) from rfl) fun v4 hv4 => ?_
  refine x_ext hv1 (show _ = some (V.bool r2.2) from rfl) fun v5 hv5 => ?_
  refine x_mv' (nf_str hv4) ?_
  refine x_mv' (nf_bool hv5) ?_
  refine x_done ?_
  refine x_tN ?_
  refine x_retc ?_
  obtain rfl := Option.some.inj hD
  exact hR _ (ends_tup (rvs_cons (rv_t (nf_of rfl (show _ = (V.str r2.1) from rfl))) (rvs_cons (rv_t (nf_of rfl (show _ = (V.bool r2.2) from rfl))) rvs_nil)) (by decide))
def K.strings_CutPrefix : FC := fc F.strings_CutPrefix (fun _ => true) false (fun (a : (Bytes × Bytes)) => [(V.str a.1), (V.str a.2)]) (fun (y : (Bytes × Bool)) => (V.tup [(V.str y.1), (V.bool y.2)])) (fun a => g.strings_CutPrefix a.1 a.2)
  (fun a => (cleanL_mk rfl (cleanL_mk rfl rfl)))
  (fun y => (cleanL_mk rfl (cleanL_mk rfl rfl)))
  (fun ⟨a0, a1⟩ ⟨b0, b1⟩ h => by
    obtain ⟨h0, h⟩ := List.cons.inj h
    obtain rfl : a0 = b0 := V.str.inj h0
    obtain ⟨h0, h⟩ := List.cons.inj h
    obtain rfl : a1 = b1 := V.str.inj h0
    rfl)
theorem H.strings_CutPrefix (w : World) (hw : EnvOK w) : K.strings_CutPrefix.Holds (cxD w) :=
  FC.holds_of (cs := [K.internal_stringslite_CutPrefix]) (glD w) mixed cf_strings_CutPrefix (fun _ _ ⟨_, _, h, _⟩ => by subst h; exact Nat.le_of_ble_eq_true rfl) fun v y ⟨a, r, hv, hD, hy⟩ => by
    subst hy
    exact ok.strings_CutPrefix (specOf_calls (H.internal_stringslite_CutPrefix w hw) (fun _ _ ⟨_, _, h, _⟩ => by subst h; rfl)) hv hD
def c_path_Under : ACode := (.seq (.region [
  ⟨(some 4), (.mv (.const (.str []))), none, []⟩, 
  ⟨(some 5), (.mv (.const (.bool false))), none, []⟩] false) (.seq (.seq (.region [
  ⟨(some 8), (.mv (.tmp 0)), none, []⟩, 
  ⟨(some 9), (.bin .eql .no (.tmp 8) (.const (.str []))), none, []⟩] false) (.cond (.tmp 9) (.seq (.region [
  ⟨(some 10), (.mv (.tmp 1)), none, []⟩, 
  ⟨(some 11), (.mv (.tmp 1)), none, []⟩, 
  ⟨(some 12), (.bin .neq .no (.tmp 11) (.const (.str []))), none, []⟩, 
  ⟨(some 4), (.mv (.tmp 10)), none, []⟩, 
  ⟨(some 5), (.mv (.tmp 12)), none, []⟩] false) .ret) .skip)) (.seq (.region [
  ⟨(some 14), (.mv (.tmp 1)), none, []⟩, 
  ⟨(some 15), (.mv (.tmp 0)), none, []⟩, 
  ⟨(some 16), (.bin .add .no (.tmp 15) (.const (.str [47]))), none, []⟩, 
  ⟨(some 17), (.call F.strings_CutPrefix [(.tmp 14), (.tmp 16)]), none, []⟩, 
  ⟨(some 13), (.mv (.tmp 17)), none, []⟩, 
  ⟨(some 18), (.ext (.tmp 13) 0), none, []⟩, 
  ⟨(some 19), (.ext (.tmp 13) 1), none, []⟩, 
  ⟨(some 6), (.mv (.tmp 18)), none, []⟩, 
  ⟨(some 7), (.mv (.tmp 19)), none, []⟩] false) (.seq (.region [
  ⟨(some 20), (.mv (.tmp 6)), none, []⟩, 
  ⟨(some 21), (.mv (.tmp 7)), none, []⟩, 
  ⟨(some 22), (.mv (.tmp 21)), none, []⟩, 
  ⟨(some 23), (.mv (.tmp 6)), (some (22, true)), []⟩, 
  ⟨(some 24), (.bin .neq .no (.tmp 23) (.const (.str []))), (some (22, true)), []⟩, 
  ⟨(some 25), (.pick (.tmp 22) (.tmp 24) (.const (.bool false))), none, []⟩, 
  ⟨(some 4), (.mv (.tmp 20)), none, []⟩, 
  ⟨(some 5), (.mv (.tmp 25)), none, []⟩] false) .ret))))
theorem cf_path_Under : cFn Go.Proofs.Tryd.prog F.path_Under = some ⟨26, c_path_Under, [.t 4, .t 5]⟩ := by kernel_rfl
def g.path_Under (p0 : Bytes) (p1 : Bytes) : Option (Bytes × Bool) :=
  if p0 = ([] : Bytes) then
    some (p1, (!(decide (p1 = ([] : Bytes)))))
  else
    (cat p0 ([47] : Bytes)).bind fun z11 =>
    (g.strings_CutPrefix p1 z11).bind fun r14 =>
    if r14.2 = true then
      some (r14.1, (!(decide (r14.1 = ([] : Bytes)))))
    else
      some (r14.1, false)
theorem ok.path_Under {Γ : Abs.Spec} {gl : Glob} (hC_strings_CutPrefix : CallsX Γ K.strings_CutPrefix) {r : (Bytes × Bool)} {p0 : Bytes} {p1 : Bytes} {v : List V}
    (hv : nfL v = [(V.str p0), (V.str p1)]) (hD : g.path_Under p0 p1 = some r) : awp Γ gl c_path_Under (endQ [.t 4, .t 5] false (V.tup [(V.str r.1), (V.bool r.2)])) (St.init v) := by
  obtain ⟨v0, v, rfl, h0, hv⟩ := nfL_cons hv
  obtain ⟨v1, v, rfl, h1, hv⟩ := nfL_cons hv
  obtain rfl := nfL_nil hv
  have hR : ∀ s, EndsX [.t 4, .t 5] false (V.tup [(V.str r.1), (V.bool r.2)]) s → endQ [.t 4, .t 5] false (V.tup [(V.str r.1), (V.bool r.2)]) .ret s := fun _ h => h
  unfold g.path_Under at hD
  unfold c_path_Under
  refine x_seq ?_
  refine x_start (b := false) ?_
  refine x_mv' (show _ = (V.str ([] : Bytes)) from rfl) ?_
  refine x_mv' (show _ = (V.bool false) from rfl) ?_
  refine x_done ?_
  refine x_tN ?_
  refine x_seq ?_
  refine x_seq ?_
  refine x_start (b := false) ?_
  refine x_mv' (nf_str h0) ?_
  refine x_bin (show _ = (V.str p0) from rfl) (show _ = (V.str ([] : Bytes)) from rfl) s_eql ?_
  refine x_done ?_
  refine x_tN ?_
  by_cases hp2 : p0 = ([] : Bytes)
  · rw [if_pos hp2] at hD
    refine x_ct (show _ = (V.bool (decide (p0 = ([] : Bytes)))) from rfl) (decide_eq_true hp2) ?_
    refine x_seq ?_
    refine x_start (b := false) ?_
    refine x_mv' (nf_str h1) ?_
    refine x_mv' (nf_str h1) ?_
    refine x_bin (show _ = (V.str p1) from rfl) (show _ = (V.str ([] : Bytes)) from rfl) s_neq ?_
    refine x_mv' (show _ = (V.str p1) from rfl) ?_
    refine x_mv' (show _ = (V.bool (!(decide (p1 = ([] : Bytes))))) from rfl) ?_
    refine x_done ?_
    refine x_tN ?_
    refine x_retc ?_
    refine x_tR ?_
    obtain rfl := Option.some.inj hD
    exact hR _ (ends_tup (rvs_cons (rv_t (nf_of rfl (show _ = (V.str p1) from rfl))) (rvs_cons (rv_t (nf_of rfl (show _ = (V.bool (!(decide (p1 = ([] : Bytes))))) from rfl))) rvs_nil)) (by decide))
  · rw [if_neg hp2] at hD
    refine x_cf (show _ = (V.bool (decide (p0 = ([] : Bytes)))) from rfl) (decide_eq_false hp2) ?_
    refine x_skip ?_
    refine x_tN ?_
    refine x_seq ?_
    refine x_start (b := false) ?_
    refine x_mv' (nf_str h1) ?_
    refine x_mv' (nf_str h0) ?_
    obtain ⟨z11, hx12, hD⟩ := Option.bind_eq_some_iff.1 hD
    refine x_cat (show _ = (V.str p0) from rfl) (show _ = (V.str ([47] : Bytes)) from rfl) hx12 ?_
    obtain ⟨r14, hx15, hD⟩ := Option.bind_eq_some_iff.1 hD
    refine x_callF hC_strings_CutPrefix (a := (p1, z11)) (cons_eq (nf_of rfl (show _ = (V.str p1) from rfl)) (cons_eq (nf_of rfl (show _ = (V.str z11) from rfl)) rfl)) hx15 fun v13 ov13 (hv13 : v13.nf = (V.tup [(V.str r14.1), (V.bool r14.2)])) hov13 => ?_
    refine x_mv hv13 fun v16 hv16 => ?_
    refine x_ext hv16 (show _ = some (V.str r14.1) from rfl) fun v17 hv17 => ?_
    refine x_ext hv16 (show _ = some (V.bool r14.2) from rfl) fun v18 hv18 => ?_
    refine x_mv' (nf_str hv17) ?_
    refine x_mv' (nf_bool hv18) ?_
    refine x_done ?_
    refine x_tN ?_
    refine x_seq ?_
    refine x_start (b := false) ?_
    refine x_mv' (show _ = (V.str r14.1) from rfl) ?_
    refine x_mv' (show _ = (V.bool r14.2) from rfl) ?_
    refine x_mv' (show _ = (V.bool r14.2) from rfl) ?_
    by_cases hp19 : r14.2 = true
    · rw [if_pos hp19] at hD
      refine x_gy (show _ = (V.bool r14.2) from rfl) hp19 ?_
      refine x_mv' (show _ = (V.str r14.1) from rfl) ?_
      refine x_gy (show _ = (V.bool r14.2) from rfl) hp19 ?_
      refine x_bin (show _ = (V.str r14.1) from rfl) (show _ = (V.str ([] : Bytes)) from rfl) s_neq ?_
      refine x_pickt' (show _ = (V.bool r14.2) from rfl) hp19 (show _ = (V.bool (!(decide (r14.1 = ([] : Bytes))))) from rfl) ?_
      refine x_mv' (show _ = (V.str r14.1) from rfl) ?_
      refine x_mv' (show _ = (V.bool (!(decide (r14.1 = ([] : Bytes))))) from rfl) ?_
      refine x_done ?_
      refine x_tN ?_
      refine x_retc ?_
      obtain rfl := Option.some.inj hD
      exact hR _ (ends_tup (rvs_cons (rv_t (nf_of rfl (show _ = (V.str r14.1) from rfl))) (rvs_cons (rv_t (nf_of rfl (show _ = (V.bool (!(decide (r14.1 = ([] : Bytes))))) from rfl))) rvs_nil)) (by decide))
    · rw [if_neg hp19] at hD
      refine x_gn (show _ = (V.bool r14.2) from rfl) (Bool.eq_false_iff.2 hp19) ?_
      refine x_gn (show _ = (V.bool r14.2) from rfl) (Bool.eq_false_iff.2 hp19) ?_
      refine x_pickf' (show _ = (V.bool r14.2) from rfl) (Bool.eq_false_iff.2 hp19) (show _ = (V.bool false) from rfl) ?_
      refine x_mv' (show _ = (V.str r14.1) from rfl) ?_
      refine x_mv' (show _ = (V.bool false) from rfl) ?_
      refine x_done ?_
      refine x_tN ?_
      refine x_retc ?_
      obtain rfl := Option.some.inj hD
      exact hR _ (ends_tup (rvs_cons (rv_t (nf_of rfl (show _ = (V.str r14.1) from rfl))) (rvs_cons (rv_t (nf_of rfl (show _ = (V.bool false) from rfl))) rvs_nil)) (by decide))
def K.path_Under : FC := fc F.path_Under (fun _ => true) false (fun (a : (Bytes × Bytes)) => [(V.str a.1), (V.str a.2)]) (fun (y : (Bytes × Bool)) => (V.tup [(V.str y.1), (V.bool y.2)])) (fun a => g.path_Under a.1 a.2)
  (fun a => (cleanL_mk rfl (cleanL_mk rfl rfl)))
  (fun y => (cleanL_mk rfl (cleanL_mk rfl rfl)))
  (fun ⟨a0, a1⟩ ⟨b0, b1⟩ h => by
    obtain ⟨h0, h⟩ := List.cons.inj h
    obtain rfl : a0 = b0 := V.str.inj h0
    obtain ⟨h0, h⟩ := List.cons.inj h
    obtain rfl : a1 = b1 := V.str.inj h0
    rfl)
theorem H.path_Under (w : World) (hw : EnvOK w) : K.path_Under.Holds (cxD w) :=
  FC.holds_of (cs := [K.strings_CutPrefix]) (glD w) mixed cf_path_Under (fun _ _ ⟨_, _, h, _⟩ => by subst h; exact Nat.le_of_ble_eq_true rfl) fun v y ⟨a, r, hv, hD, hy⟩ => by
    subst hy
    exact ok.path_Under (specOf_calls (H.strings_CutPrefix w hw) (fun _ _ ⟨_, _, h, _⟩ => by subst h; rfl)) hv hD
def c_path_From_l1 : ACode := (.seq (.region [
  ⟨(some 16), (.bin .lss .no (.tmp 15) (.tmp 14)), none, []⟩] false) (.seq (.cond (.tmp 16) .skip (.exit 0)) (.seq (.block 1 (.seq (.region [
  ⟨(some 17), (.iaddr 1 (.tmp 13) (.tmp 15)), none, []⟩, 
  ⟨(some 18), (.load none (.tmp 17)), none, []⟩, 
  ⟨(some 8), (.mv (.tmp 18)), none, []⟩] false) (.block 2 (.seq (.region [
  ⟨(some 29), (.mv (.tmp 8)), none, []⟩, 
  ⟨(some 30), (.bin .eql .no (.tmp 29) (.const (.str []))), none, []⟩, 
  ⟨(some 31), (.mv (.tmp 30)), none, []⟩, 
  ⟨(some 32), (.mv (.tmp 8)), (some (31, false)), []⟩, 
  ⟨(some 33), (.bin .eql .no (.tmp 32) (.const (.str [46]))), (some (31, false)), []⟩, 
  ⟨(some 34), (.pick (.tmp 31) (.const (.bool true)) (.tmp 33)), none, []⟩, 
  ⟨(some 28), (.mv (.tmp 34)), none, []⟩] false) (.cond (.tmp 28) .skip (.seq (.region [
  ⟨(some 36), (.mv (.tmp 8)), none, []⟩, 
  ⟨(some 37), (.bin .eql .no (.tmp 36) (.const (.str [46, 46]))), none, []⟩, 
  ⟨(some 35), (.mv (.tmp 37)), none, []⟩] false) (.cond (.tmp 35) (.seq (.seq (.region [
  ⟨(some 38), (.mv (.tmp 6)), none, []⟩, 
  ⟨(some 39), (.len false (.tmp 38)), none, []⟩, 
  ⟨(some 40), (.bin .eql .no (.tmp 39) (.const (.int .i64 0))), none, []⟩] false) (.cond (.tmp 40) (.seq (.region [
  ⟨(some 4), (.mv (.const (.str []))), none, []⟩, 
  ⟨(some 5), (.mv (.const (.bool false))), none, []⟩] false) .ret) .skip)) (.region [
  ⟨(some 41), (.mv (.tmp 6)), none, []⟩, 
  ⟨(some 42), (.mv (.tmp 6)), none, []⟩, 
  ⟨(some 43), (.len false (.tmp 42)), none, []⟩, 
  ⟨(some 44), (.bin .sub .no (.tmp 43) (.const (.int .i64 1))), none, []⟩, 
  ⟨(some 45), (.slc 1 (.tmp 41) none (some (.tmp 44)) none), none, []⟩, 
  ⟨(some 6), (.mvo 45), none, []⟩] false)) (.seq (.region [
  ⟨(some 47), (.mv (.tmp 8)), none, []⟩, 
  ⟨(some 48), (.call F.path_part [(.tmp 47)]), none, []⟩, 
  ⟨(some 49), (.un .not (.tmp 48)), none, []⟩, 
  ⟨(some 46), (.mv (.tmp 49)), none, []⟩] false) (.cond (.tmp 46) (.seq (.region [
  ⟨(some 4), (.mv (.const (.str []))), none, []⟩, 
  ⟨(some 5), (.mv (.const (.bool false))), none, []⟩] false) .ret) (.region [
  ⟨(some 19), (.mv (.tmp 6)), none, []⟩, 
  ⟨(some 20), (.mv (.tmp 6)), none, []⟩, 
  ⟨(some 21), (.len false (.tmp 20)), none, []⟩, 
  ⟨(some 22), (.mv (.tmp 6)), none, []⟩, 
  ⟨(some 23), (.len false (.tmp 22)), none, []⟩, 
  ⟨(some 24), (.slc 1 (.tmp 19) none (some (.tmp 21)) (some (.tmp 23))), none, []⟩, 
  ⟨(some 25), (.mv (.tmp 8)), none, []⟩, 
  ⟨(some 26), (.bsl 1 [(.tmp 25)]), none, []⟩, 
  ⟨(some 27), (.app 1 (.tmp 24) (.tmp 26)), none, []⟩, 
  ⟨(some 6), (.mvo 27), none, []⟩] false)))))))))) (.region [
  ⟨(some 50), (.bin .add .no (.tmp 15) (.const (.int .i64 1))), none, []⟩, 
  ⟨(some 15), (.mv (.tmp 50)), none, []⟩] false))))
def c_path_From : ACode := (.seq (.region [
  ⟨(some 4), (.mv (.const (.str []))), none, []⟩, 
  ⟨(some 5), (.mv (.const (.bool false))), none, []⟩] false) (.seq (.region [
  ⟨(some 10), (.mv (.tmp 0)), none, []⟩, 
  ⟨(some 11), (.call F.path_Split [(.tmp 10)]), none, []⟩, 
  ⟨(some 6), (.mvo 11), none, []⟩] false) (.seq (.seq (.region [
  ⟨(some 12), (.mv (.tmp 1)), none, []⟩, 
  ⟨(some 13), (.call F.strings_Split [(.tmp 12), (.const (.str [47]))]), none, []⟩, 
  ⟨(some 14), (.len false (.tmp 13)), none, []⟩, 
  ⟨(some 15), (.mv (.const (.int .i64 0))), none, []⟩] false) (.block 0 (.loop c_path_From_l1))) (.seq (.region [
  ⟨(some 51), (.mv (.tmp 6)), none, []⟩, 
  ⟨(some 52), (.call F.path_Join [(.tmp 51)]), none, []⟩, 
  ⟨(some 9), (.mv (.tmp 52)), none, []⟩] false) (.seq (.region [
  ⟨(some 53), (.mv (.tmp 9)), none, []⟩, 
  ⟨(some 54), (.mv (.tmp 9)), none, []⟩, 
  ⟨(some 55), (.bin .eql .no (.tmp 54) (.const (.str []))), none, []⟩, 
  ⟨(some 56), (.mv (.tmp 55)), none, []⟩, 
  ⟨(some 57), (.mv (.tmp 9)), (some (56, false)), []⟩, 
  ⟨(some 58), (.call F.path_Good [(.tmp 57)]), (some (56, false)), []⟩, 
  ⟨(some 59), (.pick (.tmp 56) (.const (.bool true)) (.tmp 58)), none, []⟩, 
  ⟨(some 4), (.mv (.tmp 53)), none, []⟩, 
  ⟨(some 5), (.mv (.tmp 59)), none, []⟩] false) .ret)))))
theorem cf_path_From : cFn Go.Proofs.Tryd.prog F.path_From = some ⟨60, c_path_From, [.t 4, .t 5]⟩ := by kernel_rfl
def L.path_From_l1 (k0 : (List Bytes) → Option (Bytes × Bool)) : List Bytes → (List Bytes) → Option (Bytes × Bool)
  | [], t6_200 =>
    k0 t6_200
  | a203 :: rest, t6_200 =>
    if a203 = ([] : Bytes) then
      L.path_From_l1 k0 rest t6_200
    else
      if a203 = ([46] : Bytes) then
        L.path_From_l1 k0 rest t6_200
      else
        if a203 = ([46, 46] : Bytes) then
          if ((t6_200.length : Nat) : Int) = 0 then
            some (([] : Bytes), false)
          else
            (cut t6_200 0 (wi (((t6_200.length : Nat) : Int) - 1))).bind fun q220 =>
            L.path_From_l1 k0 rest q220
        else
          (g.path_part a203).bind fun r228 =>
          if r228 = true then
            (cut t6_200 0 ((t6_200.length : Nat) : Int)).bind fun q234 =>
            (appL q234 ([a203] : (List Bytes))).bind fun l238 =>
            L.path_From_l1 k0 rest l238
          else
            some (([] : Bytes), false)
theorem ok.path_From_l1 {Γ : Abs.Spec} {gl : Glob} (hC_path_Split : CallsX Γ K.path_Split) (hC_strings_Split : CallsX Γ K.strings_Split) (hC_path_part : CallsX Γ K.path_part) (hC_path_Join : CallsX Γ K.path_Join) (hC_path_Good : CallsX Γ K.path_Good) {Q : Ex → St → Prop} {r : (Bytes × Bool)} {l111 : List Bytes} {k0 : (List Bytes) → Option (Bytes × Bool)}
    (hk0 : ∀ (s : St) (t6_245 : (List Bytes)), ((s.tm 6).nf = (V.sl false 1 (List.map V.str t6_245))) → k0 t6_245 = some r → Q (.exit 0) s)
    (hR : ∀ s, EndsX [.t 4, .t 5] false (V.tup [(V.str r.1), (V.bool r.2)]) s → Q .ret s)
    (hlen : l111.length ≤ Lim) : ∀ (rest : List Bytes) (k112 : Nat) (s : St) (t6_200 : (List Bytes)), l111.drop k112 = rest → k112 ≤ l111.length →
    ((s.tm 13).nf = V.sl false 1 (List.map V.str l111)) → (s.tm 14 = V.int .i64 ((l111.length : Nat) : Int)) → (s.tm 15 = V.int .i64 ((k112 : Nat) : Int)) → ((s.tm 6).nf = (V.sl false 1 (List.map V.str t6_200))) →
    L.path_From_l1 k0 rest t6_200 = some r → awp Γ gl (.loop c_path_From_l1) Q s := by
  intro rest
  induction rest with
  | nil =>
    intro k112 s t6_200 hdrop hkl hX hN hI h199 hD
    have hkz := drop_nil hdrop hkl
    have hp0 : ¬ (((k112 : Nat) : Int) < ((l111.length : Nat) : Int)) := by omega
    refine awp_roundK fun K hK => ?_
    rw [L.path_From_l1] at hD
    refine x_seq ?_
    refine x_start (b := false) ?_
    refine x_bin hI hN b_lss ?_
    refine x_done ?_
    refine x_tN ?_
    refine x_seq ?_
    refine x_cf (show _ = (V.bool (decide (((k112 : Nat) : Int) < ((l111.length : Nat) : Int)))) from rfl) (decide_eq_false hp0) ?_
    refine x_exitc ?_
    refine x_tE ?_
    refine x_tE ?_
    refine hk0 _ _ ?_ hD
    · exact h199
  | cons a203 rest ih =>
    intro k112 s t6_200 hdrop hkl hX hN hI h199 hD
    obtain ⟨hlt, -, hget, hdrop1, -⟩ := drop_cons hdrop
    have hp1 : ((k112 : Nat) : Int) < ((l111.length : Nat) : Int) := by omega
    have hwk := wi_succ (k := k112) (by unfold Lim at hlen; omega)
    refine awp_roundK fun K hK => ?_
    rw [L.path_From_l1] at hD
    refine x_seq ?_
    refine x_start (b := false) ?_
    refine x_bin hI hN b_lss ?_
    refine x_done ?_
    refine x_tN ?_
    refine x_seq ?_
    refine x_ct (show _ = (V.bool (decide (((k112 : Nat) : Int) < ((l111.length : Nat) : Int)))) from rfl) (decide_eq_true hp1) ?_
    refine x_skip ?_
    refine x_tN ?_
    refine x_seq ?_
    refine x_block ?_
    refine x_seq ?_
    refine x_start (b := false) ?_
    refine x_iaddr hX hI (at_k hget) fun v206 (hv206 : v206.nf = V.el [(V.str a203)] 0) => ?_
    refine x_load_el hv206 (show _ = some (V.str a203) from rfl) fun v207 hv207 => ?_
    refine x_mv' (nf_str hv207) ?_
    refine x_done ?_
    refine x_tN ?_
    refine x_block ?_
    refine x_seq ?_
    refine x_start (b := false) ?_
    refine x_mv' (show _ = (V.str a203) from rfl) ?_
    refine x_bin (show _ = (V.str a203) from rfl) (show _ = (V.str ([] : Bytes)) from rfl) s_eql ?_
    refine x_mv' (show _ = (V.bool (decide (a203 = ([] : Bytes)))) from rfl) ?_
    by_cases hp209 : a203 = ([] : Bytes)
    · rw [if_pos hp209] at hD
      refine x_gn (show _ = (V.bool (decide (a203 = ([] : Bytes)))) from rfl) (decide_eq_true hp209) ?_
      refine x_gn (show _ = (V.bool (decide (a203 = ([] : Bytes)))) from rfl) (decide_eq_true hp209) ?_
      refine x_pickt' (show _ = (V.bool (decide (a203 = ([] : Bytes)))) from rfl) (decide_eq_true hp209) (show _ = (V.bool true) from rfl) ?_
      refine x_mv' (show _ = (V.bool true) from rfl) ?_
      refine x_done ?_
      refine x_tN ?_
      refine x_ct (show _ = (V.bool true) from rfl) rfl ?_
      refine x_skip ?_
      refine x_bN ?_
      refine x_bN ?_
      refine x_tN ?_
      refine x_start (b := false) ?_
      refine x_bin hI (show _ = (V.int .i64 1) from rfl) b_add ?_
      refine x_mv' (show _ = (V.int .i64 (wi (((k112 : Nat) : Int) + 1))) from rfl) ?_
      refine x_done ?_
      refine x_tN ?_
      refine hK _ ?_
      refine ih (k112 + 1) _ _ hdrop1 hlt ?_ ?_ ?_ ?_ hD
      · exact hX
      · exact hN
      · exact (Eq.trans (show _ = (V.int .i64 (wi (((k112 : Nat) : Int) + 1))) from rfl) (congrArg (V.int .i64) hwk))
      · exact h199
    · rw [if_neg hp209] at hD
      refine x_gy (show _ = (V.bool (decide (a203 = ([] : Bytes)))) from rfl) (decide_eq_false hp209) ?_
      refine x_mv' (show _ = (V.str a203) from rfl) ?_
      refine x_gy (show _ = (V.bool (decide (a203 = ([] : Bytes)))) from rfl) (decide_eq_false hp209) ?_
      refine x_bin (show _ = (V.str a203) from rfl) (show _ = (V.str ([46] : Bytes)) from rfl) s_eql ?_
      refine x_pickf' (show _ = (V.bool (decide (a203 = ([] : Bytes)))) from rfl) (decide_eq_false hp209) (show _ = (V.bool (decide (a203 = ([46] : Bytes)))) from rfl) ?_
      refine x_mv' (show _ = (V.bool (decide (a203 = ([46] : Bytes)))) from rfl) ?_
      refine x_done ?_
      refine x_tN ?_
      by_cases hp210 : a203 = ([46] : Bytes)
      · rw [if_pos hp210] at hD
        refine x_ct (show _ = (V.bool (decide (a203 = ([46] : Bytes)))) from rfl) (decide_eq_true hp210) ?_
        refine x_skip ?_
        refine x_bN ?_
        refine x_bN ?_
        refine x_tN ?_
        refine x_start (b := false) ?_
        refine x_bin hI (show _ = (V.int .i64 1) from rfl) b_add ?_
        refine x_mv' (show _ = (V.int .i64 (wi (((k112 : Nat) : Int) + 1))) from rfl) ?_
        refine x_done ?_
        refine x_tN ?_
        refine hK _ ?_
        refine ih (k112 + 1) _ _ hdrop1 hlt ?_ ?_ ?_ ?_ hD
        · exact hX
        · exact hN
        · exact (Eq.trans (show _ = (V.int .i64 (wi (((k112 : Nat) : Int) + 1))) from rfl) (congrArg (V.int .i64) hwk))
        · exact h199
      · rw [if_neg hp210] at hD
        refine x_cf (show _ = (V.bool (decide (a203 = ([46] : Bytes)))) from rfl) (decide_eq_false hp210) ?_
        refine x_seq ?_
        refine x_start (b := false) ?_
        refine x_mv' (show _ = (V.str a203) from rfl) ?_
        refine x_bin (show _ = (V.str a203) from rfl) (show _ = (V.str ([46, 46] : Bytes)) from rfl) s_eql ?_
        refine x_mv' (show _ = (V.bool (decide (a203 = ([46, 46] : Bytes)))) from rfl) ?_
        refine x_done ?_
        refine x_tN ?_
        by_cases hp211 : a203 = ([46, 46] : Bytes)
        · rw [if_pos hp211] at hD
          refine x_ct (show _ = (V.bool (decide (a203 = ([46, 46] : Bytes)))) from rfl) (decide_eq_true hp211) ?_
          refine x_seq ?_
          refine x_seq ?_
          refine x_start (b := false) ?_
          refine x_mv h199 fun v216 hv216 => ?_
          refine x_len hv216 ?_
          refine x_bin (show _ = (V.int .i64 ((t6_200.length : Nat) : Int)) from rfl) (show _ = (V.int .i64 0) from rfl) b_eql ?_
          refine x_done ?_
          refine x_tN ?_
          by_cases hp217 : ((t6_200.length : Nat) : Int) = 0
          · rw [if_pos hp217] at hD
            refine x_ct (show _ = (V.bool (decide (((t6_200.length : Nat) : Int) = 0))) from rfl) (decide_eq_true hp217) ?_
            refine x_seq ?_
            refine x_start (b := false) ?_
            refine x_mv' (show _ = (V.str ([] : Bytes)) from rfl) ?_
            refine x_mv' (show _ = (V.bool false) from rfl) ?_
            refine x_done ?_
            refine x_tN ?_
            refine x_retc ?_
            refine x_tR ?_
            refine x_bR ?_
            refine x_bR ?_
            refine x_tR ?_
            refine x_tR ?_
            obtain rfl := Option.some.inj hD
            exact hR _ (ends_tup (rvs_cons (rv_t (nf_of rfl (show _ = (V.str ([] : Bytes)) from rfl))) (rvs_cons (rv_t (nf_of rfl (show _ = (V.bool false) from rfl))) rvs_nil)) (by decide))
          · rw [if_neg hp217] at hD
            refine x_cf (show _ = (V.bool (decide (((t6_200.length : Nat) : Int) = 0))) from rfl) (decide_eq_false hp217) ?_
            refine x_skip ?_
            refine x_tN ?_
            refine x_start (b := false) ?_
            refine x_mv h199 fun v218 hv218 => ?_
            refine x_mv h199 fun v219 hv219 => ?_
            refine x_len hv219 ?_
            refine x_bin (show _ = (V.int .i64 ((t6_200.length : Nat) : Int)) from rfl) (show _ = (V.int .i64 1) from rfl) b_sub ?_
            obtain ⟨q220, hx221, hD⟩ := Option.bind_eq_some_iff.1 hD
            refine x_slc (ka := .i64) (kb := .i64) hv218 (Eq.refl (0 : Int)) (show _ = (V.int .i64 (wi (((t6_200.length : Nat) : Int) - 1))) from rfl) hx221 fun v222 hv222 => ?_
            refine x_mvo hv222 fun v223 ov223 hv223 hwv223 => ?_
            refine x_done ?_
            refine x_bN ?_
            refine x_bN ?_
            refine x_tN ?_
            refine x_start (b := false) ?_
            refine x_bin hI (show _ = (V.int .i64 1) from rfl) b_add ?_
            refine x_mv' (show _ = (V.int .i64 (wi (((k112 : Nat) : Int) + 1))) from rfl) ?_
            refine x_done ?_
            refine x_tN ?_
            refine hK _ ?_
            refine ih (k112 + 1) _ _ hdrop1 hlt ?_ ?_ ?_ ?_ hD
            · exact hX
            · exact hN
            · exact (Eq.trans (show _ = (V.int .i64 (wi (((k112 : Nat) : Int) + 1))) from rfl) (congrArg (V.int .i64) hwk))
            · exact hv223
        · rw [if_neg hp211] at hD
          refine x_cf (show _ = (V.bool (decide (a203 = ([46, 46] : Bytes)))) from rfl) (decide_eq_false hp211) ?_
          refine x_seq ?_
          refine x_start (b := false) ?_
          refine x_mv' (show _ = (V.str a203) from rfl) ?_
          obtain ⟨r228, hx229, hD⟩ := Option.bind_eq_some_iff.1 hD
          refine x_callF hC_path_part (a := (a203)) (cons_eq (nf_of rfl (show _ = (V.str a203) from rfl)) rfl) hx229 fun v227 ov227 (hv227 : v227.nf = (V.bool r228)) hov227 => ?_
          refine x_un (nf_bool hv227) (aun_not _) ?_
          refine x_mv' (show _ = (V.bool (!r228)) from rfl) ?_
          refine x_done ?_
          refine x_tN ?_
          by_cases hp230 : r228 = true
          · rw [if_pos hp230] at hD
            refine x_cf (show _ = (V.bool (!r228)) from rfl) (bnot_t hp230) ?_
            refine x_start (b := false) ?_
            refine x_mv h199 fun v231 hv231 => ?_
            refine x_mv h199 fun v232 hv232 => ?_
            refine x_len hv232 ?_
            refine x_mv h199 fun v233 hv233 => ?_
            refine x_len hv233 ?_
            obtain ⟨q234, hx235, hD⟩ := Option.bind_eq_some_iff.1 hD
            refine x_slc3 (ka := .i64) hv231 (Eq.refl (0 : Int)) (show _ = (V.int .i64 ((t6_200.length : Nat) : Int)) from rfl) (show _ = (V.int .i64 ((t6_200.length : Nat) : Int)) from rfl) hx235 fun v236 ov236 hv236 hov236 => ?_
            refine x_mv' (show _ = (V.str a203) from rfl) ?_
            refine x_bsl (E := V.str) (l := ([a203] : (List Bytes))) (cons_eq (nf_of rfl (show _ = (V.str a203) from rfl)) rfl) (fits_map (E := V.str) (sz := 1) (fun x => ⟨rfl, rfl⟩) _) fun v237 ov237 hv237 hov237 => ?_
            obtain ⟨l238, hx239, hD⟩ := Option.bind_eq_some_iff.1 hD
            refine x_app hv236 hov236 (tail_sl hv237) hx239 fun v240 ov240 fv240 hv240 hov240 hfv240 => ?_
            refine x_mvo hv240 fun v241 ov241 hv241 hwv241 => ?_
            refine x_done ?_
            refine x_bN ?_
            refine x_bN ?_
            refine x_tN ?_
            refine x_start (b := false) ?_
            refine x_bin hI (show _ = (V.int .i64 1) from rfl) b_add ?_
            refine x_mv' (show _ = (V.int .i64 (wi (((k112 : Nat) : Int) + 1))) from rfl) ?_
            refine x_done ?_
            refine x_tN ?_
            refine hK _ ?_
            refine ih (k112 + 1) _ _ hdrop1 hlt ?_ ?_ ?_ ?_ hD
            · exact hX
            · exact hN
            · exact (Eq.trans (show _ = (V.int .i64 (wi (((k112 : Nat) : Int) + 1))) from rfl) (congrArg (V.int .i64) hwk))
            · exact hv241
          · rw [if_neg hp230] at hD
            refine x_ct (show _ = (V.bool (!r228)) from rfl) (bnot_f (Bool.eq_false_iff.2 hp230)) ?_
            refine x_seq ?_
            refine x_start (b := false) ?_
            refine x_mv' (show _ = (V.str ([] : Bytes)) from rfl) ?_
            refine x_mv' (show _ = (V.bool false) from rfl) ?_
            refine x_done ?_
            refine x_tN ?_
            refine x_retc ?_
            refine x_bR ?_
            refine x_bR ?_
            refine x_tR ?_
            refine x_tR ?_
            obtain rfl := Option.some.inj hD
            exact hR _ (ends_tup (rvs_cons (rv_t (nf_of rfl (show _ = (V.str ([] : Bytes)) from rfl))) (rvs_cons (rv_t (nf_of rfl (show _ = (V.bool false) from rfl))) rvs_nil)) (by decide))
def g.path_From (p0 : Bytes) (p1 : Bytes) : Option (Bytes × Bool) :=
  (g.path_Split p0).bind fun r6 =>
  (g.strings_Split p1 ([47] : Bytes)).bind fun r109 =>
  if r109.length ≤ Lim then L.path_From_l1 (fun (t6_247 : (List Bytes)) => (g.path_Join t6_247).bind fun r254 =>
  if r254 = ([] : Bytes) then
    some (r254, true)
  else
    (g.path_Good r254).bind fun r258 =>
    some (r254, r258)) r109 r6 else none
theorem ok.path_From {Γ : Abs.Spec} {gl : Glob} (hC_path_Split : CallsX Γ K.path_Split) (hC_strings_Split : CallsX Γ K.strings_Split) (hC_path_part : CallsX Γ K.path_part) (hC_path_Join : CallsX Γ K.path_Join) (hC_path_Good : CallsX Γ K.path_Good) {r : (Bytes × Bool)} {p0 : Bytes} {p1 : Bytes} {v : List V}
    (hv : nfL v = [(V.str p0), (V.str p1)]) (hD : g.path_From p0 p1 = some r) : awp Γ gl c_path_From (endQ [.t 4, .t 5] false (V.tup [(V.str r.1), (V.bool r.2)])) (St.init v) := by
  obtain ⟨v0, v, rfl, h0, hv⟩ := nfL_cons hv
  obtain ⟨v1, v, rfl, h1, hv⟩ := nfL_cons hv
  obtain rfl := nfL_nil hv
  have hR : ∀ s, EndsX [.t 4, .t 5] false (V.tup [(V.str r.1), (V.bool r.2)]) s → endQ [.t 4, .t 5] false (V.tup [(V.str r.1), (V.bool r.2)]) .ret s := fun _ h => h
  unfold g.path_From at hD
  unfold c_path_From
  refine x_seq ?_
  refine x_start (b := false) ?_
  refine x_mv' (show _ = (V.str ([] : Bytes)) from rfl) ?_
  refine x_mv' (show _ = (V.bool false) from rfl) ?_
  refine x_done ?_
  refine x_tN ?_
  refine x_seq ?_
  refine x_start (b := false) ?_
  refine x_mv' (nf_str h0) ?_
  obtain ⟨r6, hx7, hD⟩ := Option.bind_eq_some_iff.1 hD
  refine x_callF hC_path_Split (a := (p0)) (cons_eq (nf_of rfl (show _ = (V.str p0) from rfl)) rfl) hx7 fun v5 ov5 (hv5 : v5.nf = (V.sl false 1 (List.map V.str r6))) hov5 => ?_
  refine x_mvo hv5 fun v8 ov8 hv8 hwv8 => ?_
  refine x_done ?_
  refine x_tN ?_
  refine x_seq ?_
  refine x_seq ?_
  refine x_start (b := false) ?_
  refine x_mv' (nf_str h1) ?_
  obtain ⟨r109, hx110, hD⟩ := Option.bind_eq_some_iff.1 hD
  refine x_callF hC_strings_Split (a := (p1, ([47] : Bytes))) (cons_eq (nf_of rfl (show _ = (V.str p1) from rfl)) (cons_eq (nf_of rfl (show _ = (V.str ([47] : Bytes)) from rfl)) rfl)) hx110 fun v108 ov108 (hv108 : v108.nf = (V.sl false 1 (List.map V.str r109))) hov108 => ?_
  refine x_len hv108 ?_
  refine x_mv' (show _ = (V.int .i64 0) from rfl) ?_
  refine x_done ?_
  refine x_tN ?_
  refine x_block ?_
  by_cases hlen261 : r109.length ≤ Lim
  · rw [if_pos hlen261] at hD
    refine ok.path_From_l1 (l111 := r109) hC_path_Split hC_strings_Split hC_path_part hC_path_Join hC_path_Good (fun s260 t6_247 h246 hD => ?_) (fun _ hE => ?_) hlen261 _ 0 _ _ rfl (Nat.zero_le _) ?_ ?_ ?_ ?_ hD
    · refine x_bE ?_
      refine x_tN ?_
      refine x_seq ?_
      refine x_start (b := false) ?_
      refine x_mv h246 fun v252 hv252 => ?_
      obtain ⟨r254, hx255, hD⟩ := Option.bind_eq_some_iff.1 hD
      refine x_callF hC_path_Join (a := (t6_247)) (cons_eq hv252 rfl) hx255 fun v253 ov253 (hv253 : v253.nf = (V.str r254)) hov253 => ?_
      refine x_mv' (nf_str hv253) ?_
      refine x_done ?_
      refine x_tN ?_
      refine x_seq ?_
      refine x_start (b := false) ?_
      refine x_mv' (show _ = (V.str r254) from rfl) ?_
      refine x_mv' (show _ = (V.str r254) from rfl) ?_
      refine x_bin (show _ = (V.str r254) from rfl) (show _ = (V.str ([] : Bytes)) from rfl) s_eql ?_
      refine x_mv' (show _ = (V.bool (decide (r254 = ([] : Bytes)))) from rfl) ?_
      by_cases hp256 : r254 = ([] : Bytes)
      · rw [if_pos hp256] at hD
        refine x_gn (show _ = (V.bool (decide (r254 = ([] : Bytes)))) from rfl) (decide_eq_true hp256) ?_
        refine x_gn (show _ = (V.bool (decide (r254 = ([] : Bytes)))) from rfl) (decide_eq_true hp256) ?_
        refine x_pickt' (show _ = (V.bool (decide (r254 = ([] : Bytes)))) from rfl) (decide_eq_true hp256) (show _ = (V.bool true) from rfl) ?_
        refine x_mv' (show _ = (V.str r254) from rfl) ?_
        refine x_mv' (show _ = (V.bool true) from rfl) ?_
        refine x_done ?_
        refine x_tN ?_
        refine x_retc ?_
        obtain rfl := Option.some.inj hD
        exact hR _ (ends_tup (rvs_cons (rv_t (nf_of rfl (show _ = (V.str r254) from rfl))) (rvs_cons (rv_t (nf_of rfl (show _ = (V.bool true) from rfl))) rvs_nil)) (by decide))
      · rw [if_neg hp256] at hD
        refine x_gy (show _ = (V.bool (decide (r254 = ([] : Bytes)))) from rfl) (decide_eq_false hp256) ?_
        refine x_mv' (show _ = (V.str r254) from rfl) ?_
        refine x_gy (show _ = (V.bool (decide (r254 = ([] : Bytes)))) from rfl) (decide_eq_false hp256) ?_
        obtain ⟨r258, hx259, hD⟩ := Option.bind_eq_some_iff.1 hD
        refine x_callF hC_path_Good (a := (r254)) (cons_eq (nf_of rfl (show _ = (V.str r254) from rfl)) rfl) hx259 fun v257 ov257 (hv257 : v257.nf = (V.bool r258)) hov257 => ?_
        refine x_pickf' (show _ = (V.bool (decide (r254 = ([] : Bytes)))) from rfl) (decide_eq_false hp256) (nf_bool hv257) ?_
        refine x_mv' (show _ = (V.str r254) from rfl) ?_
        refine x_mv' (show _ = (V.bool r258) from rfl) ?_
        refine x_done ?_
        refine x_tN ?_
        refine x_retc ?_
        obtain rfl := Option.some.inj hD
        exact hR _ (ends_tup (rvs_cons (rv_t (nf_of rfl (show _ = (V.str r254) from rfl))) (rvs_cons (rv_t (nf_of rfl (show _ = (V.bool r258) from rfl))) rvs_nil)) (by decide))
    · refine x_bR ?_; refine x_tR ?_; exact hR _ hE
    · exact hv108
    · exact (show _ = (V.int .i64 ((r109.length : Nat) : Int)) from rfl)
    · exact (show _ = (V.int .i64 0) from rfl)
    · exact hv8
  · rw [if_neg hlen261] at hD; cases hD
def K.path_From : FC := fc F.path_From (fun _ => true) false (fun (a : (Bytes × Bytes)) => [(V.str a.1), (V.str a.2)]) (fun (y : (Bytes × Bool)) => (V.tup [(V.str y.1), (V.bool y.2)])) (fun a => g.path_From a.1 a.2)
  (fun a => (cleanL_mk rfl (cleanL_mk rfl rfl)))
  (fun y => (cleanL_mk rfl (cleanL_mk rfl rfl)))
  (fun ⟨a0, a1⟩ ⟨b0, b1⟩ h => by
    obtain ⟨h0, h⟩ := List.cons.inj h
    obtain rfl : a0 = b0 := V.str.inj h0
    obtain ⟨h0, h⟩ := List.cons.inj h
    obtain rfl : a1 = b1 := V.str.inj h0
    rfl)
theorem H.path_From (w : World) (hw : EnvOK w) : K.path_From.Holds (cxD w) :=
  FC.holds_of (cs := [K.path_Split, K.strings_Split, K.path_part, K.path_Join, K.path_Good]) (glD w) mixed cf_path_From (fun _ _ ⟨_, _, h, _⟩ => by subst h; exact Nat.le_of_ble_eq_true rfl) fun v y ⟨a, r, hv, hD, hy⟩ => by
    subst hy
    exact ok.path_From (specOf_calls (H.path_Split w hw) (fun _ _ ⟨_, _, h, _⟩ => by subst h; rfl)) (specOf_calls (H.strings_Split w hw) (fun _ _ ⟨_, _, h, _⟩ => by subst h; rfl)) (specOf_calls (H.path_part w hw) (fun _ _ ⟨_, _, h, _⟩ => by subst h; rfl)) (specOf_calls (H.path_Join w hw) (fun _ _ ⟨_, _, h, _⟩ => by subst h; rfl)) (specOf_calls (H.path_Good w hw) (fun _ _ ⟨_, _, h, _⟩ => by subst h; rfl)) hv hD
def c_seicheref01_Same_l1 : ACode := (.seq (.region [
  ⟨(some 14), (.bin .lss .no (.tmp 13) (.tmp 12)), none, []⟩] false) (.seq (.cond (.tmp 14) .skip (.exit 0)) (.seq (.block 1 (.seq (.region [
  ⟨(some 15), (.mv (.tmp 13)), none, []⟩, 
  ⟨(some 5), (.mv (.tmp 15)), none, []⟩] false) (.seq (.region [
  ⟨(some 16), (.mv (.tmp 0)), none, []⟩, 
  ⟨(some 17), (.mv (.tmp 5)), none, []⟩, 
  ⟨(some 18), (.iaddr 1 (.tmp 16) (.tmp 17)), none, []⟩, 
  ⟨(some 19), (.load none (.tmp 18)), none, []⟩, 
  ⟨(some 20), (.mv (.tmp 1)), none, []⟩, 
  ⟨(some 21), (.mv (.tmp 5)), none, []⟩, 
  ⟨(some 22), (.iaddr 1 (.tmp 20) (.tmp 21)), none, []⟩, 
  ⟨(some 23), (.load none (.tmp 22)), none, []⟩, 
  ⟨(some 24), (.bin .neq .no (.tmp 19) (.tmp 23)), none, []⟩] true) (.cond (.tmp 24) (.seq (.region [
  ⟨(some 4), (.mv (.const (.bool false))), none, []⟩] false) .ret) .skip)))) (.region [
  ⟨(some 25), (.bin .add .no (.tmp 13) (.const (.int .i64 1))), none, []⟩, 
  ⟨(some 13), (.mv (.tmp 25)), none, []⟩] false))))
def c_seicheref01_Same : ACode := (.seq (.region [
  ⟨(some 4), (.mv (.const (.bool false))), none, []⟩] false) (.seq (.seq (.region [
  ⟨(some 6), (.mv (.tmp 0)), none, []⟩, 
  ⟨(some 7), (.len false (.tmp 6)), none, []⟩, 
  ⟨(some 8), (.mv (.tmp 1)), none, []⟩, 
  ⟨(some 9), (.len false (.tmp 8)), none, []⟩, 
  ⟨(some 10), (.bin .neq .no (.tmp 7) (.tmp 9)), none, []⟩] false) (.cond (.tmp 10) (.seq (.region [
  ⟨(some 4), (.mv (.const (.bool false))), none, []⟩] false) .ret) .skip)) (.seq (.seq (.region [
  ⟨(some 11), (.mv (.tmp 0)), none, []⟩, 
  ⟨(some 12), (.len false (.tmp 11)), none, []⟩, 
  ⟨(some 13), (.mv (.const (.int .i64 0))), none, []⟩] false) (.block 0 (.loop c_seicheref01_Same_l1))) (.seq (.region [
  ⟨(some 4), (.mv (.const (.bool true))), none, []⟩] false) .ret))))
theorem cf_seicheref01_Same : cFn Go.Proofs.Tryd.prog F.seicheref01_Same = some ⟨26, c_seicheref01_Same, [.t 4]⟩ := by kernel_rfl
def L.seicheref01_Same_l1 (t1_15 : (List Bytes)) (k0 : Option Bool) : List Bytes → Nat → Option Bool
  | [], k14 =>
    k0
  | a38 :: rest, k14 =>
    (at? t1_15 ((k14 : Nat) : Int)).bind fun a51 =>
    if a38 = a51 then
      L.seicheref01_Same_l1 t1_15 k0 rest (k14 + 1)
    else
      some false
theorem ok.seicheref01_Same_l1 {Γ : Abs.Spec} {gl : Glob} {Q : Ex → St → Prop} {r : Bool} {t1_15 : (List Bytes)} {l13 : List Bytes} {k0 : Option Bool}
    (hk0 : ∀ (s : St), k0 = some r → Q (.exit 0) s)
    (hR : ∀ s, EndsX [.t 4] false (V.bool r) s → Q .ret s)
    (hlen : l13.length ≤ Lim) : ∀ (rest : List Bytes) (k14 : Nat) (s : St), l13.drop k14 = rest → k14 ≤ l13.length →
    ((s.tm 0).nf = V.sl false 1 (List.map V.str l13)) → (s.tm 12 = V.int .i64 ((l13.length : Nat) : Int)) → (s.tm 13 = V.int .i64 ((k14 : Nat) : Int)) → ((s.tm 1).nf = (V.sl false 1 (List.map V.str t1_15))) →
    L.seicheref01_Same_l1 t1_15 k0 rest k14 = some r → awp Γ gl (.loop c_seicheref01_Same_l1) Q s := by
  intro rest
  induction rest with
  | nil =>
    intro k14 s hdrop hkl hX hN hI h37 hD
    have hkz := drop_nil hdrop hkl
    have hp0 : ¬ (((k14 : Nat) : Int) < ((l13.length : Nat) : Int)) := by omega
    refine awp_roundK fun K hK => ?_
    rw [L.seicheref01_Same_l1] at hD
    refine x_seq ?_
    refine x_start (b := false) ?_
    refine x_bin hI hN b_lss ?_
    refine x_done ?_
    refine x_tN ?_
    refine x_seq ?_
    refine x_cf (show _ = (V.bool (decide (((k14 : Nat) : Int) < ((l13.length : Nat) : Int)))) from rfl) (decide_eq_false hp0) ?_
    refine x_exitc ?_
    refine x_tE ?_
    refine x_tE ?_
    refine hk0 _ hD
  | cons a38 rest ih =>
    intro k14 s hdrop hkl hX hN hI h37 hD
    obtain ⟨hlt, -, hget, hdrop1, -⟩ := drop_cons hdrop
    have hp1 : ((k14 : Nat) : Int) < ((l13.length : Nat) : Int) := by omega
    have hwk := wi_succ (k := k14) (by unfold Lim at hlen; omega)
    refine awp_roundK fun K hK => ?_
    rw [L.seicheref01_Same_l1] at hD
    refine x_seq ?_
    refine x_start (b := false) ?_
    refine x_bin hI hN b_lss ?_
    refine x_done ?_
    refine x_tN ?_
    refine x_seq ?_
    refine x_ct (show _ = (V.bool (decide (((k14 : Nat) : Int) < ((l13.length : Nat) : Int)))) from rfl) (decide_eq_true hp1) ?_
    refine x_skip ?_
    refine x_tN ?_
    refine x_seq ?_
    refine x_block ?_
    refine x_seq ?_
    refine x_start (b := false) ?_
    refine x_mv' hI ?_
    refine x_mv' (show _ = (V.int .i64 ((k14 : Nat) : Int)) from rfl) ?_
    refine x_done ?_
    refine x_tN ?_
    refine x_seq ?_
    refine x_start (b := true) ?_
    refine x_mv hX fun v47 hv47 => ?_
    refine x_mv' (show _ = (V.int .i64 ((k14 : Nat) : Int)) from rfl) ?_
    refine x_iaddr hv47 (show _ = (V.int .i64 ((k14 : Nat) : Int)) from rfl) (at_k hget) fun v48 (hv48 : v48.nf = V.el [(V.str a38)] 0) => ?_
    refine x_load_el hv48 (show _ = some (V.str a38) from rfl) fun v49 hv49 => ?_
    refine x_mv h37 fun v50 hv50 => ?_
    refine x_mv' (show _ = (V.int .i64 ((k14 : Nat) : Int)) from rfl) ?_
    obtain ⟨a51, hx52, hD⟩ := Option.bind_eq_some_iff.1 hD
    refine x_iaddr hv50 (show _ = (V.int .i64 ((k14 : Nat) : Int)) from rfl) hx52 fun v53 (hv53 : v53.nf = V.el [(V.str a51)] 0) => ?_
    refine x_load_el hv53 (show _ = some (V.str a51) from rfl) fun v54 hv54 => ?_
    refine x_bin (nf_str hv49) (nf_str hv54) s_neq ?_
    refine x_done ?_
    refine x_tN ?_
    by_cases hp55 : a38 = a51
    · rw [if_pos hp55] at hD
      refine x_cf (show _ = (V.bool (!(decide (a38 = a51)))) from rfl) (bnot_t (decide_eq_true hp55)) ?_
      refine x_skip ?_
      refine x_bN ?_
      refine x_tN ?_
      refine x_start (b := false) ?_
      refine x_bin hI (show _ = (V.int .i64 1) from rfl) b_add ?_
      refine x_mv' (show _ = (V.int .i64 (wi (((k14 : Nat) : Int) + 1))) from rfl) ?_
      refine x_done ?_
      refine x_tN ?_
      refine hK _ ?_
      refine ih (k14 + 1) _ hdrop1 hlt ?_ ?_ ?_ ?_ hD
      · exact hX
      · exact hN
      · exact (Eq.trans (show _ = (V.int .i64 (wi (((k14 : Nat) : Int) + 1))) from rfl) (congrArg (V.int .i64) hwk))
      · exact h37
    · rw [if_neg hp55] at hD
      refine x_ct (show _ = (V.bool (!(decide (a38 = a51)))) from rfl) (bnot_f (decide_eq_false hp55)) ?_
      refine x_seq ?_
      refine x_start (b := false) ?_
      refine x_mv' (show _ = (V.bool false) from rfl) ?_
      refine x_done ?_
      refine x_tN ?_
      refine x_retc ?_
      refine x_bR ?_
      refine x_tR ?_
      refine x_tR ?_
      obtain rfl := Option.some.inj hD
      exact hR _ (ends_t (nf_of rfl (show _ = (V.bool false) from rfl)) (fun h => nomatch h))
def g.seicheref01_Same (p0 : (List Bytes)) (p1 : (List Bytes)) : Option Bool :=
  if ((p0.length : Nat) : Int) = ((p1.length : Nat) : Int) then
    if p0.length ≤ Lim then L.seicheref01_Same_l1 p1 (some true) p0 0 else none
  else
    some false
theorem ok.seicheref01_Same {Γ : Abs.Spec} {gl : Glob} {r : Bool} {p0 : (List Bytes)} {p1 : (List Bytes)} {v : List V}
    (hv : nfL v = [(V.sl false 1 (List.map V.str p0)), (V.sl false 1 (List.map V.str p1))]) (hD : g.seicheref01_Same p0 p1 = some r) : awp Γ gl c_seicheref01_Same (endQ [.t 4] false (V.bool r)) (St.init v) := by
  obtain ⟨v0, v, rfl, h0, hv⟩ := nfL_cons hv
  obtain ⟨v1, v, rfl, h1, hv⟩ := nfL_cons hv
  obtain rfl := nfL_nil hv
  have hR : ∀ s, EndsX [.t 4] false (V.bool r) s → endQ [.t 4] false (V.bool r) .ret s := fun _ h => h
  unfold g.seicheref01_Same at hD
  unfold c_seicheref01_Same
  refine x_seq ?_
  refine x_start (b := false) ?_
  refine x_mv' (show _ = (V.bool false) from rfl) ?_
  refine x_done ?_
  refine x_tN ?_
  refine x_seq ?_
  refine x_seq ?_
  refine x_start (b := false) ?_
  refine x_mv h0 fun v8 hv8 => ?_
  refine x_len hv8 ?_
  refine x_mv h1 fun v9 hv9 => ?_
  refine x_len hv9 ?_
  refine x_bin (show _ = (V.int .i64 ((p0.length : Nat) : Int)) from rfl) (show _ = (V.int .i64 ((p1.length : Nat) : Int)) from rfl) b_neq ?_
  refine x_done ?_
  refine x_tN ?_
  by_cases hp10 : ((p0.length : Nat) : Int) = ((p1.length : Nat) : Int)
  · rw [if_pos hp10] at hD
    refine x_cf (show _ = (V.bool (!(decide (((p0.length : Nat) : Int) = ((p1.length : Nat) : Int))))) from rfl) (bnot_t (decide_eq_true hp10)) ?_
    refine x_skip ?_
    refine x_tN ?_
    refine x_seq ?_
    refine x_seq ?_
    refine x_start (b := false) ?_
    refine x_mv h0 fun v12 hv12 => ?_
    refine x_len hv12 ?_
    refine x_mv' (show _ = (V.int .i64 0) from rfl) ?_
    refine x_done ?_
    refine x_tN ?_
    refine x_block ?_
    by_cases hlen57 : p0.length ≤ Lim
    · rw [if_pos hlen57] at hD
      refine ok.seicheref01_Same_l1 (t1_15 := p1) (l13 := p0) (fun s56 hD => ?_) (fun _ hE => ?_) hlen57 _ 0 _ rfl (Nat.zero_le _) ?_ ?_ ?_ ?_ hD
      · refine x_bE ?_
        refine x_tN ?_
        refine x_seq ?_
        refine x_start (b := false) ?_
        refine x_mv' (show _ = (V.bool true) from rfl) ?_
        refine x_done ?_
        refine x_tN ?_
        refine x_retc ?_
        obtain rfl := Option.some.inj hD
        exact hR _ (ends_t (nf_of rfl (show _ = (V.bool true) from rfl)) (fun h => nomatch h))
      · refine x_bR ?_; refine x_tR ?_; exact hR _ hE
      · exact h0
      · exact (show _ = (V.int .i64 ((p0.length : Nat) : Int)) from rfl)
      · exact (show _ = (V.int .i64 0) from rfl)
      · exact h1
    · rw [if_neg hlen57] at hD; cases hD
  · rw [if_neg hp10] at hD
    refine x_ct (show _ = (V.bool (!(decide (((p0.length : Nat) : Int) = ((p1.length : Nat) : Int))))) from rfl) (bnot_f (decide_eq_false hp10)) ?_
    refine x_seq ?_
    refine x_start (b := false) ?_
    refine x_mv' (show _ = (V.bool false) from rfl) ?_
    refine x_done ?_
    refine x_tN ?_
    refine x_retc ?_
    refine x_tR ?_
    obtain rfl := Option.some.inj hD
    exact hR _ (ends_t (nf_of rfl (show _ = (V.bool false) from rfl)) (fun h => nomatch h))
def K.seicheref01_Same : FC := fc F.seicheref01_Same (fun _ => true) false (fun (a : ((List Bytes) × (List Bytes))) => [(V.sl false 1 (List.map V.str a.1)), (V.sl false 1 (List.map V.str a.2))]) (fun (y : Bool) => (V.bool y)) (fun a => g.seicheref01_Same a.1 a.2)
  (fun a => (cleanL_mk (E.Lstring_clean _) (cleanL_mk (E.Lstring_clean _) rfl)))
  (fun y => rfl)
  (fun ⟨a0, a1⟩ ⟨b0, b1⟩ h => by
    obtain ⟨h0, h⟩ := List.cons.inj h
    obtain rfl : a0 = b0 := E.Lstring_inj h0
    obtain ⟨h0, h⟩ := List.cons.inj h
    obtain rfl : a1 = b1 := E.Lstring_inj h0
    rfl)
theorem H.seicheref01_Same (w : World) (_hw : EnvOK w) : K.seicheref01_Same.Holds (cxD w) :=
  FC.holds_of (cs := []) (glD w) mixed cf_seicheref01_Same (fun _ _ ⟨_, _, h, _⟩ => by subst h; exact Nat.le_of_ble_eq_true rfl) fun v y ⟨a, r, hv, hD, hy⟩ => by
    subst hy
    exact ok.seicheref01_Same hv hD
def c_seichelaw06_alive : ACode := (.seq (.region [
  ⟨(some 0), (.mv (.const (.bool false))), none, []⟩] false) (.seq (.region [
  ⟨(some 6), (.call F.path_From [(.const (.str [97, 47, 98])), (.const (.str [46, 46, 47, 99, 47, 46, 47, 100]))]), none, []⟩, 
  ⟨(some 5), (.mv (.tmp 6)), none, []⟩, 
  ⟨(some 7), (.ext (.tmp 5) 0), none, []⟩, 
  ⟨(some 8), (.ext (.tmp 5) 1), none, []⟩, 
  ⟨(some 1), (.mv (.tmp 7)), none, []⟩, 
  ⟨(some 2), (.mv (.tmp 8)), none, []⟩] false) (.seq (.region [
  ⟨(some 10), (.call F.path_From [(.const (.str [97])), (.const (.str [46, 46, 47, 46, 46]))]), none, []⟩, 
  ⟨(some 9), (.mv (.tmp 10)), none, []⟩, 
  ⟨(some 11), (.ext (.tmp 9) 0), none, []⟩, 
  ⟨(some 12), (.ext (.tmp 9) 1), none, []⟩, 
  ⟨(some 3), (.mv (.tmp 11)), none, []⟩, 
  ⟨(some 4), (.mv (.tmp 12)), none, []⟩] false) (.seq (.region [
  ⟨(some 13), (.mv (.tmp 2)), none, []⟩, 
  ⟨(some 14), (.mv (.tmp 13)), none, []⟩, 
  ⟨(some 15), (.mv (.tmp 1)), (some (14, true)), []⟩, 
  ⟨(some 16), (.bin .eql .no (.tmp 15) (.const (.str [97, 47, 99, 47, 100]))), (some (14, true)), []⟩, 
  ⟨(some 17), (.pick (.tmp 14) (.tmp 16) (.const (.bool false))), none, []⟩, 
  ⟨(some 18), (.mv (.tmp 17)), none, []⟩, 
  ⟨(some 19), (.mv (.tmp 4)), (some (18, true)), []⟩, 
  ⟨(some 20), (.un .not (.tmp 19)), (some (18, true)), []⟩, 
  ⟨(some 21), (.pick (.tmp 18) (.tmp 20) (.const (.bool false))), none, []⟩, 
  ⟨(some 22), (.mv (.tmp 21)), none, []⟩, 
  ⟨(some 23), (.call F.path_Good [(.const (.str [97, 47, 98]))]), (some (22, true)), []⟩, 
  ⟨(some 24), (.pick (.tmp 22) (.tmp 23) (.const (.bool false))), none, []⟩, 
  ⟨(some 25), (.mv (.tmp 24)), none, []⟩, 
  ⟨(some 26), (.call F.path_Good [(.const (.str [97, 47, 47, 98]))]), (some (25, true)), []⟩, 
  ⟨(some 27), (.un .not (.tmp 26)), (some (25, true)), []⟩, 
  ⟨(some 28), (.pick (.tmp 25) (.tmp 27) (.const (.bool false))), none, []⟩, 
  ⟨(some 0), (.mv (.tmp 28)), none, []⟩] false) .ret))))
theorem cf_seichelaw06_alive : cFn Go.Proofs.Tryd.prog F.seichelaw06_alive = some ⟨29, c_seichelaw06_alive, [.t 0]⟩ := by kernel_rfl
def g.seichelaw06_alive : Option Bool :=
  (g.path_From ([97, 47, 98] : Bytes) ([46, 46, 47, 99, 47, 46, 47, 100] : Bytes)).bind fun r8 =>
  (g.path_From ([97] : Bytes) ([46, 46, 47, 46, 46] : Bytes)).bind fun r20 =>
  if r8.2 = true then
    if r8.1 = ([97, 47, 99, 47, 100] : Bytes) then
      if r20.2 = true then
        some false
      else
        (g.path_Good ([97, 47, 98] : Bytes)).bind fun r29 =>
        if r29 = true then
          (g.path_Good ([97, 47, 47, 98] : Bytes)).bind fun r33 =>
          some (!r33)
        else
          some false
    else
      some false
  else
    some false
theorem ok.seichelaw06_alive {Γ : Abs.Spec} {gl : Glob} (hC_path_From : CallsX Γ K.path_From) (hC_path_Good : CallsX Γ K.path_Good) {r : Bool} {v : List V}
    (hv : nfL v = []) (hD : g.seichelaw06_alive = some r) : awp Γ gl c_seichelaw06_alive (endQ [.t 0] false (V.bool r)) (St.init v) := by
  obtain rfl := nfL_nil hv
  have hR : ∀ s, EndsX [.t 0] false (V.bool r) s → endQ [.t 0] false (V.bool r) .ret s := fun _ h => h
  unfold g.seichelaw06_alive at hD
  unfold c_seichelaw06_alive
  refine x_seq ?_
  refine x_start (b := false) ?_
  refine x_mv' (show _ = (V.bool false) from rfl) ?_
  refine x_done ?_
  refine x_tN ?_
  refine x_seq ?_
  refine x_start (b := false) ?_
  obtain ⟨r8, hx9, hD⟩ := Option.bind_eq_some_iff.1 hD
  refine x_callF hC_path_From (a := (([97, 47, 98] : Bytes), ([46, 46, 47, 99, 47, 46, 47, 100] : Bytes))) (cons_eq (nf_of rfl (show _ = (V.str ([97, 47, 98] : Bytes)) from rfl)) (cons_eq (nf_of rfl (show _ = (V.str ([46, 46, 47, 99, 47, 46, 47, 100] : Bytes)) from rfl)) rfl)) hx9 fun v7 ov7 (hv7 : v7.nf = (V.tup [(V.str r8.1), (V.bool r8.2)])) hov7 => ?_
  refine x_mv hv7 fun v10 hv10 => ?_
  refine x_ext hv10 (show _ = some (V.str r8.1) from rfl) fun v11 hv11 => ?_
  refine x_ext hv10 (show _ = some (V.bool r8.2) from rfl) fun v12 hv12 => ?_
  refine x_mv' (nf_str hv11) ?_
  refine x_mv' (nf_bool hv12) ?_
  refine x_done ?_
  refine x_tN ?_
  refine x_seq ?_
  refine x_start (b := false) ?_
  obtain ⟨r20, hx21, hD⟩ := Option.bind_eq_some_iff.1 hD
  refine x_callF hC_path_From (a := (([97] : Bytes), ([46, 46, 47, 46, 46] : Bytes))) (cons_eq (nf_of rfl (show _ = (V.str ([97] : Bytes)) from rfl)) (cons_eq (nf_of rfl (show _ = (V.str ([46, 46, 47, 46, 46] : Bytes)) from rfl)) rfl)) hx21 fun v19 ov19 (hv19 : v19.nf = (V.tup [(V.str r20.1), (V.bool r20.2)])) hov19 => ?_
  refine x_mv hv19 fun v22 hv22 => ?_
  refine x_ext hv22 (show _ = some (V.str r20.1) from rfl) fun v23 hv23 => ?_
  refine x_ext hv22 (show _ = some (V.bool r20.2) from rfl) fun v24 hv24 => ?_
  refine x_mv' (nf_str hv23) ?_
  refine x_mv' (nf_bool hv24) ?_
  refine x_done ?_
  refine x_tN ?_
  refine x_seq ?_
  refine x_start (b := false) ?_
  refine x_mv' (show _ = (V.bool r8.2) from rfl) ?_
  refine x_mv' (show _ = (V.bool r8.2) from rfl) ?_
  by_cases hp25 : r8.2 = true
  · rw [if_pos hp25] at hD
    refine x_gy (show _ = (V.bool r8.2) from rfl) hp25 ?_
    refine x_mv' (show _ = (V.str r8.1) from rfl) ?_
    refine x_gy (show _ = (V.bool r8.2) from rfl) hp25 ?_
    refine x_bin (show _ = (V.str r8.1) from rfl) (show _ = (V.str ([97, 47, 99, 47, 100] : Bytes)) from rfl) s_eql ?_
    refine x_pickt' (show _ = (V.bool r8.2) from rfl) hp25 (show _ = (V.bool (decide (r8.1 = ([97, 47, 99, 47, 100] : Bytes)))) from rfl) ?_
    refine x_mv' (show _ = (V.bool (decide (r8.1 = ([97, 47, 99, 47, 100] : Bytes)))) from rfl) ?_
    by_cases hp26 : r8.1 = ([97, 47, 99, 47, 100] : Bytes)
    · rw [if_pos hp26] at hD
      refine x_gy (show _ = (V.bool (decide (r8.1 = ([97, 47, 99, 47, 100] : Bytes)))) from rfl) (decide_eq_true hp26) ?_
      refine x_mv' (show _ = (V.bool r20.2) from rfl) ?_
      refine x_gy (show _ = (V.bool (decide (r8.1 = ([97, 47, 99, 47, 100] : Bytes)))) from rfl) (decide_eq_true hp26) ?_
      refine x_un (show _ = (V.bool r20.2) from rfl) (aun_not _) ?_
      refine x_pickt' (show _ = (V.bool (decide (r8.1 = ([97, 47, 99, 47, 100] : Bytes)))) from rfl) (decide_eq_true hp26) (show _ = (V.bool (!r20.2)) from rfl) ?_
      refine x_mv' (show _ = (V.bool (!r20.2)) from rfl) ?_
      by_cases hp27 : r20.2 = true
      · rw [if_pos hp27] at hD
        refine x_gn (show _ = (V.bool (!r20.2)) from rfl) (bnot_t hp27) ?_
        refine x_pickf' (show _ = (V.bool (!r20.2)) from rfl) (bnot_t hp27) (show _ = (V.bool false) from rfl) ?_
        refine x_mv' (show _ = (V.bool false) from rfl) ?_
        refine x_gn (show _ = (V.bool false) from rfl) rfl ?_
        refine x_gn (show _ = (V.bool false) from rfl) rfl ?_
        refine x_pickf' (show _ = (V.bool false) from rfl) rfl (show _ = (V.bool false) from rfl) ?_
        refine x_mv' (show _ = (V.bool false) from rfl) ?_
        refine x_done ?_
        refine x_tN ?_
        refine x_retc ?_
        obtain rfl := Option.some.inj hD
        exact hR _ (ends_t (nf_of rfl (show _ = (V.bool false) from rfl)) (fun h => nomatch h))
      · rw [if_neg hp27] at hD
        refine x_gy (show _ = (V.bool (!r20.2)) from rfl) (bnot_f (Bool.eq_false_iff.2 hp27)) ?_
        obtain ⟨r29, hx30, hD⟩ := Option.bind_eq_some_iff.1 hD
        refine x_callF hC_path_Good (a := (([97, 47, 98] : Bytes))) (cons_eq (nf_of rfl (show _ = (V.str ([97, 47, 98] : Bytes)) from rfl)) rfl) hx30 fun v28 ov28 (hv28 : v28.nf = (V.bool r29)) hov28 => ?_
        refine x_pickt' (show _ = (V.bool (!r20.2)) from rfl) (bnot_f (Bool.eq_false_iff.2 hp27)) (nf_bool hv28) ?_
        refine x_mv' (show _ = (V.bool r29) from rfl) ?_
        by_cases hp31 : r29 = true
        · rw [if_pos hp31] at hD
          refine x_gy (show _ = (V.bool r29) from rfl) hp31 ?_
          obtain ⟨r33, hx34, hD⟩ := Option.bind_eq_some_iff.1 hD
          refine x_callF hC_path_Good (a := (([97, 47, 47, 98] : Bytes))) (cons_eq (nf_of rfl (show _ = (V.str ([97, 47, 47, 98] : Bytes)) from rfl)) rfl) hx34 fun v32 ov32 (hv32 : v32.nf = (V.bool r33)) hov32 => ?_
          refine x_gy (show _ = (V.bool r29) from rfl) hp31 ?_
          refine x_un (nf_bool hv32) (aun_not _) ?_
          refine x_pickt' (show _ = (V.bool r29) from rfl) hp31 (show _ = (V.bool (!r33)) from rfl) ?_
          refine x_mv' (show _ = (V.bool (!r33)) from rfl) ?_
          refine x_done ?_
          refine x_tN ?_
          refine x_retc ?_
          obtain rfl := Option.some.inj hD
          exact hR _ (ends_t (nf_of rfl (show _ = (V.bool (!r33)) from rfl)) (fun h => nomatch h))
        · rw [if_neg hp31] at hD
          refine x_gn (show _ = (V.bool r29) from rfl) (Bool.eq_false_iff.2 hp31) ?_
          refine x_gn (show _ = (V.bool r29) from rfl) (Bool.eq_false_iff.2 hp31) ?_
          refine x_pickf' (show _ = (V.bool r29) from rfl) (Bool.eq_false_iff.2 hp31) (show _ = (V.bool false) from rfl) ?_
          refine x_mv' (show _ = (V.bool false) from rfl) ?_
          refine x_done ?_
          refine x_tN ?_
          refine x_retc ?_
          obtain rfl := Option.some.inj hD
          exact hR _ (ends_t (nf_of rfl (show _ = (V.bool false) from rfl)) (fun h => nomatch h))
    · rw [if_neg hp26] at hD
      refine x_gn (show _ = (V.bool (decide (r8.1 = ([97, 47, 99, 47, 100] : Bytes)))) from rfl) (decide_eq_false hp26) ?_
      refine x_gn (show _ = (V.bool (decide (r8.1 = ([97, 47, 99, 47, 100] : Bytes)))) from rfl) (decide_eq_false hp26) ?_
      refine x_pickf' (show _ = (V.bool (decide (r8.1 = ([97, 47, 99, 47, 100] : Bytes)))) from rfl) (decide_eq_false hp26) (show _ = (V.bool false) from rfl) ?_
      refine x_mv' (show _ = (V.bool false) from rfl) ?_
      refine x_gn (show _ = (V.bool false) from rfl) rfl ?_
      refine x_pickf' (show _ = (V.bool false) from rfl) rfl (show _ = (V.bool false) from rfl) ?_
      refine x_mv' (show _ = (V.bool false) from rfl) ?_
      refine x_gn (show _ = (V.bool false) from rfl) rfl ?_
      refine x_gn (show _ = (V.bool false) from rfl) rfl ?_
      refine x_pickf' (show _ = (V.bool false) from rfl) rfl (show _ = (V.bool false) from rfl) ?_
      refine x_mv' (show _ = (V.bool false) from rfl) ?_
      refine x_done ?_
      refine x_tN ?_
      refine x_retc ?_
      obtain rfl := Option.some.inj hD
      exact hR _ (ends_t (nf_of rfl (show _ = (V.bool false) from rfl)) (fun h => nomatch h))
  · rw [if_neg hp25] at hD
    refine x_gn (show _ = (V.bool r8.2) from rfl) (Bool.eq_false_iff.2 hp25) ?_
    refine x_gn (show _ = (V.bool r8.2) from rfl) (Bool.eq_false_iff.2 hp25) ?_
    refine x_pickf' (show _ = (V.bool r8.2) from rfl) (Bool.eq_false_iff.2 hp25) (show _ = (V.bool false) from rfl) ?_
    refine x_mv' (show _ = (V.bool false) from rfl) ?_
    refine x_gn (show _ = (V.bool false) from rfl) rfl ?_
    refine x_gn (show _ = (V.bool false) from rfl) rfl ?_
    refine x_pickf' (show _ = (V.bool false) from rfl) rfl (show _ = (V.bool false) from rfl) ?_
    refine x_mv' (show _ = (V.bool false) from rfl) ?_
    refine x_gn (show _ = (V.bool false) from rfl) rfl ?_
    refine x_pickf' (show _ = (V.bool false) from rfl) rfl (show _ = (V.bool false) from rfl) ?_
    refine x_mv' (show _ = (V.bool false) from rfl) ?_
    refine x_gn (show _ = (V.bool false) from rfl) rfl ?_
    refine x_gn (show _ = (V.bool false) from rfl) rfl ?_
    refine x_pickf' (show _ = (V.bool false) from rfl) rfl (show _ = (V.bool false) from rfl) ?_
    refine x_mv' (show _ = (V.bool false) from rfl) ?_
    refine x_done ?_
    refine x_tN ?_
    refine x_retc ?_
    obtain rfl := Option.some.inj hD
    exact hR _ (ends_t (nf_of rfl (show _ = (V.bool false) from rfl)) (fun h => nomatch h))
def K.seichelaw06_alive : FC := fc F.seichelaw06_alive (fun _ => true) false (fun (a : Unit) => []) (fun (y : Bool) => (V.bool y)) (fun a => g.seichelaw06_alive)
  (fun a => rfl)
  (fun y => rfl)
  (fun _ _ _ => rfl)
theorem H.seichelaw06_alive (w : World) (hw : EnvOK w) : K.seichelaw06_alive.Holds (cxD w) :=
  FC.holds_of (cs := [K.path_From, K.path_Good]) (glD w) mixed cf_seichelaw06_alive (fun _ _ ⟨_, _, h, _⟩ => by subst h; exact Nat.le_of_ble_eq_true rfl) fun v y ⟨a, r, hv, hD, hy⟩ => by
    subst hy
    exact ok.seichelaw06_alive (specOf_calls (H.path_From w hw) (fun _ _ ⟨_, _, h, _⟩ => by subst h; rfl)) (specOf_calls (H.path_Good w hw) (fun _ _ ⟨_, _, h, _⟩ => by subst h; rfl)) hv hD
def c_seichelaw06_PathOrders : ACode := (.seq (.region [
  ⟨(some 6), (.mv (.const (.bool false))), none, []⟩] false) (.seq (.seq (.region [
  ⟨(some 10), (.call F.seichelaw06_alive []), none, []⟩, 
  ⟨(some 11), (.un .not (.tmp 10)), none, []⟩] false) (.cond (.tmp 11) (.seq (.region [
  ⟨(some 6), (.mv (.const (.bool false))), none, []⟩] false) .ret) .skip)) (.seq (.seq (.region [
  ⟨(some 12), (.mv (.tmp 0)), none, []⟩, 
  ⟨(some 13), (.len true (.tmp 12)), none, []⟩, 
  ⟨(some 14), (.bin .gtr .no (.tmp 13) (.const (.int .i64 512))), none, []⟩, 
  ⟨(some 15), (.mv (.tmp 14)), none, []⟩, 
  ⟨(some 16), (.mv (.tmp 1)), (some (15, false)), []⟩, 
  ⟨(some 17), (.len true (.tmp 16)), (some (15, false)), []⟩, 
  ⟨(some 18), (.bin .gtr .no (.tmp 17) (.const (.int .i64 512))), (some (15, false)), []⟩, 
  ⟨(some 19), (.pick (.tmp 15) (.const (.bool true)) (.tmp 18)), none, []⟩, 
  ⟨(some 20), (.mv (.tmp 19)), none, []⟩, 
  ⟨(some 21), (.mv (.tmp 2)), (some (20, false)), []⟩, 
  ⟨(some 22), (.len true (.tmp 21)), (some (20, false)), []⟩, 
  ⟨(some 23), (.bin .gtr .no (.tmp 22) (.const (.int .i64 512))), (some (20, false)), []⟩, 
  ⟨(some 24), (.pick (.tmp 20) (.const (.bool true)) (.tmp 23)), none, []⟩] false) (.cond (.tmp 24) (.seq (.region [
  ⟨(some 6), (.mv (.const (.bool true))), none, []⟩] false) .ret) .skip)) (.seq (.region [
  ⟨(some 25), (.mv (.tmp 0)), none, []⟩, 
  ⟨(some 26), (.mv (.tmp 1)), none, []⟩, 
  ⟨(some 27), (.call F.path_Compare [(.tmp 25), (.tmp 26)]), none, []⟩, 
  ⟨(some 28), (.mv (.tmp 1)), none, []⟩, 
  ⟨(some 29), (.mv (.tmp 2)), none, []⟩, 
  ⟨(some 30), (.call F.path_Compare [(.tmp 28), (.tmp 29)]), none, []⟩, 
  ⟨(some 31), (.mv (.tmp 0)), none, []⟩, 
  ⟨(some 32), (.mv (.tmp 2)), none, []⟩, 
  ⟨(some 33), (.call F.path_Compare [(.tmp 31), (.tmp 32)]), none, []⟩, 
  ⟨(some 7), (.mv (.tmp 27)), none, []⟩, 
  ⟨(some 8), (.mv (.tmp 30)), none, []⟩, 
  ⟨(some 9), (.mv (.tmp 33)), none, []⟩] false) (.seq (.region [
  ⟨(some 34), (.mv (.tmp 7)), none, []⟩, 
  ⟨(some 35), (.mv (.tmp 0)), none, []⟩, 
  ⟨(some 36), (.mv (.tmp 1)), none, []⟩, 
  ⟨(some 37), (.call F.seicheref06_Compare [(.tmp 35), (.tmp 36)]), none, []⟩, 
  ⟨(some 38), (.bin .eql .no (.tmp 34) (.tmp 37)), none, []⟩, 
  ⟨(some 39), (.mv (.tmp 38)), none, []⟩, 
  ⟨(some 40), (.mv (.tmp 1)), (some (39, true)), []⟩, 
  ⟨(some 41), (.mv (.tmp 0)), (some (39, true)), []⟩, 
  ⟨(some 42), (.call F.path_Compare [(.tmp 40), (.tmp 41)]), (some (39, true)), []⟩, 
  ⟨(some 43), (.mv (.tmp 7)), (some (39, true)), []⟩, 
  ⟨(some 44), (.un .neg (.tmp 43)), (some (39, true)), []⟩, 
  ⟨(some 45), (.bin .eql .no (.tmp 42) (.tmp 44)), (some (39, true)), []⟩, 
  ⟨(some 46), (.pick (.tmp 39) (.tmp 45) (.const (.bool false))), none, []⟩, 
  ⟨(some 47), (.mv (.tmp 46)), none, []⟩, 
  ⟨(some 48), (.mv (.tmp 7)), (some (47, true)), []⟩, 
  ⟨(some 49), (.bin .eql .no (.tmp 48) (.const (.int .i64 0))), (some (47, true)), []⟩, 
  ⟨(some 50), (.mv (.tmp 0)), (some (47, true)), []⟩, 
  ⟨(some 51), (.mv (.tmp 1)), (some (47, true)), []⟩, 
  ⟨(some 52), (.bin .eql .no (.tmp 50) (.tmp 51)), (some (47, true)), []⟩, 
  ⟨(some 53), (.bin .eql .bool (.tmp 49) (.tmp 52)), (some (47, true)), []⟩, 
  ⟨(some 54), (.pick (.tmp 47) (.tmp 53) (.const (.bool false))), none, []⟩, 
  ⟨(some 55), (.mv (.tmp 54)), none, []⟩, 
  ⟨(some 56), (.mv (.tmp 7)), (some (55, true)), []⟩, 
  ⟨(some 57), (.bin .gtr .no (.tmp 56) (.const (.int .i64 0))), (some (55, true)), []⟩, 
  ⟨(some 58), (.mv (.tmp 57)), (some (55, true)), []⟩, 
  ⟨(some 59), (.mv (.tmp 8)), (some (58, false)), []⟩, 
  ⟨(some 60), (.bin .gtr .no (.tmp 59) (.const (.int .i64 0))), (some (58, false)), []⟩, 
  ⟨(some 61), (.pick (.tmp 58) (.const (.bool true)) (.tmp 60)), (some (55, true)), []⟩, 
  ⟨(some 62), (.mv (.tmp 61)), (some (55, true)), []⟩, 
  ⟨(some 63), (.mv (.tmp 9)), (some (62, false)), []⟩, 
  ⟨(some 64), (.bin .leq .no (.tmp 63) (.const (.int .i64 0))), (some (62, false)), []⟩, 
  ⟨(some 65), (.pick (.tmp 62) (.const (.bool true)) (.tmp 64)), (some (55, true)), []⟩, 
  ⟨(some 66), (.pick (.tmp 55) (.tmp 65) (.const (.bool false))), none, []⟩, 
  ⟨(some 67), (.mv (.tmp 66)), none, []⟩, 
  ⟨(some 68), (.mv (.tmp 7)), (some (67, true)), []⟩, 
  ⟨(some 69), (.bin .lss .no (.tmp 68) (.const (.int .i64 0))), (some (67, true)), []⟩, 
  ⟨(some 70), (.mv (.tmp 69)), (some (67, true)), []⟩, 
  ⟨(some 71), (.mv (.tmp 8)), (some (70, false)), []⟩, 
  ⟨(some 72), (.bin .lss .no (.tmp 71) (.const (.int .i64 0))), (some (70, false)), []⟩, 
  ⟨(some 73), (.pick (.tmp 70) (.const (.bool true)) (.tmp 72)), (some (67, true)), []⟩, 
  ⟨(some 74), (.mv (.tmp 73)), (some (67, true)), []⟩, 
  ⟨(some 75), (.mv (.tmp 9)), (some (74, false)), []⟩, 
  ⟨(some 76), (.bin .geq .no (.tmp 75) (.const (.int .i64 0))), (some (74, false)), []⟩, 
  ⟨(some 77), (.pick (.tmp 74) (.const (.bool true)) (.tmp 76)), (some (67, true)), []⟩, 
  ⟨(some 78), (.pick (.tmp 67) (.tmp 77) (.const (.bool false))), none, []⟩, 
  ⟨(some 6), (.mv (.tmp 78)), none, []⟩] false) .ret)))))
theorem cf_seichelaw06_PathOrders : cFn Go.Proofs.Tryd.prog F.seichelaw06_PathOrders = some ⟨79, c_seichelaw06_PathOrders, [.t 6]⟩ := by kernel_rfl
def g.seichelaw06_PathOrders (p0 : Bytes) (p1 : Bytes) (p2 : Bytes) : Option Bool :=
  (g.seichelaw06_alive).bind fun r12 =>
  if r12 = true then
    if 512 < ((p0.length : Nat) : Int) then
      some true
    else
      if 512 < ((p1.length : Nat) : Int) then
        some true
      else
        if 512 < ((p2.length : Nat) : Int) then
          some true
        else
          (g.path_Compare p0 p1).bind fun r35 =>
          (g.path_Compare p1 p2).bind fun r38 =>
          (g.path_Compare p0 p2).bind fun r41 =>
          (g.seicheref06_Compare p0 p1).bind fun r44 =>
          if r35 = r44 then
            (g.path_Compare p1 p0).bind fun r48 =>
            if r48 = (wi (0 - r35)) then
              if ((decide (r35 = 0)) == (decide (p0 = p1))) = true then
                if 0 < r35 then
                  if r35 < 0 then
                    some true
                  else
                    if r38 < 0 then
                      some true
                    else
                      some (decide (0 ≤ r41))
                else
                  if 0 < r38 then
                    if r35 < 0 then
                      some true
                    else
                      if r38 < 0 then
                        some true
                      else
                        some (decide (0 ≤ r41))
                  else
                    if r41 ≤ 0 then
                      if r35 < 0 then
                        some true
                      else
                        if r38 < 0 then
                          some true
                        else
                          some (decide (0 ≤ r41))
                    else
                      some false
              else
                some false
            else
              some false
          else
            some false
  else
    some false
theorem ok.seichelaw06_PathOrders {Γ : Abs.Spec} {gl : Glob} (hC_seichelaw06_alive : CallsX Γ K.seichelaw06_alive) (hC_path_Compare : CallsX Γ K.path_Compare) (hC_seicheref06_Compare : CallsX Γ K.seicheref06_Compare) {r : Bool} {p0 : Bytes} {p1 : Bytes} {p2 : Bytes} {v : List V}
    (hv : nfL v = [(V.str p0), (V.str p1), (V.str p2)]) (hD : g.seichelaw06_PathOrders p0 p1 p2 = some r) : awp Γ gl c_seichelaw06_PathOrders (endQ [.t 6] false (V.bool r)) (St.init v) := by
  obtain ⟨v0, v, rfl, h0, hv⟩ := nfL_cons hv
  obtain ⟨v1, v, rfl, h1, hv⟩ := nfL_cons hv
  obtain ⟨v2, v, rfl, h2, hv⟩ := nfL_cons hv
  obtain rfl := nfL_nil hv
  have hR : ∀ s, EndsX [.t 6] false (V.bool r) s → endQ [.t 6] false (V.bool r) .ret s := fun _ h => h
  unfold g.seichelaw06_PathOrders at hD
  unfold c_seichelaw06_PathOrders
  refine x_seq ?_
  refine x_start (b := false) ?_
  refine x_mv' (show _ = (V.bool false) from rfl) ?_
  refine x_done ?_
  refine x_tN ?_
  refine x_seq ?_
  refine x_seq ?_
  refine x_start (b := false) ?_
  obtain ⟨r12, hx13, hD⟩ := Option.bind_eq_some_iff.1 hD
  refine x_callF hC_seichelaw06_alive (a := ()) rfl hx13 fun v11 ov11 (hv11 : v11.nf = (V.bool r12)) hov11 => ?_
  refine x_un (nf_bool hv11) (aun_not _) ?_
  refine x_done ?_
  refine x_tN ?_
  by_cases hp14 : r12 = true
  · rw [if_pos hp14] at hD
    refine x_cf (show _ = (V.bool (!r12)) from rfl) (bnot_t hp14) ?_
    refine x_skip ?_
    refine x_tN ?_
    refine x_seq ?_
    refine x_seq ?_
    refine x_start (b := false) ?_
    refine x_mv' (nf_str h0) ?_
    refine x_lens (show _ = (V.str p0) from rfl) ?_
    refine x_bin (show _ = (V.int .i64 ((p0.length : Nat) : Int)) from rfl) (show _ = (V.int .i64 512) from rfl) b_gtr ?_
    refine x_mv' (show _ = (V.bool (decide (512 < ((p0.length : Nat) : Int)))) from rfl) ?_
    by_cases hp22 : 512 < ((p0.length : Nat) : Int)
    · rw [if_pos hp22] at hD
      refine x_gn (show _ = (V.bool (decide (512 < ((p0.length : Nat) : Int)))) from rfl) (decide_eq_true hp22) ?_
      refine x_gn (show _ = (V.bool (decide (512 < ((p0.length : Nat) : Int)))) from rfl) (decide_eq_true hp22) ?_
      refine x_gn (show _ = (V.bool (decide (512 < ((p0.length : Nat) : Int)))) from rfl) (decide_eq_true hp22) ?_
      refine x_pickt' (show _ = (V.bool (decide (512 < ((p0.length : Nat) : Int)))) from rfl) (decide_eq_true hp22) (show _ = (V.bool true) from rfl) ?_
      refine x_mv' (show _ = (V.bool true) from rfl) ?_
      refine x_gn (show _ = (V.bool true) from rfl) rfl ?_
      refine x_gn (show _ = (V.bool true) from rfl) rfl ?_
      refine x_gn (show _ = (V.bool true) from rfl) rfl ?_
      refine x_pickt' (show _ = (V.bool true) from rfl) rfl (show _ = (V.bool true) from rfl) ?_
      refine x_done ?_
      refine x_tN ?_
      refine x_ct (show _ = (V.bool true) from rfl) rfl ?_
      refine x_seq ?_
      refine x_start (b := false) ?_
      refine x_mv' (show _ = (V.bool true) from rfl) ?_
      refine x_done ?_
      refine x_tN ?_
      refine x_retc ?_
      refine x_tR ?_
      obtain rfl := Option.some.inj hD
      exact hR _ (ends_t (nf_of rfl (show _ = (V.bool true) from rfl)) (fun h => nomatch h))
    · rw [if_neg hp22] at hD
      refine x_gy (show _ = (V.bool (decide (512 < ((p0.length : Nat) : Int)))) from rfl) (decide_eq_false hp22) ?_
      refine x_mv' (nf_str h1) ?_
      refine x_gy (show _ = (V.bool (decide (512 < ((p0.length : Nat) : Int)))) from rfl) (decide_eq_false hp22) ?_
      refine x_lens (show _ = (V.str p1) from rfl) ?_
      refine x_gy (show _ = (V.bool (decide (512 < ((p0.length : Nat) : Int)))) from rfl) (decide_eq_false hp22) ?_
      refine x_bin (show _ = (V.int .i64 ((p1.length : Nat) : Int)) from rfl) (show _ = (V.int .i64 512) from rfl) b_gtr ?_
      refine x_pickf' (show _ = (V.bool (decide (512 < ((p0.length : Nat) : Int)))) from rfl) (decide_eq_false hp22) (show _ = (V.bool (decide (512 < ((p1.length : Nat) : Int)))) from rfl) ?_
      refine x_mv' (show _ = (V.bool (decide (512 < ((p1.length : Nat) : Int)))) from rfl) ?_
      by_cases hp23 : 512 < ((p1.length : Nat) : Int)
      · rw [if_pos hp23] at hD
        refine x_gn (show _ = (V.bool (decide (512 < ((p1.length : Nat) : Int)))) from rfl) (decide_eq_true hp23) ?_
        refine x_gn (show _ = (V.bool (decide (512 < ((p1.length : Nat) : Int)))) from rfl) (decide_eq_true hp23) ?_
        refine x_gn (show _ = (V.bool (decide (512 < ((p1.length : Nat) : Int)))) from rfl) (decide_eq_true hp23) ?_
        refine x_pickt' (show _ = (V.bool (decide (512 < ((p1.length : Nat) : Int)))) from rfl) (decide_eq_true hp23) (show _ = (V.bool true) from rfl) ?_
        refine x_done ?_
        refine x_tN ?_
        refine x_ct (show _ = (V.bool true) from rfl) rfl ?_
        refine x_seq ?_
        refine x_start (b := false) ?_
        refine x_mv' (show _ = (V.bool true) from rfl) ?_
        refine x_done ?_
        refine x_tN ?_
        refine x_retc ?_
        refine x_tR ?_
        obtain rfl := Option.some.inj hD
        exact hR _ (ends_t (nf_of rfl (show _ = (V.bool true) from rfl)) (fun h => nomatch h))
      · rw [if_neg hp23] at hD
        refine x_gy (show _ = (V.bool (decide (512 < ((p1.length : Nat) : Int)))) from rfl) (decide_eq_false hp23) ?_
        refine x_mv' (nf_str h2) ?_
        refine x_gy (show _ = (V.bool (decide (512 < ((p1.length : Nat) : Int)))) from rfl) (decide_eq_false hp23) ?_
        refine x_lens (show _ = (V.str p2) from rfl) ?_
        refine x_gy (show _ = (V.bool (decide (512 < ((p1.length : Nat) : Int)))) from rfl) (decide_eq_false hp23) ?_
        refine x_bin (show _ = (V.int .i64 ((p2.length : Nat) : Int)) from rfl) (show _ = (V.int .i64 512) from rfl) b_gtr ?_
        refine x_pickf' (show _ = (V.bool (decide (512 < ((p1.length : Nat) : Int)))) from rfl) (decide_eq_false hp23) (show _ = (V.bool (decide (512 < ((p2.length : Nat) : Int)))) from rfl) ?_
        refine x_done ?_
        refine x_tN ?_
        by_cases hp24 : 512 < ((p2.length : Nat) : Int)
        · rw [if_pos hp24] at hD
          refine x_ct (show _ = (V.bool (decide (512 < ((p2.length : Nat) : Int)))) from rfl) (decide_eq_true hp24) ?_
          refine x_seq ?_
          refine x_start (b := false) ?_
          refine x_mv' (show _ = (V.bool true) from rfl) ?_
          refine x_done ?_
          refine x_tN ?_
          refine x_retc ?_
          refine x_tR ?_
          obtain rfl := Option.some.inj hD
          exact hR _ (ends_t (nf_of rfl (show _ = (V.bool true) from rfl)) (fun h => nomatch h))
        · rw [if_neg hp24] at hD
          refine x_cf (show _ = (V.bool (decide (512 < ((p2.length : Nat) : Int)))) from rfl) (decide_eq_false hp24) ?_
          refine x_skip ?_
          refine x_tN ?_
          refine x_seq ?_
          refine x_start (b := false) ?_
          refine x_mv' (nf_str h0) ?_
          refine x_mv' (nf_str h1) ?_
          obtain ⟨r35, hx36, hD⟩ := Option.bind_eq_some_iff.1 hD
          refine x_callF hC_path_Compare (a := (p0, p1)) (cons_eq (nf_of rfl (show _ = (V.str p0) from rfl)) (cons_eq (nf_of rfl (show _ = (V.str p1) from rfl)) rfl)) hx36 fun v34 ov34 (hv34 : v34.nf = (V.int .i64 r35)) hov34 => ?_
          refine x_mv' (nf_str h1) ?_
          refine x_mv' (nf_str h2) ?_
          obtain ⟨r38, hx39, hD⟩ := Option.bind_eq_some_iff.1 hD
          refine x_callF hC_path_Compare (a := (p1, p2)) (cons_eq (nf_of rfl (show _ = (V.str p1) from rfl)) (cons_eq (nf_of rfl (show _ = (V.str p2) from rfl)) rfl)) hx39 fun v37 ov37 (hv37 : v37.nf = (V.int .i64 r38)) hov37 => ?_
          refine x_mv' (nf_str h0) ?_
          refine x_mv' (nf_str h2) ?_
          obtain ⟨r41, hx42, hD⟩ := Option.bind_eq_some_iff.1 hD
          refine x_callF hC_path_Compare (a := (p0, p2)) (cons_eq (nf_of rfl (show _ = (V.str p0) from rfl)) (cons_eq (nf_of rfl (show _ = (V.str p2) from rfl)) rfl)) hx42 fun v40 ov40 (hv40 : v40.nf = (V.int .i64 r41)) hov40 => ?_
          refine x_mv' (nf_int hv34) ?_
          refine x_mv' (nf_int hv37) ?_
          refine x_mv' (nf_int hv40) ?_
          refine x_done ?_
          refine x_tN ?_
          refine x_seq ?_
          refine x_start (b := false) ?_
          refine x_mv' (show _ = (V.int .i64 r35) from rfl) ?_
          refine x_mv' (nf_str h0) ?_
          refine x_mv' (nf_str h1) ?_
          obtain ⟨r44, hx45, hD⟩ := Option.bind_eq_some_iff.1 hD
          refine x_callF hC_seicheref06_Compare (a := (p0, p1)) (cons_eq (nf_of rfl (show _ = (V.str p0) from rfl)) (cons_eq (nf_of rfl (show _ = (V.str p1) from rfl)) rfl)) hx45 fun v43 ov43 (hv43 : v43.nf = (V.int .i64 r44)) hov43 => ?_
          refine x_bin (show _ = (V.int .i64 r35) from rfl) (nf_int hv43) b_eql ?_
          refine x_mv' (show _ = (V.bool (decide (r35 = r44))) from rfl) ?_
          by_cases hp46 : r35 = r44
          · rw [if_pos hp46] at hD
            refine x_gy (show _ = (V.bool (decide (r35 = r44))) from rfl) (decide_eq_true hp46) ?_
            refine x_mv' (nf_str h1) ?_
            refine x_gy (show _ = (V.bool (decide (r35 = r44))) from rfl) (decide_eq_true hp46) ?_
            refine x_mv' (nf_str h0) ?_
            refine x_gy (show _ = (V.bool (decide (r35 = r44))) from rfl) (decide_eq_true hp46) ?_
            obtain ⟨r48, hx49, hD⟩ := Option.bind_eq_some_iff.1 hD
            refine x_callF hC_path_Compare (a := (p1, p0)) (cons_eq (nf_of rfl (show _ = (V.str p1) from rfl)) (cons_eq (nf_of rfl (show _ = (V.str p0) from rfl)) rfl)) hx49 fun v47 ov47 (hv47 : v47.nf = (V.int .i64 r48)) hov47 => ?_
            refine x_gy (show _ = (V.bool (decide (r35 = r44))) from rfl) (decide_eq_true hp46) ?_
            refine x_mv' (show _ = (V.int .i64 r35) from rfl) ?_
            refine x_gy (show _ = (V.bool (decide (r35 = r44))) from rfl) (decide_eq_true hp46) ?_
            refine x_un (show _ = (V.int .i64 r35) from rfl) (aun_neg _ _) ?_
            refine x_gy (show _ = (V.bool (decide (r35 = r44))) from rfl) (decide_eq_true hp46) ?_
            refine x_bin (nf_int hv47) (show _ = (V.int .i64 (wi (0 - r35))) from rfl) b_eql ?_
            refine x_pickt' (show _ = (V.bool (decide (r35 = r44))) from rfl) (decide_eq_true hp46) (show _ = (V.bool (decide (r48 = (wi (0 - r35))))) from rfl) ?_
            refine x_mv' (show _ = (V.bool (decide (r48 = (wi (0 - r35))))) from rfl) ?_
            by_cases hp50 : r48 = (wi (0 - r35))
            · rw [if_pos hp50] at hD
              refine x_gy (show _ = (V.bool (decide (r48 = (wi (0 - r35))))) from rfl) (decide_eq_true hp50) ?_
              refine x_mv' (show _ = (V.int .i64 r35) from rfl) ?_
              refine x_gy (show _ = (V.bool (decide (r48 = (wi (0 - r35))))) from rfl) (decide_eq_true hp50) ?_
              refine x_bin (show _ = (V.int .i64 r35) from rfl) (show _ = (V.int .i64 0) from rfl) b_eql ?_
              refine x_gy (show _ = (V.bool (decide (r48 = (wi (0 - r35))))) from rfl) (decide_eq_true hp50) ?_
              refine x_mv' (nf_str h0) ?_
              refine x_gy (show _ = (V.bool (decide (r48 = (wi (0 - r35))))) from rfl) (decide_eq_true hp50) ?_
              refine x_mv' (nf_str h1) ?_
              refine x_gy (show _ = (V.bool (decide (r48 = (wi (0 - r35))))) from rfl) (decide_eq_true hp50) ?_
              refine x_bin (show _ = (V.str p0) from rfl) (show _ = (V.str p1) from rfl) s_eql ?_
              refine x_gy (show _ = (V.bool (decide (r48 = (wi (0 - r35))))) from rfl) (decide_eq_true hp50) ?_
              refine x_bin (show _ = (V.bool (decide (r35 = 0))) from rfl) (show _ = (V.bool (decide (p0 = p1))) from rfl) bool_eql ?_
              refine x_pickt' (show _ = (V.bool (decide (r48 = (wi (0 - r35))))) from rfl) (decide_eq_true hp50) (show _ = (V.bool ((decide (r35 = 0)) == (decide (p0 = p1)))) from rfl) ?_
              refine x_mv' (show _ = (V.bool ((decide (r35 = 0)) == (decide (p0 = p1)))) from rfl) ?_
              by_cases hp51 : ((decide (r35 = 0)) == (decide (p0 = p1))) = true
              · rw [if_pos hp51] at hD
                refine x_gy (show _ = (V.bool ((decide (r35 = 0)) == (decide (p0 = p1)))) from rfl) hp51 ?_
                refine x_mv' (show _ = (V.int .i64 r35) from rfl) ?_
                refine x_gy (show _ = (V.bool ((decide (r35 = 0)) == (decide (p0 = p1)))) from rfl) hp51 ?_
                refine x_bin (show _ = (V.int .i64 r35) from rfl) (show _ = (V.int .i64 0) from rfl) b_gtr ?_
                refine x_gy (show _ = (V.bool ((decide (r35 = 0)) == (decide (p0 = p1)))) from rfl) hp51 ?_
                refine x_mv' (show _ = (V.bool (decide (0 < r35))) from rfl) ?_
                by_cases hp52 : 0 < r35
                · rw [if_pos hp52] at hD
                  refine x_gn (show _ = (V.bool (decide (0 < r35))) from rfl) (decide_eq_true hp52) ?_
                  refine x_gn (show _ = (V.bool (decide (0 < r35))) from rfl) (decide_eq_true hp52) ?_
                  refine x_gy (show _ = (V.bool ((decide (r35 = 0)) == (decide (p0 = p1)))) from rfl) hp51 ?_
                  refine x_pickt' (show _ = (V.bool (decide (0 < r35))) from rfl) (decide_eq_true hp52) (show _ = (V.bool true) from rfl) ?_
                  refine x_gy (show _ = (V.bool ((decide (r35 = 0)) == (decide (p0 = p1)))) from rfl) hp51 ?_
                  refine x_mv' (show _ = (V.bool true) from rfl) ?_
                  refine x_gn (show _ = (V.bool true) from rfl) rfl ?_
                  refine x_gn (show _ = (V.bool true) from rfl) rfl ?_
                  refine x_gy (show _ = (V.bool ((decide (r35 = 0)) == (decide (p0 = p1)))) from rfl) hp51 ?_
                  refine x_pickt' (show _ = (V.bool true) from rfl) rfl (show _ = (V.bool true) from rfl) ?_
                  refine x_pickt' (show _ = (V.bool ((decide (r35 = 0)) == (decide (p0 = p1)))) from rfl) hp51 (show _ = (V.bool true) from rfl) ?_
                  refine x_mv' (show _ = (V.bool true) from rfl) ?_
                  refine x_gy (show _ = (V.bool true) from rfl) rfl ?_
                  refine x_mv' (show _ = (V.int .i64 r35) from rfl) ?_
                  refine x_gy (show _ = (V.bool true) from rfl) rfl ?_
                  refine x_bin (show _ = (V.int .i64 r35) from rfl) (show _ = (V.int .i64 0) from rfl) b_lss ?_
                  refine x_gy (show _ = (V.bool true) from rfl) rfl ?_
                  refine x_mv' (show _ = (V.bool (decide (r35 < 0))) from rfl) ?_
                  by_cases hp53 : r35 < 0
                  · rw [if_pos hp53] at hD
                    refine x_gn (show _ = (V.bool (decide (r35 < 0))) from rfl) (decide_eq_true hp53) ?_
                    refine x_gn (show _ = (V.bool (decide (r35 < 0))) from rfl) (decide_eq_true hp53) ?_
                    refine x_gy (show _ = (V.bool true) from rfl) rfl ?_
                    refine x_pickt' (show _ = (V.bool (decide (r35 < 0))) from rfl) (decide_eq_true hp53) (show _ = (V.bool true) from rfl) ?_
                    refine x_gy (show _ = (V.bool true) from rfl) rfl ?_
                    refine x_mv' (show _ = (V.bool true) from rfl) ?_
                    refine x_gn (show _ = (V.bool true) from rfl) rfl ?_
                    refine x_gn (show _ = (V.bool true) from rfl) rfl ?_
                    refine x_gy (show _ = (V.bool true) from rfl) rfl ?_
                    refine x_pickt' (show _ = (V.bool true) from rfl) rfl (show _ = (V.bool true) from rfl) ?_
                    refine x_pickt' (show _ = (V.bool true) from rfl) rfl (show _ = (V.bool true) from rfl) ?_
                    refine x_mv' (show _ = (V.bool true) from rfl) ?_
                    refine x_done ?_
                    refine x_tN ?_
                    refine x_retc ?_
                    obtain rfl := Option.some.inj hD
                    exact hR _ (ends_t (nf_of rfl (show _ = (V.bool true) from rfl)) (fun h => nomatch h))
                  · rw [if_neg hp53] at hD
                    refine x_gy (show _ = (V.bool (decide (r35 < 0))) from rfl) (decide_eq_false hp53) ?_
                    refine x_mv' (show _ = (V.int .i64 r38) from rfl) ?_
                    refine x_gy (show _ = (V.bool (decide (r35 < 0))) from rfl) (decide_eq_false hp53) ?_
                    refine x_bin (show _ = (V.int .i64 r38) from rfl) (show _ = (V.int .i64 0) from rfl) b_lss ?_
                    refine x_gy (show _ = (V.bool true) from rfl) rfl ?_
                    refine x_pickf' (show _ = (V.bool (decide (r35 < 0))) from rfl) (decide_eq_false hp53) (show _ = (V.bool (decide (r38 < 0))) from rfl) ?_
                    refine x_gy (show _ = (V.bool true) from rfl) rfl ?_
                    refine x_mv' (show _ = (V.bool (decide (r38 < 0))) from rfl) ?_
                    by_cases hp54 : r38 < 0
                    · rw [if_pos hp54] at hD
                      refine x_gn (show _ = (V.bool (decide (r38 < 0))) from rfl) (decide_eq_true hp54) ?_
                      refine x_gn (show _ = (V.bool (decide (r38 < 0))) from rfl) (decide_eq_true hp54) ?_
                      refine x_gy (show _ = (V.bool true) from rfl) rfl ?_
                      refine x_pickt' (show _ = (V.bool (decide (r38 < 0))) from rfl) (decide_eq_true hp54) (show _ = (V.bool true) from rfl) ?_
                      refine x_pickt' (show _ = (V.bool true) from rfl) rfl (show _ = (V.bool true) from rfl) ?_
                      refine x_mv' (show _ = (V.bool true) from rfl) ?_
                      refine x_done ?_
                      refine x_tN ?_
                      refine x_retc ?_
                      obtain rfl := Option.some.inj hD
                      exact hR _ (ends_t (nf_of rfl (show _ = (V.bool true) from rfl)) (fun h => nomatch h))
                    · rw [if_neg hp54] at hD
                      refine x_gy (show _ = (V.bool (decide (r38 < 0))) from rfl) (decide_eq_false hp54) ?_
                      refine x_mv' (show _ = (V.int .i64 r41) from rfl) ?_
                      refine x_gy (show _ = (V.bool (decide (r38 < 0))) from rfl) (decide_eq_false hp54) ?_
                      refine x_bin (show _ = (V.int .i64 r41) from rfl) (show _ = (V.int .i64 0) from rfl) b_geq ?_
                      refine x_gy (show _ = (V.bool true) from rfl) rfl ?_
                      refine x_pickf' (show _ = (V.bool (decide (r38 < 0))) from rfl) (decide_eq_false hp54) (show _ = (V.bool (decide (0 ≤ r41))) from rfl) ?_
                      refine x_pickt' (show _ = (V.bool true) from rfl) rfl (show _ = (V.bool (decide (0 ≤ r41))) from rfl) ?_
                      refine x_mv' (show _ = (V.bool (decide (0 ≤ r41))) from rfl) ?_
                      refine x_done ?_
                      refine x_tN ?_
                      refine x_retc ?_
                      obtain rfl := Option.some.inj hD
                      exact hR _ (ends_t (nf_of rfl (show _ = (V.bool (decide (0 ≤ r41))) from rfl)) (fun h => nomatch h))
                · rw [if_neg hp52] at hD
                  refine x_gy (show _ = (V.bool (decide (0 < r35))) from rfl) (decide_eq_false hp52) ?_
                  refine x_mv' (show _ = (V.int .i64 r38) from rfl) ?_
                  refine x_gy (show _ = (V.bool (decide (0 < r35))) from rfl) (decide_eq_false hp52) ?_
                  refine x_bin (show _ = (V.int .i64 r38) from rfl) (show _ = (V.int .i64 0) from rfl) b_gtr ?_
                  refine x_gy (show _ = (V.bool ((decide (r35 = 0)) == (decide (p0 = p1)))) from rfl) hp51 ?_
                  refine x_pickf' (show _ = (V.bool (decide (0 < r35))) from rfl) (decide_eq_false hp52) (show _ = (V.bool (decide (0 < r38))) from rfl) ?_
                  refine x_gy (show _ = (V.bool ((decide (r35 = 0)) == (decide (p0 = p1)))) from rfl) hp51 ?_
                  refine x_mv' (show _ = (V.bool (decide (0 < r38))) from rfl) ?_
                  by_cases hp55 : 0 < r38
                  · rw [if_pos hp55] at hD
                    refine x_gn (show _ = (V.bool (decide (0 < r38))) from rfl) (decide_eq_true hp55) ?_
                    refine x_gn (show _ = (V.bool (decide (0 < r38))) from rfl) (decide_eq_true hp55) ?_
                    refine x_gy (show _ = (V.bool ((decide (r35 = 0)) == (decide (p0 = p1)))) from rfl) hp51 ?_
                    refine x_pickt' (show _ = (V.bool (decide (0 < r38))) from rfl) (decide_eq_true hp55) (show _ = (V.bool true) from rfl) ?_
                    refine x_pickt' (show _ = (V.bool ((decide (r35 = 0)) == (decide (p0 = p1)))) from rfl) hp51 (show _ = (V.bool true) from rfl) ?_
                    refine x_mv' (show _ = (V.bool true) from rfl) ?_
                    refine x_gy (show _ = (V.bool true) from rfl) rfl ?_
                    refine x_mv' (show _ = (V.int .i64 r35) from rfl) ?_
                    refine x_gy (show _ = (V.bool true) from rfl) rfl ?_
                    refine x_bin (show _ = (V.int .i64 r35) from rfl) (show _ = (V.int .i64 0) from rfl) b_lss ?_
                    refine x_gy (show _ = (V.bool true) from rfl) rfl ?_
                    refine x_mv' (show _ = (V.bool (decide (r35 < 0))) from rfl) ?_
                    by_cases hp56 : r35 < 0
                    · rw [if_pos hp56] at hD
                      refine x_gn (show _ = (V.bool (decide (r35 < 0))) from rfl) (decide_eq_true hp56) ?_
                      refine x_gn (show _ = (V.bool (decide (r35 < 0))) from rfl) (decide_eq_true hp56) ?_
                      refine x_gy (show _ = (V.bool true) from rfl) rfl ?_
                      refine x_pickt' (show _ = (V.bool (decide (r35 < 0))) from rfl) (decide_eq_true hp56) (show _ = (V.bool true) from rfl) ?_
                      refine x_gy (show _ = (V.bool true) from rfl) rfl ?_
                      refine x_mv' (show _ = (V.bool true) from rfl) ?_
                      refine x_gn (show _ = (V.bool true) from rfl) rfl ?_
                      refine x_gn (show _ = (V.bool true) from rfl) rfl ?_
                      refine x_gy (show _ = (V.bool true) from rfl) rfl ?_
                      refine x_pickt' (show _ = (V.bool true) from rfl) rfl (show _ = (V.bool true) from rfl) ?_
                      refine x_pickt' (show _ = (V.bool true) from rfl) rfl (show _ = (V.bool true) from rfl) ?_
                      refine x_mv' (show _ = (V.bool true) from rfl) ?_
                      refine x_done ?_
                      refine x_tN ?_
                      refine x_retc ?_
                      obtain rfl := Option.some.inj hD
                      exact hR _ (ends_t (nf_of rfl (show _ = (V.bool true) from rfl)) (fun h => nomatch h))
                    · rw [if_neg hp56] at hD
                      refine x_gy (show _ = (V.bool (decide (r35 < 0))) from rfl) (decide_eq_false hp56) ?_
                      refine x_mv' (show _ = (V.int .i64 r38) from rfl) ?_
                      refine x_gy (show _ = (V.bool (decide (r35 < 0))) from rfl) (decide_eq_false hp56) ?_
                      refine x_bin (show _ = (V.int .i64 r38) from rfl) (show _ = (V.int .i64 0) from rfl) b_lss ?_
                      refine x_gy (show _ = (V.bool true) from rfl) rfl ?_
                      refine x_pickf' (show _ = (V.bool (decide (r35 < 0))) from rfl) (decide_eq_false hp56) (show _ = (V.bool (decide (r38 < 0))) from rfl) ?_
                      refine x_gy (show _ = (V.bool true) from rfl) rfl ?_
                      refine x_mv' (show _ = (V.bool (decide (r38 < 0))) from rfl) ?_
                      by_cases hp57 : r38 < 0
                      · rw [if_pos hp57] at hD
                        refine x_gn (show _ = (V.bool (decide (r38 < 0))) from rfl) (decide_eq_true hp57) ?_
                        refine x_gn (show _ = (V.bool (decide (r38 < 0))) from rfl) (decide_eq_true hp57) ?_
                        refine x_gy (show _ = (V.bool true) from rfl) rfl ?_
                        refine x_pickt' (show _ = (V.bool (decide (r38 < 0))) from rfl) (decide_eq_true hp57) (show _ = (V.bool true) from rfl) ?_
                        refine x_pickt' (show _ = (V.bool true) from rfl) rfl (show _ = (V.bool true) from rfl) ?_
                        refine x_mv' (show _ = (V.bool true) from rfl) ?_
                        refine x_done ?_
                        refine x_tN ?_
                        refine x_retc ?_
                        obtain rfl := Option.some.inj hD
                        exact hR _ (ends_t (nf_of rfl (show _ = (V.bool true) from rfl)) (fun h => nomatch h))
                      · rw [if_neg hp57] at hD
                        refine x_gy (show _ = (V.bool (decide (r38 < 0))) from rfl) (decide_eq_false hp57) ?_
                        refine x_mv' (show _ = (V.int .i64 r41) from rfl) ?_
                        refine x_gy (show _ = (V.bool (decide (r38 < 0))) from rfl) (decide_eq_false hp57) ?_
                        refine x_bin (show _ = (V.int .i64 r41) from rfl) (show _ = (V.int .i64 0) from rfl) b_geq ?_
                        refine x_gy (show _ = (V.bool true) from rfl) rfl ?_
                        refine x_pickf' (show _ = (V.bool (decide (r38 < 0))) from rfl) (decide_eq_false hp57) (show _ = (V.bool (decide (0 ≤ r41))) from rfl) ?_
                        refine x_pickt' (show _ = (V.bool true) from rfl) rfl (show _ = (V.bool (decide (0 ≤ r41))) from rfl) ?_
                        refine x_mv' (show _ = (V.bool (decide (0 ≤ r41))) from rfl) ?_
                        refine x_done ?_
                        refine x_tN ?_
                        refine x_retc ?_
                        obtain rfl := Option.some.inj hD
                        exact hR _ (ends_t (nf_of rfl (show _ = (V.bool (decide (0 ≤ r41))) from rfl)) (fun h => nomatch h))
                  · rw [if_neg hp55] at hD
                    refine x_gy (show _ = (V.bool (decide (0 < r38))) from rfl) (decide_eq_false hp55) ?_
                    refine x_mv' (show _ = (V.int .i64 r41) from rfl) ?_
                    refine x_gy (show _ = (V.bool (decide (0 < r38))) from rfl) (decide_eq_false hp55) ?_
                    refine x_bin (show _ = (V.int .i64 r41) from rfl) (show _ = (V.int .i64 0) from rfl) b_leq ?_
                    refine x_gy (show _ = (V.bool ((decide (r35 = 0)) == (decide (p0 = p1)))) from rfl) hp51 ?_
                    refine x_pickf' (show _ = (V.bool (decide (0 < r38))) from rfl) (decide_eq_false hp55) (show _ = (V.bool (decide (r41 ≤ 0))) from rfl) ?_
                    refine x_pickt' (show _ = (V.bool ((decide (r35 = 0)) == (decide (p0 = p1)))) from rfl) hp51 (show _ = (V.bool (decide (r41 ≤ 0))) from rfl) ?_
                    refine x_mv' (show _ = (V.bool (decide (r41 ≤ 0))) from rfl) ?_
                    by_cases hp58 : r41 ≤ 0
                    · rw [if_pos hp58] at hD
                      refine x_gy (show _ = (V.bool (decide (r41 ≤ 0))) from rfl) (decide_eq_true hp58) ?_
                      refine x_mv' (show _ = (V.int .i64 r35) from rfl) ?_
                      refine x_gy (show _ = (V.bool (decide (r41 ≤ 0))) from rfl) (decide_eq_true hp58) ?_
                      refine x_bin (show _ = (V.int .i64 r35) from rfl) (show _ = (V.int .i64 0) from rfl) b_lss ?_
                      refine x_gy (show _ = (V.bool (decide (r41 ≤ 0))) from rfl) (decide_eq_true hp58) ?_
                      refine x_mv' (show _ = (V.bool (decide (r35 < 0))) from rfl) ?_
                      by_cases hp59 : r35 < 0
                      · rw [if_pos hp59] at hD
                        refine x_gn (show _ = (V.bool (decide (r35 < 0))) from rfl) (decide_eq_true hp59) ?_
                        refine x_gn (show _ = (V.bool (decide (r35 < 0))) from rfl) (decide_eq_true hp59) ?_
                        refine x_gy (show _ = (V.bool (decide (r41 ≤ 0))) from rfl) (decide_eq_true hp58) ?_
                        refine x_pickt' (show _ = (V.bool (decide (r35 < 0))) from rfl) (decide_eq_true hp59) (show _ = (V.bool true) from rfl) ?_
                        refine x_gy (show _ = (V.bool (decide (r41 ≤ 0))) from rfl) (decide_eq_true hp58) ?_
                        refine x_mv' (show _ = (V.bool true) from rfl) ?_
                        refine x_gn (show _ = (V.bool true) from rfl) rfl ?_
                        refine x_gn (show _ = (V.bool true) from rfl) rfl ?_
                        refine x_gy (show _ = (V.bool (decide (r41 ≤ 0))) from rfl) (decide_eq_true hp58) ?_
                        refine x_pickt' (show _ = (V.bool true) from rfl) rfl (show _ = (V.bool true) from rfl) ?_
                        refine x_pickt' (show _ = (V.bool (decide (r41 ≤ 0))) from rfl) (decide_eq_true hp58) (show _ = (V.bool true) from rfl) ?_
                        refine x_mv' (show _ = (V.bool true) from rfl) ?_
                        refine x_done ?_
                        refine x_tN ?_
                        refine x_retc ?_
                        obtain rfl := Option.some.inj hD
                        exact hR _ (ends_t (nf_of rfl (show _ = (V.bool true) from rfl)) (fun h => nomatch h))
                      · rw [if_neg hp59] at hD
                        refine x_gy (show _ = (V.bool (decide (r35 < 0))) from rfl) (decide_eq_false hp59) ?_
                        refine x_mv' (show _ = (V.int .i64 r38) from rfl) ?_
                        refine x_gy (show _ = (V.bool (decide (r35 < 0))) from rfl) (decide_eq_false hp59) ?_
                        refine x_bin (show _ = (V.int .i64 r38) from rfl) (show _ = (V.int .i64 0) from rfl) b_lss ?_
                        refine x_gy (show _ = (V.bool (decide (r41 ≤ 0))) from rfl) (decide_eq_true hp58) ?_
                        refine x_pickf' (show _ = (V.bool (decide (r35 < 0))) from rfl) (decide_eq_false hp59) (show _ = (V.bool (decide (r38 < 0))) from rfl) ?_
                        refine x_gy (show _ = (V.bool (decide (r41 ≤ 0))) from rfl) (decide_eq_true hp58) ?_
                        refine x_mv' (show _ = (V.bool (decide (r38 < 0))) from rfl) ?_
                        by_cases hp60 : r38 < 0
                        · rw [if_pos hp60] at hD
                          refine x_gn (show _ = (V.bool (decide (r38 < 0))) from rfl) (decide_eq_true hp60) ?_
                          refine x_gn (show _ = (V.bool (decide (r38 < 0))) from rfl) (decide_eq_true hp60) ?_
                          refine x_gy (show _ = (V.bool (decide (r41 ≤ 0))) from rfl) (decide_eq_true hp58) ?_
                          refine x_pickt' (show _ = (V.bool (decide (r38 < 0))) from rfl) (decide_eq_true hp60) (show _ = (V.bool true) from rfl) ?_
                          refine x_pickt' (show _ = (V.bool (decide (r41 ≤ 0))) from rfl) (decide_eq_true hp58) (show _ = (V.bool true) from rfl) ?_
                          refine x_mv' (show _ = (V.bool true) from rfl) ?_
                          refine x_done ?_
                          refine x_tN ?_
                          refine x_retc ?_
                          obtain rfl := Option.some.inj hD
                          exact hR _ (ends_t (nf_of rfl (show _ = (V.bool true) from rfl)) (fun h => nomatch h))
                        · rw [if_neg hp60] at hD
                          refine x_gy (show _ = (V.bool (decide (r38 < 0))) from rfl) (decide_eq_false hp60) ?_
                          refine x_mv' (show _ = (V.int .i64 r41) from rfl) ?_
                          refine x_gy (show _ = (V.bool (decide (r38 < 0))) from rfl) (decide_eq_false hp60) ?_
                          refine x_bin (show _ = (V.int .i64 r41) from rfl) (show _ = (V.int .i64 0) from rfl) b_geq ?_
                          refine x_gy (show _ = (V.bool (decide (r41 ≤ 0))) from rfl) (decide_eq_true hp58) ?_
                          refine x_pickf' (show _ = (V.bool (decide (r38 < 0))) from rfl) (decide_eq_false hp60) (show _ = (V.bool (decide (0 ≤ r41))) from rfl) ?_
                          refine x_pickt' (show _ = (V.bool (decide (r41 ≤ 0))) from rfl) (decide_eq_true hp58) (show _ = (V.bool (decide (0 ≤ r41))) from rfl) ?_
                          refine x_mv' (show _ = (V.bool (decide (0 ≤ r41))) from rfl) ?_
                          refine x_done ?_
                          refine x_tN ?_
                          refine x_retc ?_
                          obtain rfl := Option.some.inj hD
                          exact hR _ (ends_t (nf_of rfl (show _ = (V.bool (decide (0 ≤ r41))) from rfl)) (fun h => nomatch h))
                    · rw [if_neg hp58] at hD
                      refine x_gn (show _ = (V.bool (decide (r41 ≤ 0))) from rfl) (decide_eq_false hp58) ?_
                      refine x_gn (show _ = (V.bool (decide (r41 ≤ 0))) from rfl) (decide_eq_false hp58) ?_
                      refine x_gn (show _ = (V.bool (decide (r41 ≤ 0))) from rfl) (decide_eq_false hp58) ?_
                      refine x_gnil (show _ = Nil from rfl) ?_
                      refine x_gnil (show _ = Nil from rfl) ?_
                      refine x_gn (show _ = (V.bool (decide (r41 ≤ 0))) from rfl) (decide_eq_false hp58) ?_
                      refine x_gn (show _ = (V.bool (decide (r41 ≤ 0))) from rfl) (decide_eq_false hp58) ?_
                      refine x_gnil (show _ = Nil from rfl) ?_
                      refine x_gnil (show _ = Nil from rfl) ?_
                      refine x_gn (show _ = (V.bool (decide (r41 ≤ 0))) from rfl) (decide_eq_false hp58) ?_
                      refine x_pickf' (show _ = (V.bool (decide (r41 ≤ 0))) from rfl) (decide_eq_false hp58) (show _ = (V.bool false) from rfl) ?_
                      refine x_mv' (show _ = (V.bool false) from rfl) ?_
                      refine x_done ?_
                      refine x_tN ?_
                      refine x_retc ?_
                      obtain rfl := Option.some.inj hD
                      exact hR _ (ends_t (nf_of rfl (show _ = (V.bool false) from rfl)) (fun h => nomatch h))
              · rw [if_neg hp51] at hD
                refine x_gn (show _ = (V.bool ((decide (r35 = 0)) == (decide (p0 = p1)))) from rfl) (Bool.eq_false_iff.2 hp51) ?_
                refine x_gn (show _ = (V.bool ((decide (r35 = 0)) == (decide (p0 = p1)))) from rfl) (Bool.eq_false_iff.2 hp51) ?_
                refine x_gn (show _ = (V.bool ((decide (r35 = 0)) == (decide (p0 = p1)))) from rfl) (Bool.eq_false_iff.2 hp51) ?_
                refine x_gnil (show _ = Nil from rfl) ?_
                refine x_gnil (show _ = Nil from rfl) ?_
                refine x_gn (show _ = (V.bool ((decide (r35 = 0)) == (decide (p0 = p1)))) from rfl) (Bool.eq_false_iff.2 hp51) ?_
                refine x_gn (show _ = (V.bool ((decide (r35 = 0)) == (decide (p0 = p1)))) from rfl) (Bool.eq_false_iff.2 hp51) ?_
                refine x_gnil (show _ = Nil from rfl) ?_
                refine x_gnil (show _ = Nil from rfl) ?_
                refine x_gn (show _ = (V.bool ((decide (r35 = 0)) == (decide (p0 = p1)))) from rfl) (Bool.eq_false_iff.2 hp51) ?_
                refine x_pickf' (show _ = (V.bool ((decide (r35 = 0)) == (decide (p0 = p1)))) from rfl) (Bool.eq_false_iff.2 hp51) (show _ = (V.bool false) from rfl) ?_
                refine x_mv' (show _ = (V.bool false) from rfl) ?_
                refine x_gn (show _ = (V.bool false) from rfl) rfl ?_
                refine x_gn (show _ = (V.bool false) from rfl) rfl ?_
                refine x_gn (show _ = (V.bool false) from rfl) rfl ?_
                refine x_gnil (show _ = Nil from rfl) ?_
                refine x_gnil (show _ = Nil from rfl) ?_
                refine x_gn (show _ = (V.bool false) from rfl) rfl ?_
                refine x_gn (show _ = (V.bool false) from rfl) rfl ?_
                refine x_gnil (show _ = Nil from rfl) ?_
                refine x_gnil (show _ = Nil from rfl) ?_
                refine x_gn (show _ = (V.bool false) from rfl) rfl ?_
                refine x_pickf' (show _ = (V.bool false) from rfl) rfl (show _ = (V.bool false) from rfl) ?_
                refine x_mv' (show _ = (V.bool false) from rfl) ?_
                refine x_done ?_
                refine x_tN ?_
                refine x_retc ?_
                obtain rfl := Option.some.inj hD
                exact hR _ (ends_t (nf_of rfl (show _ = (V.bool false) from rfl)) (fun h => nomatch h))
            · rw [if_neg hp50] at hD
              refine x_gn (show _ = (V.bool (decide (r48 = (wi (0 - r35))))) from rfl) (decide_eq_false hp50) ?_
              refine x_gn (show _ = (V.bool (decide (r48 = (wi (0 - r35))))) from rfl) (decide_eq_false hp50) ?_
              refine x_gn (show _ = (V.bool (decide (r48 = (wi (0 - r35))))) from rfl) (decide_eq_false hp50) ?_
              refine x_gn (show _ = (V.bool (decide (r48 = (wi (0 - r35))))) from rfl) (decide_eq_false hp50) ?_
              refine x_gn (show _ = (V.bool (decide (r48 = (wi (0 - r35))))) from rfl) (decide_eq_false hp50) ?_
              refine x_gn (show _ = (V.bool (decide (r48 = (wi (0 - r35))))) from rfl) (decide_eq_false hp50) ?_
              refine x_pickf' (show _ = (V.bool (decide (r48 = (wi (0 - r35))))) from rfl) (decide_eq_false hp50) (show _ = (V.bool false) from rfl) ?_
              refine x_mv' (show _ = (V.bool false) from rfl) ?_
              refine x_gn (show _ = (V.bool false) from rfl) rfl ?_
              refine x_gn (show _ = (V.bool false) from rfl) rfl ?_
              refine x_gn (show _ = (V.bool false) from rfl) rfl ?_
              refine x_gnil (show _ = Nil from rfl) ?_
              refine x_gnil (show _ = Nil from rfl) ?_
              refine x_gn (show _ = (V.bool false) from rfl) rfl ?_
              refine x_gn (show _ = (V.bool false) from rfl) rfl ?_
              refine x_gnil (show _ = Nil from rfl) ?_
              refine x_gnil (show _ = Nil from rfl) ?_
              refine x_gn (show _ = (V.bool false) from rfl) rfl ?_
              refine x_pickf' (show _ = (V.bool false) from rfl) rfl (show _ = (V.bool false) from rfl) ?_
              refine x_mv' (show _ = (V.bool false) from rfl) ?_
              refine x_gn (show _ = (V.bool false) from rfl) rfl ?_
              refine x_gn (show _ = (V.bool false) from rfl) rfl ?_
              refine x_gn (show _ = (V.bool false) from rfl) rfl ?_
              refine x_gnil (show _ = Nil from rfl) ?_
              refine x_gnil (show _ = Nil from rfl) ?_
              refine x_gn (show _ = (V.bool false) from rfl) rfl ?_
              refine x_gn (show _ = (V.bool false) from rfl) rfl ?_
              refine x_gnil (show _ = Nil from rfl) ?_
              refine x_gnil (show _ = Nil from rfl) ?_
              refine x_gn (show _ = (V.bool false) from rfl) rfl ?_
              refine x_pickf' (show _ = (V.bool false) from rfl) rfl (show _ = (V.bool false) from rfl) ?_
              refine x_mv' (show _ = (V.bool false) from rfl) ?_
              refine x_done ?_
              refine x_tN ?_
              refine x_retc ?_
              obtain rfl := Option.some.inj hD
              exact hR _ (ends_t (nf_of rfl (show _ = (V.bool false) from rfl)) (fun h => nomatch h))
          · rw [if_neg hp46] at hD
            refine x_gn (show _ = (V.bool (decide (r35 = r44))) from rfl) (decide_eq_false hp46) ?_
            refine x_gn (show _ = (V.bool (decide (r35 = r44))) from rfl) (decide_eq_false hp46) ?_
            refine x_gn (show _ = (V.bool (decide (r35 = r44))) from rfl) (decide_eq_false hp46) ?_
            refine x_gn (show _ = (V.bool (decide (r35 = r44))) from rfl) (decide_eq_false hp46) ?_
            refine x_gn (show _ = (V.bool (decide (r35 = r44))) from rfl) (decide_eq_false hp46) ?_
            refine x_gn (show _ = (V.bool (decide (r35 = r44))) from rfl) (decide_eq_false hp46) ?_
            refine x_pickf' (show _ = (V.bool (decide (r35 = r44))) from rfl) (decide_eq_false hp46) (show _ = (V.bool false) from rfl) ?_
            refine x_mv' (show _ = (V.bool false) from rfl) ?_
            refine x_gn (show _ = (V.bool false) from rfl) rfl ?_
            refine x_gn (show _ = (V.bool false) from rfl) rfl ?_
            refine x_gn (show _ = (V.bool false) from rfl) rfl ?_
            refine x_gn (show _ = (V.bool false) from rfl) rfl ?_
            refine x_gn (show _ = (V.bool false) from rfl) rfl ?_
            refine x_gn (show _ = (V.bool false) from rfl) rfl ?_
            refine x_pickf' (show _ = (V.bool false) from rfl) rfl (show _ = (V.bool false) from rfl) ?_
            refine x_mv' (show _ = (V.bool false) from rfl) ?_
            refine x_gn (show _ = (V.bool false) from rfl) rfl ?_
            refine x_gn (show _ = (V.bool false) from rfl) rfl ?_
            refine x_gn (show _ = (V.bool false) from rfl) rfl ?_
            refine x_gnil (show _ = Nil from rfl) ?_
            refine x_gnil (show _ = Nil from rfl) ?_
            refine x_gn (show _ = (V.bool false) from rfl) rfl ?_
            refine x_gn (show _ = (V.bool false) from rfl) rfl ?_
            refine x_gnil (show _ = Nil from rfl) ?_
            refine x_gnil (show _ = Nil from rfl) ?_
            refine x_gn (show _ = (V.bool false) from rfl) rfl ?_
            refine x_pickf' (show _ = (V.bool false) from rfl) rfl (show _ = (V.bool false) from rfl) ?_
            refine x_mv' (show _ = (V.bool false) from rfl) ?_
            refine x_gn (show _ = (V.bool false) from rfl) rfl ?_
            refine x_gn (show _ = (V.bool false) from rfl) rfl ?_
            refine x_gn (show _ = (V.bool false) from rfl) rfl ?_
            refine x_gnil (show _ = Nil from rfl) ?_
            refine x_gnil (show _ = Nil from rfl) ?_
            refine x_gn (show _ = (V.bool false) from rfl) rfl ?_
            refine x_gn (show _ = (V.bool false) from rfl) rfl ?_
            refine x_gnil (show _ = Nil from rfl) ?_
            refine x_gnil (show _ = Nil from rfl) ?_
            refine x_gn (show _ = (V.bool false) from rfl) rfl ?_
            refine x_pickf' (show _ = (V.bool false) from rfl) rfl (show _ = (V.bool false) from rfl) ?_
            refine x_mv' (show _ = (V.bool false) from rfl) ?_
            refine x_done ?_
            refine x_tN ?_
            refine x_retc ?_
            obtain rfl := Option.some.inj hD
            exact hR _ (ends_t (nf_of rfl (show _ = (V.bool false) from rfl)) (fun h => nomatch h))
  · rw [if_neg hp14] at hD
    refine x_ct (show _ = (V.bool (!r12)) from rfl) (bnot_f (Bool.eq_false_iff.2 hp14)) ?_
    refine x_seq ?_
    refine x_start (b := false) ?_
    refine x_mv' (show _ = (V.bool false) from rfl) ?_
    refine x_done ?_
    refine x_tN ?_
    refine x_retc ?_
    refine x_tR ?_
    obtain rfl := Option.some.inj hD
    exact hR _ (ends_t (nf_of rfl (show _ = (V.bool false) from rfl)) (fun h => nomatch h))
def K.seichelaw06_PathOrders : FC := fc F.seichelaw06_PathOrders (fun _ => true) false (fun (a : (Bytes × Bytes × Bytes)) => [(V.str a.1), (V.str a.2.1), (V.str a.2.2)]) (fun (y : Bool) => (V.bool y)) (fun a => g.seichelaw06_PathOrders a.1 a.2.1 a.2.2)
  (fun a => (cleanL_mk rfl (cleanL_mk rfl (cleanL_mk rfl rfl))))
  (fun y => rfl)
  (fun ⟨a0, a1, a2⟩ ⟨b0, b1, b2⟩ h => by
    obtain ⟨h0, h⟩ := List.cons.inj h
    obtain rfl : a0 = b0 := V.str.inj h0
    obtain ⟨h0, h⟩ := List.cons.inj h
    obtain rfl : a1 = b1 := V.str.inj h0
    obtain ⟨h0, h⟩ := List.cons.inj h
    obtain rfl : a2 = b2 := V.str.inj h0
    rfl)
theorem H.seichelaw06_PathOrders (w : World) (hw : EnvOK w) : K.seichelaw06_PathOrders.Holds (cxD w) :=
  FC.holds_of (cs := [K.seichelaw06_alive, K.path_Compare, K.seicheref06_Compare]) (glD w) mixed cf_seichelaw06_PathOrders (fun _ _ ⟨_, _, h, _⟩ => by subst h; exact Nat.le_of_ble_eq_true rfl) fun v y ⟨a, r, hv, hD, hy⟩ => by
    subst hy
    exact ok.seichelaw06_PathOrders (specOf_calls (H.seichelaw06_alive w hw) (fun _ _ ⟨_, _, h, _⟩ => by subst h; rfl)) (specOf_calls (H.path_Compare w hw) (fun _ _ ⟨_, _, h, _⟩ => by subst h; rfl)) (specOf_calls (H.seicheref06_Compare w hw) (fun _ _ ⟨_, _, h, _⟩ => by subst h; rfl)) hv hD
def c_seichelaw06_PathLies : ACode := (.seq (.region [
  ⟨(some 6), (.mv (.const (.bool false))), none, []⟩] false) (.seq (.seq (.region [
  ⟨(some 17), (.call F.seichelaw06_alive []), none, []⟩, 
  ⟨(some 18), (.un .not (.tmp 17)), none, []⟩] false) (.cond (.tmp 18) (.seq (.region [
  ⟨(some 6), (.mv (.const (.bool false))), none, []⟩] false) .ret) .skip)) (.seq (.seq (.region [
  ⟨(some 19), (.mv (.tmp 0)), none, []⟩, 
  ⟨(some 20), (.len true (.tmp 19)), none, []⟩, 
  ⟨(some 21), (.bin .gtr .no (.tmp 20) (.const (.int .i64 512))), none, []⟩, 
  ⟨(some 22), (.mv (.tmp 21)), none, []⟩, 
  ⟨(some 23), (.mv (.tmp 1)), (some (22, false)), []⟩, 
  ⟨(some 24), (.len true (.tmp 23)), (some (22, false)), []⟩, 
  ⟨(some 25), (.bin .gtr .no (.tmp 24) (.const (.int .i64 512))), (some (22, false)), []⟩, 
  ⟨(some 26), (.pick (.tmp 22) (.const (.bool true)) (.tmp 25)), none, []⟩, 
  ⟨(some 27), (.mv (.tmp 26)), none, []⟩, 
  ⟨(some 28), (.mv (.tmp 2)), (some (27, false)), []⟩, 
  ⟨(some 29), (.len true (.tmp 28)), (some (27, false)), []⟩, 
  ⟨(some 30), (.bin .gtr .no (.tmp 29) (.const (.int .i64 512))), (some (27, false)), []⟩, 
  ⟨(some 31), (.pick (.tmp 27) (.const (.bool true)) (.tmp 30)), none, []⟩, 
  ⟨(some 32), (.mv (.tmp 31)), none, []⟩, 
  ⟨(some 33), (.mv (.tmp 0)), (some (32, false)), []⟩, 
  ⟨(some 34), (.call F.seicheref06_Good [(.tmp 33)]), (some (32, false)), []⟩, 
  ⟨(some 35), (.un .not (.tmp 34)), (some (32, false)), []⟩, 
  ⟨(some 36), (.pick (.tmp 32) (.const (.bool true)) (.tmp 35)), none, []⟩, 
  ⟨(some 37), (.mv (.tmp 36)), none, []⟩, 
  ⟨(some 38), (.mv (.tmp 1)), (some (37, false)), []⟩, 
  ⟨(some 39), (.call F.seicheref06_Good [(.tmp 38)]), (some (37, false)), []⟩, 
  ⟨(some 40), (.un .not (.tmp 39)), (some (37, false)), []⟩, 
  ⟨(some 41), (.pick (.tmp 37) (.const (.bool true)) (.tmp 40)), none, []⟩, 
  ⟨(some 42), (.mv (.tmp 41)), none, []⟩, 
  ⟨(some 43), (.mv (.tmp 2)), (some (42, false)), []⟩, 
  ⟨(some 44), (.call F.seicheref06_Good [(.tmp 43)]), (some (42, false)), []⟩, 
  ⟨(some 45), (.un .not (.tmp 44)), (some (42, false)), []⟩, 
  ⟨(some 46), (.pick (.tmp 42) (.const (.bool true)) (.tmp 45)), none, []⟩] false) (.cond (.tmp 46) (.seq (.region [
  ⟨(some 6), (.mv (.const (.bool true))), none, []⟩] false) .ret) .skip)) (.seq (.region [
  ⟨(some 47), (.mv (.tmp 0)), none, []⟩, 
  ⟨(some 48), (.mv (.tmp 1)), none, []⟩, 
  ⟨(some 49), (.bsl 1 [(.tmp 47), (.tmp 48)]), none, []⟩, 
  ⟨(some 50), (.call F.path_Join [(.tmp 49)]), none, []⟩, 
  ⟨(some 7), (.mv (.tmp 50)), none, []⟩] false) (.seq (.region [
  ⟨(some 51), (.mv (.tmp 7)), none, []⟩, 
  ⟨(some 52), (.mv (.tmp 2)), none, []⟩, 
  ⟨(some 53), (.bsl 1 [(.tmp 51), (.tmp 52)]), none, []⟩, 
  ⟨(some 54), (.call F.path_Join [(.tmp 53)]), none, []⟩, 
  ⟨(some 8), (.mv (.tmp 54)), none, []⟩] false) (.seq (.region [
  ⟨(some 56), (.mv (.tmp 0)), none, []⟩, 
  ⟨(some 57), (.mv (.tmp 7)), none, []⟩, 
  ⟨(some 58), (.call F.path_Under [(.tmp 56), (.tmp 57)]), none, []⟩, 
  ⟨(some 55), (.mv (.tmp 58)), none, []⟩, 
  ⟨(some 59), (.ext (.tmp 55) 0), none, []⟩, 
  ⟨(some 60), (.ext (.tmp 55) 1), none, []⟩, 
  ⟨(some 9), (.mv (.tmp 59)), none, []⟩, 
  ⟨(some 10), (.mv (.tmp 60)), none, []⟩] false) (.seq (.region [
  ⟨(some 62), (.mv (.tmp 0)), none, []⟩, 
  ⟨(some 63), (.mv (.tmp 8)), none, []⟩, 
  ⟨(some 64), (.call F.path_Under [(.tmp 62), (.tmp 63)]), none, []⟩, 
  ⟨(some 61), (.mv (.tmp 64)), none, []⟩, 
  ⟨(some 65), (.ext (.tmp 61) 0), none, []⟩, 
  ⟨(some 66), (.ext (.tmp 61) 1), none, []⟩, 
  ⟨(some 11), (.mv (.tmp 65)), none, []⟩, 
  ⟨(some 12), (.mv (.tmp 66)), none, []⟩] false) (.seq (.region [
  ⟨(some 68), (.mv (.tmp 7)), none, []⟩, 
  ⟨(some 69), (.mv (.tmp 8)), none, []⟩, 
  ⟨(some 70), (.call F.path_Under [(.tmp 68), (.tmp 69)]), none, []⟩, 
  ⟨(some 67), (.mv (.tmp 70)), none, []⟩, 
  ⟨(some 71), (.ext (.tmp 67) 0), none, []⟩, 
  ⟨(some 72), (.ext (.tmp 67) 1), none, []⟩, 
  ⟨(some 13), (.mv (.tmp 71)), none, []⟩, 
  ⟨(some 14), (.mv (.tmp 72)), none, []⟩] false) (.seq (.region [
  ⟨(some 74), (.mv (.tmp 0)), none, []⟩, 
  ⟨(some 75), (.mv (.tmp 0)), none, []⟩, 
  ⟨(some 76), (.call F.path_Under [(.tmp 74), (.tmp 75)]), none, []⟩, 
  ⟨(some 73), (.mv (.tmp 76)), none, []⟩, 
  ⟨(some 77), (.ext (.tmp 73) 0), none, []⟩, 
  ⟨(some 78), (.ext (.tmp 73) 1), none, []⟩, 
  ⟨(some 15), (.mv (.tmp 77)), none, []⟩, 
  ⟨(some 16), (.mv (.tmp 78)), none, []⟩] false) (.seq (.region [
  ⟨(some 79), (.mv (.tmp 10)), none, []⟩, 
  ⟨(some 80), (.mv (.tmp 79)), none, []⟩, 
  ⟨(some 81), (.mv (.tmp 9)), (some (80, true)), []⟩, 
  ⟨(some 82), (.mv (.tmp 1)), (some (80, true)), []⟩, 
  ⟨(some 83), (.bin .eql .no (.tmp 81) (.tmp 82)), (some (80, true)), []⟩, 
  ⟨(some 84), (.pick (.tmp 80) (.tmp 83) (.const (.bool false))), none, []⟩, 
  ⟨(some 85), (.mv (.tmp 84)), none, []⟩, 
  ⟨(some 86), (.mv (.tmp 12)), (some (85, true)), []⟩, 
  ⟨(some 87), (.pick (.tmp 85) (.tmp 86) (.const (.bool false))), none, []⟩, 
  ⟨(some 88), (.mv (.tmp 87)), none, []⟩, 
  ⟨(some 89), (.mv (.tmp 11)), (some (88, true)), []⟩, 
  ⟨(some 90), (.mv (.tmp 1)), (some (88, true)), []⟩, 
  ⟨(some 91), (.mv (.tmp 2)), (some (88, true)), []⟩, 
  ⟨(some 92), (.bsl 1 [(.tmp 90), (.tmp 91)]), (some (88, true)), []⟩, 
  ⟨(some 93), (.call F.path_Join [(.tmp 92)]), (some (88, true)), []⟩, 
  ⟨(some 94), (.bin .eql .no (.tmp 89) (.tmp 93)), (some (88, true)), []⟩, 
  ⟨(some 95), (.pick (.tmp 88) (.tmp 94) (.const (.bool false))), none, []⟩, 
  ⟨(some 96), (.mv (.tmp 95)), none, []⟩, 
  ⟨(some 97), (.mv (.tmp 14)), (some (96, true)), []⟩, 
  ⟨(some 98), (.pick (.tmp 96) (.tmp 97) (.const (.bool false))), none, []⟩, 
  ⟨(some 99), (.mv (.tmp 98)), none, []⟩, 
  ⟨(some 100), (.mv (.tmp 13)), (some (99, true)), []⟩, 
  ⟨(some 101), (.mv (.tmp 2)), (some (99, true)), []⟩, 
  ⟨(some 102), (.bin .eql .no (.tmp 100) (.tmp 101)), (some (99, true)), []⟩, 
  ⟨(some 103), (.pick (.tmp 99) (.tmp 102) (.const (.bool false))), none, []⟩, 
  ⟨(some 104), (.mv (.tmp 103)), none, []⟩, 
  ⟨(some 105), (.mv (.tmp 16)), (some (104, true)), []⟩, 
  ⟨(some 106), (.un .not (.tmp 105)), (some (104, true)), []⟩, 
  ⟨(some 107), (.pick (.tmp 104) (.tmp 106) (.const (.bool false))), none, []⟩, 
  ⟨(some 108), (.mv (.tmp 107)), none, []⟩, 
  ⟨(some 109), (.mv (.tmp 0)), (some (108, true)), []⟩, 
  ⟨(some 110), (.mv (.tmp 7)), (some (108, true)), []⟩, 
  ⟨(some 111), (.call F.path_Compare [(.tmp 109), (.tmp 110)]), (some (108, true)), []⟩, 
  ⟨(some 112), (.bin .lss .no (.tmp 111) (.const (.int .i64 0))), (some (108, true)), []⟩, 
  ⟨(some 113), (.pick (.tmp 108) (.tmp 112) (.const (.bool false))), none, []⟩, 
  ⟨(some 114), (.mv (.tmp 113)), none, []⟩, 
  ⟨(some 115), (.mv (.tmp 7)), (some (114, true)), []⟩, 
  ⟨(some 116), (.mv (.tmp 8)), (some (114, true)), []⟩, 
  ⟨(some 117), (.call F.path_Compare [(.tmp 115), (.tmp 116)]), (some (114, true)), []⟩, 
  ⟨(some 118), (.bin .lss .no (.tmp 117) (.const (.int .i64 0))), (some (114, true)), []⟩, 
  ⟨(some 119), (.pick (.tmp 114) (.tmp 118) (.const (.bool false))), none, []⟩, 
  ⟨(some 6), (.mv (.tmp 119)), none, []⟩] false) .ret))))))))))
theorem cf_seichelaw06_PathLies : cFn Go.Proofs.Tryd.prog F.seichelaw06_PathLies = some ⟨120, c_seichelaw06_PathLies, [.t 6]⟩ := by kernel_rfl
def g.seichelaw06_PathLies (p0 : Bytes) (p1 : Bytes) (p2 : Bytes) : Option Bool :=
  (g.seichelaw06_alive).bind fun r12 =>
  if r12 = true then
    if 512 < ((p0.length : Nat) : Int) then
      some true
    else
      if 512 < ((p1.length : Nat) : Int) then
        some true
      else
        if 512 < ((p2.length : Nat) : Int) then
          some true
        else
          (g.seicheref06_Good p0).bind fun r62 =>
          if r62 = true then
            (g.seicheref06_Good p1).bind fun r66 =>
            if r66 = true then
              (g.seicheref06_Good p2).bind fun r70 =>
              if r70 = true then
                (g.path_Join ([p0, p1] : (List Bytes))).bind fun r79 =>
                (g.path_Join ([r79, p2] : (List Bytes))).bind fun r87 =>
                (g.path_Under p0 r79).bind fun r96 =>
                (g.path_Under p0 r87).bind fun r108 =>
                (g.path_Under r79 r87).bind fun r120 =>
                (g.path_Under p0 p0).bind fun r132 =>
                if r96.2 = true then
                  if r96.1 = p1 then
                    if r108.2 = true then
                      (g.path_Join ([p1, p2] : (List Bytes))).bind fun r142 =>
                      if r108.1 = r142 then
                        if r120.2 = true then
                          if r120.1 = p2 then
                            if r132.2 = true then
                              some false
                            else
                              (g.path_Compare p0 r79).bind fun r149 =>
                              if r149 < 0 then
                                (g.path_Compare r79 r87).bind fun r153 =>
                                some (decide (r153 < 0))
                              else
                                some false
                          else
                            some false
                        else
                          some false
                      else
                        some false
                    else
                      some false
                  else
                    some false
                else
                  some false
              else
                some true
            else
              some true
          else
            some true
  else
    some false
set_option maxRecDepth 100000 in
theorem ok.seichelaw06_PathLies {Γ : Abs.Spec} {gl : Glob} (hC_seichelaw06_alive : CallsX Γ K.seichelaw06_alive) (hC_seicheref06_Good : CallsX Γ K.seicheref06_Good) (hC_path_Join : CallsX Γ K.path_Join) (hC_path_Under : CallsX Γ K.path_Under) (hC_path_Compare : CallsX Γ K.path_Compare) {r : Bool} {p0 : Bytes} {p1 : Bytes} {p2 : Bytes} {v : List V}
    (hv : nfL v = [(V.str p0), (V.str p1), (V.str p2)]) (hD : g.seichelaw06_PathLies p0 p1 p2 = some r) : awp Γ gl c_seichelaw06_PathLies (endQ [.t 6] false (V.bool r)) (St.init v) := by
  obtain ⟨v0, v, rfl, h0, hv⟩ := nfL_cons hv
  obtain ⟨v1, v, rfl, h1, hv⟩ := nfL_cons hv
  obtain ⟨v2, v, rfl, h2, hv⟩ := nfL_cons hv
  obtain rfl := nfL_nil hv
  have hR : ∀ s, EndsX [.t 6] false (V.bool r) s → endQ [.t 6] false (V.bool r) .ret s := fun _ h => h
  unfold g.seichelaw06_PathLies at hD
  unfold c_seichelaw06_PathLies
  refine x_seq ?_
  refine x_start (b := false) ?_
  refine x_mv' (show _ = (V.bool false) from rfl) ?_
  refine x_done ?_
  refine x_tN ?_
  refine x_seq ?_
  refine x_seq ?_
  refine x_start (b := false) ?_
  obtain ⟨r12, hx13, hD⟩ := Option.bind_eq_some_iff.1 hD
  refine x_callF hC_seichelaw06_alive (a := ()) rfl hx13 fun v11 ov11 (hv11 : v11.nf = (V.bool r12)) hov11 => ?_
  refine x_un (nf_bool hv11) (aun_not _) ?_
  refine x_done ?_
  refine x_tN ?_
  by_cases hp14 : r12 = true
  · rw [if_pos hp14] at hD
    refine x_cf (show _ = (V.bool (!r12)) from rfl) (bnot_t hp14) ?_
    refine x_skip ?_
    refine x_tN ?_
    refine x_seq ?_
    refine x_seq ?_
    refine x_start (b := false) ?_
    refine x_mv' (nf_str h0) ?_
    refine x_lens (show _ = (V.str p0) from rfl) ?_
    refine x_bin (show _ = (V.int .i64 ((p0.length : Nat) : Int)) from rfl) (show _ = (V.int .i64 512) from rfl) b_gtr ?_
    refine x_mv' (show _ = (V.bool (decide (512 < ((p0.length : Nat) : Int)))) from rfl) ?_
    by_cases hp58 : 512 < ((p0.length : Nat) : Int)
    · rw [if_pos hp58] at hD
      refine x_gn (show _ = (V.bool (decide (512 < ((p0.length : Nat) : Int)))) from rfl) (decide_eq_true hp58) ?_
      refine x_gn (show _ = (V.bool (decide (512 < ((p0.length : Nat) : Int)))) from rfl) (decide_eq_true hp58) ?_
      refine x_gn (show _ = (V.bool (decide (512 < ((p0.length : Nat) : Int)))) from rfl) (decide_eq_true hp58) ?_
      refine x_pickt' (show _ = (V.bool (decide (512 < ((p0.length : Nat) : Int)))) from rfl) (decide_eq_true hp58) (show _ = (V.bool true) from rfl) ?_
      refine x_mv' (show _ = (V.bool true) from rfl) ?_
      refine x_gn (show _ = (V.bool true) from rfl) rfl ?_
      refine x_gn (show _ = (V.bool true) from rfl) rfl ?_
      refine x_gn (show _ = (V.bool true) from rfl) rfl ?_
      refine x_pickt' (show _ = (V.bool true) from rfl) rfl (show _ = (V.bool true) from rfl) ?_
      refine x_mv' (show _ = (V.bool true) from rfl) ?_
      refine x_gn (show _ = (V.bool true) from rfl) rfl ?_
      refine x_gn (show _ = (V.bool true) from rfl) rfl ?_
      refine x_gn (show _ = (V.bool true) from rfl) rfl ?_
      refine x_pickt' (show _ = (V.bool true) from rfl) rfl (show _ = (V.bool true) from rfl) ?_
      refine x_mv' (show _ = (V.bool true) from rfl) ?_
      refine x_gn (show _ = (V.bool true) from rfl) rfl ?_
      refine x_gn (show _ = (V.bool true) from rfl) rfl ?_
      refine x_gn (show _ = (V.bool true) from rfl) rfl ?_
      refine x_pickt' (show _ = (V.bool true) from rfl) rfl (show _ = (V.bool true) from rfl) ?_
      refine x_mv' (show _ = (V.bool true) from rfl) ?_
      refine x_gn (show _ = (V.bool true) from rfl) rfl ?_
      refine x_gn (show _ = (V.bool true) from rfl) rfl ?_
      refine x_gn (show _ = (V.bool true) from rfl) rfl ?_
      refine x_pickt' (show _ = (V.bool true) from rfl) rfl (show _ = (V.bool true) from rfl) ?_
      refine x_done ?_
      refine x_tN ?_
      refine x_ct (show _ = (V.bool true) from rfl) rfl ?_
      refine x_seq ?_
      refine x_start (b := false) ?_
      refine x_mv' (show _ = (V.bool true) from rfl) ?_
      refine x_done ?_
      refine x_tN ?_
      refine x_retc ?_
      refine x_tR ?_
      obtain rfl := Option.some.inj hD
      exact hR _ (ends_t (nf_of rfl (show _ = (V.bool true) from rfl)) (fun h => nomatch h))
    · rw [if_neg hp58] at hD
      refine x_gy (show _ = (V.bool (decide (512 < ((p0.length : Nat) : Int)))) from rfl) (decide_eq_false hp58) ?_
      refine x_mv' (nf_str h1) ?_
      refine x_gy (show _ = (V.bool (decide (512 < ((p0.length : Nat) : Int)))) from rfl) (decide_eq_false hp58) ?_
      refine x_lens (show _ = (V.str p1) from rfl) ?_
      refine x_gy (show _ = (V.bool (decide (512 < ((p0.length : Nat) : Int)))) from rfl) (decide_eq_false hp58) ?_
      refine x_bin (show _ = (V.int .i64 ((p1.length : Nat) : Int)) from rfl) (show _ = (V.int .i64 512) from rfl) b_gtr ?_
      refine x_pickf' (show _ = (V.bool (decide (512 < ((p0.length : Nat) : Int)))) from rfl) (decide_eq_false hp58) (show _ = (V.bool (decide (512 < ((p1.length : Nat) : Int)))) from rfl) ?_
      refine x_mv' (show _ = (V.bool (decide (512 < ((p1.length : Nat) : Int)))) from rfl) ?_
      by_cases hp59 : 512 < ((p1.length : Nat) : Int)
      · rw [if_pos hp59] at hD
        refine x_gn (show _ = (V.bool (decide (512 < ((p1.length : Nat) : Int)))) from rfl) (decide_eq_true hp59) ?_
        refine x_gn (show _ = (V.bool (decide (512 < ((p1.length : Nat) : Int)))) from rfl) (decide_eq_true hp59) ?_
        refine x_gn (show _ = (V.bool (decide (512 < ((p1.length : Nat) : Int)))) from rfl) (decide_eq_true hp59) ?_
        refine x_pickt' (show _ = (V.bool (decide (512 < ((p1.length : Nat) : Int)))) from rfl) (decide_eq_true hp59) (show _ = (V.bool true) from rfl) ?_
        refine x_mv' (show _ = (V.bool true) from rfl) ?_
        refine x_gn (show _ = (V.bool true) from rfl) rfl ?_
        refine x_gn (show _ = (V.bool true) from rfl) rfl ?_
        refine x_gn (show _ = (V.bool true) from rfl) rfl ?_
        refine x_pickt' (show _ = (V.bool true) from rfl) rfl (show _ = (V.bool true) from rfl) ?_
        refine x_mv' (show _ = (V.bool true) from rfl) ?_
        refine x_gn (show _ = (V.bool true) from rfl) rfl ?_
        refine x_gn (show _ = (V.bool true) from rfl) rfl ?_
        refine x_gn (show _ = (V.bool true) from rfl) rfl ?_
        refine x_pickt' (show _ = (V.bool true) from rfl) rfl (show _ = (V.bool true) from rfl) ?_
        refine x_mv' (show _ = (V.bool true) from rfl) ?_
        refine x_gn (show _ = (V.bool true) from rfl) rfl ?_
        refine x_gn (show _ = (V.bool true) from rfl) rfl ?_
        refine x_gn (show _ = (V.bool true) from rfl) rfl ?_
        refine x_pickt' (show _ = (V.bool true) from rfl) rfl (show _ = (V.bool true) from rfl) ?_
        refine x_done ?_
        refine x_tN ?_
        refine x_ct (show _ = (V.bool true) from rfl) rfl ?_
        refine x_seq ?_
        refine x_start (b := false) ?_
        refine x_mv' (show _ = (V.bool true) from rfl) ?_
        refine x_done ?_
        refine x_tN ?_
        refine x_retc ?_
        refine x_tR ?_
        obtain rfl := Option.some.inj hD
        exact hR _ (ends_t (nf_of rfl (show _ = (V.bool true) from rfl)) (fun h => nomatch h))
      · rw [if_neg hp59] at hD
        refine x_gy (show _ = (V.bool (decide (512 < ((p1.length : Nat) : Int)))) from rfl) (decide_eq_false hp59) ?_
        refine x_mv' (nf_str h2) ?_
        refine x_gy (show _ = (V.bool (decide (512 < ((p1.length : Nat) : Int)))) from rfl) (decide_eq_false hp59) ?_
        refine x_lens (show _ = (V.str p2) from rfl) ?_
        refine x_gy (show _ = (V.bool (decide (512 < ((p1.length : Nat) : Int)))) from rfl) (decide_eq_false hp59) ?_
        refine x_bin (show _ = (V.int .i64 ((p2.length : Nat) : Int)) from rfl) (show _ = (V.int .i64 512) from rfl) b_gtr ?_
        refine x_pickf' (show _ = (V.bool (decide (512 < ((p1.length : Nat) : Int)))) from rfl) (decide_eq_false hp59) (show _ = (V.bool (decide (512 < ((p2.length : Nat) : Int)))) from rfl) ?_
        refine x_mv' (show _ = (V.bool (decide (512 < ((p2.length : Nat) : Int)))) from rfl) ?_
        by_cases hp60 : 512 < ((p2.length : Nat) : Int)
        · rw [if_pos hp60] at hD
          refine x_gn (show _ = (V.bool (decide (512 < ((p2.length : Nat) : Int)))) from rfl) (decide_eq_true hp60) ?_
          refine x_gn (show _ = (V.bool (decide (512 < ((p2.length : Nat) : Int)))) from rfl) (decide_eq_true hp60) ?_
          refine x_gn (show _ = (V.bool (decide (512 < ((p2.length : Nat) : Int)))) from rfl) (decide_eq_true hp60) ?_
          refine x_pickt' (show _ = (V.bool (decide (512 < ((p2.length : Nat) : Int)))) from rfl) (decide_eq_true hp60) (show _ = (V.bool true) from rfl) ?_
          refine x_mv' (show _ = (V.bool true) from rfl) ?_
          refine x_gn (show _ = (V.bool true) from rfl) rfl ?_
          refine x_gn (show _ = (V.bool true) from rfl) rfl ?_
          refine x_gn (show _ = (V.bool true) from rfl) rfl ?_
          refine x_pickt' (show _ = (V.bool true) from rfl) rfl (show _ = (V.bool true) from rfl) ?_
          refine x_mv' (show _ = (V.bool true) from rfl) ?_
          refine x_gn (show _ = (V.bool true) from rfl) rfl ?_
          refine x_gn (show _ = (V.bool true) from rfl) rfl ?_
          refine x_gn (show _ = (V.bool true) from rfl) rfl ?_
          refine x_pickt' (show _ = (V.bool true) from rfl) rfl (show _ = (V.bool true) from rfl) ?_
          refine x_done ?_
          refine x_tN ?_
          refine x_ct (show _ = (V.bool true) from rfl) rfl ?_
          refine x_seq ?_
          refine x_start (b := false) ?_
          refine x_mv' (show _ = (V.bool true) from rfl) ?_
          refine x_done ?_
          refine x_tN ?_
          refine x_retc ?_
          refine x_tR ?_
          obtain rfl := Option.some.inj hD
          exact hR _ (ends_t (nf_of rfl (show _ = (V.bool true) from rfl)) (fun h => nomatch h))
        · rw [if_neg hp60] at hD
          refine x_gy (show _ = (V.bool (decide (512 < ((p2.length : Nat) : Int)))) from rfl) (decide_eq_false hp60) ?_
          refine x_mv' (nf_str h0) ?_
          refine x_gy (show _ = (V.bool (decide (512 < ((p2.length : Nat) : Int)))) from rfl) (decide_eq_false hp60) ?_
          obtain ⟨r62, hx63, hD⟩ := Option.bind_eq_some_iff.1 hD
          refine x_callF hC_seicheref06_Good (a := (p0)) (cons_eq (nf_of rfl (show _ = (V.str p0) from rfl)) rfl) hx63 fun v61 ov61 (hv61 : v61.nf = (V.bool r62)) hov61 => ?_
          refine x_gy (show _ = (V.bool (decide (512 < ((p2.length : Nat) : Int)))) from rfl) (decide_eq_false hp60) ?_
          refine x_un (nf_bool hv61) (aun_not _) ?_
          refine x_pickf' (show _ = (V.bool (decide (512 < ((p2.length : Nat) : Int)))) from rfl) (decide_eq_false hp60) (show _ = (V.bool (!r62)) from rfl) ?_
          refine x_mv' (show _ = (V.bool (!r62)) from rfl) ?_
          by_cases hp64 : r62 = true
          · rw [if_pos hp64] at hD
            refine x_gy (show _ = (V.bool (!r62)) from rfl) (bnot_t hp64) ?_
            refine x_mv' (nf_str h1) ?_
            refine x_gy (show _ = (V.bool (!r62)) from rfl) (bnot_t hp64) ?_
            obtain ⟨r66, hx67, hD⟩ := Option.bind_eq_some_iff.1 hD
            refine x_callF hC_seicheref06_Good (a := (p1)) (cons_eq (nf_of rfl (show _ = (V.str p1) from rfl)) rfl) hx67 fun v65 ov65 (hv65 : v65.nf = (V.bool r66)) hov65 => ?_
            refine x_gy (show _ = (V.bool (!r62)) from rfl) (bnot_t hp64) ?_
            refine x_un (nf_bool hv65) (aun_not _) ?_
            refine x_pickf' (show _ = (V.bool (!r62)) from rfl) (bnot_t hp64) (show _ = (V.bool (!r66)) from rfl) ?_
            refine x_mv' (show _ = (V.bool (!r66)) from rfl) ?_
            by_cases hp68 : r66 = true
            · rw [if_pos hp68] at hD
              refine x_gy (show _ = (V.bool (!r66)) from rfl) (bnot_t hp68) ?_
              refine x_mv' (nf_str h2) ?_
              refine x_gy (show _ = (V.bool (!r66)) from rfl) (bnot_t hp68) ?_
              obtain ⟨r70, hx71, hD⟩ := Option.bind_eq_some_iff.1 hD
              refine x_callF hC_seicheref06_Good (a := (p2)) (cons_eq (nf_of rfl (show _ = (V.str p2) from rfl)) rfl) hx71 fun v69 ov69 (hv69 : v69.nf = (V.bool r70)) hov69 => ?_
              refine x_gy (show _ = (V.bool (!r66)) from rfl) (bnot_t hp68) ?_
              refine x_un (nf_bool hv69) (aun_not _) ?_
              refine x_pickf' (show _ = (V.bool (!r66)) from rfl) (bnot_t hp68) (show _ = (V.bool (!r70)) from rfl) ?_
              refine x_done ?_
              refine x_tN ?_
              by_cases hp72 : r70 = true
              · rw [if_pos hp72] at hD
                refine x_cf (show _ = (V.bool (!r70)) from rfl) (bnot_t hp72) ?_
                refine x_skip ?_
                refine x_tN ?_
                refine x_seq ?_
                refine x_start (b := false) ?_
                refine x_mv' (nf_str h0) ?_
                refine x_mv' (nf_str h1) ?_
                refine x_bsl (E := V.str) (l := ([p0, p1] : (List Bytes))) (cons_eq (nf_of rfl (show _ = (V.str p0) from rfl)) (cons_eq (nf_of rfl (show _ = (V.str p1) from rfl)) rfl)) (fits_map (E := V.str) (sz := 1) (fun x => ⟨rfl, rfl⟩) _) fun v77 ov77 hv77 hov77 => ?_
                obtain ⟨r79, hx80, hD⟩ := Option.bind_eq_some_iff.1 hD
                refine x_callF hC_path_Join (a := (([p0, p1] : (List Bytes)))) (cons_eq hv77 rfl) hx80 fun v78 ov78 (hv78 : v78.nf = (V.str r79)) hov78 => ?_
                refine x_mv' (nf_str hv78) ?_
                refine x_done ?_
                refine x_tN ?_
                refine x_seq ?_
                refine x_start (b := false) ?_
                refine x_mv' (show _ = (V.str r79) from rfl) ?_
                refine x_mv' (nf_str h2) ?_
                refine x_bsl (E := V.str) (l := ([r79, p2] : (List Bytes))) (cons_eq (nf_of rfl (show _ = (V.str r79) from rfl)) (cons_eq (nf_of rfl (show _ = (V.str p2) from rfl)) rfl)) (fits_map (E := V.str) (sz := 1) (fun x => ⟨rfl, rfl⟩) _) fun v85 ov85 hv85 hov85 => ?_
                obtain ⟨r87, hx88, hD⟩ := Option.bind_eq_some_iff.1 hD
                refine x_callF hC_path_Join (a := (([r79, p2] : (List Bytes)))) (cons_eq hv85 rfl) hx88 fun v86 ov86 (hv86 : v86.nf = (V.str r87)) hov86 => ?_
                refine x_mv' (nf_str hv86) ?_
                refine x_done ?_
                refine x_tN ?_
                refine x_seq ?_
                refine x_start (b := false) ?_
                refine x_mv' (nf_str h0) ?_
                refine x_mv' (show _ = (V.str r79) from rfl) ?_
                obtain ⟨r96, hx97, hD⟩ := Option.bind_eq_some_iff.1 hD
                refine x_callF hC_path_Under (a := (p0, r79)) (cons_eq (nf_of rfl (show _ = (V.str p0) from rfl)) (cons_eq (nf_of rfl (show _ = (V.str r79) from rfl)) rfl)) hx97 fun v95 ov95 (hv95 : v95.nf = (V.tup [(V.str r96.1), (V.bool r96.2)])) hov95 => ?_
                refine x_mv hv95 fun v98 hv98 => ?_
                refine x_ext hv98 (show _ = some (V.str r96.1) from rfl) fun v99 hv99 => ?_
                refine x_ext hv98 (show _ = some (V.bool r96.2) from rfl) fun v100 hv100 => ?_
                refine x_mv' (nf_str hv99) ?_
                refine x_mv' (nf_bool hv100) ?_
                refine x_done ?_
                refine x_tN ?_
                refine x_seq ?_
                refine x_start (b := false) ?_
                refine x_mv' (nf_str h0) ?_
                refine x_mv' (show _ = (V.str r87) from rfl) ?_
                obtain ⟨r108, hx109, hD⟩ := Option.bind_eq_some_iff.1 hD
                refine x_callF hC_path_Under (a := (p0, r87)) (cons_eq (nf_of rfl (show _ = (V.str p0) from rfl)) (cons_eq (nf_of rfl (show _ = (V.str r87) from rfl)) rfl)) hx109 fun v107 ov107 (hv107 : v107.nf = (V.tup [(V.str r108.1), (V.bool r108.2)])) hov107 => ?_
                refine x_mv hv107 fun v110 hv110 => ?_
                refine x_ext hv110 (show _ = some (V.str r108.1) from rfl) fun v111 hv111 => ?_
                refine x_ext hv110 (show _ = some (V.bool r108.2) from rfl) fun v112 hv112 => ?_
                refine x_mv' (nf_str hv111) ?_
                refine x_mv' (nf_bool hv112) ?_
                refine x_done ?_
                refine x_tN ?_
                refine x_seq ?_
                refine x_start (b := false) ?_
                refine x_mv' (show _ = (V.str r79) from rfl) ?_
                refine x_mv' (show _ = (V.str r87) from rfl) ?_
                obtain ⟨r120, hx121, hD⟩ := Option.bind_eq_some_iff.1 hD
                refine x_callF hC_path_Under (a := (r79, r87)) (cons_eq (nf_of rfl (show _ = (V.str r79) from rfl)) (cons_eq (nf_of rfl (show _ = (V.str r87) from rfl)) rfl)) hx121 fun v119 ov119 (hv119 : v119.nf = (V.tup [(V.str r120.1), (V.bool r120.2)])) hov119 => ?_
                refine x_mv hv119 fun v122 hv122 => ?_
                refine x_ext hv122 (show _ = some (V.str r120.1) from rfl) fun v123 hv123 => ?_
                refine x_ext hv122 (show _ = some (V.bool r120.2) from rfl) fun v124 hv124 => ?_
                refine x_mv' (nf_str hv123) ?_
                refine x_mv' (nf_bool hv124) ?_
                refine x_done ?_
                refine x_tN ?_
                refine x_seq ?_
                refine x_start (b := false) ?_
                refine x_mv' (nf_str h0) ?_
                refine x_mv' (nf_str h0) ?_
                obtain ⟨r132, hx133, hD⟩ := Option.bind_eq_some_iff.1 hD
                refine x_callF hC_path_Under (a := (p0, p0)) (cons_eq (nf_of rfl (show _ = (V.str p0) from rfl)) (cons_eq (nf_of rfl (show _ = (V.str p0) from rfl)) rfl)) hx133 fun v131 ov131 (hv131 : v131.nf = (V.tup [(V.str r132.1), (V.bool r132.2)])) hov131 => ?_
                refine x_mv hv131 fun v134 hv134 => ?_
                refine x_ext hv134 (show _ = some (V.str r132.1) from rfl) fun v135 hv135 => ?_
                refine x_ext hv134 (show _ = some (V.bool r132.2) from rfl) fun v136 hv136 => ?_
                refine x_mv' (nf_str hv135) ?_
                refine x_mv' (nf_bool hv136) ?_
                refine x_done ?_
                refine x_tN ?_
                refine x_seq ?_
                refine x_start (b := false) ?_
                refine x_mv' (show _ = (V.bool r96.2) from rfl) ?_
                refine x_mv' (show _ = (V.bool r96.2) from rfl) ?_
                by_cases hp137 : r96.2 = true
                · rw [if_pos hp137] at hD
                  refine x_gy (show _ = (V.bool r96.2) from rfl) hp137 ?_
                  refine x_mv' (show _ = (V.str r96.1) from rfl) ?_
                  refine x_gy (show _ = (V.bool r96.2) from rfl) hp137 ?_
                  refine x_mv' (nf_str h1) ?_
                  refine x_gy (show _ = (V.bool r96.2) from rfl) hp137 ?_
                  refine x_bin (show _ = (V.str r96.1) from rfl) (show _ = (V.str p1) from rfl) s_eql ?_
                  refine x_pickt' (show _ = (V.bool r96.2) from rfl) hp137 (show _ = (V.bool (decide (r96.1 = p1))) from rfl) ?_
                  refine x_mv' (show _ = (V.bool (decide (r96.1 = p1))) from rfl) ?_
                  by_cases hp138 : r96.1 = p1
                  · rw [if_pos hp138] at hD
                    refine x_gy (show _ = (V.bool (decide (r96.1 = p1))) from rfl) (decide_eq_true hp138) ?_
                    refine x_mv' (show _ = (V.bool r108.2) from rfl) ?_
                    refine x_pickt' (show _ = (V.bool (decide (r96.1 = p1))) from rfl) (decide_eq_true hp138) (show _ = (V.bool r108.2) from rfl) ?_
                    refine x_mv' (show _ = (V.bool r108.2) from rfl) ?_
                    by_cases hp139 : r108.2 = true
                    · rw [if_pos hp139] at hD
                      refine x_gy (show _ = (V.bool r108.2) from rfl) hp139 ?_
                      refine x_mv' (show _ = (V.str r108.1) from rfl) ?_
                      refine x_gy (show _ = (V.bool r108.2) from rfl) hp139 ?_
                      refine x_mv' (nf_str h1) ?_
                      refine x_gy (show _ = (V.bool r108.2) from rfl) hp139 ?_
                      refine x_mv' (nf_str h2) ?_
                      refine x_gy (show _ = (V.bool r108.2) from rfl) hp139 ?_
                      refine x_bsl (E := V.str) (l := ([p1, p2] : (List Bytes))) (cons_eq (nf_of rfl (show _ = (V.str p1) from rfl)) (cons_eq (nf_of rfl (show _ = (V.str p2) from rfl)) rfl)) (fits_map (E := V.str) (sz := 1) (fun x => ⟨rfl, rfl⟩) _) fun v140 ov140 hv140 hov140 => ?_
                      refine x_gy (show _ = (V.bool r108.2) from rfl) hp139 ?_
                      obtain ⟨r142, hx143, hD⟩ := Option.bind_eq_some_iff.1 hD
                      refine x_callF hC_path_Join (a := (([p1, p2] : (List Bytes)))) (cons_eq hv140 rfl) hx143 fun v141 ov141 (hv141 : v141.nf = (V.str r142)) hov141 => ?_
                      refine x_gy (show _ = (V.bool r108.2) from rfl) hp139 ?_
                      refine x_bin (show _ = (V.str r108.1) from rfl) (nf_str hv141) s_eql ?_
                      refine x_pickt' (show _ = (V.bool r108.2) from rfl) hp139 (show _ = (V.bool (decide (r108.1 = r142))) from rfl) ?_
                      refine x_mv' (show _ = (V.bool (decide (r108.1 = r142))) from rfl) ?_
                      by_cases hp144 : r108.1 = r142
                      · rw [if_pos hp144] at hD
                        refine x_gy (show _ = (V.bool (decide (r108.1 = r142))) from rfl) (decide_eq_true hp144) ?_
                        refine x_mv' (show _ = (V.bool r120.2) from rfl) ?_
                        refine x_pickt' (show _ = (V.bool (decide (r108.1 = r142))) from rfl) (decide_eq_true hp144) (show _ = (V.bool r120.2) from rfl) ?_
                        refine x_mv' (show _ = (V.bool r120.2) from rfl) ?_
                        by_cases hp145 : r120.2 = true
                        · rw [if_pos hp145] at hD
                          refine x_gy (show _ = (V.bool r120.2) from rfl) hp145 ?_
                          refine x_mv' (show _ = (V.str r120.1) from rfl) ?_
                          refine x_gy (show _ = (V.bool r120.2) from rfl) hp145 ?_
                          refine x_mv' (nf_str h2) ?_
                          refine x_gy (show _ = (V.bool r120.2) from rfl) hp145 ?_
                          refine x_bin (show _ = (V.str r120.1) from rfl) (show _ = (V.str p2) from rfl) s_eql ?_
                          refine x_pickt' (show _ = (V.bool r120.2) from rfl) hp145 (show _ = (V.bool (decide (r120.1 = p2))) from rfl) ?_
                          refine x_mv' (show _ = (V.bool (decide (r120.1 = p2))) from rfl) ?_
                          by_cases hp146 : r120.1 = p2
                          · rw [if_pos hp146] at hD
                            refine x_gy (show _ = (V.bool (decide (r120.1 = p2))) from rfl) (decide_eq_true hp146) ?_
                            refine x_mv' (show _ = (V.bool r132.2) from rfl) ?_
                            refine x_gy (show _ = (V.bool (decide (r120.1 = p2))) from rfl) (decide_eq_true hp146) ?_
                            refine x_un (show _ = (V.bool r132.2) from rfl) (aun_not _) ?_
                            refine x_pickt' (show _ = (V.bool (decide (r120.1 = p2))) from rfl) (decide_eq_true hp146) (show _ = (V.bool (!r132.2)) from rfl) ?_
                            refine x_mv' (show _ = (V.bool (!r132.2)) from rfl) ?_
                            by_cases hp147 : r132.2 = true
                            · rw [if_pos hp147] at hD
                              refine x_gn (show _ = (V.bool (!r132.2)) from rfl) (bnot_t hp147) ?_
                              refine x_gn (show _ = (V.bool (!r132.2)) from rfl) (bnot_t hp147) ?_
                              refine x_gn (show _ = (V.bool (!r132.2)) from rfl) (bnot_t hp147) ?_
                              refine x_gn (show _ = (V.bool (!r132.2)) from rfl) (bnot_t hp147) ?_
                              refine x_pickf' (show _ = (V.bool (!r132.2)) from rfl) (bnot_t hp147) (show _ = (V.bool false) from rfl) ?_
                              refine x_mv' (show _ = (V.bool false) from rfl) ?_
                              refine x_gn (show _ = (V.bool false) from rfl) rfl ?_
                              refine x_gn (show _ = (V.bool false) from rfl) rfl ?_
                              refine x_gn (show _ = (V.bool false) from rfl) rfl ?_
                              refine x_gn (show _ = (V.bool false) from rfl) rfl ?_
                              refine x_pickf' (show _ = (V.bool false) from rfl) rfl (show _ = (V.bool false) from rfl) ?_
                              refine x_mv' (show _ = (V.bool false) from rfl) ?_
                              refine x_done ?_
                              refine x_tN ?_
                              refine x_retc ?_
                              obtain rfl := Option.some.inj hD
                              exact hR _ (ends_t (nf_of rfl (show _ = (V.bool false) from rfl)) (fun h => nomatch h))
                            · rw [if_neg hp147] at hD
                              refine x_gy (show _ = (V.bool (!r132.2)) from rfl) (bnot_f (Bool.eq_false_iff.2 hp147)) ?_
                              refine x_mv' (nf_str h0) ?_
                              refine x_gy (show _ = (V.bool (!r132.2)) from rfl) (bnot_f (Bool.eq_false_iff.2 hp147)) ?_
                              refine x_mv' (show _ = (V.str r79) from rfl) ?_
                              refine x_gy (show _ = (V.bool (!r132.2)) from rfl) (bnot_f (Bool.eq_false_iff.2 hp147)) ?_
                              obtain ⟨r149, hx150, hD⟩ := Option.bind_eq_some_iff.1 hD
                              refine x_callF hC_path_Compare (a := (p0, r79)) (cons_eq (nf_of rfl (show _ = (V.str p0) from rfl)) (cons_eq (nf_of rfl (show _ = (V.str r79) from rfl)) rfl)) hx150 fun v148 ov148 (hv148 : v148.nf = (V.int .i64 r149)) hov148 => ?_
                              refine x_gy (show _ = (V.bool (!r132.2)) from rfl) (bnot_f (Bool.eq_false_iff.2 hp147)) ?_
                              refine x_bin (nf_int hv148) (show _ = (V.int .i64 0) from rfl) b_lss ?_
                              refine x_pickt' (show _ = (V.bool (!r132.2)) from rfl) (bnot_f (Bool.eq_false_iff.2 hp147)) (show _ = (V.bool (decide (r149 < 0))) from rfl) ?_
                              refine x_mv' (show _ = (V.bool (decide (r149 < 0))) from rfl) ?_
                              by_cases hp151 : r149 < 0
                              · rw [if_pos hp151] at hD
                                refine x_gy (show _ = (V.bool (decide (r149 < 0))) from rfl) (decide_eq_true hp151) ?_
                                refine x_mv' (show _ = (V.str r79) from rfl) ?_
                                refine x_gy (show _ = (V.bool (decide (r149 < 0))) from rfl) (decide_eq_true hp151) ?_
                                refine x_mv' (show _ = (V.str r87) from rfl) ?_
                                refine x_gy (show _ = (V.bool (decide (r149 < 0))) from rfl) (decide_eq_true hp151) ?_
                                obtain ⟨r153, hx154, hD⟩ := Option.bind_eq_some_iff.1 hD
                                refine x_callF hC_path_Compare (a := (r79, r87)) (cons_eq (nf_of rfl (show _ = (V.str r79) from rfl)) (cons_eq (nf_of rfl (show _ = (V.str r87) from rfl)) rfl)) hx154 fun v152 ov152 (hv152 : v152.nf = (V.int .i64 r153)) hov152 => ?_
                                refine x_gy (show _ = (V.bool (decide (r149 < 0))) from rfl) (decide_eq_true hp151) ?_
                                refine x_bin (nf_int hv152) (show _ = (V.int .i64 0) from rfl) b_lss ?_
                                refine x_pickt' (show _ = (V.bool (decide (r149 < 0))) from rfl) (decide_eq_true hp151) (show _ = (V.bool (decide (r153 < 0))) from rfl) ?_
                                refine x_mv' (show _ = (V.bool (decide (r153 < 0))) from rfl) ?_
                                refine x_done ?_
                                refine x_tN ?_
                                refine x_retc ?_
                                obtain rfl := Option.some.inj hD
                                exact hR _ (ends_t (nf_of rfl (show _ = (V.bool (decide (r153 < 0))) from rfl)) (fun h => nomatch h))
                              · rw [if_neg hp151] at hD
                                refine x_gn (show _ = (V.bool (decide (r149 < 0))) from rfl) (decide_eq_false hp151) ?_
                                refine x_gn (show _ = (V.bool (decide (r149 < 0))) from rfl) (decide_eq_false hp151) ?_
                                refine x_gn (show _ = (V.bool (decide (r149 < 0))) from rfl) (decide_eq_false hp151) ?_
                                refine x_gn (show _ = (V.bool (decide (r149 < 0))) from rfl) (decide_eq_false hp151) ?_
                                refine x_pickf' (show _ = (V.bool (decide (r149 < 0))) from rfl) (decide_eq_false hp151) (show _ = (V.bool false) from rfl) ?_
                                refine x_mv' (show _ = (V.bool false) from rfl) ?_
                                refine x_done ?_
                                refine x_tN ?_
                                refine x_retc ?_
                                obtain rfl := Option.some.inj hD
                                exact hR _ (ends_t (nf_of rfl (show _ = (V.bool false) from rfl)) (fun h => nomatch h))
                          · rw [if_neg hp146] at hD
                            refine x_gn (show _ = (V.bool (decide (r120.1 = p2))) from rfl) (decide_eq_false hp146) ?_
                            refine x_gn (show _ = (V.bool (decide (r120.1 = p2))) from rfl) (decide_eq_false hp146) ?_
                            refine x_pickf' (show _ = (V.bool (decide (r120.1 = p2))) from rfl) (decide_eq_false hp146) (show _ = (V.bool false) from rfl) ?_
                            refine x_mv' (show _ = (V.bool false) from rfl) ?_
                            refine x_gn (show _ = (V.bool false) from rfl) rfl ?_
                            refine x_gn (show _ = (V.bool false) from rfl) rfl ?_
                            refine x_gn (show _ = (V.bool false) from rfl) rfl ?_
                            refine x_gn (show _ = (V.bool false) from rfl) rfl ?_
                            refine x_pickf' (show _ = (V.bool false) from rfl) rfl (show _ = (V.bool false) from rfl) ?_
                            refine x_mv' (show _ = (V.bool false) from rfl) ?_
                            refine x_gn (show _ = (V.bool false) from rfl) rfl ?_
                            refine x_gn (show _ = (V.bool false) from rfl) rfl ?_
                            refine x_gn (show _ = (V.bool false) from rfl) rfl ?_
                            refine x_gn (show _ = (V.bool false) from rfl) rfl ?_
                            refine x_pickf' (show _ = (V.bool false) from rfl) rfl (show _ = (V.bool false) from rfl) ?_
                            refine x_mv' (show _ = (V.bool false) from rfl) ?_
                            refine x_done ?_
                            refine x_tN ?_
                            refine x_retc ?_
                            obtain rfl := Option.some.inj hD
                            exact hR _ (ends_t (nf_of rfl (show _ = (V.bool false) from rfl)) (fun h => nomatch h))
                        · rw [if_neg hp145] at hD
                          refine x_gn (show _ = (V.bool r120.2) from rfl) (Bool.eq_false_iff.2 hp145) ?_
                          refine x_gn (show _ = (V.bool r120.2) from rfl) (Bool.eq_false_iff.2 hp145) ?_
                          refine x_gn (show _ = (V.bool r120.2) from rfl) (Bool.eq_false_iff.2 hp145) ?_
                          refine x_pickf' (show _ = (V.bool r120.2) from rfl) (Bool.eq_false_iff.2 hp145) (show _ = (V.bool false) from rfl) ?_
                          refine x_mv' (show _ = (V.bool false) from rfl) ?_
                          refine x_gn (show _ = (V.bool false) from rfl) rfl ?_
                          refine x_gn (show _ = (V.bool false) from rfl) rfl ?_
                          refine x_pickf' (show _ = (V.bool false) from rfl) rfl (show _ = (V.bool false) from rfl) ?_
                          refine x_mv' (show _ = (V.bool false) from rfl) ?_
                          refine x_gn (show _ = (V.bool false) from rfl) rfl ?_
                          refine x_gn (show _ = (V.bool false) from rfl) rfl ?_
                          refine x_gn (show _ = (V.bool false) from rfl) rfl ?_
                          refine x_gn (show _ = (V.bool false) from rfl) rfl ?_
                          refine x_pickf' (show _ = (V.bool false) from rfl) rfl (show _ = (V.bool false) from rfl) ?_
                          refine x_mv' (show _ = (V.bool false) from rfl) ?_
                          refine x_gn (show _ = (V.bool false) from rfl) rfl ?_
                          refine x_gn (show _ = (V.bool false) from rfl) rfl ?_
                          refine x_gn (show _ = (V.bool false) from rfl) rfl ?_
                          refine x_gn (show _ = (V.bool false) from rfl) rfl ?_
                          refine x_pickf' (show _ = (V.bool false) from rfl) rfl (show _ = (V.bool false) from rfl) ?_
                          refine x_mv' (show _ = (V.bool false) from rfl) ?_
                          refine x_done ?_
                          refine x_tN ?_
                          refine x_retc ?_
                          obtain rfl := Option.some.inj hD
                          exact hR _ (ends_t (nf_of rfl (show _ = (V.bool false) from rfl)) (fun h => nomatch h))
                      · rw [if_neg hp144] at hD
                        refine x_gn (show _ = (V.bool (decide (r108.1 = r142))) from rfl) (decide_eq_false hp144) ?_
                        refine x_pickf' (show _ = (V.bool (decide (r108.1 = r142))) from rfl) (decide_eq_false hp144) (show _ = (V.bool false) from rfl) ?_
                        refine x_mv' (show _ = (V.bool false) from rfl) ?_
                        refine x_gn (show _ = (V.bool false) from rfl) rfl ?_
                        refine x_gn (show _ = (V.bool false) from rfl) rfl ?_
                        refine x_gn (show _ = (V.bool false) from rfl) rfl ?_
                        refine x_pickf' (show _ = (V.bool false) from rfl) rfl (show _ = (V.bool false) from rfl) ?_
                        refine x_mv' (show _ = (V.bool false) from rfl) ?_
                        refine x_gn (show _ = (V.bool false) from rfl) rfl ?_
                        refine x_gn (show _ = (V.bool false) from rfl) rfl ?_
                        refine x_pickf' (show _ = (V.bool false) from rfl) rfl (show _ = (V.bool false) from rfl) ?_
                        refine x_mv' (show _ = (V.bool false) from rfl) ?_
                        refine x_gn (show _ = (V.bool false) from rfl) rfl ?_
                        refine x_gn (show _ = (V.bool false) from rfl) rfl ?_
                        refine x_gn (show _ = (V.bool false) from rfl) rfl ?_
                        refine x_gn (show _ = (V.bool false) from rfl) rfl ?_
                        refine x_pickf' (show _ = (V.bool false) from rfl) rfl (show _ = (V.bool false) from rfl) ?_
                        refine x_mv' (show _ = (V.bool false) from rfl) ?_
                        refine x_gn (show _ = (V.bool false) from rfl) rfl ?_
                        refine x_gn (show _ = (V.bool false) from rfl) rfl ?_
                        refine x_gn (show _ = (V.bool false) from rfl) rfl ?_
                        refine x_gn (show _ = (V.bool false) from rfl) rfl ?_
                        refine x_pickf' (show _ = (V.bool false) from rfl) rfl (show _ = (V.bool false) from rfl) ?_
                        refine x_mv' (show _ = (V.bool false) from rfl) ?_
                        refine x_done ?_
                        refine x_tN ?_
                        refine x_retc ?_
                        obtain rfl := Option.some.inj hD
                        exact hR _ (ends_t (nf_of rfl (show _ = (V.bool false) from rfl)) (fun h => nomatch h))
                    · rw [if_neg hp139] at hD
                      refine x_gn (show _ = (V.bool r108.2) from rfl) (Bool.eq_false_iff.2 hp139) ?_
                      refine x_gn (show _ = (V.bool r108.2) from rfl) (Bool.eq_false_iff.2 hp139) ?_
                      refine x_gn (show _ = (V.bool r108.2) from rfl) (Bool.eq_false_iff.2 hp139) ?_
                      refine x_gn (show _ = (V.bool r108.2) from rfl) (Bool.eq_false_iff.2 hp139) ?_
                      refine x_gn (show _ = (V.bool r108.2) from rfl) (Bool.eq_false_iff.2 hp139) ?_
                      refine x_gn (show _ = (V.bool r108.2) from rfl) (Bool.eq_false_iff.2 hp139) ?_
                      refine x_pickf' (show _ = (V.bool r108.2) from rfl) (Bool.eq_false_iff.2 hp139) (show _ = (V.bool false) from rfl) ?_
                      refine x_mv' (show _ = (V.bool false) from rfl) ?_
                      refine x_gn (show _ = (V.bool false) from rfl) rfl ?_
                      refine x_pickf' (show _ = (V.bool false) from rfl) rfl (show _ = (V.bool false) from rfl) ?_
                      refine x_mv' (show _ = (V.bool false) from rfl) ?_
                      refine x_gn (show _ = (V.bool false) from rfl) rfl ?_
                      refine x_gn (show _ = (V.bool false) from rfl) rfl ?_
                      refine x_gn (show _ = (V.bool false) from rfl) rfl ?_
                      refine x_pickf' (show _ = (V.bool false) from rfl) rfl (show _ = (V.bool false) from rfl) ?_
                      refine x_mv' (show _ = (V.bool false) from rfl) ?_
                      refine x_gn (show _ = (V.bool false) from rfl) rfl ?_
                      refine x_gn (show _ = (V.bool false) from rfl) rfl ?_
                      refine x_pickf' (show _ = (V.bool false) from rfl) rfl (show _ = (V.bool false) from rfl) ?_
                      refine x_mv' (show _ = (V.bool false) from rfl) ?_
                      refine x_gn (show _ = (V.bool false) from rfl) rfl ?_
                      refine x_gn (show _ = (V.bool false) from rfl) rfl ?_
                      refine x_gn (show _ = (V.bool false) from rfl) rfl ?_
                      refine x_gn (show _ = (V.bool false) from rfl) rfl ?_
                      refine x_pickf' (show _ = (V.bool false) from rfl) rfl (show _ = (V.bool false) from rfl) ?_
                      refine x_mv' (show _ = (V.bool false) from rfl) ?_
                      refine x_gn (show _ = (V.bool false) from rfl) rfl ?_
                      refine x_gn (show _ = (V.bool false) from rfl) rfl ?_
                      refine x_gn (show _ = (V.bool false) from rfl) rfl ?_
                      refine x_gn (show _ = (V.bool false) from rfl) rfl ?_
                      refine x_pickf' (show _ = (V.bool false) from rfl) rfl (show _ = (V.bool false) from rfl) ?_
                      refine x_mv' (show _ = (V.bool false) from rfl) ?_
                      refine x_done ?_
                      refine x_tN ?_
                      refine x_retc ?_
                      obtain rfl := Option.some.inj hD
                      exact hR _ (ends_t (nf_of rfl (show _ = (V.bool false) from rfl)) (fun h => nomatch h))
                  · rw [if_neg hp138] at hD
                    refine x_gn (show _ = (V.bool (decide (r96.1 = p1))) from rfl) (decide_eq_false hp138) ?_
                    refine x_pickf' (show _ = (V.bool (decide (r96.1 = p1))) from rfl) (decide_eq_false hp138) (show _ = (V.bool false) from rfl) ?_
                    refine x_mv' (show _ = (V.bool false) from rfl) ?_
                    refine x_gn (show _ = (V.bool false) from rfl) rfl ?_
                    refine x_gn (show _ = (V.bool false) from rfl) rfl ?_
                    refine x_gn (show _ = (V.bool false) from rfl) rfl ?_
                    refine x_gn (show _ = (V.bool false) from rfl) rfl ?_
                    refine x_gn (show _ = (V.bool false) from rfl) rfl ?_
                    refine x_gn (show _ = (V.bool false) from rfl) rfl ?_
                    refine x_pickf' (show _ = (V.bool false) from rfl) rfl (show _ = (V.bool false) from rfl) ?_
                    refine x_mv' (show _ = (V.bool false) from rfl) ?_
                    refine x_gn (show _ = (V.bool false) from rfl) rfl ?_
                    refine x_pickf' (show _ = (V.bool false) from rfl) rfl (show _ = (V.bool false) from rfl) ?_
                    refine x_mv' (show _ = (V.bool false) from rfl) ?_
                    refine x_gn (show _ = (V.bool false) from rfl) rfl ?_
                    refine x_gn (show _ = (V.bool false) from rfl) rfl ?_
                    refine x_gn (show _ = (V.bool false) from rfl) rfl ?_
                    refine x_pickf' (show _ = (V.bool false) from rfl) rfl (show _ = (V.bool false) from rfl) ?_
                    refine x_mv' (show _ = (V.bool false) from rfl) ?_
                    refine x_gn (show _ = (V.bool false) from rfl) rfl ?_
                    refine x_gn (show _ = (V.bool false) from rfl) rfl ?_
                    refine x_pickf' (show _ = (V.bool false) from rfl) rfl (show _ = (V.bool false) from rfl) ?_
                    refine x_mv' (show _ = (V.bool false) from rfl) ?_
                    refine x_gn (show _ = (V.bool false) from rfl) rfl ?_
                    refine x_gn (show _ = (V.bool false) from rfl) rfl ?_
                    refine x_gn (show _ = (V.bool false) from rfl) rfl ?_
                    refine x_gn (show _ = (V.bool false) from rfl) rfl ?_
                    refine x_pickf' (show _ = (V.bool false) from rfl) rfl (show _ = (V.bool false) from rfl) ?_
                    refine x_mv' (show _ = (V.bool false) from rfl) ?_
                    refine x_gn (show _ = (V.bool false) from rfl) rfl ?_
                    refine x_gn (show _ = (V.bool false) from rfl) rfl ?_
                    refine x_gn (show _ = (V.bool false) from rfl) rfl ?_
                    refine x_gn (show _ = (V.bool false) from rfl) rfl ?_
                    refine x_pickf' (show _ = (V.bool false) from rfl) rfl (show _ = (V.bool false) from rfl) ?_
                    refine x_mv' (show _ = (V.bool false) from rfl) ?_
                    refine x_done ?_
                    refine x_tN ?_
                    refine x_retc ?_
                    obtain rfl := Option.some.inj hD
                    exact hR _ (ends_t (nf_of rfl (show _ = (V.bool false) from rfl)) (fun h => nomatch h))
                · rw [if_neg hp137] at hD
                  refine x_gn (show _ = (V.bool r96.2) from rfl) (Bool.eq_false_iff.2 hp137) ?_
                  refine x_gn (show _ = (V.bool r96.2) from rfl) (Bool.eq_false_iff.2 hp137) ?_
                  refine x_gn (show _ = (V.bool r96.2) from rfl) (Bool.eq_false_iff.2 hp137) ?_
                  refine x_pickf' (show _ = (V.bool r96.2) from rfl) (Bool.eq_false_iff.2 hp137) (show _ = (V.bool false) from rfl) ?_
                  refine x_mv' (show _ = (V.bool false) from rfl) ?_
                  refine x_gn (show _ = (V.bool false) from rfl) rfl ?_
                  refine x_pickf' (show _ = (V.bool false) from rfl) rfl (show _ = (V.bool false) from rfl) ?_
                  refine x_mv' (show _ = (V.bool false) from rfl) ?_
                  refine x_gn (show _ = (V.bool false) from rfl) rfl ?_
                  refine x_gn (show _ = (V.bool false) from rfl) rfl ?_
                  refine x_gn (show _ = (V.bool false) from rfl) rfl ?_
                  refine x_gn (show _ = (V.bool false) from rfl) rfl ?_
                  refine x_gn (show _ = (V.bool false) from rfl) rfl ?_
                  refine x_gn (show _ = (V.bool false) from rfl) rfl ?_
                  refine x_pickf' (show _ = (V.bool false) from rfl) rfl (show _ = (V.bool false) from rfl) ?_
                  refine x_mv' (show _ = (V.bool false) from rfl) ?_
                  refine x_gn (show _ = (V.bool false) from rfl) rfl ?_
                  refine x_pickf' (show _ = (V.bool false) from rfl) rfl (show _ = (V.bool false) from rfl) ?_
                  refine x_mv' (show _ = (V.bool false) from rfl) ?_
                  refine x_gn (show _ = (V.bool false) from rfl) rfl ?_
                  refine x_gn (show _ = (V.bool false) from rfl) rfl ?_
                  refine x_gn (show _ = (V.bool false) from rfl) rfl ?_
                  refine x_pickf' (show _ = (V.bool false) from rfl) rfl (show _ = (V.bool false) from rfl) ?_
                  refine x_mv' (show _ = (V.bool false) from rfl) ?_
                  refine x_gn (show _ = (V.bool false) from rfl) rfl ?_
                  refine x_gn (show _ = (V.bool false) from rfl) rfl ?_
                  refine x_pickf' (show _ = (V.bool false) from rfl) rfl (show _ = (V.bool false) from rfl) ?_
                  refine x_mv' (show _ = (V.bool false) from rfl) ?_
                  refine x_gn (show _ = (V.bool false) from rfl) rfl ?_
                  refine x_gn (show _ = (V.bool false) from rfl) rfl ?_
                  refine x_gn (show _ = (V.bool false) from rfl) rfl ?_
                  refine x_gn (show _ = (V.bool false) from rfl) rfl ?_
                  refine x_pickf' (show _ = (V.bool false) from rfl) rfl (show _ = (V.bool false) from rfl) ?_
                  refine x_mv' (show _ = (V.bool false) from rfl) ?_
                  refine x_gn (show _ = (V.bool false) from rfl) rfl ?_
                  refine x_gn (show _ = (V.bool false) from rfl) rfl ?_
                  refine x_gn (show _ = (V.bool false) from rfl) rfl ?_
                  refine x_gn (show _ = (V.bool false) from rfl) rfl ?_
                  refine x_pickf' (show _ = (V.bool false) from rfl) rfl (show _ = (V.bool false) from rfl) ?_
                  refine x_mv' (show _ = (V.bool false) from rfl) ?_
                  refine x_done ?_
                  refine x_tN ?_
                  refine x_retc ?_
                  obtain rfl := Option.some.inj hD
                  exact hR _ (ends_t (nf_of rfl (show _ = (V.bool false) from rfl)) (fun h => nomatch h))
              · rw [if_neg hp72] at hD
                refine x_ct (show _ = (V.bool (!r70)) from rfl) (bnot_f (Bool.eq_false_iff.2 hp72)) ?_
                refine x_seq ?_
                refine x_start (b := false) ?_
                refine x_mv' (show _ = (V.bool true) from rfl) ?_
                refine x_done ?_
                refine x_tN ?_
                refine x_retc ?_
                refine x_tR ?_
                obtain rfl := Option.some.inj hD
                exact hR _ (ends_t (nf_of rfl (show _ = (V.bool true) from rfl)) (fun h => nomatch h))
            · rw [if_neg hp68] at hD
              refine x_gn (show _ = (V.bool (!r66)) from rfl) (bnot_f (Bool.eq_false_iff.2 hp68)) ?_
              refine x_gn (show _ = (V.bool (!r66)) from rfl) (bnot_f (Bool.eq_false_iff.2 hp68)) ?_
              refine x_gn (show _ = (V.bool (!r66)) from rfl) (bnot_f (Bool.eq_false_iff.2 hp68)) ?_
              refine x_pickt' (show _ = (V.bool (!r66)) from rfl) (bnot_f (Bool.eq_false_iff.2 hp68)) (show _ = (V.bool true) from rfl) ?_
              refine x_done ?_
              refine x_tN ?_
              refine x_ct (show _ = (V.bool true) from rfl) rfl ?_
              refine x_seq ?_
              refine x_start (b := false) ?_
              refine x_mv' (show _ = (V.bool true) from rfl) ?_
              refine x_done ?_
              refine x_tN ?_
              refine x_retc ?_
              refine x_tR ?_
              obtain rfl := Option.some.inj hD
              exact hR _ (ends_t (nf_of rfl (show _ = (V.bool true) from rfl)) (fun h => nomatch h))
          · rw [if_neg hp64] at hD
            refine x_gn (show _ = (V.bool (!r62)) from rfl) (bnot_f (Bool.eq_false_iff.2 hp64)) ?_
            refine x_gn (show _ = (V.bool (!r62)) from rfl) (bnot_f (Bool.eq_false_iff.2 hp64)) ?_
            refine x_gn (show _ = (V.bool (!r62)) from rfl) (bnot_f (Bool.eq_false_iff.2 hp64)) ?_
            refine x_pickt' (show _ = (V.bool (!r62)) from rfl) (bnot_f (Bool.eq_false_iff.2 hp64)) (show _ = (V.bool true) from rfl) ?_
            refine x_mv' (show _ = (V.bool true) from rfl) ?_
            refine x_gn (show _ = (V.bool true) from rfl) rfl ?_
            refine x_gn (show _ = (V.bool true) from rfl) rfl ?_
            refine x_gn (show _ = (V.bool true) from rfl) rfl ?_
            refine x_pickt' (show _ = (V.bool true) from rfl) rfl (show _ = (V.bool true) from rfl) ?_
            refine x_done ?_
            refine x_tN ?_
            refine x_ct (show _ = (V.bool true) from rfl) rfl ?_
            refine x_seq ?_
            refine x_start (b := false) ?_
            refine x_mv' (show _ = (V.bool true) from rfl) ?_
            refine x_done ?_
            refine x_tN ?_
            refine x_retc ?_
            refine x_tR ?_
            obtain rfl := Option.some.inj hD
            exact hR _ (ends_t (nf_of rfl (show _ = (V.bool true) from rfl)) (fun h => nomatch h))
  · rw [if_neg hp14] at hD
    refine x_ct (show _ = (V.bool (!r12)) from rfl) (bnot_f (Bool.eq_false_iff.2 hp14)) ?_
    refine x_seq ?_
    refine x_start (b := false) ?_
    refine x_mv' (show _ = (V.bool false) from rfl) ?_
    refine x_done ?_
    refine x_tN ?_
    refine x_retc ?_
    refine x_tR ?_
    obtain rfl := Option.some.inj hD
    exact hR _ (ends_t (nf_of rfl (show _ = (V.bool false) from rfl)) (fun h => nomatch h))
def K.seichelaw06_PathLies : FC := fc F.seichelaw06_PathLies (fun _ => true) false (fun (a : (Bytes × Bytes × Bytes)) => [(V.str a.1), (V.str a.2.1), (V.str a.2.2)]) (fun (y : Bool) => (V.bool y)) (fun a => g.seichelaw06_PathLies a.1 a.2.1 a.2.2)
  (fun a => (cleanL_mk rfl (cleanL_mk rfl (cleanL_mk rfl rfl))))
  (fun y => rfl)
  (fun ⟨a0, a1, a2⟩ ⟨b0, b1, b2⟩ h => by
    obtain ⟨h0, h⟩ := List.cons.inj h
    obtain rfl : a0 = b0 := V.str.inj h0
    obtain ⟨h0, h⟩ := List.cons.inj h
    obtain rfl : a1 = b1 := V.str.inj h0
    obtain ⟨h0, h⟩ := List.cons.inj h
    obtain rfl : a2 = b2 := V.str.inj h0
    rfl)
theorem H.seichelaw06_PathLies (w : World) (hw : EnvOK w) : K.seichelaw06_PathLies.Holds (cxD w) :=
  FC.holds_of (cs := [K.seichelaw06_alive, K.seicheref06_Good, K.path_Join, K.path_Under, K.path_Compare]) (glD w) mixed cf_seichelaw06_PathLies (fun _ _ ⟨_, _, h, _⟩ => by subst h; exact Nat.le_of_ble_eq_true rfl) fun v y ⟨a, r, hv, hD, hy⟩ => by
    subst hy
    exact ok.seichelaw06_PathLies (specOf_calls (H.seichelaw06_alive w hw) (fun _ _ ⟨_, _, h, _⟩ => by subst h; rfl)) (specOf_calls (H.seicheref06_Good w hw) (fun _ _ ⟨_, _, h, _⟩ => by subst h; rfl)) (specOf_calls (H.path_Join w hw) (fun _ _ ⟨_, _, h, _⟩ => by subst h; rfl)) (specOf_calls (H.path_Under w hw) (fun _ _ ⟨_, _, h, _⟩ => by subst h; rfl)) (specOf_calls (H.path_Compare w hw) (fun _ _ ⟨_, _, h, _⟩ => by subst h; rfl)) hv hD
end Go.Proofs.YtainplhaaklpeabDoor
