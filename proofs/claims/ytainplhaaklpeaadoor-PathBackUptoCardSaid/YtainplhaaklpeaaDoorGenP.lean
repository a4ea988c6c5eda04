/-
  Functions of the program as Lean functions over plain data, and the proofs that the loaded code comes to them. Printed by a program of this seat (wip/gen/gen.py).
-/
import Derived.Test.YtainplhaaklpeaaDoorProg
import Derived.Test.YtainplhaaklpeaaDoorGenG
import Derived.Test.YtainplhaaklpeaaDoorL2
namespace Go.Proofs.YtainplhaaklpeaaDoor
open Go.Abs Go.RowKit

def F.seichelaw06_PathGoes : Nat := 8
def F.seichelaw06_PathParts : Nat := 9
def F.seichelaw06_PathJoins : Nat := 10
def F.seichelaw06_PathBack : Nat := 13
def F.seichelaw06_alive : Nat := 30
def F.path_From : Nat := 32
def F.seicheref06_From : Nat := 33
def F.path_Join : Nat := 34
def F.seicheref01_Same : Nat := 36
def F.seicheref06_Dir : Nat := 40
def F.path_Base : Nat := 41
def F.seicheref06_Base : Nat := 42
def F.path_Under : Nat := 43
def F.seicheref06_Under : Nat := 44
def F.seicheref06_Join : Nat := 45
def F.strings_CutPrefix : Nat := 82
def F.internal_stringslite_CutPrefix : Nat := 103
def F.internal_stringslite_HasPrefix : Nat := 112
def c_internal_stringslite_HasPrefix : ACode := (.seq (.region [
  ⟨(some 4), (.mv (.const (.bool false))), none, []⟩] false) (.seq (.region [
  ⟨(some 5), (.mv (.tmp 0)), none, []⟩, 
  ⟨(some 6), (.len true (.tmp 5)), none, []⟩, 
  ⟨(some 7), (.mv (.tmp 1)), none, []⟩, 
  ⟨(some 8), (.len true (.tmp 7)), none, []⟩, 
  ⟨(some 9), (.bin .geq .no (.tmp 6) (.tmp 8)), none, []⟩, 
  ⟨(some 10), (.mv (.tmp 9)), none, []⟩, 
  ⟨(some 11), (.mv (.tmp 0)), (some (10, true)), []⟩, 
  ⟨(some 12), (.mv (.tmp 1)), (some (10, true)), []⟩, 
  ⟨(some 13), (.len true (.tmp 12)), (some (10, true)), []⟩, 
  ⟨(some 14), (.sls (.tmp 11) none (some (.tmp 13))), (some (10, true)), []⟩, 
  ⟨(some 15), (.mv (.tmp 1)), (some (10, true)), []⟩, 
  ⟨(some 16), (.bin .eql .no (.tmp 14) (.tmp 15)), (some (10, true)), []⟩, 
  ⟨(some 17), (.pick (.tmp 10) (.tmp 16) (.const (.bool false))), none, []⟩, 
  ⟨(some 4), (.mv (.tmp 17)), none, []⟩] false) .ret))
theorem cf_internal_stringslite_HasPrefix : cFn Go.Proofs.Tryd.prog F.internal_stringslite_HasPrefix = some ⟨18, c_internal_stringslite_HasPrefix, [.t 4]⟩ := by kernel_rfl
def g.internal_stringslite_HasPrefix (p0 : Bytes) (p1 : Bytes) : Option Bool :=
  if ((p1.length : Nat) : Int) ≤ ((p0.length : Nat) : Int) then
    (cut p0 0 ((p1.length : Nat) : Int)).bind fun q2 =>
    some (decide (q2 = p1))
  else
    some false
theorem ok.internal_stringslite_HasPrefix {Γ : Abs.Spec} {gl : Glob} {r : Bool} {p0 : Bytes} {p1 : Bytes} {v : List V}
    (hv : nfL v = [(V.str p0), (V.str p1)]) (hD : g.internal_stringslite_HasPrefix p0 p1 = some r) : awp Γ gl c_internal_stringslite_HasPrefix (endQ [.t 4] false (V.bool r)) (St.init v) := by
  obtain ⟨v0, v, rfl, h0, hv⟩ := nfL_cons hv
  obtain ⟨v1, v, rfl, h1, hv⟩ := nfL_cons hv
  obtain rfl := nfL_nil hv
  have hR : ∀ s, EndsX [.t 4] false (V.bool r) s → endQ [.t 4] false (V.bool r) .ret s := fun _ h => h
  unfold g.internal_stringslite_HasPrefix at hD
  unfold c_internal_stringslite_HasPrefix
  refine x_seq ?_
  refine x_start (b := false) ?_
  refine x_mv' (show _ = (V.bool false) from rfl) ?_
  refine x_done ?_
  refine x_tN ?_
  refine x_seq ?_
  refine x_start (b := false) ?_
  refine x_mv' (nf_str h0) ?_
  refine x_lens (show _ = (V.str p0) from rfl) ?_
  refine x_mv' (nf_str h1) ?_
  refine x_lens (show _ = (V.str p1) from rfl) ?_
  refine x_bin (show _ = (V.int .i64 ((p0.length : Nat) : Int)) from rfl) (show _ = (V.int .i64 ((p1.length : Nat) : Int)) from rfl) b_geq ?_
  refine x_mv' (show _ = (V.bool (decide (((p1.length : Nat) : Int) ≤ ((p0.length : Nat) : Int)))) from rfl) ?_
  by_cases hp1 : ((p1.length : Nat) : Int) ≤ ((p0.length : Nat) : Int)
  · rw [if_pos hp1] at hD
    refine x_gy (show _ = (V.bool (decide (((p1.length : Nat) : Int) ≤ ((p0.length : Nat) : Int)))) from rfl) (decide_eq_true hp1) ?_
    refine x_mv' (nf_str h0) ?_
    refine x_gy (show _ = (V.bool (decide (((p1.length : Nat) : Int) ≤ ((p0.length : Nat) : Int)))) from rfl) (decide_eq_true hp1) ?_
    refine x_mv' (nf_str h1) ?_
    refine x_gy (show _ = (V.bool (decide (((p1.length : Nat) : Int) ≤ ((p0.length : Nat) : Int)))) from rfl) (decide_eq_true hp1) ?_
    refine x_lens (show _ = (V.str p1) from rfl) ?_
    refine x_gy (show _ = (V.bool (decide (((p1.length : Nat) : Int) ≤ ((p0.length : Nat) : Int)))) from rfl) (decide_eq_true hp1) ?_
    obtain ⟨q2, hx3, hD⟩ := Option.bind_eq_some_iff.1 hD
    refine x_slsh (show _ = (V.str p0) from rfl) (show _ = (V.int .i64 ((p1.length : Nat) : Int)) from rfl) hx3 ?_
    refine x_gy (show _ = (V.bool (decide (((p1.length : Nat) : Int) ≤ ((p0.length : Nat) : Int)))) from rfl) (decide_eq_true hp1) ?_
    refine x_mv' (nf_str h1) ?_
    refine x_gy (show _ = (V.bool (decide (((p1.length : Nat) : Int) ≤ ((p0.length : Nat) : Int)))) from rfl) (decide_eq_true hp1) ?_
    refine x_bin (show _ = (V.str q2) from rfl) (show _ = (V.str p1) from rfl) s_eql ?_
    refine x_pickt' (show _ = (V.bool (decide (((p1.length : Nat) : Int) ≤ ((p0.length : Nat) : Int)))) from rfl) (decide_eq_true hp1) (show _ = (V.bool (decide (q2 = p1))) from rfl) ?_
    refine x_mv' (show _ = (V.bool (decide (q2 = p1))) from rfl) ?_
    refine x_done ?_
    refine x_tN ?_
    refine x_retc ?_
    obtain rfl := Option.some.inj hD
    exact hR _ (ends_t (nf_of rfl (show _ = (V.bool (decide (q2 = p1))) from rfl)) (fun h => nomatch h))
  · rw [if_neg hp1] at hD
    refine x_gn (show _ = (V.bool (decide (((p1.length : Nat) : Int) ≤ ((p0.length : Nat) : Int)))) from rfl) (decide_eq_false hp1) ?_
    refine x_gn (show _ = (V.bool (decide (((p1.length : Nat) : Int) ≤ ((p0.length : Nat) : Int)))) from rfl) (decide_eq_false hp1) ?_
    refine x_gn (show _ = (V.bool (decide (((p1.length : Nat) : Int) ≤ ((p0.length : Nat) : Int)))) from rfl) (decide_eq_false hp1) ?_
    refine x_gn (show _ = (V.bool (decide (((p1.length : Nat) : Int) ≤ ((p0.length : Nat) : Int)))) from rfl) (decide_eq_false hp1) ?_
    refine x_gn (show _ = (V.bool (decide (((p1.length : Nat) : Int) ≤ ((p0.length : Nat) : Int)))) from rfl) (decide_eq_false hp1) ?_
    refine x_gn (show _ = (V.bool (decide (((p1.length : Nat) : Int) ≤ ((p0.length : Nat) : Int)))) from rfl) (decide_eq_false hp1) ?_
    refine x_pickf' (show _ = (V.bool (decide (((p1.length : Nat) : Int) ≤ ((p0.length : Nat) : Int)))) from rfl) (decide_eq_false hp1) (show _ = (V.bool false) from rfl) ?_
    refine x_mv' (show _ = (V.bool false) from rfl) ?_
    refine x_done ?_
    refine x_tN ?_
    refine x_retc ?_
    obtain rfl := Option.some.inj hD
    exact hR _ (ends_t (nf_of rfl (show _ = (V.bool false) from rfl)) (fun h => nomatch h))
def K.internal_stringslite_HasPrefix : FC := fc F.internal_stringslite_HasPrefix (fun _ => true) false (fun (a : (Bytes × Bytes)) => [(V.str a.1), (V.str a.2)]) (fun (y : Bool) => (V.bool y)) (fun a => g.internal_stringslite_HasPrefix a.1 a.2)
  (fun a => (cleanL_mk rfl (cleanL_mk rfl rfl)))
  (fun y => rfl)
  (fun ⟨a0, a1⟩ ⟨b0, b1⟩ h => by
    obtain ⟨h0, h⟩ := List.cons.inj h
    obtain rfl : a0 = b0 := V.str.inj h0
    obtain ⟨h0, h⟩ := List.cons.inj h
    obtain rfl : a1 = b1 := V.str.inj h0
    rfl)
theorem H.internal_stringslite_HasPrefix (w : World) (_hw : EnvOK w) : K.internal_stringslite_HasPrefix.Holds (cxD w) :=
  FC.holds_of (cs := []) (glD w) mixed cf_internal_stringslite_HasPrefix (fun _ _ ⟨_, _, h, _⟩ => by subst h; exact Nat.le_of_ble_eq_true rfl) fun v y ⟨a, r, hv, hD, hy⟩ => by
    subst hy
    exact ok.internal_stringslite_HasPrefix hv hD
def c_internal_stringslite_CutPrefix : ACode := (.seq (.region [
  ⟨(some 4), (.mv (.const (.str []))), none, []⟩, 
  ⟨(some 5), (.mv (.const (.bool false))), none, []⟩] false) (.seq (.seq (.region [
  ⟨(some 6), (.mv (.tmp 0)), none, []⟩, 
  ⟨(some 7), (.mv (.tmp 1)), none, []⟩, 
  ⟨(some 8), (.call F.internal_stringslite_HasPrefix [(.tmp 6), (.tmp 7)]), none, []⟩, 
  ⟨(some 9), (.un .not (.tmp 8)), none, []⟩] false) (.cond (.tmp 9) (.seq (.region [
  ⟨(some 10), (.mv (.tmp 0)), none, []⟩, 
  ⟨(some 4), (.mv (.tmp 10)), none, []⟩, 
  ⟨(some 5), (.mv (.const (.bool false))), none, []⟩] false) .ret) .skip)) (.seq (.region [
  ⟨(some 11), (.mv (.tmp 0)), none, []⟩, 
  ⟨(some 12), (.mv (.tmp 1)), none, []⟩, 
  ⟨(some 13), (.len true (.tmp 12)), none, []⟩, 
  ⟨(some 14), (.sls (.tmp 11) (some (.tmp 13)) none), none, []⟩, 
  ⟨(some 4), (.mv (.tmp 14)), none, []⟩, 
  ⟨(some 5), (.mv (.const (.bool true))), none, []⟩] false) .ret)))
theorem cf_internal_stringslite_CutPrefix : cFn Go.Proofs.Tryd.prog F.internal_stringslite_CutPrefix = some ⟨15, c_internal_stringslite_CutPrefix, [.t 4, .t 5]⟩ := by kernel_rfl
def g.internal_stringslite_CutPrefix (p0 : Bytes) (p1 : Bytes) : Option (Bytes × Bool) :=
  (g.internal_stringslite_HasPrefix p0 p1).bind fun r12 =>
  if r12 = true then
    (cut p0 ((p1.length : Nat) : Int) (p0.length : Nat)).bind fun q15 =>
    some (q15, true)
  else
    some (p0, false)
theorem ok.internal_stringslite_CutPrefix {Γ : Abs.Spec} {gl : Glob} (hC_internal_stringslite_HasPrefix : CallsX Γ K.internal_stringslite_HasPrefix) {r : (Bytes × Bool)} {p0 : Bytes} {p1 : Bytes} {v : List V}
    (hv : nfL v = [(V.str p0), (V.str p1)]) (hD : g.internal_stringslite_CutPrefix p0 p1 = some r) : awp Γ gl c_internal_stringslite_CutPrefix (endQ [.t 4, .t 5] false (V.tup [(V.str r.1), (V.bool r.2)])) (St.init v) := by
  obtain ⟨v0, v, rfl, h0, hv⟩ := nfL_cons hv
  obtain ⟨v1, v, rfl, h1, hv⟩ := nfL_cons hv
  obtain rfl := nfL_nil hv
  have hR : ∀ s, EndsX [.t 4, .t 5] false (V.tup [(V.str r.1), (V.bool r.2)]) s → endQ [.t 4, .t 5] false (V.tup [(V.str r.1), (V.bool r.2)]) .ret s := fun _ h => h
  unfold g.internal_stringslite_CutPrefix at hD
  unfold c_internal_stringslite_CutPrefix
  refine x_seq ?_
  refine x_start (b := false) ?_
  refine x_mv' (show _ = (V.str ([] : Bytes)) from rfl) ?_
  refine x_mv' (show _ = (V.bool false) from rfl) ?_
  refine x_done ?_
  refine x_tN ?_
  refine x_seq ?_
  refine x_seq ?_
  refine x_start (b := false) ?_
  refine x_mv' (nf_str h0) ?_
  refine x_mv' (nf_str h1) ?_
  obtain ⟨r12, hx13, hD⟩ := Option.bind_eq_some_iff.1 hD
  refine x_callF hC_internal_stringslite_HasPrefix (a := (p0, p1)) (cons_eq (nf_of rfl (show _ = (V.str p0) from rfl)) (cons_eq (nf_of rfl (show _ = (V.str p1) from rfl)) rfl)) hx13 fun v11 ov11 (hv11 : v11.nf = (V.bool r12)) hov11 => ?_
  refine x_un (nf_bool hv11) (aun_not _) ?_
  refine x_done ?_
  refine x_tN ?_
  by_cases hp14 : r12 = true
  · rw [if_pos hp14] at hD
    refine x_cf (show _ = (V.bool (!r12)) from rfl) (bnot_t hp14) ?_
    refine x_skip ?_
    refine x_tN ?_
    refine x_seq ?_
    refine x_start (b := false) ?_
    refine x_mv' (nf_str h0) ?_
    refine x_mv' (nf_str h1) ?_
    refine x_lens (show _ = (V.str p1) from rfl) ?_
    obtain ⟨q15, hx16, hD⟩ := Option.bind_eq_some_iff.1 hD
    refine x_slsl (show _ = (V.str p0) from rfl) (show _ = (V.int .i64 ((p1.length : Nat) : Int)) from rfl) hx16 ?_
    refine x_mv' (show _ = (V.str q15) from rfl) ?_
    refine x_mv' (show _ = (V.bool true) from rfl) ?_
    refine x_done ?_
    refine x_tN ?_
    refine x_retc ?_
    obtain rfl := Option.some.inj hD
    exact hR _ (ends_tup (rvs_cons (rv_t (nf_of rfl (show _ = (V.str q15) from rfl))) (rvs_cons (rv_t (nf_of rfl (show _ = (V.bool true) from rfl))) rvs_nil)) (by decide))
  · rw [if_neg hp14] at hD
    refine x_ct (show _ = (V.bool (!r12)) from rfl) (bnot_f (Bool.eq_false_iff.2 hp14)) ?_
    refine x_seq ?_
    refine x_start (b := false) ?_
    refine x_mv' (nf_str h0) ?_
    refine x_mv' (show _ = (V.str p0) from rfl) ?_
    refine x_mv' (show _ = (V.bool false) from rfl) ?_
    refine x_done ?_
    refine x_tN ?_
    refine x_retc ?_
    refine x_tR ?_
    obtain rfl := Option.some.inj hD
    exact hR _ (ends_tup (rvs_cons (rv_t (nf_of rfl (show _ = (V.str p0) from rfl))) (rvs_cons (rv_t (nf_of rfl (show _ = (V.bool false) from rfl))) rvs_nil)) (by decide))
def K.internal_stringslite_CutPrefix : FC := fc F.internal_stringslite_CutPrefix (fun _ => true) false (fun (a : (Bytes × Bytes)) => [(V.str a.1), (V.str a.2)]) (fun (y : (Bytes × Bool)) => (V.tup [(V.str y.1), (V.bool y.2)])) (fun a => g.internal_stringslite_CutPrefix a.1 a.2)
  (fun a => (cleanL_mk rfl (cleanL_mk rfl rfl)))
  (fun y => (cleanL_mk rfl (cleanL_mk rfl rfl)))
  (fun ⟨a0, a1⟩ ⟨b0, b1⟩ h => by
    obtain ⟨h0, h⟩ := List.cons.inj h
    obtain rfl : a0 = b0 := V.str.inj h0
    obtain ⟨h0, h⟩ := List.cons.inj h
    obtain rfl : a1 = b1 := V.str.inj h0
    rfl)
theorem H.internal_stringslite_CutPrefix (w : World) (hw : EnvOK w) : K.internal_stringslite_CutPrefix.Holds (cxD w) :=
  FC.holds_of (cs := [K.internal_stringslite_HasPrefix]) (glD w) mixed cf_internal_stringslite_CutPrefix (fun _ _ ⟨_, _, h, _⟩ => by subst h; exact Nat.le_of_ble_eq_true rfl) fun v y ⟨a, r, hv, hD, hy⟩ => by
    subst hy
    exact ok.internal_stringslite_CutPrefix (specOf_calls (H.internal_stringslite_HasPrefix w hw) (fun _ _ ⟨_, _, h, _⟩ => by subst h; rfl)) hv hD
def c_strings_CutPrefix : ACode := (.seq (.region [
  ⟨(some 4), (.mv (.const (.str []))), none, []⟩, 
  ⟨(some 5), (.mv (.const (.bool false))), none, []⟩] false) (.seq (.region [
  ⟨(some 6), (.mv (.tmp 0)), none, []⟩, 
  ⟨(some 7), (.mv (.tmp 1)), none, []⟩, 
  ⟨(some 8), (.call F.internal_stringslite_CutPrefix [(.tmp 6), (.tmp 7)]), none, []⟩, 
  ⟨(some 9), (.ext (.tmp 8) 0), none, []⟩, 
  ⟨(some 10), (.ext (.tmp 8) 1), none, []⟩, 
  ⟨(some 4), (.mv (.tmp 9)), none, []⟩, 
  ⟨(some 5), (.mv (.tmp 10)), none, []⟩] false) .ret))
theorem cf_strings_CutPrefix : cFn Go.Proofs.Tryd.prog F.strings_CutPrefix = some ⟨11, c_strings_CutPrefix, [.t 4, .t 5]⟩ := by kernel_rfl
def g.strings_CutPrefix (p0 : Bytes) (p1 : Bytes) : Option (Bytes × Bool) :=
  (g.internal_stringslite_CutPrefix p0 p1).bind fun r2 =>
  some (r2.1, r2.2)
theorem ok.strings_CutPrefix {Γ : Abs.Spec} {gl : Glob} (hC_internal_stringslite_CutPrefix : CallsX Γ K.internal_stringslite_CutPrefix) {r : (Bytes × Bool)} {p0 : Bytes} {p1 : Bytes} {v : List V}
    (hv : nfL v = [(V.str p0), (V.str p1)]) (hD : g.strings_CutPrefix p0 p1 = some r) : awp Γ gl c_strings_CutPrefix (endQ [.t 4, .t 5] false (V.tup [(V.str r.1), (V.bool r.2)])) (St.init v) := by
  obtain ⟨v0, v, rfl, h0, hv⟩ := nfL_cons hv
  obtain ⟨v1, v, rfl, h1, hv⟩ := nfL_cons hv
  obtain rfl := nfL_nil hv
  have hR : ∀ s, EndsX [.t 4, .t 5] false (V.tup [(V.str r.1), (V.bool r.2)]) s → endQ [.t 4, .t 5] false (V.tup [(V.str r.1), (V.bool r.2)]) .ret s := fun _ h => h
  unfold g.strings_CutPrefix at hD
  unfold c_strings_CutPrefix
  refine x_seq ?_
  refine x_start (b := false) ?_
  refine x_mv' (show _ = (V.str ([] : Bytes)) from rfl) ?_
  refine x_mv' (show _ = (V.bool false) from rfl) ?_
  refine x_done ?_
  refine x_tN ?_
  refine x_seq ?_
  refine x_start (b := false) ?_
  refine x_mv' (nf_str h0) ?_
  refine x_mv' (nf_str h1) ?_
  obtain ⟨r2, hx3, hD⟩ := Option.bind_eq_some_iff.1 hD
  refine x_callF hC_internal_stringslite_CutPrefix (a := (p0, p1)) (cons_eq (nf_of rfl (show _ = (V.str p0) from rfl)) (cons_eq (nf_of rfl (show _ = (V.str p1) from rfl)) rfl)) hx3 fun v1 ov1 (hv1 : v1.nf = (V.tup [(V.str r2.1), (V.bool r2.2)])) hov1 => ?_
  refine x_ext hv1 (show _ = some (V.str r2.1) from rfl) fun v4 hv4 => ?_
  refine x_ext hv1 (show _ = some (V.bool r2.2) from rfl) fun v5 hv5 => ?_
  refine x_mv' (nf_str hv4) ?_
  refine x_mv' (nf_bool hv5) ?_
  refine x_done ?_
  refine x_tN ?_
  refine x_retc ?_
  obtain rfl := Option.some.inj hD
  exact hR _ (ends_tup (rvs_cons (rv_t (nf_of rfl (show _ = (V.str r2.1) from rfl))) (rvs_cons (rv_t (nf_of rfl (show _ = (V.bool r2.2) from rfl))) rvs_nil)) (by decide))
def K.strings_CutPrefix : FC := fc F.strings_CutPrefix (fun _ => true) false (fun (a : (Bytes × Bytes)) => [(V.str a.1), (V.str a.2)]) (fun (y : (Bytes × Bool)) => (V.tup [(V.str y.1), (V.bool y.2)])) (fun a => g.strings_CutPrefix a.1 a.2)
  (fun a => (cleanL_mk rfl (cleanL_mk rfl rfl)))
  (fun y => (cleanL_mk rfl (cleanL_mk rfl rfl)))
  (fun ⟨a0, a1⟩ ⟨b0, b1⟩ h => by
    obtain ⟨h0, h⟩ := List.cons.inj h
    obtain rfl : a0 = b0 := V.str.inj h0
    obtain ⟨h0, h⟩ := List.cons.inj h
    obtain rfl : a1 = b1 := V.str.inj h0
    rfl)
theorem H.strings_CutPrefix (w : World) (hw : EnvOK w) : K.strings_CutPrefix.Holds (cxD w) :=
  FC.holds_of (cs := [K.internal_stringslite_CutPrefix]) (glD w) mixed cf_strings_CutPrefix (fun _ _ ⟨_, _, h, _⟩ => by subst h; exact Nat.le_of_ble_eq_true rfl) fun v y ⟨a, r, hv, hD, hy⟩ => by
    subst hy
    exact ok.strings_CutPrefix (specOf_calls (H.internal_stringslite_CutPrefix w hw) (fun _ _ ⟨_, _, h, _⟩ => by subst h; rfl)) hv hD
def c_path_Base : ACode := (.seq (.region [
  ⟨(some 2), (.mv (.const (.str []))), none, []⟩] false) (.seq (.region [
  ⟨(some 3), (.mv (.tmp 0)), none, []⟩, 
  ⟨(some 4), (.mv (.tmp 0)), none, []⟩, 
  ⟨(some 5), (.call F.strings_LastIndexByte [(.tmp 4), (.const (.int .u8 47))]), none, []⟩, 
  ⟨(some 6), (.bin .add .no (.tmp 5) (.const (.int .i64 1))), none, []⟩, 
  ⟨(some 7), (.sls (.tmp 3) (some (.tmp 6)) none), none, []⟩, 
  ⟨(some 2), (.mv (.tmp 7)), none, []⟩] false) .ret))
theorem cf_path_Base : cFn Go.Proofs.Tryd.prog F.path_Base = some ⟨8, c_path_Base, [.t 2]⟩ := by kernel_rfl
def g.path_Base (p0 : Bytes) : Option Bytes :=
  (g.strings_LastIndexByte p0 47).bind fun r2 =>
  (cut p0 (wi (r2 + 1)) (p0.length : Nat)).bind fun q4 =>
  some q4
theorem ok.path_Base {Γ : Abs.Spec} {gl : Glob} (hC_strings_LastIndexByte : CallsX Γ K.strings_LastIndexByte) {r : Bytes} {p0 : Bytes} {v : List V}
    (hv : nfL v = [(V.str p0)]) (hD : g.path_Base p0 = some r) : awp Γ gl c_path_Base (endQ [.t 2] false (V.str r)) (St.init v) := by
  obtain ⟨v0, v, rfl, h0, hv⟩ := nfL_cons hv
  obtain rfl := nfL_nil hv
  have hR : ∀ s, EndsX [.t 2] false (V.str r) s → endQ [.t 2] false (V.str r) .ret s := fun _ h => h
  unfold g.path_Base at hD
  unfold c_path_Base
  refine x_seq ?_
  refine x_start (b := false) ?_
  refine x_mv' (show _ = (V.str ([] : Bytes)) from rfl) ?_
  refine x_done ?_
  refine x_tN ?_
  refine x_seq ?_
  refine x_start (b := false) ?_
  refine x_mv' (nf_str h0) ?_
  refine x_mv' (nf_str h0) ?_
  obtain ⟨r2, hx3, hD⟩ := Option.bind_eq_some_iff.1 hD
  refine x_callF hC_strings_LastIndexByte (a := (p0, 47)) (cons_eq (nf_of rfl (show _ = (V.str p0) from rfl)) (cons_eq (nf_of rfl (show _ = (V.int .u8 ((47 : UInt8).toNat : Int)) from rfl)) rfl)) hx3 fun v1 ov1 (hv1 : v1.nf = (V.int .i64 r2)) hov1 => ?_
  refine x_bin (nf_int hv1) (show _ = (V.int .i64 1) from rfl) b_add ?_
  obtain ⟨q4, hx5, hD⟩ := Option.bind_eq_some_iff.1 hD
  refine x_slsl (show _ = (V.str p0) from rfl) (show _ = (V.int .i64 (wi (r2 + 1))) from rfl) hx5 ?_
  refine x_mv' (show _ = (V.str q4) from rfl) ?_
  refine x_done ?_
  refine x_tN ?_
  refine x_retc ?_
  obtain rfl := Option.some.inj hD
  exact hR _ (ends_t (nf_of rfl (show _ = (V.str q4) from rfl)) (fun h => nomatch h))
def K.path_Base : FC := fc F.path_Base (fun _ => true) false (fun (a : Bytes) => [(V.str a)]) (fun (y : Bytes) => (V.str y)) (fun a => g.path_Base a)
  (fun a => (cleanL_mk rfl rfl))
  (fun y => rfl)
  (fun a0 b0 h => by
    obtain ⟨h0, h⟩ := List.cons.inj h
    obtain rfl : a0 = b0 := V.str.inj h0
    rfl)
theorem H.path_Base (w : World) (hw : EnvOK w) : K.path_Base.Holds (cxD w) :=
  FC.holds_of (cs := [K.strings_LastIndexByte]) (glD w) mixed cf_path_Base (fun _ _ ⟨_, _, h, _⟩ => by subst h; exact Nat.le_of_ble_eq_true rfl) fun v y ⟨a, r, hv, hD, hy⟩ => by
    subst hy
    exact ok.path_Base (specOf_calls (H.strings_LastIndexByte w hw) (fun _ _ ⟨_, _, h, _⟩ => by subst h; rfl)) hv hD
def c_path_Under : ACode := (.seq (.region [
  ⟨(some 4), (.mv (.const (.str []))), none, []⟩, 
  ⟨(some 5), (.mv (.const (.bool false))), none, []⟩] false) (.seq (.seq (.region [
  ⟨(some 8), (.mv (.tmp 0)), none, []⟩, 
  ⟨(some 9), (.bin .eql .no (.tmp 8) (.const (.str []))), none, []⟩] false) (.cond (.tmp 9) (.seq (.region [
  ⟨(some 10), (.mv (.tmp 1)), none, []⟩, 
  ⟨(some 11), (.mv (.tmp 1)), none, []⟩, 
  ⟨(some 12), (.bin .neq .no (.tmp 11) (.const (.str []))), none, []⟩, 
  ⟨(some 4), (.mv (.tmp 10)), none, []⟩, 
  ⟨(some 5), (.mv (.tmp 12)), none, []⟩] false) .ret) .skip)) (.seq (.region [
  ⟨(some 14), (.mv (.tmp 1)), none, []⟩, 
  ⟨(some 15), (.mv (.tmp 0)), none, []⟩, 
  ⟨(some 16), (.bin .add .no (.tmp 15) (.const (.str [47]))), none, []⟩, 
  ⟨(some 17), (.call F.strings_CutPrefix [(.tmp 14), (.tmp 16)]), none, []⟩, 
  ⟨(some 13), (.mv (.tmp 17)), none, []⟩, 
  ⟨(some 18), (.ext (.tmp 13) 0), none, []⟩, 
  ⟨(some 19), (.ext (.tmp 13) 1), none, []⟩, 
  ⟨(some 6), (.mv (.tmp 18)), none, []⟩, 
  ⟨(some 7), (.mv (.tmp 19)), none, []⟩] false) (.seq (.region [
  ⟨(some 20), (.mv (.tmp 6)), none, []⟩, 
  ⟨(some 21), (.mv (.tmp 7)), none, []⟩, 
  ⟨(some 22), (.mv (.tmp 21)), none, []⟩, 
  ⟨(some 23), (.mv (.tmp 6)), (some (22, true)), []⟩, 
  ⟨(some 24), (.bin .neq .no (.tmp 23) (.const (.str []))), (some (22, true)), []⟩, 
  ⟨(some 25), (.pick (.tmp 22) (.tmp 24) (.const (.bool false))), none, []⟩, 
  ⟨(some 4), (.mv (.tmp 20)), none, []⟩, 
  ⟨(some 5), (.mv (.tmp 25)), none, []⟩] false) .ret))))
theorem cf_path_Under : cFn Go.Proofs.Tryd.prog F.path_Under = some ⟨26, c_path_Under, [.t 4, .t 5]⟩ := by kernel_rfl
def g.path_Under (p0 : Bytes) (p1 : Bytes) : Option (Bytes × Bool) :=
  if p0 = ([] : Bytes) then
    some (p1, (!(decide (p1 = ([] : Bytes)))))
  else
    (cat p0 ([47] : Bytes)).bind fun z11 =>
    (g.strings_CutPrefix p1 z11).bind fun r14 =>
    if r14.2 = true then
      some (r14.1, (!(decide (r14.1 = ([] : Bytes)))))
    else
      some (r14.1, false)
theorem ok.path_Under {Γ : Abs.Spec} {gl : Glob} (hC_strings_CutPrefix : CallsX Γ K.strings_CutPrefix) {r : (Bytes × Bool)} {p0 : Bytes} {p1 : Bytes} {v : List V}
    (hv : nfL v = [(V.str p0), (V.str p1)]) (hD : g.path_Under p0 p1 = some r) : awp Γ gl c_path_Under (endQ [.t 4, .t 5] false (V.tup [(V.str r.1), (V.bool r.2)])) (St.init v) := by
  obtain ⟨v0, v, rfl, h0, hv⟩ := nfL_cons hv
  obtain ⟨v1, v, rfl, h1, hv⟩ := nfL_cons hv
  obtain rfl := nfL_nil hv
  have hR : ∀ s, EndsX [.t 4, .t 5] false (V.tup [(V.str r.1), (V.bool r.2)]) s → endQ [.t 4, .t 5] false (V.tup [(V.str r.1), (V.bool r.2)]) .ret s := fun _ h => h
  unfold g.path_Under at hD
  unfold c_path_Under
  refine x_seq ?_
  refine x_start (b := false) ?_
  refine x_mv' (show _ = (V.str ([] : Bytes)) from rfl) ?_
  refine x_mv' (show _ = (V.bool false) from rfl) ?_
  refine x_done ?_
  refine x_tN ?_
  refine x_seq ?_
  refine x_seq ?_
  refine x_start (b := false) ?_
  refine x_mv' (nf_str h0) ?_
  refine x_bin (show _ = (V.str p0) from rfl) (show _ = (V.str ([] : Bytes)) from rfl) s_eql ?_
  refine x_done ?_
  refine x_tN ?_
  by_cases hp2 : p0 = ([] : Bytes)
  · rw [if_pos hp2] at hD
    refine x_ct (show _ = (V.bool (decide (p0 = ([] : Bytes)))) from rfl) (decide_eq_true hp2) ?_
    refine x_seq ?_
    refine x_start (b := false) ?_
    refine x_mv' (nf_str h1) ?_
    refine x_mv' (nf_str h1) ?_
    refine x_bin (show _ = (V.str p1) from rfl) (show _ = (V.str ([] : Bytes)) from rfl) s_neq ?_
    refine x_mv' (show _ = (V.str p1) from rfl) ?_
    refine x_mv' (show _ = (V.bool (!(decide (p1 = ([] : Bytes))))) from rfl) ?_
    refine x_done ?_
    refine x_tN ?_
    refine x_retc ?_
    refine x_tR ?_
    obtain rfl := Option.some.inj hD
    exact hR _ (ends_tup (rvs_cons (rv_t (nf_of rfl (show _ = (V.str p1) from rfl))) (rvs_cons (rv_t (nf_of rfl (show _ = (V.bool (!(decide (p1 = ([] : Bytes))))) from rfl))) rvs_nil)) (by decide))
  · rw [if_neg hp2] at hD
    refine x_cf (show _ = (V.bool (decide (p0 = ([] : Bytes)))) from rfl) (decide_eq_false hp2) ?_
    refine x_skip ?_
    refine x_tN ?_
    refine x_seq ?_
    refine x_start (b := false) ?_
    refine x_mv' (nf_str h1) ?_
    refine x_mv' (nf_str h0) ?_
    obtain ⟨z11, hx12, hD⟩ := Option.bind_eq_some_iff.1 hD
    refine x_cat (show _ = (V.str p0) from rfl) (show _ = (V.str ([47] : Bytes)) from rfl) hx12 ?_
    obtain ⟨r14, hx15, hD⟩ := Option.bind_eq_some_iff.1 hD
    refine x_callF hC_strings_CutPrefix (a := (p1, z11)) (cons_eq (nf_of rfl (show _ = (V.str p1) from rfl)) (cons_eq (nf_of rfl (show _ = (V.str z11) from rfl)) rfl)) hx15 fun v13 ov13 (hv13 : v13.nf = (V.tup [(V.str r14.1), (V.bool r14.2)])) hov13 => ?_
    refine x_mv hv13 fun v16 hv16 => ?_
    refine x_ext hv16 (show _ = some (V.str r14.1) from rfl) fun v17 hv17 => ?_
    refine x_ext hv16 (show _ = some (V.bool r14.2) from rfl) fun v18 hv18 => ?_
    refine x_mv' (nf_str hv17) ?_
    refine x_mv' (nf_bool hv18) ?_
    refine x_done ?_
    refine x_tN ?_
    refine x_seq ?_
    refine x_start (b := false) ?_
    refine x_mv' (show _ = (V.str r14.1) from rfl) ?_
    refine x_mv' (show _ = (V.bool r14.2) from rfl) ?_
    refine x_mv' (show _ = (V.bool r14.2) from rfl) ?_
    by_cases hp19 : r14.2 = true
    · rw [if_pos hp19] at hD
      refine x_gy (show _ = (V.bool r14.2) from rfl) hp19 ?_
      refine x_mv' (show _ = (V.str r14.1) from rfl) ?_
      refine x_gy (show _ = (V.bool r14.2) from rfl) hp19 ?_
      refine x_bin (show _ = (V.str r14.1) from rfl) (show _ = (V.str ([] : Bytes)) from rfl) s_neq ?_
      refine x_pickt' (show _ = (V.bool r14.2) from rfl) hp19 (show _ = (V.bool (!(decide (r14.1 = ([] : Bytes))))) from rfl) ?_
      refine x_mv' (show _ = (V.str r14.1) from rfl) ?_
      refine x_mv' (show _ = (V.bool (!(decide (r14.1 = ([] : Bytes))))) from rfl) ?_
      refine x_done ?_
      refine x_tN ?_
      refine x_retc ?_
      obtain rfl := Option.some.inj hD
      exact hR _ (ends_tup (rvs_cons (rv_t (nf_of rfl (show _ = (V.str r14.1) from rfl))) (rvs_cons (rv_t (nf_of rfl (show _ = (V.bool (!(decide (r14.1 = ([] : Bytes))))) from rfl))) rvs_nil)) (by decide))
    · rw [if_neg hp19] at hD
      refine x_gn (show _ = (V.bool r14.2) from rfl) (Bool.eq_false_iff.2 hp19) ?_
      refine x_gn (show _ = (V.bool r14.2) from rfl) (Bool.eq_false_iff.2 hp19) ?_
      refine x_pickf' (show _ = (V.bool r14.2) from rfl) (Bool.eq_false_iff.2 hp19) (show _ = (V.bool false) from rfl) ?_
      refine x_mv' (show _ = (V.str r14.1) from rfl) ?_
      refine x_mv' (show _ = (V.bool false) from rfl) ?_
      refine x_done ?_
      refine x_tN ?_
      refine x_retc ?_
      obtain rfl := Option.some.inj hD
      exact hR _ (ends_tup (rvs_cons (rv_t (nf_of rfl (show _ = (V.str r14.1) from rfl))) (rvs_cons (rv_t (nf_of rfl (show _ = (V.bool false) from rfl))) rvs_nil)) (by decide))
def K.path_Under : FC := fc F.path_Under (fun _ => true) false (fun (a : (Bytes × Bytes)) => [(V.str a.1), (V.str a.2)]) (fun (y : (Bytes × Bool)) => (V.tup [(V.str y.1), (V.bool y.2)])) (fun a => g.path_Under a.1 a.2)
  (fun a => (cleanL_mk rfl (cleanL_mk rfl rfl)))
  (fun y => (cleanL_mk rfl (cleanL_mk rfl rfl)))
  (fun ⟨a0, a1⟩ ⟨b0, b1⟩ h => by
    obtain ⟨h0, h⟩ := List.cons.inj h
    obtain rfl : a0 = b0 := V.str.inj h0
    obtain ⟨h0, h⟩ := List.cons.inj h
    obtain rfl : a1 = b1 := V.str.inj h0
    rfl)
theorem H.path_Under (w : World) (hw : EnvOK w) : K.path_Under.Holds (cxD w) :=
  FC.holds_of (cs := [K.strings_CutPrefix]) (glD w) mixed cf_path_Under (fun _ _ ⟨_, _, h, _⟩ => by subst h; exact Nat.le_of_ble_eq_true rfl) fun v y ⟨a, r, hv, hD, hy⟩ => by
    subst hy
    exact ok.path_Under (specOf_calls (H.strings_CutPrefix w hw) (fun _ _ ⟨_, _, h, _⟩ => by subst h; rfl)) hv hD
def c_path_From_l1 : ACode := (.seq (.region [
  ⟨(some 16), (.bin .lss .no (.tmp 15) (.tmp 14)), none, []⟩] false) (.seq (.cond (.tmp 16) .skip (.exit 0)) (.seq (.block 1 (.seq (.region [
  ⟨(some 17), (.iaddr 1 (.tmp 13) (.tmp 15)), none, []⟩, 
  ⟨(some 18), (.load none (.tmp 17)), none, []⟩, 
  ⟨(some 8), (.mv (.tmp 18)), none, []⟩] false) (.block 2 (.seq (.region [
  ⟨(some 29), (.mv (.tmp 8)), none, []⟩, 
  ⟨(some 30), (.bin .eql .no (.tmp 29) (.const (.str []))), none, []⟩, 
  ⟨(some 31), (.mv (.tmp 30)), none, []⟩, 
  ⟨(some 32), (.mv (.tmp 8)), (some (31, false)), []⟩, 
  ⟨(some 33), (.bin .eql .no (.tmp 32) (.const (.str [46]))), (some (31, false)), []⟩, 
  ⟨(some 34), (.pick (.tmp 31) (.const (.bool true)) (.tmp 33)), none, []⟩, 
  ⟨(some 28), (.mv (.tmp 34)), none, []⟩] false) (.cond (.tmp 28) .skip (.seq (.region [
  ⟨(some 36), (.mv (.tmp 8)), none, []⟩, 
  ⟨(some 37), (.bin .eql .no (.tmp 36) (.const (.str [46, 46]))), none, []⟩, 
  ⟨(some 35), (.mv (.tmp 37)), none, []⟩] false) (.cond (.tmp 35) (.seq (.seq (.region [
  ⟨(some 38), (.mv (.tmp 6)), none, []⟩, 
  ⟨(some 39), (.len false (.tmp 38)), none, []⟩, 
  ⟨(some 40), (.bin .eql .no (.tmp 39) (.const (.int .i64 0))), none, []⟩] false) (.cond (.tmp 40) (.seq (.region [
  ⟨(some 4), (.mv (.const (.str []))), none, []⟩, 
  ⟨(some 5), (.mv (.const (.bool false))), none, []⟩] false) .ret) .skip)) (.region [
  ⟨(some 41), (.mv (.tmp 6)), none, []⟩, 
  ⟨(some 42), (.mv (.tmp 6)), none, []⟩, 
  ⟨(some 43), (.len false (.tmp 42)), none, []⟩, 
  ⟨(some 44), (.bin .sub .no (.tmp 43) (.const (.int .i64 1))), none, []⟩, 
  ⟨(some 45), (.slc 1 (.tmp 41) none (some (.tmp 44)) none), none, []⟩, 
  ⟨(some 6), (.mvo 45), none, []⟩] false)) (.seq (.region [
  ⟨(some 47), (.mv (.tmp 8)), none, []⟩, 
  ⟨(some 48), (.call F.path_part [(.tmp 47)]), none, []⟩, 
  ⟨(some 49), (.un .not (.tmp 48)), none, []⟩, 
  ⟨(some 46), (.mv (.tmp 49)), none, []⟩] false) (.cond (.tmp 46) (.seq (.region [
  ⟨(some 4), (.mv (.const (.str []))), none, []⟩, 
  ⟨(some 5), (.mv (.const (.bool false))), none, []⟩] false) .ret) (.region [
  ⟨(some 19), (.mv (.tmp 6)), none, []⟩, 
  ⟨(some 20), (.mv (.tmp 6)), none, []⟩, 
  ⟨(some 21), (.len false (.tmp 20)), none, []⟩, 
  ⟨(some 22), (.mv (.tmp 6)), none, []⟩, 
  ⟨(some 23), (.len false (.tmp 22)), none, []⟩, 
  ⟨(some 24), (.slc 1 (.tmp 19) none (some (.tmp 21)) (some (.tmp 23))), none, []⟩, 
  ⟨(some 25), (.mv (.tmp 8)), none, []⟩, 
  ⟨(some 26), (.bsl 1 [(.tmp 25)]), none, []⟩, 
  ⟨(some 27), (.app 1 (.tmp 24) (.tmp 26)), none, []⟩, 
  ⟨(some 6), (.mvo 27), none, []⟩] false)))))))))) (.region [
  ⟨(some 50), (.bin .add .no (.tmp 15) (.const (.int .i64 1))), none, []⟩, 
  ⟨(some 15), (.mv (.tmp 50)), none, []⟩] false))))
def c_path_From : ACode := (.seq (.region [
  ⟨(some 4), (.mv (.const (.str []))), none, []⟩, 
  ⟨(some 5), (.mv (.const (.bool false))), none, []⟩] false) (.seq (.region [
  ⟨(some 10), (.mv (.tmp 0)), none, []⟩, 
  ⟨(some 11), (.call F.path_Split [(.tmp 10)]), none, []⟩, 
  ⟨(some 6), (.mvo 11), none, []⟩] false) (.seq (.seq (.region [
  ⟨(some 12), (.mv (.tmp 1)), none, []⟩, 
  ⟨(some 13), (.call F.strings_Split [(.tmp 12), (.const (.str [47]))]), none, []⟩, 
  ⟨(some 14), (.len false (.tmp 13)), none, []⟩, 
  ⟨(some 15), (.mv (.const (.int .i64 0))), none, []⟩] false) (.block 0 (.loop c_path_From_l1))) (.seq (.region [
  ⟨(some 51), (.mv (.tmp 6)), none, []⟩, 
  ⟨(some 52), (.call F.path_Join [(.tmp 51)]), none, []⟩, 
  ⟨(some 9), (.mv (.tmp 52)), none, []⟩] false) (.seq (.region [
  ⟨(some 53), (.mv (.tmp 9)), none, []⟩, 
  ⟨(some 54), (.mv (.tmp 9)), none, []⟩, 
  ⟨(some 55), (.bin .eql .no (.tmp 54) (.const (.str []))), none, []⟩, 
  ⟨(some 56), (.mv (.tmp 55)), none, []⟩, 
  ⟨(some 57), (.mv (.tmp 9)), (some (56, false)), []⟩, 
  ⟨(some 58), (.call F.path_Good [(.tmp 57)]), (some (56, false)), []⟩, 
  ⟨(some 59), (.pick (.tmp 56) (.const (.bool true)) (.tmp 58)), none, []⟩, 
  ⟨(some 4), (.mv (.tmp 53)), none, []⟩, 
  ⟨(some 5), (.mv (.tmp 59)), none, []⟩] false) .ret)))))
theorem cf_path_From : cFn Go.Proofs.Tryd.prog F.path_From = some ⟨60, c_path_From, [.t 4, .t 5]⟩ := by kernel_rfl
def L.path_From_l1 (k0 : (List Bytes) → Option (Bytes × Bool)) : List Bytes → (List Bytes) → Option (Bytes × Bool)
  | [], t6_200 =>
    k0 t6_200
  | a203 :: rest, t6_200 =>
    if a203 = ([] : Bytes) then
      L.path_From_l1 k0 rest t6_200
    else
      if a203 = ([46] : Bytes) then
        L.path_From_l1 k0 rest t6_200
      else
        if a203 = ([46, 46] : Bytes) then
          if ((t6_200.length : Nat) : Int) = 0 then
            some (([] : Bytes), false)
          else
            (cut t6_200 0 (wi (((t6_200.length : Nat) : Int) - 1))).bind fun q220 =>
            L.path_From_l1 k0 rest q220
        else
          (g.path_part a203).bind fun r228 =>
          if r228 = true then
            (cut t6_200 0 ((t6_200.length : Nat) : Int)).bind fun q234 =>
            (appL q234 ([a203] : (List Bytes))).bind fun l238 =>
            L.path_From_l1 k0 rest l238
          else
            some (([] : Bytes), false)
theorem ok.path_From_l1 {Γ : Abs.Spec} {gl : Glob} (hC_path_Split : CallsX Γ K.path_Split) (hC_strings_Split : CallsX Γ K.strings_Split) (hC_path_part : CallsX Γ K.path_part) (hC_path_Join : CallsX Γ K.path_Join) (hC_path_Good : CallsX Γ K.path_Good) {Q : Ex → St → Prop} {r : (Bytes × Bool)} {l111 : List Bytes} {k0 : (List Bytes) → Option (Bytes × Bool)}
    (hk0 : ∀ (s : St) (t6_245 : (List Bytes)), ((s.tm 6).nf = (V.sl false 1 (List.map V.str t6_245))) → k0 t6_245 = some r → Q (.exit 0) s)
    (hR : ∀ s, EndsX [.t 4, .t 5] false (V.tup [(V.str r.1), (V.bool r.2)]) s → Q .ret s)
    (hlen : l111.length ≤ Lim) : ∀ (rest : List Bytes) (k112 : Nat) (s : St) (t6_200 : (List Bytes)), l111.drop k112 = rest → k112 ≤ l111.length →
    ((s.tm 13).nf = V.sl false 1 (List.map V.str l111)) → (s.tm 14 = V.int .i64 ((l111.length : Nat) : Int)) → (s.tm 15 = V.int .i64 ((k112 : Nat) : Int)) → ((s.tm 6).nf = (V.sl false 1 (List.map V.str t6_200))) →
    L.path_From_l1 k0 rest t6_200 = some r → awp Γ gl (.loop c_path_From_l1) Q s := by
  intro rest
  induction rest with
  | nil =>
    intro k112 s t6_200 hdrop hkl hX hN hI h199 hD
    have hkz := drop_nil hdrop hkl
    have hp0 : ¬ (((k112 : Nat) : Int) < ((l111.length : Nat) : Int)) := by omega
    refine awp_roundK fun K hK => ?_
    rw [L.path_From_l1] at hD
    refine x_seq ?_
    refine x_start (b := false) ?_
    refine x_bin hI hN b_lss ?_
    refine x_done ?_
    refine x_tN ?_
    refine x_seq ?_
    refine x_cf (show _ = (V.bool (decide (((k112 : Nat) : Int) < ((l111.length : Nat) : Int)))) from rfl) (decide_eq_false hp0) ?_
    refine x_exitc ?_
    refine x_tE ?_
    refine x_tE ?_
    refine hk0 _ _ ?_ hD
    · exact h199
  | cons a203 rest ih =>
    intro k112 s t6_200 hdrop hkl hX hN hI h199 hD
    obtain ⟨hlt, -, hget, hdrop1, -⟩ := drop_cons hdrop
    have hp1 : ((k112 : Nat) : Int) < ((l111.length : Nat) : Int) := by omega
    have hwk := wi_succ (k := k112) (by unfold Lim at hlen; omega)
    refine awp_roundK fun K hK => ?_
    rw [L.path_From_l1] at hD
    refine x_seq ?_
    refine x_start (b := false) ?_
    refine x_bin hI hN b_lss ?_
    refine x_done ?_
    refine x_tN ?_
    refine x_seq ?_
    refine x_ct (show _ = (V.bool (decide (((k112 : Nat) : Int) < ((l111.length : Nat) : Int)))) from rfl) (decide_eq_true hp1) ?_
    refine x_skip ?_
    refine x_tN ?_
    refine x_seq ?_
    refine x_block ?_
    refine x_seq ?_
    refine x_start (b := false) ?_
    refine x_iaddr hX hI (at_k hget) fun v206 (hv206 : v206.nf = V.el [(V.str a203)] 0) => ?_
    refine x_load_el hv206 (show _ = some (V.str a203) from rfl) fun v207 hv207 => ?_
    refine x_mv' (nf_str hv207) ?_
    refine x_done ?_
    refine x_tN ?_
    refine x_block ?_
    refine x_seq ?_
    refine x_start (b := false) ?_
    refine x_mv' (show _ = (V.str a203) from rfl) ?_
    refine x_bin (show _ = (V.str a203) from rfl) (show _ = (V.str ([] : Bytes)) from rfl) s_eql ?_
    refine x_mv' (show _ = (V.bool (decide (a203 = ([] : Bytes)))) from rfl) ?_
    by_cases hp209 : a203 = ([] : Bytes)
    · rw [if_pos hp209] at hD
      refine x_gn (show _ = (V.bool (decide (a203 = ([] : Bytes)))) from rfl) (decide_eq_true hp209) ?_
      refine x_gn (show _ = (V.bool (decide (a203 = ([] : Bytes)))) from rfl) (decide_eq_true hp209) ?_
      refine x_pickt' (show _ = (V.bool (decide (a203 = ([] : Bytes)))) from rfl) (decide_eq_true hp209) (show _ = (V.bool true) from rfl) ?_
      refine x_mv' (show _ = (V.bool true) from rfl) ?_
      refine x_done ?_
      refine x_tN ?_
      refine x_ct (show _ = (V.bool true) from rfl) rfl ?_
      refine x_skip ?_
      refine x_bN ?_
      refine x_bN ?_
      refine x_tN ?_
      refine x_start (b := false) ?_
      refine x_bin hI (show _ = (V.int .i64 1) from rfl) b_add ?_
      refine x_mv' (show _ = (V.int .i64 (wi (((k112 : Nat) : Int) + 1))) from rfl) ?_
      refine x_done ?_
      refine x_tN ?_
      refine hK _ ?_
      refine ih (k112 + 1) _ _ hdrop1 hlt ?_ ?_ ?_ ?_ hD
      · exact hX
      · exact hN
      · exact (Eq.trans (show _ = (V.int .i64 (wi (((k112 : Nat) : Int) + 1))) from rfl) (congrArg (V.int .i64) hwk))
      · exact h199
    · rw [if_neg hp209] at hD
      refine x_gy (show _ = (V.bool (decide (a203 = ([] : Bytes)))) from rfl) (decide_eq_false hp209) ?_
      refine x_mv' (show _ = (V.str a203) from rfl) ?_
      refine x_gy (show _ = (V.bool (decide (a203 = ([] : Bytes)))) from rfl) (decide_eq_false hp209) ?_
      refine x_bin (show _ = (V.str a203) from rfl) (show _ = (V.str ([46] : Bytes)) from rfl) s_eql ?_
      refine x_pickf' (show _ = (V.bool (decide (a203 = ([] : Bytes)))) from rfl) (decide_eq_false hp209) (show _ = (V.bool (decide (a203 = ([46] : Bytes)))) from rfl) ?_
      refine x_mv' (show _ = (V.bool (decide (a203 = ([46] : Bytes)))) from rfl) ?_
      refine x_done ?_
      refine x_tN ?_
      by_cases hp210 : a203 = ([46] : Bytes)
      · rw [if_pos hp210] at hD
        refine x_ct (show _ = (V.bool (decide (a203 = ([46] : Bytes)))) from rfl) (decide_eq_true hp210) ?_
        refine x_skip ?_
        refine x_bN ?_
        refine x_bN ?_
        refine x_tN ?_
        refine x_start (b := false) ?_
        refine x_bin hI (show _ = (V.int .i64 1) from rfl) b_add ?_
        refine x_mv' (show _ = (V.int .i64 (wi (((k112 : Nat) : Int) + 1))) from rfl) ?_
        refine x_done ?_
        refine x_tN ?_
        refine hK _ ?_
        refine ih (k112 + 1) _ _ hdrop1 hlt ?_ ?_ ?_ ?_ hD
        · exact hX
        · exact hN
        · exact (Eq.trans (show _ = (V.int .i64 (wi (((k112 : Nat) : Int) + 1))) from rfl) (congrArg (V.int .i64) hwk))
        · exact h199
      · rw [if_neg hp210] at hD
        refine x_cf (show _ = (V.bool (decide (a203 = ([46] : Bytes)))) from rfl) (decide_eq_false hp210) ?_
        refine x_seq ?_
        refine x_start (b := false) ?_
        refine x_mv' (show _ = (V.str a203) from rfl) ?_
        refine x_bin (show _ = (V.str a203) from rfl) (show _ = (V.str ([46, 46] : Bytes)) from rfl) s_eql ?_
        refine x_mv' (show _ = (V.bool (decide (a203 = ([46, 46] : Bytes)))) from rfl) ?_
        refine x_done ?_
        refine x_tN ?_
        by_cases hp211 : a203 = ([46, 46] : Bytes)
        · rw [if_pos hp211] at hD
          refine x_ct (show _ = (V.bool (decide (a203 = ([46, 46] : Bytes)))) from rfl) (decide_eq_true hp211) ?_
          refine x_seq ?_
          refine x_seq ?_
          refine x_start (b := false) ?_
          refine x_mv h199 fun v216 hv216 => ?_
          refine x_len hv216 ?_
          refine x_bin (show _ = (V.int .i64 ((t6_200.length : Nat) : Int)) from rfl) (show _ = (V.int .i64 0) from rfl) b_eql ?_
          refine x_done ?_
          refine x_tN ?_
          by_cases hp217 : ((t6_200.length : Nat) : Int) = 0
          · rw [if_pos hp217] at hD
            refine x_ct (show _ = (V.bool (decide (((t6_200.length : Nat) : Int) = 0))) from rfl) (decide_eq_true hp217) ?_
            refine x_seq ?_
            refine x_start (b := false) ?_
            refine x_mv' (show _ = (V.str ([] : Bytes)) from rfl) ?_
            refine x_mv' (show _ = (V.bool false) from rfl) ?_
            refine x_done ?_
            refine x_tN ?_
            refine x_retc ?_
            refine x_tR ?_
            refine x_bR ?_
            refine x_bR ?_
            refine x_tR ?_
            refine x_tR ?_
            obtain rfl := Option.some.inj hD
            exact hR _ (ends_tup (rvs_cons (rv_t (nf_of rfl (show _ = (V.str ([] : Bytes)) from rfl))) (rvs_cons (rv_t (nf_of rfl (show _ = (V.bool false) from rfl))) rvs_nil)) (by decide))
          · rw [if_neg hp217] at hD
            refine x_cf (show _ = (V.bool (decide (((t6_200.length : Nat) : Int) = 0))) from rfl) (decide_eq_false hp217) ?_
            refine x_skip ?_
            refine x_tN ?_
            refine x_start (b := false) ?_
            refine x_mv h199 fun v218 hv218 => ?_
            refine x_mv h199 fun v219 hv219 => ?_
            refine x_len hv219 ?_
            refine x_bin (show _ = (V.int .i64 ((t6_200.length : Nat) : Int)) from rfl) (show _ = (V.int .i64 1) from rfl) b_sub ?_
            obtain ⟨q220, hx221, hD⟩ := Option.bind_eq_some_iff.1 hD
            refine x_slc (ka := .i64) (kb := .i64) hv218 (Eq.refl (0 : Int)) (show _ = (V.int .i64 (wi (((t6_200.length : Nat) : Int) - 1))) from rfl) hx221 fun v222 hv222 => ?_
            refine x_mvo hv222 fun v223 ov223 hv223 hwv223 => ?_
            refine x_done ?_
            refine x_bN ?_
            refine x_bN ?_
            refine x_tN ?_
            refine x_start (b := false) ?_
            refine x_bin hI (show _ = (V.int .i64 1) from rfl) b_add ?_
            refine x_mv' (show _ = (V.int .i64 (wi (((k112 : Nat) : Int) + 1))) from rfl) ?_
            refine x_done ?_
            refine x_tN ?_
            refine hK _ ?_
            refine ih (k112 + 1) _ _ hdrop1 hlt ?_ ?_ ?_ ?_ hD
            · exact hX
            · exact hN
            · exact (Eq.trans (show _ = (V.int .i64 (wi (((k112 : Nat) : Int) + 1))) from rfl) (congrArg (V.int .i64) hwk))
            · exact hv223
        · rw [if_neg hp211] at hD
          refine x_cf (show _ = (V.bool (decide (a203 = ([46, 46] : Bytes)))) from rfl) (decide_eq_false hp211) ?_
          refine x_seq ?_
          refine x_start (b := false) ?_
          refine x_mv' (show _ = (V.str a203) from rfl) ?_
          obtain ⟨r228, hx229, hD⟩ := Option.bind_eq_some_iff.1 hD
          refine x_callF hC_path_part (a := (a203)) (cons_eq (nf_of rfl (show _ = (V.str a203) from rfl)) rfl) hx229 fun v227 ov227 (hv227 : v227.nf = (V.bool r228)) hov227 => ?_
          refine x_un (nf_bool hv227) (aun_not _) ?_
          refine x_mv' (show _ = (V.bool (!r228)) from rfl) ?_
          refine x_done ?_
          refine x_tN ?_
          by_cases hp230 : r228 = true
          · rw [if_pos hp230] at hD
            refine x_cf (show _ = (V.bool (!r228)) from rfl) (bnot_t hp230) ?_
            refine x_start (b := false) ?_
            refine x_mv h199 fun v231 hv231 => ?_
            refine x_mv h199 fun v232 hv232 => ?_
            refine x_len hv232 ?_
            refine x_mv h199 fun v233 hv233 => ?_
            refine x_len hv233 ?_
            obtain ⟨q234, hx235, hD⟩ := Option.bind_eq_some_iff.1 hD
            refine x_slc3 (ka := .i64) hv231 (Eq.refl (0 : Int)) (show _ = (V.int .i64 ((t6_200.length : Nat) : Int)) from rfl) (show _ = (V.int .i64 ((t6_200.length : Nat) : Int)) from rfl) hx235 fun v236 ov236 hv236 hov236 => ?_
            refine x_mv' (show _ = (V.str a203) from rfl) ?_
            refine x_bsl (E := V.str) (l := ([a203] : (List Bytes))) (cons_eq (nf_of rfl (show _ = (V.str a203) from rfl)) rfl) (fits_map (E := V.str) (sz := 1) (fun x => ⟨rfl, rfl⟩) _) fun v237 ov237 hv237 hov237 => ?_
            obtain ⟨l238, hx239, hD⟩ := Option.bind_eq_some_iff.1 hD
            refine x_app hv236 hov236 (tail_sl hv237) hx239 fun v240 ov240 fv240 hv240 hov240 hfv240 => ?_
            refine x_mvo hv240 fun v241 ov241 hv241 hwv241 => ?_
            refine x_done ?_
            refine x_bN ?_
            refine x_bN ?_
            refine x_tN ?_
            refine x_start (b := false) ?_
            refine x_bin hI (show _ = (V.int .i64 1) from rfl) b_add ?_
            refine x_mv' (show _ = (V.int .i64 (wi (((k112 : Nat) : Int) + 1))) from rfl) ?_
            refine x_done ?_
            refine x_tN ?_
            refine hK _ ?_
            refine ih (k112 + 1) _ _ hdrop1 hlt ?_ ?_ ?_ ?_ hD
            · exact hX
            · exact hN
            · exact (Eq.trans (show _ = (V.int .i64 (wi (((k112 : Nat) : Int) + 1))) from rfl) (congrArg (V.int .i64) hwk))
            · exact hv241
          · rw [if_neg hp230] at hD
            refine x_ct (show _ = (V.bool (!r228)) from rfl) (bnot_f (Bool.eq_false_iff.2 hp230)) ?_
            refine x_seq ?_
            refine x_start (b := false) ?_
            refine x_mv' (show _ = (V.str ([] : Bytes)) from rfl) ?_
            refine x_mv' (show _ = (V.bool false) from rfl) ?_
            refine x_done ?_
            refine x_tN ?_
            refine x_retc ?_
            refine x_bR ?_
            refine x_bR ?_
            refine x_tR ?_
            refine x_tR ?_
            obtain rfl := Option.some.inj hD
            exact hR _ (ends_tup (rvs_cons (rv_t (nf_of rfl (show _ = (V.str ([] : Bytes)) from rfl))) (rvs_cons (rv_t (nf_of rfl (show _ = (V.bool false) from rfl))) rvs_nil)) (by decide))
def g.path_From (p0 : Bytes) (p1 : Bytes) : Option (Bytes × Bool) :=
  (g.path_Split p0).bind fun r6 =>
  (g.strings_Split p1 ([47] : Bytes)).bind fun r109 =>
  if r109.length ≤ Lim then L.path_From_l1 (fun (t6_247 : (List Bytes)) => (g.path_Join t6_247).bind fun r254 =>
  if r254 = ([] : Bytes) then
    some (r254, true)
  else
    (g.path_Good r254).bind fun r258 =>
    some (r254, r258)) r109 r6 else none
theorem ok.path_From {Γ : Abs.Spec} {gl : Glob} (hC_path_Split : CallsX Γ K.path_Split) (hC_strings_Split : CallsX Γ K.strings_Split) (hC_path_part : CallsX Γ K.path_part) (hC_path_Join : CallsX Γ K.path_Join) (hC_path_Good : CallsX Γ K.path_Good) {r : (Bytes × Bool)} {p0 : Bytes} {p1 : Bytes} {v : List V}
    (hv : nfL v = [(V.str p0), (V.str p1)]) (hD : g.path_From p0 p1 = some r) : awp Γ gl c_path_From (endQ [.t 4, .t 5] false (V.tup [(V.str r.1), (V.bool r.2)])) (St.init v) := by
  obtain ⟨v0, v, rfl, h0, hv⟩ := nfL_cons hv
  obtain ⟨v1, v, rfl, h1, hv⟩ := nfL_cons hv
  obtain rfl := nfL_nil hv
  have hR : ∀ s, EndsX [.t 4, .t 5] false (V.tup [(V.str r.1), (V.bool r.2)]) s → endQ [.t 4, .t 5] false (V.tup [(V.str r.1), (V.bool r.2)]) .ret s := fun _ h => h
  unfold g.path_From at hD
  unfold c_path_From
  refine x_seq ?_
  refine x_start (b := false) ?_
  refine x_mv' (show _ = (V.str ([] : Bytes)) from rfl) ?_
  refine x_mv' (show _ = (V.bool false) from rfl) ?_
  refine x_done ?_
  refine x_tN ?_
  refine x_seq ?_
  refine x_start (b := false) ?_
  refine x_mv' (nf_str h0) ?_
  obtain ⟨r6, hx7, hD⟩ := Option.bind_eq_some_iff.1 hD
  refine x_callF hC_path_Split (a := (p0)) (cons_eq (nf_of rfl (show _ = (V.str p0) from rfl)) rfl) hx7 fun v5 ov5 (hv5 : v5.nf = (V.sl false 1 (List.map V.str r6))) hov5 => ?_
  refine x_mvo hv5 fun v8 ov8 hv8 hwv8 => ?_
  refine x_done ?_
  refine x_tN ?_
  refine x_seq ?_
  refine x_seq ?_
  refine x_start (b := false) ?_
  refine x_mv' (nf_str h1) ?_
  obtain ⟨r109, hx110, hD⟩ := Option.bind_eq_some_iff.1 hD
  refine x_callF hC_strings_Split (a := (p1, ([47] : Bytes))) (cons_eq (nf_of rfl (show _ = (V.str p1) from rfl)) (cons_eq (nf_of rfl (show _ = (V.str ([47] : Bytes)) from rfl)) rfl)) hx110 fun v108 ov108 (hv108 : v108.nf = (V.sl false 1 (List.map V.str r109))) hov108 => ?_
  refine x_len hv108 ?_
  refine x_mv' (show _ = (V.int .i64 0) from rfl) ?_
  refine x_done ?_
  refine x_tN ?_
  refine x_block ?_
  by_cases hlen261 : r109.length ≤ Lim
  · rw [if_pos hlen261] at hD
    refine ok.path_From_l1 (l111 := r109) hC_path_Split hC_strings_Split hC_path_part hC_path_Join hC_path_Good (fun s260 t6_247 h246 hD => ?_) (fun _ hE => ?_) hlen261 _ 0 _ _ rfl (Nat.zero_le _) ?_ ?_ ?_ ?_ hD
    · refine x_bE ?_
      refine x_tN ?_
      refine x_seq ?_
      refine x_start (b := false) ?_
      refine x_mv h246 fun v252 hv252 => ?_
      obtain ⟨r254, hx255, hD⟩ := Option.bind_eq_some_iff.1 hD
      refine x_callF hC_path_Join (a := (t6_247)) (cons_eq hv252 rfl) hx255 fun v253 ov253 (hv253 : v253.nf = (V.str r254)) hov253 => ?_
      refine x_mv' (nf_str hv253) ?_
      refine x_done ?_
      refine x_tN ?_
      refine x_seq ?_
      refine x_start (b := false) ?_
      refine x_mv' (show _ = (V.str r254) from rfl) ?_
      refine x_mv' (show _ = (V.str r254) from rfl) ?_
      refine x_bin (show _ = (V.str r254) from rfl) (show _ = (V.str ([] : Bytes)) from rfl) s_eql ?_
      refine x_mv' (show _ = (V.bool (decide (r254 = ([] : Bytes)))) from rfl) ?_
      by_cases hp256 : r254 = ([] : Bytes)
      · rw [if_pos hp256] at hD
        refine x_gn (show _ = (V.bool (decide (r254 = ([] : Bytes)))) from rfl) (decide_eq_true hp256) ?_
        refine x_gn (show _ = (V.bool (decide (r254 = ([] : Bytes)))) from rfl) (decide_eq_true hp256) ?_
        refine x_pickt' (show _ = (V.bool (decide (r254 = ([] : Bytes)))) from rfl) (decide_eq_true hp256) (show _ = (V.bool true) from rfl) ?_
        refine x_mv' (show _ = (V.str r254) from rfl) ?_
        refine x_mv' (show _ = (V.bool true) from rfl) ?_
        refine x_done ?_
        refine x_tN ?_
        refine x_retc ?_
        obtain rfl := Option.some.inj hD
        exact hR _ (ends_tup (rvs_cons (rv_t (nf_of rfl (show _ = (V.str r254) from rfl))) (rvs_cons (rv_t (nf_of rfl (show _ = (V.bool true) from rfl))) rvs_nil)) (by decide))
      · rw [if_neg hp256] at hD
        refine x_gy (show _ = (V.bool (decide (r254 = ([] : Bytes)))) from rfl) (decide_eq_false hp256) ?_
        refine x_mv' (show _ = (V.str r254) from rfl) ?_
        refine x_gy (show _ = (V.bool (decide (r254 = ([] : Bytes)))) from rfl) (decide_eq_false hp256) ?_
        obtain ⟨r258, hx259, hD⟩ := Option.bind_eq_some_iff.1 hD
        refine x_callF hC_path_Good (a := (r254)) (cons_eq (nf_of rfl (show _ = (V.str r254) from rfl)) rfl) hx259 fun v257 ov257 (hv257 : v257.nf = (V.bool r258)) hov257 => ?_
        refine x_pickf' (show _ = (V.bool (decide (r254 = ([] : Bytes)))) from rfl) (decide_eq_false hp256) (nf_bool hv257) ?_
        refine x_mv' (show _ = (V.str r254) from rfl) ?_
        refine x_mv' (show _ = (V.bool r258) from rfl) ?_
        refine x_done ?_
        refine x_tN ?_
        refine x_retc ?_
        obtain rfl := Option.some.inj hD
        exact hR _ (ends_tup (rvs_cons (rv_t (nf_of rfl (show _ = (V.str r254) from rfl))) (rvs_cons (rv_t (nf_of rfl (show _ = (V.bool r258) from rfl))) rvs_nil)) (by decide))
    · refine x_bR ?_; refine x_tR ?_; exact hR _ hE
    · exact hv108
    · exact (show _ = (V.int .i64 ((r109.length : Nat) : Int)) from rfl)
    · exact (show _ = (V.int .i64 0) from rfl)
    · exact hv8
  · rw [if_neg hlen261] at hD; cases hD
def K.path_From : FC := fc F.path_From (fun _ => true) false (fun (a : (Bytes × Bytes)) => [(V.str a.1), (V.str a.2)]) (fun (y : (Bytes × Bool)) => (V.tup [(V.str y.1), (V.bool y.2)])) (fun a => g.path_From a.1 a.2)
  (fun a => (cleanL_mk rfl (cleanL_mk rfl rfl)))
  (fun y => (cleanL_mk rfl (cleanL_mk rfl rfl)))
  (fun ⟨a0, a1⟩ ⟨b0, b1⟩ h => by
    obtain ⟨h0, h⟩ := List.cons.inj h
    obtain rfl : a0 = b0 := V.str.inj h0
    obtain ⟨h0, h⟩ := List.cons.inj h
    obtain rfl : a1 = b1 := V.str.inj h0
    rfl)
theorem H.path_From (w : World) (hw : EnvOK w) : K.path_From.Holds (cxD w) :=
  FC.holds_of (cs := [K.path_Split, K.strings_Split, K.path_part, K.path_Join, K.path_Good]) (glD w) mixed cf_path_From (fun _ _ ⟨_, _, h, _⟩ => by subst h; exact Nat.le_of_ble_eq_true rfl) fun v y ⟨a, r, hv, hD, hy⟩ => by
    subst hy
    exact ok.path_From (specOf_calls (H.path_Split w hw) (fun _ _ ⟨_, _, h, _⟩ => by subst h; rfl)) (specOf_calls (H.strings_Split w hw) (fun _ _ ⟨_, _, h, _⟩ => by subst h; rfl)) (specOf_calls (H.path_part w hw) (fun _ _ ⟨_, _, h, _⟩ => by subst h; rfl)) (specOf_calls (H.path_Join w hw) (fun _ _ ⟨_, _, h, _⟩ => by subst h; rfl)) (specOf_calls (H.path_Good w hw) (fun _ _ ⟨_, _, h, _⟩ => by subst h; rfl)) hv hD
def c_seicheref06_Join_l1 : ACode := (.seq (.region [
  ⟨(some 9), (.bin .lss .no (.tmp 8) (.tmp 7)), none, []⟩] false) (.seq (.cond (.tmp 9) .skip (.exit 0)) (.seq (.block 1 (.seq (.region [
  ⟨(some 10), (.iaddr 1 (.tmp 6) (.tmp 8)), none, []⟩, 
  ⟨(some 11), (.load none (.tmp 10)), none, []⟩, 
  ⟨(some 5), (.mv (.tmp 11)), none, []⟩] false) (.seq (.seq (.region [
  ⟨(some 12), (.mv (.tmp 5)), none, []⟩, 
  ⟨(some 13), (.bin .neq .no (.tmp 12) (.const (.str []))), none, []⟩, 
  ⟨(some 14), (.mv (.tmp 13)), none, []⟩, 
  ⟨(some 15), (.mv (.tmp 3)), (some (14, true)), []⟩, 
  ⟨(some 16), (.bin .neq .no (.tmp 15) (.const (.str []))), (some (14, true)), []⟩, 
  ⟨(some 17), (.pick (.tmp 14) (.tmp 16) (.const (.bool false))), none, []⟩] false) (.cond (.tmp 17) (.region [
  ⟨(some 18), (.mv (.tmp 3)), none, []⟩, 
  ⟨(some 19), (.bin .add .no (.tmp 18) (.const (.str [47]))), none, []⟩, 
  ⟨(some 3), (.mv (.tmp 19)), none, []⟩] false) .skip)) (.region [
  ⟨(some 20), (.mv (.tmp 3)), none, []⟩, 
  ⟨(some 21), (.mv (.tmp 5)), none, []⟩, 
  ⟨(some 22), (.bin .add .no (.tmp 20) (.tmp 21)), none, []⟩, 
  ⟨(some 3), (.mv (.tmp 22)), none, []⟩] false)))) (.region [
  ⟨(some 23), (.bin .add .no (.tmp 8) (.const (.int .i64 1))), none, []⟩, 
  ⟨(some 8), (.mv (.tmp 23)), none, []⟩] false))))
def c_seicheref06_Join : ACode := (.seq (.region [
  ⟨(some 2), (.mv (.const (.str []))), none, []⟩] false) (.seq (.region [
  ⟨(some 3), (.mv (.const (.str []))), none, []⟩] false) (.seq (.seq (.region [
  ⟨(some 6), (.mv (.tmp 0)), none, []⟩, 
  ⟨(some 7), (.len false (.tmp 6)), none, []⟩, 
  ⟨(some 8), (.mv (.const (.int .i64 0))), none, []⟩] false) (.block 0 (.loop c_seicheref06_Join_l1))) (.seq (.region [
  ⟨(some 24), (.mv (.tmp 3)), none, []⟩, 
  ⟨(some 2), (.mv (.tmp 24)), none, []⟩] false) .ret))))
theorem cf_seicheref06_Join : cFn Go.Proofs.Tryd.prog F.seicheref06_Join = some ⟨25, c_seicheref06_Join, [.t 2]⟩ := by kernel_rfl
def L.seicheref06_Join_l1 (k0 : Bytes → Option Bytes) : List Bytes → Bytes → Option Bytes
  | [], t3_26 =>
    k0 t3_26
  | a29 :: rest, t3_26 =>
    if a29 = ([] : Bytes) then
      (cat t3_26 a29).bind fun z36 =>
      L.seicheref06_Join_l1 k0 rest z36
    else
      if t3_26 = ([] : Bytes) then
        (cat t3_26 a29).bind fun z39 =>
        L.seicheref06_Join_l1 k0 rest z39
      else
        (cat t3_26 ([47] : Bytes)).bind fun z41 =>
        (cat z41 a29).bind fun z43 =>
        L.seicheref06_Join_l1 k0 rest z43
theorem ok.seicheref06_Join_l1 {Γ : Abs.Spec} {gl : Glob} {Q : Ex → St → Prop} {r : Bytes} {l3 : List Bytes} {k0 : Bytes → Option Bytes}
    (hk0 : ∀ (s : St) (t3_48 : Bytes), (s.tm 3 = (V.str t3_48)) → k0 t3_48 = some r → Q (.exit 0) s)
    (hR : ∀ s, EndsX [.t 2] false (V.str r) s → Q .ret s)
    (hlen : l3.length ≤ Lim) : ∀ (rest : List Bytes) (k4 : Nat) (s : St) (t3_26 : Bytes), l3.drop k4 = rest → k4 ≤ l3.length →
    ((s.tm 6).nf = V.sl false 1 (List.map V.str l3)) → (s.tm 7 = V.int .i64 ((l3.length : Nat) : Int)) → (s.tm 8 = V.int .i64 ((k4 : Nat) : Int)) → (s.tm 3 = (V.str t3_26)) →
    L.seicheref06_Join_l1 k0 rest t3_26 = some r → awp Γ gl (.loop c_seicheref06_Join_l1) Q s := by
  intro rest
  induction rest with
  | nil =>
    intro k4 s t3_26 hdrop hkl hX hN hI h25 hD
    have hkz := drop_nil hdrop hkl
    have hp0 : ¬ (((k4 : Nat) : Int) < ((l3.length : Nat) : Int)) := by omega
    refine awp_roundK fun K hK => ?_
    rw [L.seicheref06_Join_l1] at hD
    refine x_seq ?_
    refine x_start (b := false) ?_
    refine x_bin hI hN b_lss ?_
    refine x_done ?_
    refine x_tN ?_
    refine x_seq ?_
    refine x_cf (show _ = (V.bool (decide (((k4 : Nat) : Int) < ((l3.length : Nat) : Int)))) from rfl) (decide_eq_false hp0) ?_
    refine x_exitc ?_
    refine x_tE ?_
    refine x_tE ?_
    refine hk0 _ _ ?_ hD
    · exact h25
  | cons a29 rest ih =>
    intro k4 s t3_26 hdrop hkl hX hN hI h25 hD
    obtain ⟨hlt, -, hget, hdrop1, -⟩ := drop_cons hdrop
    have hp1 : ((k4 : Nat) : Int) < ((l3.length : Nat) : Int) := by omega
    have hwk := wi_succ (k := k4) (by unfold Lim at hlen; omega)
    refine awp_roundK fun K hK => ?_
    rw [L.seicheref06_Join_l1] at hD
    refine x_seq ?_
    refine x_start (b := false) ?_
    refine x_bin hI hN b_lss ?_
    refine x_done ?_
    refine x_tN ?_
    refine x_seq ?_
    refine x_ct (show _ = (V.bool (decide (((k4 : Nat) : Int) < ((l3.length : Nat) : Int)))) from rfl) (decide_eq_true hp1) ?_
    refine x_skip ?_
    refine x_tN ?_
    refine x_seq ?_
    refine x_block ?_
    refine x_seq ?_
    refine x_start (b := false) ?_
    refine x_iaddr hX hI (at_k hget) fun v32 (hv32 : v32.nf = V.el [(V.str a29)] 0) => ?_
    refine x_load_el hv32 (show _ = some (V.str a29) from rfl) fun v33 hv33 => ?_
    refine x_mv' (nf_str hv33) ?_
    refine x_done ?_
    refine x_tN ?_
    refine x_seq ?_
    refine x_seq ?_
    refine x_start (b := false) ?_
    refine x_mv' (show _ = (V.str a29) from rfl) ?_
    refine x_bin (show _ = (V.str a29) from rfl) (show _ = (V.str ([] : Bytes)) from rfl) s_neq ?_
    refine x_mv' (show _ = (V.bool (!(decide (a29 = ([] : Bytes))))) from rfl) ?_
    by_cases hp35 : a29 = ([] : Bytes)
    · rw [if_pos hp35] at hD
      refine x_gn (show _ = (V.bool (!(decide (a29 = ([] : Bytes))))) from rfl) (bnot_t (decide_eq_true hp35)) ?_
      refine x_gn (show _ = (V.bool (!(decide (a29 = ([] : Bytes))))) from rfl) (bnot_t (decide_eq_true hp35)) ?_
      refine x_pickf' (show _ = (V.bool (!(decide (a29 = ([] : Bytes))))) from rfl) (bnot_t (decide_eq_true hp35)) (show _ = (V.bool false) from rfl) ?_
      refine x_done ?_
      refine x_tN ?_
      refine x_cf (show _ = (V.bool false) from rfl) rfl ?_
      refine x_skip ?_
      refine x_tN ?_
      refine x_start (b := false) ?_
      refine x_mv' h25 ?_
      refine x_mv' (show _ = (V.str a29) from rfl) ?_
      obtain ⟨z36, hx37, hD⟩ := Option.bind_eq_some_iff.1 hD
      refine x_cat (show _ = (V.str t3_26) from rfl) (show _ = (V.str a29) from rfl) hx37 ?_
      refine x_mv' (show _ = (V.str z36) from rfl) ?_
      refine x_done ?_
      refine x_bN ?_
      refine x_tN ?_
      refine x_start (b := false) ?_
      refine x_bin hI (show _ = (V.int .i64 1) from rfl) b_add ?_
      refine x_mv' (show _ = (V.int .i64 (wi (((k4 : Nat) : Int) + 1))) from rfl) ?_
      refine x_done ?_
      refine x_tN ?_
      refine hK _ ?_
      refine ih (k4 + 1) _ _ hdrop1 hlt ?_ ?_ ?_ ?_ hD
      · exact hX
      · exact hN
      · exact (Eq.trans (show _ = (V.int .i64 (wi (((k4 : Nat) : Int) + 1))) from rfl) (congrArg (V.int .i64) hwk))
      · exact (show _ = (V.str z36) from rfl)
    · rw [if_neg hp35] at hD
      refine x_gy (show _ = (V.bool (!(decide (a29 = ([] : Bytes))))) from rfl) (bnot_f (decide_eq_false hp35)) ?_
      refine x_mv' h25 ?_
      refine x_gy (show _ = (V.bool (!(decide (a29 = ([] : Bytes))))) from rfl) (bnot_f (decide_eq_false hp35)) ?_
      refine x_bin (show _ = (V.str t3_26) from rfl) (show _ = (V.str ([] : Bytes)) from rfl) s_neq ?_
      refine x_pickt' (show _ = (V.bool (!(decide (a29 = ([] : Bytes))))) from rfl) (bnot_f (decide_eq_false hp35)) (show _ = (V.bool (!(decide (t3_26 = ([] : Bytes))))) from rfl) ?_
      refine x_done ?_
      refine x_tN ?_
      by_cases hp38 : t3_26 = ([] : Bytes)
      · rw [if_pos hp38] at hD
        refine x_cf (show _ = (V.bool (!(decide (t3_26 = ([] : Bytes))))) from rfl) (bnot_t (decide_eq_true hp38)) ?_
        refine x_skip ?_
        refine x_tN ?_
        refine x_start (b := false) ?_
        refine x_mv' h25 ?_
        refine x_mv' (show _ = (V.str a29) from rfl) ?_
        obtain ⟨z39, hx40, hD⟩ := Option.bind_eq_some_iff.1 hD
        refine x_cat (show _ = (V.str t3_26) from rfl) (show _ = (V.str a29) from rfl) hx40 ?_
        refine x_mv' (show _ = (V.str z39) from rfl) ?_
        refine x_done ?_
        refine x_bN ?_
        refine x_tN ?_
        refine x_start (b := false) ?_
        refine x_bin hI (show _ = (V.int .i64 1) from rfl) b_add ?_
        refine x_mv' (show _ = (V.int .i64 (wi (((k4 : Nat) : Int) + 1))) from rfl) ?_
        refine x_done ?_
        refine x_tN ?_
        refine hK _ ?_
        refine ih (k4 + 1) _ _ hdrop1 hlt ?_ ?_ ?_ ?_ hD
        · exact hX
        · exact hN
        · exact (Eq.trans (show _ = (V.int .i64 (wi (((k4 : Nat) : Int) + 1))) from rfl) (congrArg (V.int .i64) hwk))
        · exact (show _ = (V.str z39) from rfl)
      · rw [if_neg hp38] at hD
        refine x_ct (show _ = (V.bool (!(decide (t3_26 = ([] : Bytes))))) from rfl) (bnot_f (decide_eq_false hp38)) ?_
        refine x_start (b := false) ?_
        refine x_mv' h25 ?_
        obtain ⟨z41, hx42, hD⟩ := Option.bind_eq_some_iff.1 hD
        refine x_cat (show _ = (V.str t3_26) from rfl) (show _ = (V.str ([47] : Bytes)) from rfl) hx42 ?_
        refine x_mv' (show _ = (V.str z41) from rfl) ?_
        refine x_done ?_
        refine x_tN ?_
        refine x_start (b := false) ?_
        refine x_mv' (show _ = (V.str z41) from rfl) ?_
        refine x_mv' (show _ = (V.str a29) from rfl) ?_
        obtain ⟨z43, hx44, hD⟩ := Option.bind_eq_some_iff.1 hD
        refine x_cat (show _ = (V.str z41) from rfl) (show _ = (V.str a29) from rfl) hx44 ?_
        refine x_mv' (show _ = (V.str z43) from rfl) ?_
        refine x_done ?_
        refine x_bN ?_
        refine x_tN ?_
        refine x_start (b := false) ?_
        refine x_bin hI (show _ = (V.int .i64 1) from rfl) b_add ?_
        refine x_mv' (show _ = (V.int .i64 (wi (((k4 : Nat) : Int) + 1))) from rfl) ?_
        refine x_done ?_
        refine x_tN ?_
        refine hK _ ?_
        refine ih (k4 + 1) _ _ hdrop1 hlt ?_ ?_ ?_ ?_ hD
        · exact hX
        · exact hN
        · exact (Eq.trans (show _ = (V.int .i64 (wi (((k4 : Nat) : Int) + 1))) from rfl) (congrArg (V.int .i64) hwk))
        · exact (show _ = (V.str z43) from rfl)
def g.seicheref06_Join (p0 : (List Bytes)) : Option Bytes :=
  if p0.length ≤ Lim then L.seicheref06_Join_l1 (fun (t3_50 : Bytes) => some t3_50) p0 ([] : Bytes) else none
theorem ok.seicheref06_Join {Γ : Abs.Spec} {gl : Glob} {r : Bytes} {p0 : (List Bytes)} {v : List V}
    (hv : nfL v = [(V.sl false 1 (List.map V.str p0))]) (hD : g.seicheref06_Join p0 = some r) : awp Γ gl c_seicheref06_Join (endQ [.t 2] false (V.str r)) (St.init v) := by
  obtain ⟨v0, v, rfl, h0, hv⟩ := nfL_cons hv
  obtain rfl := nfL_nil hv
  have hR : ∀ s, EndsX [.t 2] false (V.str r) s → endQ [.t 2] false (V.str r) .ret s := fun _ h => h
  unfold g.seicheref06_Join at hD
  unfold c_seicheref06_Join
  refine x_seq ?_
  refine x_start (b := false) ?_
  refine x_mv' (show _ = (V.str ([] : Bytes)) from rfl) ?_
  refine x_done ?_
  refine x_tN ?_
  refine x_seq ?_
  refine x_start (b := false) ?_
  refine x_mv' (show _ = (V.str ([] : Bytes)) from rfl) ?_
  refine x_done ?_
  refine x_tN ?_
  refine x_seq ?_
  refine x_seq ?_
  refine x_start (b := false) ?_
  refine x_mv h0 fun v2 hv2 => ?_
  refine x_len hv2 ?_
  refine x_mv' (show _ = (V.int .i64 0) from rfl) ?_
  refine x_done ?_
  refine x_tN ?_
  refine x_block ?_
  by_cases hlen52 : p0.length ≤ Lim
  · rw [if_pos hlen52] at hD
    refine ok.seicheref06_Join_l1 (l3 := p0) (fun s51 t3_50 h49 hD => ?_) (fun _ hE => ?_) hlen52 _ 0 _ _ rfl (Nat.zero_le _) ?_ ?_ ?_ ?_ hD
    · refine x_bE ?_
      refine x_tN ?_
      refine x_seq ?_
      refine x_start (b := false) ?_
      refine x_mv' h49 ?_
      refine x_mv' (show _ = (V.str t3_50) from rfl) ?_
      refine x_done ?_
      refine x_tN ?_
      refine x_retc ?_
      obtain rfl := Option.some.inj hD
      exact hR _ (ends_t (nf_of rfl (show _ = (V.str t3_50) from rfl)) (fun h => nomatch h))
    · refine x_bR ?_; refine x_tR ?_; exact hR _ hE
    · exact hv2
    · exact (show _ = (V.int .i64 ((p0.length : Nat) : Int)) from rfl)
    · exact (show _ = (V.int .i64 0) from rfl)
    · exact (show _ = (V.str ([] : Bytes)) from rfl)
  · rw [if_neg hlen52] at hD; cases hD
def K.seicheref06_Join : FC := fc F.seicheref06_Join (fun _ => true) false (fun (a : (List Bytes)) => [(V.sl false 1 (List.map V.str a))]) (fun (y : Bytes) => (V.str y)) (fun a => g.seicheref06_Join a)
  (fun a => (cleanL_mk (E.Lstring_clean _) rfl))
  (fun y => rfl)
  (fun a0 b0 h => by
    obtain ⟨h0, h⟩ := List.cons.inj h
    obtain rfl : a0 = b0 := E.Lstring_inj h0
    rfl)
theorem H.seicheref06_Join (w : World) (_hw : EnvOK w) : K.seicheref06_Join.Holds (cxD w) :=
  FC.holds_of (cs := []) (glD w) mixed cf_seicheref06_Join (fun _ _ ⟨_, _, h, _⟩ => by subst h; exact Nat.le_of_ble_eq_true rfl) fun v y ⟨a, r, hv, hD, hy⟩ => by
    subst hy
    exact ok.seicheref06_Join hv hD
def c_seicheref06_Dir_l1 : ACode := (.seq (.seq (.region [
  ⟨(some 7), (.mv (.tmp 3)), none, []⟩, 
  ⟨(some 8), (.bin .geq .no (.tmp 7) (.const (.int .i64 0))), none, []⟩] false) (.cond (.tmp 8) .skip (.exit 0))) (.seq (.block 1 (.seq (.region [
  ⟨(some 11), (.mv (.tmp 0)), none, []⟩, 
  ⟨(some 12), (.mv (.tmp 3)), none, []⟩, 
  ⟨(some 13), (.idx (.tmp 11) (.tmp 12)), none, []⟩, 
  ⟨(some 14), (.bin .eql .no (.tmp 13) (.const (.int .u8 47))), none, []⟩] false) (.cond (.tmp 14) (.seq (.region [
  ⟨(some 15), (.mv (.tmp 0)), none, []⟩, 
  ⟨(some 16), (.mv (.tmp 3)), none, []⟩, 
  ⟨(some 17), (.sls (.tmp 15) none (some (.tmp 16))), none, []⟩, 
  ⟨(some 2), (.mv (.tmp 17)), none, []⟩] false) .ret) .skip))) (.region [
  ⟨(some 9), (.mv (.tmp 3)), none, []⟩, 
  ⟨(some 10), (.bin .sub .no (.tmp 9) (.const (.int .i64 1))), none, []⟩, 
  ⟨(some 3), (.mv (.tmp 10)), none, []⟩] false)))
def c_seicheref06_Dir : ACode := (.seq (.region [
  ⟨(some 2), (.mv (.const (.str []))), none, []⟩] false) (.seq (.seq (.region [
  ⟨(some 4), (.mv (.tmp 0)), none, []⟩, 
  ⟨(some 5), (.len true (.tmp 4)), none, []⟩, 
  ⟨(some 6), (.bin .sub .no (.tmp 5) (.const (.int .i64 1))), none, []⟩, 
  ⟨(some 3), (.mv (.tmp 6)), none, []⟩] false) (.block 0 (.loop c_seicheref06_Dir_l1))) (.seq (.region [
  ⟨(some 2), (.mv (.const (.str []))), none, []⟩] false) .ret)))
theorem cf_seicheref06_Dir : cFn Go.Proofs.Tryd.prog F.seicheref06_Dir = some ⟨18, c_seicheref06_Dir, [.t 2]⟩ := by kernel_rfl
def L.seicheref06_Dir_l1 (t0_1 : Bytes) (k0 : Option Bytes) : Nat → Int → Option Bytes
  | 0, _ => none
  | n + 1, t3_16 =>
    if 0 ≤ t3_16 then
      (at? t0_1 t3_16).bind fun b21 =>
      if b21 = 47 then
        (cut t0_1 0 t3_16).bind fun q24 =>
        some q24
      else
        L.seicheref06_Dir_l1 t0_1 k0 n (wi (t3_16 - 1))
    else
      k0
theorem ok.seicheref06_Dir_l1 {Γ : Abs.Spec} {gl : Glob} {Q : Ex → St → Prop} {r : Bytes} {t0_1 : Bytes} {k0 : Option Bytes}
    (hk0 : ∀ (s : St), k0 = some r → Q (.exit 0) s)
    (hR : ∀ s, EndsX [.t 2] false (V.str r) s → Q .ret s) : ∀ (n : Nat) (s : St) (t3_16 : Int),
    (s.tm 0 = (V.str t0_1)) → (s.tm 3 = (V.int .i64 t3_16)) → L.seicheref06_Dir_l1 t0_1 k0 n t3_16 = some r → awp Γ gl (.loop c_seicheref06_Dir_l1) Q s := by
  intro n
  induction n with
  | zero => intro s t3_16 h14 h15 hD; rw [L.seicheref06_Dir_l1] at hD; cases hD
  | succ n ih =>
    intro s t3_16 h14 h15 hD
    refine awp_roundK fun K hK => ?_
    rw [L.seicheref06_Dir_l1] at hD
    refine x_seq ?_
    refine x_seq ?_
    refine x_start (b := false) ?_
    refine x_mv' h15 ?_
    refine x_bin (show _ = (V.int .i64 t3_16) from rfl) (show _ = (V.int .i64 0) from rfl) b_geq ?_
    refine x_done ?_
    refine x_tN ?_
    by_cases hp18 : 0 ≤ t3_16
    · rw [if_pos hp18] at hD
      refine x_ct (show _ = (V.bool (decide (0 ≤ t3_16))) from rfl) (decide_eq_true hp18) ?_
      refine x_skip ?_
      refine x_tN ?_
      refine x_seq ?_
      refine x_block ?_
      refine x_seq ?_
      refine x_start (b := false) ?_
      refine x_mv' h14 ?_
      refine x_mv' h15 ?_
      obtain ⟨b21, hx22, hD⟩ := Option.bind_eq_some_iff.1 hD
      refine x_idx (show _ = (V.str t0_1) from rfl) (show _ = (V.int .i64 t3_16) from rfl) hx22 ?_
      refine x_bin (show _ = (V.int .u8 ((b21 : UInt8).toNat : Int)) from rfl) (show _ = (V.int .u8 ((47 : UInt8).toNat : Int)) from rfl) u8_eql ?_
      refine x_done ?_
      refine x_tN ?_
      by_cases hp23 : b21 = 47
      · rw [if_pos hp23] at hD
        refine x_ct (show _ = (V.bool (decide (b21 = 47))) from rfl) (decide_eq_true hp23) ?_
        refine x_seq ?_
        refine x_start (b := false) ?_
        refine x_mv' h14 ?_
        refine x_mv' h15 ?_
        obtain ⟨q24, hx25, hD⟩ := Option.bind_eq_some_iff.1 hD
        refine x_slsh (show _ = (V.str t0_1) from rfl) (show _ = (V.int .i64 t3_16) from rfl) hx25 ?_
        refine x_mv' (show _ = (V.str q24) from rfl) ?_
        refine x_done ?_
        refine x_tN ?_
        refine x_retc ?_
        refine x_bR ?_
        refine x_tR ?_
        refine x_tR ?_
        obtain rfl := Option.some.inj hD
        exact hR _ (ends_t (nf_of rfl (show _ = (V.str q24) from rfl)) (fun h => nomatch h))
      · rw [if_neg hp23] at hD
        refine x_cf (show _ = (V.bool (decide (b21 = 47))) from rfl) (decide_eq_false hp23) ?_
        refine x_skip ?_
        refine x_bN ?_
        refine x_tN ?_
        refine x_start (b := false) ?_
        refine x_mv' h15 ?_
        refine x_bin (show _ = (V.int .i64 t3_16) from rfl) (show _ = (V.int .i64 1) from rfl) b_sub ?_
        refine x_mv' (show _ = (V.int .i64 (wi (t3_16 - 1))) from rfl) ?_
        refine x_done ?_
        refine x_tN ?_
        refine hK _ ?_
        refine ih _ _ ?_ ?_ hD
        · exact h14
        · exact (show _ = (V.int .i64 (wi (t3_16 - 1))) from rfl)
    · rw [if_neg hp18] at hD
      refine x_cf (show _ = (V.bool (decide (0 ≤ t3_16))) from rfl) (decide_eq_false hp18) ?_
      refine x_exitc ?_
      refine x_tE ?_
      refine x_tE ?_
      refine hk0 _ hD
def g.seicheref06_Dir (p0 : Bytes) : Option Bytes :=
  L.seicheref06_Dir_l1 p0 (some ([] : Bytes)) fuel (wi (((p0.length : Nat) : Int) - 1))
theorem ok.seicheref06_Dir {Γ : Abs.Spec} {gl : Glob} {r : Bytes} {p0 : Bytes} {v : List V}
    (hv : nfL v = [(V.str p0)]) (hD : g.seicheref06_Dir p0 = some r) : awp Γ gl c_seicheref06_Dir (endQ [.t 2] false (V.str r)) (St.init v) := by
  obtain ⟨v0, v, rfl, h0, hv⟩ := nfL_cons hv
  obtain rfl := nfL_nil hv
  have hR : ∀ s, EndsX [.t 2] false (V.str r) s → endQ [.t 2] false (V.str r) .ret s := fun _ h => h
  unfold g.seicheref06_Dir at hD
  unfold c_seicheref06_Dir
  refine x_seq ?_
  refine x_start (b := false) ?_
  refine x_mv' (show _ = (V.str ([] : Bytes)) from rfl) ?_
  refine x_done ?_
  refine x_tN ?_
  refine x_seq ?_
  refine x_seq ?_
  refine x_start (b := false) ?_
  refine x_mv' (nf_str h0) ?_
  refine x_lens (show _ = (V.str p0) from rfl) ?_
  refine x_bin (show _ = (V.int .i64 ((p0.length : Nat) : Int)) from rfl) (show _ = (V.int .i64 1) from rfl) b_sub ?_
  refine x_mv' (show _ = (V.int .i64 (wi (((p0.length : Nat) : Int) - 1))) from rfl) ?_
  refine x_done ?_
  refine x_tN ?_
  refine x_block ?_
  refine ok.seicheref06_Dir_l1 (t0_1 := p0) (fun s26 hD => ?_) (fun _ hE => ?_) _ _ _ ?_ ?_ hD
  · refine x_bE ?_
    refine x_tN ?_
    refine x_seq ?_
    refine x_start (b := false) ?_
    refine x_mv' (show _ = (V.str ([] : Bytes)) from rfl) ?_
    refine x_done ?_
    refine x_tN ?_
    refine x_retc ?_
    obtain rfl := Option.some.inj hD
    exact hR _ (ends_t (nf_of rfl (show _ = (V.str ([] : Bytes)) from rfl)) (fun h => nomatch h))
  · refine x_bR ?_; refine x_tR ?_; exact hR _ hE
  · exact (nf_str h0)
  · exact (show _ = (V.int .i64 (wi (((p0.length : Nat) : Int) - 1))) from rfl)
def K.seicheref06_Dir : FC := fc F.seicheref06_Dir (fun _ => true) false (fun (a : Bytes) => [(V.str a)]) (fun (y : Bytes) => (V.str y)) (fun a => g.seicheref06_Dir a)
  (fun a => (cleanL_mk rfl rfl))
  (fun y => rfl)
  (fun a0 b0 h => by
    obtain ⟨h0, h⟩ := List.cons.inj h
    obtain rfl : a0 = b0 := V.str.inj h0
    rfl)
theorem H.seicheref06_Dir (w : World) (_hw : EnvOK w) : K.seicheref06_Dir.Holds (cxD w) :=
  FC.holds_of (cs := []) (glD w) mixed cf_seicheref06_Dir (fun _ _ ⟨_, _, h, _⟩ => by subst h; exact Nat.le_of_ble_eq_true rfl) fun v y ⟨a, r, hv, hD, hy⟩ => by
    subst hy
    exact ok.seicheref06_Dir hv hD
def c_seicheref06_Base : ACode := (.seq (.region [
  ⟨(some 2), (.mv (.const (.str []))), none, []⟩] false) (.seq (.region [
  ⟨(some 4), (.mv (.tmp 0)), none, []⟩, 
  ⟨(some 5), (.call F.seicheref06_Parts [(.tmp 4)]), none, []⟩, 
  ⟨(some 3), (.mvo 5), none, []⟩] false) (.seq (.region [
  ⟨(some 6), (.mv (.tmp 3)), none, []⟩, 
  ⟨(some 7), (.mv (.tmp 3)), none, []⟩, 
  ⟨(some 8), (.len false (.tmp 7)), none, []⟩, 
  ⟨(some 9), (.bin .sub .no (.tmp 8) (.const (.int .i64 1))), none, []⟩, 
  ⟨(some 10), (.iaddr 1 (.tmp 6) (.tmp 9)), none, []⟩, 
  ⟨(some 11), (.load none (.tmp 10)), none, []⟩, 
  ⟨(some 2), (.mv (.tmp 11)), none, []⟩] false) .ret)))
theorem cf_seicheref06_Base : cFn Go.Proofs.Tryd.prog F.seicheref06_Base = some ⟨12, c_seicheref06_Base, [.t 2]⟩ := by kernel_rfl
def g.seicheref06_Base (p0 : Bytes) : Option Bytes :=
  (g.seicheref06_Parts p0).bind fun r6 =>
  (at? r6 (wi (((r6.length : Nat) : Int) - 1))).bind fun a11 =>
  some a11
theorem ok.seicheref06_Base {Γ : Abs.Spec} {gl : Glob} (hC_seicheref06_Parts : CallsX Γ K.seicheref06_Parts) {r : Bytes} {p0 : Bytes} {v : List V}
    (hv : nfL v = [(V.str p0)]) (hD : g.seicheref06_Base p0 = some r) : awp Γ gl c_seicheref06_Base (endQ [.t 2] false (V.str r)) (St.init v) := by
  obtain ⟨v0, v, rfl, h0, hv⟩ := nfL_cons hv
  obtain rfl := nfL_nil hv
  have hR : ∀ s, EndsX [.t 2] false (V.str r) s → endQ [.t 2] false (V.str r) .ret s := fun _ h => h
  unfold g.seicheref06_Base at hD
  unfold c_seicheref06_Base
  refine x_seq ?_
  refine x_start (b := false) ?_
  refine x_mv' (show _ = (V.str ([] : Bytes)) from rfl) ?_
  refine x_done ?_
  refine x_tN ?_
  refine x_seq ?_
  refine x_start (b := false) ?_
  refine x_mv' (nf_str h0) ?_
  obtain ⟨r6, hx7, hD⟩ := Option.bind_eq_some_iff.1 hD
  refine x_callF hC_seicheref06_Parts (a := (p0)) (cons_eq (nf_of rfl (show _ = (V.str p0) from rfl)) rfl) hx7 fun v5 ov5 (hv5 : v5.nf = (V.sl false 1 (List.map V.str r6))) hov5 => ?_
  refine x_mvo hv5 fun v8 ov8 hv8 hwv8 => ?_
  refine x_done ?_
  refine x_tN ?_
  refine x_seq ?_
  refine x_start (b := false) ?_
  refine x_mv hv8 fun v9 hv9 => ?_
  refine x_mv hv8 fun v10 hv10 => ?_
  refine x_len hv10 ?_
  refine x_bin (show _ = (V.int .i64 ((r6.length : Nat) : Int)) from rfl) (show _ = (V.int .i64 1) from rfl) b_sub ?_
  obtain ⟨a11, hx12, hD⟩ := Option.bind_eq_some_iff.1 hD
  refine x_iaddr hv9 (show _ = (V.int .i64 (wi (((r6.length : Nat) : Int) - 1))) from rfl) hx12 fun v13 (hv13 : v13.nf = V.el [(V.str a11)] 0) => ?_
  refine x_load_el hv13 (show _ = some (V.str a11) from rfl) fun v14 hv14 => ?_
  refine x_mv' (nf_str hv14) ?_
  refine x_done ?_
  refine x_tN ?_
  refine x_retc ?_
  obtain rfl := Option.some.inj hD
  exact hR _ (ends_t (nf_of rfl (show _ = (V.str a11) from rfl)) (fun h => nomatch h))
def K.seicheref06_Base : FC := fc F.seicheref06_Base (fun _ => true) false (fun (a : Bytes) => [(V.str a)]) (fun (y : Bytes) => (V.str y)) (fun a => g.seicheref06_Base a)
  (fun a => (cleanL_mk rfl rfl))
  (fun y => rfl)
  (fun a0 b0 h => by
    obtain ⟨h0, h⟩ := List.cons.inj h
    obtain rfl : a0 = b0 := V.str.inj h0
    rfl)
theorem H.seicheref06_Base (w : World) (hw : EnvOK w) : K.seicheref06_Base.Holds (cxD w) :=
  FC.holds_of (cs := [K.seicheref06_Parts]) (glD w) mixed cf_seicheref06_Base (fun _ _ ⟨_, _, h, _⟩ => by subst h; exact Nat.le_of_ble_eq_true rfl) fun v y ⟨a, r, hv, hD, hy⟩ => by
    subst hy
    exact ok.seicheref06_Base (specOf_calls (H.seicheref06_Parts w hw) (fun _ _ ⟨_, _, h, _⟩ => by subst h; rfl)) hv hD
def c_seicheref06_Under : ACode := (.seq (.region [
  ⟨(some 4), (.mv (.const (.str []))), none, []⟩, 
  ⟨(some 5), (.mv (.const (.bool false))), none, []⟩] false) (.seq (.seq (.region [
  ⟨(some 7), (.mv (.tmp 0)), none, []⟩, 
  ⟨(some 8), (.bin .eql .no (.tmp 7) (.const (.str []))), none, []⟩] false) (.cond (.tmp 8) (.seq (.region [
  ⟨(some 9), (.mv (.tmp 1)), none, []⟩, 
  ⟨(some 10), (.mv (.tmp 1)), none, []⟩, 
  ⟨(some 11), (.bin .neq .no (.tmp 10) (.const (.str []))), none, []⟩, 
  ⟨(some 4), (.mv (.tmp 9)), none, []⟩, 
  ⟨(some 5), (.mv (.tmp 11)), none, []⟩] false) .ret) .skip)) (.seq (.region [
  ⟨(some 12), (.mv (.tmp 0)), none, []⟩, 
  ⟨(some 13), (.len true (.tmp 12)), none, []⟩, 
  ⟨(some 6), (.mv (.tmp 13)), none, []⟩] false) (.seq (.seq (.region [
  ⟨(some 14), (.mv (.tmp 1)), none, []⟩, 
  ⟨(some 15), (.len true (.tmp 14)), none, []⟩, 
  ⟨(some 16), (.mv (.tmp 6)), none, []⟩, 
  ⟨(some 17), (.bin .add .no (.tmp 16) (.const (.int .i64 1))), none, []⟩, 
  ⟨(some 18), (.bin .leq .no (.tmp 15) (.tmp 17)), none, []⟩, 
  ⟨(some 19), (.mv (.tmp 18)), none, []⟩, 
  ⟨(some 20), (.mv (.tmp 1)), (some (19, false)), []⟩, 
  ⟨(some 21), (.mv (.tmp 6)), (some (19, false)), []⟩, 
  ⟨(some 22), (.sls (.tmp 20) none (some (.tmp 21))), (some (19, false)), []⟩, 
  ⟨(some 23), (.mv (.tmp 0)), (some (19, false)), []⟩, 
  ⟨(some 24), (.bin .neq .no (.tmp 22) (.tmp 23)), (some (19, false)), []⟩, 
  ⟨(some 25), (.pick (.tmp 19) (.const (.bool true)) (.tmp 24)), none, []⟩, 
  ⟨(some 26), (.mv (.tmp 25)), none, []⟩, 
  ⟨(some 27), (.mv (.tmp 1)), (some (26, false)), []⟩, 
  ⟨(some 28), (.mv (.tmp 6)), (some (26, false)), []⟩, 
  ⟨(some 29), (.idx (.tmp 27) (.tmp 28)), (some (26, false)), []⟩, 
  ⟨(some 30), (.bin .neq .no (.tmp 29) (.const (.int .u8 47))), (some (26, false)), []⟩, 
  ⟨(some 31), (.pick (.tmp 26) (.const (.bool true)) (.tmp 30)), none, []⟩] false) (.cond (.tmp 31) (.seq (.region [
  ⟨(some 4), (.mv (.const (.str []))), none, []⟩, 
  ⟨(some 5), (.mv (.const (.bool false))), none, []⟩] false) .ret) .skip)) (.seq (.region [
  ⟨(some 32), (.mv (.tmp 1)), none, []⟩, 
  ⟨(some 33), (.mv (.tmp 6)), none, []⟩, 
  ⟨(some 34), (.bin .add .no (.tmp 33) (.const (.int .i64 1))), none, []⟩, 
  ⟨(some 35), (.sls (.tmp 32) (some (.tmp 34)) none), none, []⟩, 
  ⟨(some 4), (.mv (.tmp 35)), none, []⟩, 
  ⟨(some 5), (.mv (.const (.bool true))), none, []⟩] false) .ret)))))
theorem cf_seicheref06_Under : cFn Go.Proofs.Tryd.prog F.seicheref06_Under = some ⟨36, c_seicheref06_Under, [.t 4, .t 5]⟩ := by kernel_rfl
def g.seicheref06_Under (p0 : Bytes) (p1 : Bytes) : Option (Bytes × Bool) :=
  if p0 = ([] : Bytes) then
    some (p1, (!(decide (p1 = ([] : Bytes)))))
  else
    if ((p1.length : Nat) : Int) ≤ (wi (((p0.length : Nat) : Int) + 1)) then
      some (([] : Bytes), false)
    else
      (cut p1 0 ((p0.length : Nat) : Int)).bind fun q23 =>
      if q23 = p0 then
        (at? p1 ((p0.length : Nat) : Int)).bind fun b26 =>
        if b26 = 47 then
          (cut p1 (wi (((p0.length : Nat) : Int) + 1)) (p1.length : Nat)).bind fun q29 =>
          some (q29, true)
        else
          some (([] : Bytes), false)
      else
        some (([] : Bytes), false)
theorem ok.seicheref06_Under {Γ : Abs.Spec} {gl : Glob} {r : (Bytes × Bool)} {p0 : Bytes} {p1 : Bytes} {v : List V}
    (hv : nfL v = [(V.str p0), (V.str p1)]) (hD : g.seicheref06_Under p0 p1 = some r) : awp Γ gl c_seicheref06_Under (endQ [.t 4, .t 5] false (V.tup [(V.str r.1), (V.bool r.2)])) (St.init v) := by
  obtain ⟨v0, v, rfl, h0, hv⟩ := nfL_cons hv
  obtain ⟨v1, v, rfl, h1, hv⟩ := nfL_cons hv
  obtain rfl := nfL_nil hv
  have hR : ∀ s, EndsX [.t 4, .t 5] false (V.tup [(V.str r.1), (V.bool r.2)]) s → endQ [.t 4, .t 5] false (V.tup [(V.str r.1), (V.bool r.2)]) .ret s := fun _ h => h
  unfold g.seicheref06_Under at hD
  unfold c_seicheref06_Under
  refine x_seq ?_
  refine x_start (b := false) ?_
  refine x_mv' (show _ = (V.str ([] : Bytes)) from rfl) ?_
  refine x_mv' (show _ = (V.bool false) from rfl) ?_
  refine x_done ?_
  refine x_tN ?_
  refine x_seq ?_
  refine x_seq ?_
  refine x_start (b := false) ?_
  refine x_mv' (nf_str h0) ?_
  refine x_bin (show _ = (V.str p0) from rfl) (show _ = (V.str ([] : Bytes)) from rfl) s_eql ?_
  refine x_done ?_
  refine x_tN ?_
  by_cases hp2 : p0 = ([] : Bytes)
  · rw [if_pos hp2] at hD
    refine x_ct (show _ = (V.bool (decide (p0 = ([] : Bytes)))) from rfl) (decide_eq_true hp2) ?_
    refine x_seq ?_
    refine x_start (b := false) ?_
    refine x_mv' (nf_str h1) ?_
    refine x_mv' (nf_str h1) ?_
    refine x_bin (show _ = (V.str p1) from rfl) (show _ = (V.str ([] : Bytes)) from rfl) s_neq ?_
    refine x_mv' (show _ = (V.str p1) from rfl) ?_
    refine x_mv' (show _ = (V.bool (!(decide (p1 = ([] : Bytes))))) from rfl) ?_
    refine x_done ?_
    refine x_tN ?_
    refine x_retc ?_
    refine x_tR ?_
    obtain rfl := Option.some.inj hD
    exact hR _ (ends_tup (rvs_cons (rv_t (nf_of rfl (show _ = (V.str p1) from rfl))) (rvs_cons (rv_t (nf_of rfl (show _ = (V.bool (!(decide (p1 = ([] : Bytes))))) from rfl))) rvs_nil)) (by decide))
  · rw [if_neg hp2] at hD
    refine x_cf (show _ = (V.bool (decide (p0 = ([] : Bytes)))) from rfl) (decide_eq_false hp2) ?_
    refine x_skip ?_
    refine x_tN ?_
    refine x_seq ?_
    refine x_start (b := false) ?_
    refine x_mv' (nf_str h0) ?_
    refine x_lens (show _ = (V.str p0) from rfl) ?_
    refine x_mv' (show _ = (V.int .i64 ((p0.length : Nat) : Int)) from rfl) ?_
    refine x_done ?_
    refine x_tN ?_
    refine x_seq ?_
    refine x_seq ?_
    refine x_start (b := false) ?_
    refine x_mv' (nf_str h1) ?_
    refine x_lens (show _ = (V.str p1) from rfl) ?_
    refine x_mv' (show _ = (V.int .i64 ((p0.length : Nat) : Int)) from rfl) ?_
    refine x_bin (show _ = (V.int .i64 ((p0.length : Nat) : Int)) from rfl) (show _ = (V.int .i64 1) from rfl) b_add ?_
    refine x_bin (show _ = (V.int .i64 ((p1.length : Nat) : Int)) from rfl) (show _ = (V.int .i64 (wi (((p0.length : Nat) : Int) + 1))) from rfl) b_leq ?_
    refine x_mv' (show _ = (V.bool (decide (((p1.length : Nat) : Int) ≤ (wi (((p0.length : Nat) : Int) + 1))))) from rfl) ?_
    by_cases hp22 : ((p1.length : Nat) : Int) ≤ (wi (((p0.length : Nat) : Int) + 1))
    · rw [if_pos hp22] at hD
      refine x_gn (show _ = (V.bool (decide (((p1.length : Nat) : Int) ≤ (wi (((p0.length : Nat) : Int) + 1))))) from rfl) (decide_eq_true hp22) ?_
      refine x_gn (show _ = (V.bool (decide (((p1.length : Nat) : Int) ≤ (wi (((p0.length : Nat) : Int) + 1))))) from rfl) (decide_eq_true hp22) ?_
      refine x_gn (show _ = (V.bool (decide (((p1.length : Nat) : Int) ≤ (wi (((p0.length : Nat) : Int) + 1))))) from rfl) (decide_eq_true hp22) ?_
      refine x_gn (show _ = (V.bool (decide (((p1.length : Nat) : Int) ≤ (wi (((p0.length : Nat) : Int) + 1))))) from rfl) (decide_eq_true hp22) ?_
      refine x_gn (show _ = (V.bool (decide (((p1.length : Nat) : Int) ≤ (wi (((p0.length : Nat) : Int) + 1))))) from rfl) (decide_eq_true hp22) ?_
      refine x_pickt' (show _ = (V.bool (decide (((p1.length : Nat) : Int) ≤ (wi (((p0.length : Nat) : Int) + 1))))) from rfl) (decide_eq_true hp22) (show _ = (V.bool true) from rfl) ?_
      refine x_mv' (show _ = (V.bool true) from rfl) ?_
      refine x_gn (show _ = (V.bool true) from rfl) rfl ?_
      refine x_gn (show _ = (V.bool true) from rfl) rfl ?_
      refine x_gn (show _ = (V.bool true) from rfl) rfl ?_
      refine x_gn (show _ = (V.bool true) from rfl) rfl ?_
      refine x_pickt' (show _ = (V.bool true) from rfl) rfl (show _ = (V.bool true) from rfl) ?_
      refine x_done ?_
      refine x_tN ?_
      refine x_ct (show _ = (V.bool true) from rfl) rfl ?_
      refine x_seq ?_
      refine x_start (b := false) ?_
      refine x_mv' (show _ = (V.str ([] : Bytes)) from rfl) ?_
      refine x_mv' (show _ = (V.bool false) from rfl) ?_
      refine x_done ?_
      refine x_tN ?_
      refine x_retc ?_
      refine x_tR ?_
      obtain rfl := Option.some.inj hD
      exact hR _ (ends_tup (rvs_cons (rv_t (nf_of rfl (show _ = (V.str ([] : Bytes)) from rfl))) (rvs_cons (rv_t (nf_of rfl (show _ = (V.bool false) from rfl))) rvs_nil)) (by decide))
    · rw [if_neg hp22] at hD
      refine x_gy (show _ = (V.bool (decide (((p1.length : Nat) : Int) ≤ (wi (((p0.length : Nat) : Int) + 1))))) from rfl) (decide_eq_false hp22) ?_
      refine x_mv' (nf_str h1) ?_
      refine x_gy (show _ = (V.bool (decide (((p1.length : Nat) : Int) ≤ (wi (((p0.length : Nat) : Int) + 1))))) from rfl) (decide_eq_false hp22) ?_
      refine x_mv' (show _ = (V.int .i64 ((p0.length : Nat) : Int)) from rfl) ?_
      refine x_gy (show _ = (V.bool (decide (((p1.length : Nat) : Int) ≤ (wi (((p0.length : Nat) : Int) + 1))))) from rfl) (decide_eq_false hp22) ?_
      obtain ⟨q23, hx24, hD⟩ := Option.bind_eq_some_iff.1 hD
      refine x_slsh (show _ = (V.str p1) from rfl) (show _ = (V.int .i64 ((p0.length : Nat) : Int)) from rfl) hx24 ?_
      refine x_gy (show _ = (V.bool (decide (((p1.length : Nat) : Int) ≤ (wi (((p0.length : Nat) : Int) + 1))))) from rfl) (decide_eq_false hp22) ?_
      refine x_mv' (nf_str h0) ?_
      refine x_gy (show _ = (V.bool (decide (((p1.length : Nat) : Int) ≤ (wi (((p0.length : Nat) : Int) + 1))))) from rfl) (decide_eq_false hp22) ?_
      refine x_bin (show _ = (V.str q23) from rfl) (show _ = (V.str p0) from rfl) s_neq ?_
      refine x_pickf' (show _ = (V.bool (decide (((p1.length : Nat) : Int) ≤ (wi (((p0.length : Nat) : Int) + 1))))) from rfl) (decide_eq_false hp22) (show _ = (V.bool (!(decide (q23 = p0)))) from rfl) ?_
      refine x_mv' (show _ = (V.bool (!(decide (q23 = p0)))) from rfl) ?_
      by_cases hp25 : q23 = p0
      · rw [if_pos hp25] at hD
        refine x_gy (show _ = (V.bool (!(decide (q23 = p0)))) from rfl) (bnot_t (decide_eq_true hp25)) ?_
        refine x_mv' (nf_str h1) ?_
        refine x_gy (show _ = (V.bool (!(decide (q23 = p0)))) from rfl) (bnot_t (decide_eq_true hp25)) ?_
        refine x_mv' (show _ = (V.int .i64 ((p0.length : Nat) : Int)) from rfl) ?_
        refine x_gy (show _ = (V.bool (!(decide (q23 = p0)))) from rfl) (bnot_t (decide_eq_true hp25)) ?_
        obtain ⟨b26, hx27, hD⟩ := Option.bind_eq_some_iff.1 hD
        refine x_idx (show _ = (V.str p1) from rfl) (show _ = (V.int .i64 ((p0.length : Nat) : Int)) from rfl) hx27 ?_
        refine x_gy (show _ = (V.bool (!(decide (q23 = p0)))) from rfl) (bnot_t (decide_eq_true hp25)) ?_
        refine x_bin (show _ = (V.int .u8 ((b26 : UInt8).toNat : Int)) from rfl) (show _ = (V.int .u8 ((47 : UInt8).toNat : Int)) from rfl) u8_neq ?_
        refine x_pickf' (show _ = (V.bool (!(decide (q23 = p0)))) from rfl) (bnot_t (decide_eq_true hp25)) (show _ = (V.bool (!(decide (b26 = 47)))) from rfl) ?_
        refine x_done ?_
        refine x_tN ?_
        by_cases hp28 : b26 = 47
        · rw [if_pos hp28] at hD
          refine x_cf (show _ = (V.bool (!(decide (b26 = 47)))) from rfl) (bnot_t (decide_eq_true hp28)) ?_
          refine x_skip ?_
          refine x_tN ?_
          refine x_seq ?_
          refine x_start (b := false) ?_
          refine x_mv' (nf_str h1) ?_
          refine x_mv' (show _ = (V.int .i64 ((p0.length : Nat) : Int)) from rfl) ?_
          refine x_bin (show _ = (V.int .i64 ((p0.length : Nat) : Int)) from rfl) (show _ = (V.int .i64 1) from rfl) b_add ?_
          obtain ⟨q29, hx30, hD⟩ := Option.bind_eq_some_iff.1 hD
          refine x_slsl (show _ = (V.str p1) from rfl) (show _ = (V.int .i64 (wi (((p0.length : Nat) : Int) + 1))) from rfl) hx30 ?_
          refine x_mv' (show _ = (V.str q29) from rfl) ?_
          refine x_mv' (show _ = (V.bool true) from rfl) ?_
          refine x_done ?_
          refine x_tN ?_
          refine x_retc ?_
          obtain rfl := Option.some.inj hD
          exact hR _ (ends_tup (rvs_cons (rv_t (nf_of rfl (show _ = (V.str q29) from rfl))) (rvs_cons (rv_t (nf_of rfl (show _ = (V.bool true) from rfl))) rvs_nil)) (by decide))
        · rw [if_neg hp28] at hD
          refine x_ct (show _ = (V.bool (!(decide (b26 = 47)))) from rfl) (bnot_f (decide_eq_false hp28)) ?_
          refine x_seq ?_
          refine x_start (b := false) ?_
          refine x_mv' (show _ = (V.str ([] : Bytes)) from rfl) ?_
          refine x_mv' (show _ = (V.bool false) from rfl) ?_
          refine x_done ?_
          refine x_tN ?_
          refine x_retc ?_
          refine x_tR ?_
          obtain rfl := Option.some.inj hD
          exact hR _ (ends_tup (rvs_cons (rv_t (nf_of rfl (show _ = (V.str ([] : Bytes)) from rfl))) (rvs_cons (rv_t (nf_of rfl (show _ = (V.bool false) from rfl))) rvs_nil)) (by decide))
      · rw [if_neg hp25] at hD
        refine x_gn (show _ = (V.bool (!(decide (q23 = p0)))) from rfl) (bnot_f (decide_eq_false hp25)) ?_
        refine x_gn (show _ = (V.bool (!(decide (q23 = p0)))) from rfl) (bnot_f (decide_eq_false hp25)) ?_
        refine x_gn (show _ = (V.bool (!(decide (q23 = p0)))) from rfl) (bnot_f (decide_eq_false hp25)) ?_
        refine x_gn (show _ = (V.bool (!(decide (q23 = p0)))) from rfl) (bnot_f (decide_eq_false hp25)) ?_
        refine x_pickt' (show _ = (V.bool (!(decide (q23 = p0)))) from rfl) (bnot_f (decide_eq_false hp25)) (show _ = (V.bool true) from rfl) ?_
        refine x_done ?_
        refine x_tN ?_
        refine x_ct (show _ = (V.bool true) from rfl) rfl ?_
        refine x_seq ?_
        refine x_start (b := false) ?_
        refine x_mv' (show _ = (V.str ([] : Bytes)) from rfl) ?_
        refine x_mv' (show _ = (V.bool false) from rfl) ?_
        refine x_done ?_
        refine x_tN ?_
        refine x_retc ?_
        refine x_tR ?_
        obtain rfl := Option.some.inj hD
        exact hR _ (ends_tup (rvs_cons (rv_t (nf_of rfl (show _ = (V.str ([] : Bytes)) from rfl))) (rvs_cons (rv_t (nf_of rfl (show _ = (V.bool false) from rfl))) rvs_nil)) (by decide))
def K.seicheref06_Under : FC := fc F.seicheref06_Under (fun _ => true) false (fun (a : (Bytes × Bytes)) => [(V.str a.1), (V.str a.2)]) (fun (y : (Bytes × Bool)) => (V.tup [(V.str y.1), (V.bool y.2)])) (fun a => g.seicheref06_Under a.1 a.2)
  (fun a => (cleanL_mk rfl (cleanL_mk rfl rfl)))
  (fun y => (cleanL_mk rfl (cleanL_mk rfl rfl)))
  (fun ⟨a0, a1⟩ ⟨b0, b1⟩ h => by
    obtain ⟨h0, h⟩ := List.cons.inj h
    obtain rfl : a0 = b0 := V.str.inj h0
    obtain ⟨h0, h⟩ := List.cons.inj h
    obtain rfl : a1 = b1 := V.str.inj h0
    rfl)
theorem H.seicheref06_Under (w : World) (_hw : EnvOK w) : K.seicheref06_Under.Holds (cxD w) :=
  FC.holds_of (cs := []) (glD w) mixed cf_seicheref06_Under (fun _ _ ⟨_, _, h, _⟩ => by subst h; exact Nat.le_of_ble_eq_true rfl) fun v y ⟨a, r, hv, hD, hy⟩ => by
    subst hy
    exact ok.seicheref06_Under hv hD
def c_seicheref06_From_l1 : ACode := (.seq (.region [
  ⟨(some 16), (.bin .lss .no (.tmp 15) (.tmp 14)), none, []⟩] false) (.seq (.cond (.tmp 16) .skip (.exit 0)) (.seq (.block 1 (.seq (.region [
  ⟨(some 17), (.iaddr 1 (.tmp 13) (.tmp 15)), none, []⟩, 
  ⟨(some 18), (.load none (.tmp 17)), none, []⟩, 
  ⟨(some 8), (.mv (.tmp 18)), none, []⟩] false) (.seq (.seq (.region [
  ⟨(some 19), (.mv (.tmp 8)), none, []⟩, 
  ⟨(some 20), (.bin .eql .no (.tmp 19) (.const (.str []))), none, []⟩, 
  ⟨(some 21), (.mv (.tmp 20)), none, []⟩, 
  ⟨(some 22), (.mv (.tmp 8)), (some (21, false)), []⟩, 
  ⟨(some 23), (.bin .eql .no (.tmp 22) (.const (.str [46]))), (some (21, false)), []⟩, 
  ⟨(some 24), (.pick (.tmp 21) (.const (.bool true)) (.tmp 23)), none, []⟩] false) (.cond (.tmp 24) (.exit 1) .skip)) (.seq (.seq (.region [
  ⟨(some 25), (.mv (.tmp 8)), none, []⟩, 
  ⟨(some 26), (.bin .eql .no (.tmp 25) (.const (.str [46, 46]))), none, []⟩] false) (.cond (.tmp 26) (.seq (.seq (.region [
  ⟨(some 27), (.mv (.tmp 6)), none, []⟩, 
  ⟨(some 28), (.len false (.tmp 27)), none, []⟩, 
  ⟨(some 29), (.bin .eql .no (.tmp 28) (.const (.int .i64 0))), none, []⟩] false) (.cond (.tmp 29) (.seq (.region [
  ⟨(some 4), (.mv (.const (.str []))), none, []⟩, 
  ⟨(some 5), (.mv (.const (.bool false))), none, []⟩] false) .ret) .skip)) (.seq (.region [
  ⟨(some 30), (.mv (.tmp 6)), none, []⟩, 
  ⟨(some 31), (.mv (.tmp 6)), none, []⟩, 
  ⟨(some 32), (.len false (.tmp 31)), none, []⟩, 
  ⟨(some 33), (.bin .sub .no (.tmp 32) (.const (.int .i64 1))), none, []⟩, 
  ⟨(some 34), (.slc 1 (.tmp 30) none (some (.tmp 33)) none), none, []⟩, 
  ⟨(some 6), (.mvo 34), none, []⟩] false) (.exit 1))) .skip)) (.seq (.seq (.region [
  ⟨(some 35), (.mv (.tmp 8)), none, []⟩, 
  ⟨(some 36), (.call F.seicheref06_Part [(.tmp 35)]), none, []⟩, 
  ⟨(some 37), (.un .not (.tmp 36)), none, []⟩] false) (.cond (.tmp 37) (.seq (.region [
  ⟨(some 4), (.mv (.const (.str []))), none, []⟩, 
  ⟨(some 5), (.mv (.const (.bool false))), none, []⟩] false) .ret) .skip)) (.region [
  ⟨(some 38), (.bsl 1 []), none, []⟩, 
  ⟨(some 39), (.mv (.tmp 6)), none, []⟩, 
  ⟨(some 40), (.app 1 (.tmp 38) (.tmp 39)), none, []⟩, 
  ⟨(some 41), (.mv (.tmp 8)), none, []⟩, 
  ⟨(some 42), (.bsl 1 [(.tmp 41)]), none, []⟩, 
  ⟨(some 43), (.app 1 (.tmp 40) (.tmp 42)), none, []⟩, 
  ⟨(some 6), (.mvo 43), none, []⟩] false)))))) (.region [
  ⟨(some 44), (.bin .add .no (.tmp 15) (.const (.int .i64 1))), none, []⟩, 
  ⟨(some 15), (.mv (.tmp 44)), none, []⟩] false))))
def c_seicheref06_From : ACode := (.seq (.region [
  ⟨(some 4), (.mv (.const (.str []))), none, []⟩, 
  ⟨(some 5), (.mv (.const (.bool false))), none, []⟩] false) (.seq (.region [
  ⟨(some 10), (.mv (.tmp 0)), none, []⟩, 
  ⟨(some 11), (.call F.seicheref06_Split [(.tmp 10)]), none, []⟩, 
  ⟨(some 6), (.mvo 11), none, []⟩] false) (.seq (.seq (.region [
  ⟨(some 12), (.mv (.tmp 1)), none, []⟩, 
  ⟨(some 13), (.call F.seicheref06_Parts [(.tmp 12)]), none, []⟩, 
  ⟨(some 14), (.len false (.tmp 13)), none, []⟩, 
  ⟨(some 15), (.mv (.const (.int .i64 0))), none, []⟩] false) (.block 0 (.loop c_seicheref06_From_l1))) (.seq (.region [
  ⟨(some 45), (.mv (.tmp 6)), none, []⟩, 
  ⟨(some 46), (.call F.seicheref06_Join [(.tmp 45)]), none, []⟩, 
  ⟨(some 9), (.mv (.tmp 46)), none, []⟩] false) (.seq (.region [
  ⟨(some 47), (.mv (.tmp 9)), none, []⟩, 
  ⟨(some 48), (.mv (.tmp 9)), none, []⟩, 
  ⟨(some 49), (.bin .eql .no (.tmp 48) (.const (.str []))), none, []⟩, 
  ⟨(some 50), (.mv (.tmp 49)), none, []⟩, 
  ⟨(some 51), (.mv (.tmp 9)), (some (50, false)), []⟩, 
  ⟨(some 52), (.call F.seicheref06_Good [(.tmp 51)]), (some (50, false)), []⟩, 
  ⟨(some 53), (.pick (.tmp 50) (.const (.bool true)) (.tmp 52)), none, []⟩, 
  ⟨(some 4), (.mv (.tmp 47)), none, []⟩, 
  ⟨(some 5), (.mv (.tmp 53)), none, []⟩] false) .ret)))))
theorem cf_seicheref06_From : cFn Go.Proofs.Tryd.prog F.seicheref06_From = some ⟨54, c_seicheref06_From, [.t 4, .t 5]⟩ := by kernel_rfl
def L.seicheref06_From_l1 (k0 : (List Bytes) → Option (Bytes × Bool)) : List Bytes → (List Bytes) → Option (Bytes × Bool)
  | [], t6_288 =>
    k0 t6_288
  | a291 :: rest, t6_288 =>
    if a291 = ([] : Bytes) then
      L.seicheref06_From_l1 k0 rest t6_288
    else
      if a291 = ([46] : Bytes) then
        L.seicheref06_From_l1 k0 rest t6_288
      else
        if a291 = ([46, 46] : Bytes) then
          if ((t6_288.length : Nat) : Int) = 0 then
            some (([] : Bytes), false)
          else
            (cut t6_288 0 (wi (((t6_288.length : Nat) : Int) - 1))).bind fun q324 =>
            L.seicheref06_From_l1 k0 rest q324
        else
          (g.seicheref06_Part a291).bind fun r339 =>
          if r339 = true then
            (appL ([] : (List Bytes)) t6_288).bind fun l344 =>
            (appL l344 ([a291] : (List Bytes))).bind fun l348 =>
            L.seicheref06_From_l1 k0 rest l348
          else
            some (([] : Bytes), false)
theorem ok.seicheref06_From_l1 {Γ : Abs.Spec} {gl : Glob} (hC_seicheref06_Split : CallsX Γ K.seicheref06_Split) (hC_seicheref06_Parts : CallsX Γ K.seicheref06_Parts) (hC_seicheref06_Part : CallsX Γ K.seicheref06_Part) (hC_seicheref06_Join : CallsX Γ K.seicheref06_Join) (hC_seicheref06_Good : CallsX Γ K.seicheref06_Good) {Q : Ex → St → Prop} {r : (Bytes × Bool)} {l155 : List Bytes} {k0 : (List Bytes) → Option (Bytes × Bool)}
    (hk0 : ∀ (s : St) (t6_355 : (List Bytes)), ((s.tm 6).nf = (V.sl false 1 (List.map V.str t6_355))) → k0 t6_355 = some r → Q (.exit 0) s)
    (hR : ∀ s, EndsX [.t 4, .t 5] false (V.tup [(V.str r.1), (V.bool r.2)]) s → Q .ret s)
    (hlen : l155.length ≤ Lim) : ∀ (rest : List Bytes) (k156 : Nat) (s : St) (t6_288 : (List Bytes)), l155.drop k156 = rest → k156 ≤ l155.length →
    ((s.tm 13).nf = V.sl false 1 (List.map V.str l155)) → (s.tm 14 = V.int .i64 ((l155.length : Nat) : Int)) → (s.tm 15 = V.int .i64 ((k156 : Nat) : Int)) → ((s.tm 6).nf = (V.sl false 1 (List.map V.str t6_288))) →
    L.seicheref06_From_l1 k0 rest t6_288 = some r → awp Γ gl (.loop c_seicheref06_From_l1) Q s := by
  intro rest
  induction rest with
  | nil =>
    intro k156 s t6_288 hdrop hkl hX hN hI h287 hD
    have hkz := drop_nil hdrop hkl
    have hp0 : ¬ (((k156 : Nat) : Int) < ((l155.length : Nat) : Int)) := by omega
    refine awp_roundK fun K hK => ?_
    rw [L.seicheref06_From_l1] at hD
    refine x_seq ?_
    refine x_start (b := false) ?_
    refine x_bin hI hN b_lss ?_
    refine x_done ?_
    refine x_tN ?_
    refine x_seq ?_
    refine x_cf (show _ = (V.bool (decide (((k156 : Nat) : Int) < ((l155.length : Nat) : Int)))) from rfl) (decide_eq_false hp0) ?_
    refine x_exitc ?_
    refine x_tE ?_
    refine x_tE ?_
    refine hk0 _ _ ?_ hD
    · exact h287
  | cons a291 rest ih =>
    intro k156 s t6_288 hdrop hkl hX hN hI h287 hD
    obtain ⟨hlt, -, hget, hdrop1, -⟩ := drop_cons hdrop
    have hp1 : ((k156 : Nat) : Int) < ((l155.length : Nat) : Int) := by omega
    have hwk := wi_succ (k := k156) (by unfold Lim at hlen; omega)
    refine awp_roundK fun K hK => ?_
    rw [L.seicheref06_From_l1] at hD
    refine x_seq ?_
    refine x_start (b := false) ?_
    refine x_bin hI hN b_lss ?_
    refine x_done ?_
    refine x_tN ?_
    refine x_seq ?_
    refine x_ct (show _ = (V.bool (decide (((k156 : Nat) : Int) < ((l155.length : Nat) : Int)))) from rfl) (decide_eq_true hp1) ?_
    refine x_skip ?_
    refine x_tN ?_
    refine x_seq ?_
    refine x_block ?_
    refine x_seq ?_
    refine x_start (b := false) ?_
    refine x_iaddr hX hI (at_k hget) fun v294 (hv294 : v294.nf = V.el [(V.str a291)] 0) => ?_
    refine x_load_el hv294 (show _ = some (V.str a291) from rfl) fun v295 hv295 => ?_
    refine x_mv' (nf_str hv295) ?_
    refine x_done ?_
    refine x_tN ?_
    refine x_seq ?_
    refine x_seq ?_
    refine x_start (b := false) ?_
    refine x_mv' (show _ = (V.str a291) from rfl) ?_
    refine x_bin (show _ = (V.str a291) from rfl) (show _ = (V.str ([] : Bytes)) from rfl) s_eql ?_
    refine x_mv' (show _ = (V.bool (decide (a291 = ([] : Bytes)))) from rfl) ?_
    by_cases hp300 : a291 = ([] : Bytes)
    · rw [if_pos hp300] at hD
      refine x_gn (show _ = (V.bool (decide (a291 = ([] : Bytes)))) from rfl) (decide_eq_true hp300) ?_
      refine x_gn (show _ = (V.bool (decide (a291 = ([] : Bytes)))) from rfl) (decide_eq_true hp300) ?_
      refine x_pickt' (show _ = (V.bool (decide (a291 = ([] : Bytes)))) from rfl) (decide_eq_true hp300) (show _ = (V.bool true) from rfl) ?_
      refine x_done ?_
      refine x_tN ?_
      refine x_ct (show _ = (V.bool true) from rfl) rfl ?_
      refine x_exitc ?_
      refine x_tE ?_
      refine x_bE ?_
      refine x_tN ?_
      refine x_start (b := false) ?_
      refine x_bin hI (show _ = (V.int .i64 1) from rfl) b_add ?_
      refine x_mv' (show _ = (V.int .i64 (wi (((k156 : Nat) : Int) + 1))) from rfl) ?_
      refine x_done ?_
      refine x_tN ?_
      refine hK _ ?_
      refine ih (k156 + 1) _ _ hdrop1 hlt ?_ ?_ ?_ ?_ hD
      · exact hX
      · exact hN
      · exact (Eq.trans (show _ = (V.int .i64 (wi (((k156 : Nat) : Int) + 1))) from rfl) (congrArg (V.int .i64) hwk))
      · exact h287
    · rw [if_neg hp300] at hD
      refine x_gy (show _ = (V.bool (decide (a291 = ([] : Bytes)))) from rfl) (decide_eq_false hp300) ?_
      refine x_mv' (show _ = (V.str a291) from rfl) ?_
      refine x_gy (show _ = (V.bool (decide (a291 = ([] : Bytes)))) from rfl) (decide_eq_false hp300) ?_
      refine x_bin (show _ = (V.str a291) from rfl) (show _ = (V.str ([46] : Bytes)) from rfl) s_eql ?_
      refine x_pickf' (show _ = (V.bool (decide (a291 = ([] : Bytes)))) from rfl) (decide_eq_false hp300) (show _ = (V.bool (decide (a291 = ([46] : Bytes)))) from rfl) ?_
      refine x_done ?_
      refine x_tN ?_
      by_cases hp301 : a291 = ([46] : Bytes)
      · rw [if_pos hp301] at hD
        refine x_ct (show _ = (V.bool (decide (a291 = ([46] : Bytes)))) from rfl) (decide_eq_true hp301) ?_
        refine x_exitc ?_
        refine x_tE ?_
        refine x_bE ?_
        refine x_tN ?_
        refine x_start (b := false) ?_
        refine x_bin hI (show _ = (V.int .i64 1) from rfl) b_add ?_
        refine x_mv' (show _ = (V.int .i64 (wi (((k156 : Nat) : Int) + 1))) from rfl) ?_
        refine x_done ?_
        refine x_tN ?_
        refine hK _ ?_
        refine ih (k156 + 1) _ _ hdrop1 hlt ?_ ?_ ?_ ?_ hD
        · exact hX
        · exact hN
        · exact (Eq.trans (show _ = (V.int .i64 (wi (((k156 : Nat) : Int) + 1))) from rfl) (congrArg (V.int .i64) hwk))
        · exact h287
      · rw [if_neg hp301] at hD
        refine x_cf (show _ = (V.bool (decide (a291 = ([46] : Bytes)))) from rfl) (decide_eq_false hp301) ?_
        refine x_skip ?_
        refine x_tN ?_
        refine x_seq ?_
        refine x_seq ?_
        refine x_start (b := false) ?_
        refine x_mv' (show _ = (V.str a291) from rfl) ?_
        refine x_bin (show _ = (V.str a291) from rfl) (show _ = (V.str ([46, 46] : Bytes)) from rfl) s_eql ?_
        refine x_done ?_
        refine x_tN ?_
        by_cases hp315 : a291 = ([46, 46] : Bytes)
        · rw [if_pos hp315] at hD
          refine x_ct (show _ = (V.bool (decide (a291 = ([46, 46] : Bytes)))) from rfl) (decide_eq_true hp315) ?_
          refine x_seq ?_
          refine x_seq ?_
          refine x_start (b := false) ?_
          refine x_mv h287 fun v320 hv320 => ?_
          refine x_len hv320 ?_
          refine x_bin (show _ = (V.int .i64 ((t6_288.length : Nat) : Int)) from rfl) (show _ = (V.int .i64 0) from rfl) b_eql ?_
          refine x_done ?_
          refine x_tN ?_
          by_cases hp321 : ((t6_288.length : Nat) : Int) = 0
          · rw [if_pos hp321] at hD
            refine x_ct (show _ = (V.bool (decide (((t6_288.length : Nat) : Int) = 0))) from rfl) (decide_eq_true hp321) ?_
            refine x_seq ?_
            refine x_start (b := false) ?_
            refine x_mv' (show _ = (V.str ([] : Bytes)) from rfl) ?_
            refine x_mv' (show _ = (V.bool false) from rfl) ?_
            refine x_done ?_
            refine x_tN ?_
            refine x_retc ?_
            refine x_tR ?_
            refine x_tR ?_
            refine x_bR ?_
            refine x_tR ?_
            refine x_tR ?_
            obtain rfl := Option.some.inj hD
            exact hR _ (ends_tup (rvs_cons (rv_t (nf_of rfl (show _ = (V.str ([] : Bytes)) from rfl))) (rvs_cons (rv_t (nf_of rfl (show _ = (V.bool false) from rfl))) rvs_nil)) (by decide))
          · rw [if_neg hp321] at hD
            refine x_cf (show _ = (V.bool (decide (((t6_288.length : Nat) : Int) = 0))) from rfl) (decide_eq_false hp321) ?_
            refine x_skip ?_
            refine x_tN ?_
            refine x_seq ?_
            refine x_start (b := false) ?_
            refine x_mv h287 fun v322 hv322 => ?_
            refine x_mv h287 fun v323 hv323 => ?_
            refine x_len hv323 ?_
            refine x_bin (show _ = (V.int .i64 ((t6_288.length : Nat) : Int)) from rfl) (show _ = (V.int .i64 1) from rfl) b_sub ?_
            obtain ⟨q324, hx325, hD⟩ := Option.bind_eq_some_iff.1 hD
            refine x_slc (ka := .i64) (kb := .i64) hv322 (Eq.refl (0 : Int)) (show _ = (V.int .i64 (wi (((t6_288.length : Nat) : Int) - 1))) from rfl) hx325 fun v326 hv326 => ?_
            refine x_mvo hv326 fun v327 ov327 hv327 hwv327 => ?_
            refine x_done ?_
            refine x_tN ?_
            refine x_exitc ?_
            refine x_tE ?_
            refine x_bE ?_
            refine x_tN ?_
            refine x_start (b := false) ?_
            refine x_bin hI (show _ = (V.int .i64 1) from rfl) b_add ?_
            refine x_mv' (show _ = (V.int .i64 (wi (((k156 : Nat) : Int) + 1))) from rfl) ?_
            refine x_done ?_
            refine x_tN ?_
            refine hK _ ?_
            refine ih (k156 + 1) _ _ hdrop1 hlt ?_ ?_ ?_ ?_ hD
            · exact hX
            · exact hN
            · exact (Eq.trans (show _ = (V.int .i64 (wi (((k156 : Nat) : Int) + 1))) from rfl) (congrArg (V.int .i64) hwk))
            · exact hv327
        · rw [if_neg hp315] at hD
          refine x_cf (show _ = (V.bool (decide (a291 = ([46, 46] : Bytes)))) from rfl) (decide_eq_false hp315) ?_
          refine x_skip ?_
          refine x_tN ?_
          refine x_seq ?_
          refine x_seq ?_
          refine x_start (b := false) ?_
          refine x_mv' (show _ = (V.str a291) from rfl) ?_
          obtain ⟨r339, hx340, hD⟩ := Option.bind_eq_some_iff.1 hD
          refine x_callF hC_seicheref06_Part (a := (a291)) (cons_eq (nf_of rfl (show _ = (V.str a291) from rfl)) rfl) hx340 fun v338 ov338 (hv338 : v338.nf = (V.bool r339)) hov338 => ?_
          refine x_un (nf_bool hv338) (aun_not _) ?_
          refine x_done ?_
          refine x_tN ?_
          by_cases hp341 : r339 = true
          · rw [if_pos hp341] at hD
            refine x_cf (show _ = (V.bool (!r339)) from rfl) (bnot_t hp341) ?_
            refine x_skip ?_
            refine x_tN ?_
            refine x_start (b := false) ?_
            refine x_bsl (E := V.str) (l := ([] : (List Bytes))) rfl (fits_map (E := V.str) (sz := 1) (fun x => ⟨rfl, rfl⟩) _) fun v342 ov342 hv342 hov342 => ?_
            refine x_mv h287 fun v343 hv343 => ?_
            obtain ⟨l344, hx345, hD⟩ := Option.bind_eq_some_iff.1 hD
            refine x_app hv342 hov342 (tail_sl hv343) hx345 fun v346 ov346 fv346 hv346 hov346 hfv346 => ?_
            refine x_mv' (show _ = (V.str a291) from rfl) ?_
            refine x_bsl (E := V.str) (l := ([a291] : (List Bytes))) (cons_eq (nf_of rfl (show _ = (V.str a291) from rfl)) rfl) (fits_map (E := V.str) (sz := 1) (fun x => ⟨rfl, rfl⟩) _) fun v347 ov347 hv347 hov347 => ?_
            obtain ⟨l348, hx349, hD⟩ := Option.bind_eq_some_iff.1 hD
            refine x_app hv346 hov346 (tail_sl hv347) hx349 fun v350 ov350 fv350 hv350 hov350 hfv350 => ?_
            refine x_mvo hv350 fun v351 ov351 hv351 hwv351 => ?_
            refine x_done ?_
            refine x_bN ?_
            refine x_tN ?_
            refine x_start (b := false) ?_
            refine x_bin hI (show _ = (V.int .i64 1) from rfl) b_add ?_
            refine x_mv' (show _ = (V.int .i64 (wi (((k156 : Nat) : Int) + 1))) from rfl) ?_
            refine x_done ?_
            refine x_tN ?_
            refine hK _ ?_
            refine ih (k156 + 1) _ _ hdrop1 hlt ?_ ?_ ?_ ?_ hD
            · exact hX
            · exact hN
            · exact (Eq.trans (show _ = (V.int .i64 (wi (((k156 : Nat) : Int) + 1))) from rfl) (congrArg (V.int .i64) hwk))
            · exact hv351
          · rw [if_neg hp341] at hD
            refine x_ct (show _ = (V.bool (!r339)) from rfl) (bnot_f (Bool.eq_false_iff.2 hp341)) ?_
            refine x_seq ?_
            refine x_start (b := false) ?_
            refine x_mv' (show _ = (V.str ([] : Bytes)) from rfl) ?_
            refine x_mv' (show _ = (V.bool false) from rfl) ?_
            refine x_done ?_
            refine x_tN ?_
            refine x_retc ?_
            refine x_tR ?_
            refine x_bR ?_
            refine x_tR ?_
            refine x_tR ?_
            obtain rfl := Option.some.inj hD
            exact hR _ (ends_tup (rvs_cons (rv_t (nf_of rfl (show _ = (V.str ([] : Bytes)) from rfl))) (rvs_cons (rv_t (nf_of rfl (show _ = (V.bool false) from rfl))) rvs_nil)) (by decide))
def g.seicheref06_From (p0 : Bytes) (p1 : Bytes) : Option (Bytes × Bool) :=
  (g.seicheref06_Split p0).bind fun r6 =>
  (g.seicheref06_Parts p1).bind fun r153 =>
  if r153.length ≤ Lim then L.seicheref06_From_l1 (fun (t6_357 : (List Bytes)) => (g.seicheref06_Join t6_357).bind fun r364 =>
  if r364 = ([] : Bytes) then
    some (r364, true)
  else
    (g.seicheref06_Good r364).bind fun r368 =>
    some (r364, r368)) r153 r6 else none
theorem ok.seicheref06_From {Γ : Abs.Spec} {gl : Glob} (hC_seicheref06_Split : CallsX Γ K.seicheref06_Split) (hC_seicheref06_Parts : CallsX Γ K.seicheref06_Parts) (hC_seicheref06_Part : CallsX Γ K.seicheref06_Part) (hC_seicheref06_Join : CallsX Γ K.seicheref06_Join) (hC_seicheref06_Good : CallsX Γ K.seicheref06_Good) {r : (Bytes × Bool)} {p0 : Bytes} {p1 : Bytes} {v : List V}
    (hv : nfL v = [(V.str p0), (V.str p1)]) (hD : g.seicheref06_From p0 p1 = some r) : awp Γ gl c_seicheref06_From (endQ [.t 4, .t 5] false (V.tup [(V.str r.1), (V.bool r.2)])) (St.init v) := by
  obtain ⟨v0, v, rfl, h0, hv⟩ := nfL_cons hv
  obtain ⟨v1, v, rfl, h1, hv⟩ := nfL_cons hv
  obtain rfl := nfL_nil hv
  have hR : ∀ s, EndsX [.t 4, .t 5] false (V.tup [(V.str r.1), (V.bool r.2)]) s → endQ [.t 4, .t 5] false (V.tup [(V.str r.1), (V.bool r.2)]) .ret s := fun _ h => h
  unfold g.seicheref06_From at hD
  unfold c_seicheref06_From
  refine x_seq ?_
  refine x_start (b := false) ?_
  refine x_mv' (show _ = (V.str ([] : Bytes)) from rfl) ?_
  refine x_mv' (show _ = (V.bool false) from rfl) ?_
  refine x_done ?_
  refine x_tN ?_
  refine x_seq ?_
  refine x_start (b := false) ?_
  refine x_mv' (nf_str h0) ?_
  obtain ⟨r6, hx7, hD⟩ := Option.bind_eq_some_iff.1 hD
  refine x_callF hC_seicheref06_Split (a := (p0)) (cons_eq (nf_of rfl (show _ = (V.str p0) from rfl)) rfl) hx7 fun v5 ov5 (hv5 : v5.nf = (V.sl false 1 (List.map V.str r6))) hov5 => ?_
  refine x_mvo hv5 fun v8 ov8 hv8 hwv8 => ?_
  refine x_done ?_
  refine x_tN ?_
  refine x_seq ?_
  refine x_seq ?_
  refine x_start (b := false) ?_
  refine x_mv' (nf_str h1) ?_
  obtain ⟨r153, hx154, hD⟩ := Option.bind_eq_some_iff.1 hD
  refine x_callF hC_seicheref06_Parts (a := (p1)) (cons_eq (nf_of rfl (show _ = (V.str p1) from rfl)) rfl) hx154 fun v152 ov152 (hv152 : v152.nf = (V.sl false 1 (List.map V.str r153))) hov152 => ?_
  refine x_len hv152 ?_
  refine x_mv' (show _ = (V.int .i64 0) from rfl) ?_
  refine x_done ?_
  refine x_tN ?_
  refine x_block ?_
  by_cases hlen371 : r153.length ≤ Lim
  · rw [if_pos hlen371] at hD
    refine ok.seicheref06_From_l1 (l155 := r153) hC_seicheref06_Split hC_seicheref06_Parts hC_seicheref06_Part hC_seicheref06_Join hC_seicheref06_Good (fun s370 t6_357 h356 hD => ?_) (fun _ hE => ?_) hlen371 _ 0 _ _ rfl (Nat.zero_le _) ?_ ?_ ?_ ?_ hD
    · refine x_bE ?_
      refine x_tN ?_
      refine x_seq ?_
      refine x_start (b := false) ?_
      refine x_mv h356 fun v362 hv362 => ?_
      obtain ⟨r364, hx365, hD⟩ := Option.bind_eq_some_iff.1 hD
      refine x_callF hC_seicheref06_Join (a := (t6_357)) (cons_eq hv362 rfl) hx365 fun v363 ov363 (hv363 : v363.nf = (V.str r364)) hov363 => ?_
      refine x_mv' (nf_str hv363) ?_
      refine x_done ?_
      refine x_tN ?_
      refine x_seq ?_
      refine x_start (b := false) ?_
      refine x_mv' (show _ = (V.str r364) from rfl) ?_
      refine x_mv' (show _ = (V.str r364) from rfl) ?_
      refine x_bin (show _ = (V.str r364) from rfl) (show _ = (V.str ([] : Bytes)) from rfl) s_eql ?_
      refine x_mv' (show _ = (V.bool (decide (r364 = ([] : Bytes)))) from rfl) ?_
      by_cases hp366 : r364 = ([] : Bytes)
      · rw [if_pos hp366] at hD
        refine x_gn (show _ = (V.bool (decide (r364 = ([] : Bytes)))) from rfl) (decide_eq_true hp366) ?_
        refine x_gn (show _ = (V.bool (decide (r364 = ([] : Bytes)))) from rfl) (decide_eq_true hp366) ?_
        refine x_pickt' (show _ = (V.bool (decide (r364 = ([] : Bytes)))) from rfl) (decide_eq_true hp366) (show _ = (V.bool true) from rfl) ?_
        refine x_mv' (show _ = (V.str r364) from rfl) ?_
        refine x_mv' (show _ = (V.bool true) from rfl) ?_
        refine x_done ?_
        refine x_tN ?_
        refine x_retc ?_
        obtain rfl := Option.some.inj hD
        exact hR _ (ends_tup (rvs_cons (rv_t (nf_of rfl (show _ = (V.str r364) from rfl))) (rvs_cons (rv_t (nf_of rfl (show _ = (V.bool true) from rfl))) rvs_nil)) (by decide))
      · rw [if_neg hp366] at hD
        refine x_gy (show _ = (V.bool (decide (r364 = ([] : Bytes)))) from rfl) (decide_eq_false hp366) ?_
        refine x_mv' (show _ = (V.str r364) from rfl) ?_
        refine x_gy (show _ = (V.bool (decide (r364 = ([] : Bytes)))) from rfl) (decide_eq_false hp366) ?_
        obtain ⟨r368, hx369, hD⟩ := Option.bind_eq_some_iff.1 hD
        refine x_callF hC_seicheref06_Good (a := (r364)) (cons_eq (nf_of rfl (show _ = (V.str r364) from rfl)) rfl) hx369 fun v367 ov367 (hv367 : v367.nf = (V.bool r368)) hov367 => ?_
        refine x_pickf' (show _ = (V.bool (decide (r364 = ([] : Bytes)))) from rfl) (decide_eq_false hp366) (nf_bool hv367) ?_
        refine x_mv' (show _ = (V.str r364) from rfl) ?_
        refine x_mv' (show _ = (V.bool r368) from rfl) ?_
        refine x_done ?_
        refine x_tN ?_
        refine x_retc ?_
        obtain rfl := Option.some.inj hD
        exact hR _ (ends_tup (rvs_cons (rv_t (nf_of rfl (show _ = (V.str r364) from rfl))) (rvs_cons (rv_t (nf_of rfl (show _ = (V.bool r368) from rfl))) rvs_nil)) (by decide))
    · refine x_bR ?_; refine x_tR ?_; exact hR _ hE
    · exact hv152
    · exact (show _ = (V.int .i64 ((r153.length : Nat) : Int)) from rfl)
    · exact (show _ = (V.int .i64 0) from rfl)
    · exact hv8
  · rw [if_neg hlen371] at hD; cases hD
def K.seicheref06_From : FC := fc F.seicheref06_From (fun _ => true) false (fun (a : (Bytes × Bytes)) => [(V.str a.1), (V.str a.2)]) (fun (y : (Bytes × Bool)) => (V.tup [(V.str y.1), (V.bool y.2)])) (fun a => g.seicheref06_From a.1 a.2)
  (fun a => (cleanL_mk rfl (cleanL_mk rfl rfl)))
  (fun y => (cleanL_mk rfl (cleanL_mk rfl rfl)))
  (fun ⟨a0, a1⟩ ⟨b0, b1⟩ h => by
    obtain ⟨h0, h⟩ := List.cons.inj h
    obtain rfl : a0 = b0 := V.str.inj h0
    obtain ⟨h0, h⟩ := List.cons.inj h
    obtain rfl : a1 = b1 := V.str.inj h0
    rfl)
theorem H.seicheref06_From (w : World) (hw : EnvOK w) : K.seicheref06_From.Holds (cxD w) :=
  FC.holds_of (cs := [K.seicheref06_Split, K.seicheref06_Parts, K.seicheref06_Part, K.seicheref06_Join, K.seicheref06_Good]) (glD w) mixed cf_seicheref06_From (fun _ _ ⟨_, _, h, _⟩ => by subst h; exact Nat.le_of_ble_eq_true rfl) fun v y ⟨a, r, hv, hD, hy⟩ => by
    subst hy
    exact ok.seicheref06_From (specOf_calls (H.seicheref06_Split w hw) (fun _ _ ⟨_, _, h, _⟩ => by subst h; rfl)) (specOf_calls (H.seicheref06_Parts w hw) (fun _ _ ⟨_, _, h, _⟩ => by subst h; rfl)) (specOf_calls (H.seicheref06_Part w hw) (fun _ _ ⟨_, _, h, _⟩ => by subst h; rfl)) (specOf_calls (H.seicheref06_Join w hw) (fun _ _ ⟨_, _, h, _⟩ => by subst h; rfl)) (specOf_calls (H.seicheref06_Good w hw) (fun _ _ ⟨_, _, h, _⟩ => by subst h; rfl)) hv hD
def c_seicheref01_Same_l1 : ACode := (.seq (.region [
  ⟨(some 14), (.bin .lss .no (.tmp 13) (.tmp 12)), none, []⟩] false) (.seq (.cond (.tmp 14) .skip (.exit 0)) (.seq (.block 1 (.seq (.region [
  ⟨(some 15), (.mv (.tmp 13)), none, []⟩, 
  ⟨(some 5), (.mv (.tmp 15)), none, []⟩] false) (.seq (.region [
  ⟨(some 16), (.mv (.tmp 0)), none, []⟩, 
  ⟨(some 17), (.mv (.tmp 5)), none, []⟩, 
  ⟨(some 18), (.iaddr 1 (.tmp 16) (.tmp 17)), none, []⟩, 
  ⟨(some 19), (.load none (.tmp 18)), none, []⟩, 
  ⟨(some 20), (.mv (.tmp 1)), none, []⟩, 
  ⟨(some 21), (.mv (.tmp 5)), none, []⟩, 
  ⟨(some 22), (.iaddr 1 (.tmp 20) (.tmp 21)), none, []⟩, 
  ⟨(some 23), (.load none (.tmp 22)), none, []⟩, 
  ⟨(some 24), (.bin .neq .no (.tmp 19) (.tmp 23)), none, []⟩] true) (.cond (.tmp 24) (.seq (.region [
  ⟨(some 4), (.mv (.const (.bool false))), none, []⟩] false) .ret) .skip)))) (.region [
  ⟨(some 25), (.bin .add .no (.tmp 13) (.const (.int .i64 1))), none, []⟩, 
  ⟨(some 13), (.mv (.tmp 25)), none, []⟩] false))))
def c_seicheref01_Same : ACode := (.seq (.region [
  ⟨(some 4), (.mv (.const (.bool false))), none, []⟩] false) (.seq (.seq (.region [
  ⟨(some 6), (.mv (.tmp 0)), none, []⟩, 
  ⟨(some 7), (.len false (.tmp 6)), none, []⟩, 
  ⟨(some 8), (.mv (.tmp 1)), none, []⟩, 
  ⟨(some 9), (.len false (.tmp 8)), none, []⟩, 
  ⟨(some 10), (.bin .neq .no (.tmp 7) (.tmp 9)), none, []⟩] false) (.cond (.tmp 10) (.seq (.region [
  ⟨(some 4), (.mv (.const (.bool false))), none, []⟩] false) .ret) .skip)) (.seq (.seq (.region [
  ⟨(some 11), (.mv (.tmp 0)), none, []⟩, 
  ⟨(some 12), (.len false (.tmp 11)), none, []⟩, 
  ⟨(some 13), (.mv (.const (.int .i64 0))), none, []⟩] false) (.block 0 (.loop c_seicheref01_Same_l1))) (.seq (.region [
  ⟨(some 4), (.mv (.const (.bool true))), none, []⟩] false) .ret))))
theorem cf_seicheref01_Same : cFn Go.Proofs.Tryd.prog F.seicheref01_Same = some ⟨26, c_seicheref01_Same, [.t 4]⟩ := by kernel_rfl
def L.seicheref01_Same_l1 (t1_15 : (List Bytes)) (k0 : Option Bool) : List Bytes → Nat → Option Bool
  | [], k14 =>
    k0
  | a38 :: rest, k14 =>
    (at? t1_15 ((k14 : Nat) : Int)).bind fun a51 =>
    if a38 = a51 then
      L.seicheref01_Same_l1 t1_15 k0 rest (k14 + 1)
    else
      some false
theorem ok.seicheref01_Same_l1 {Γ : Abs.Spec} {gl : Glob} {Q : Ex → St → Prop} {r : Bool} {t1_15 : (List Bytes)} {l13 : List Bytes} {k0 : Option Bool}
    (hk0 : ∀ (s : St), k0 = some r → Q (.exit 0) s)
    (hR : ∀ s, EndsX [.t 4] false (V.bool r) s → Q .ret s)
    (hlen : l13.length ≤ Lim) : ∀ (rest : List Bytes) (k14 : Nat) (s : St), l13.drop k14 = rest → k14 ≤ l13.length →
    ((s.tm 0).nf = V.sl false 1 (List.map V.str l13)) → (s.tm 12 = V.int .i64 ((l13.length : Nat) : Int)) → (s.tm 13 = V.int .i64 ((k14 : Nat) : Int)) → ((s.tm 1).nf = (V.sl false 1 (List.map V.str t1_15))) →
    L.seicheref01_Same_l1 t1_15 k0 rest k14 = some r → awp Γ gl (.loop c_seicheref01_Same_l1) Q s := by
  intro rest
  induction rest with
  | nil =>
    intro k14 s hdrop hkl hX hN hI h37 hD
    have hkz := drop_nil hdrop hkl
    have hp0 : ¬ (((k14 : Nat) : Int) < ((l13.length : Nat) : Int)) := by omega
    refine awp_roundK fun K hK => ?_
    rw [L.seicheref01_Same_l1] at hD
    refine x_seq ?_
    refine x_start (b := false) ?_
    refine x_bin hI hN b_lss ?_
    refine x_done ?_
    refine x_tN ?_
    refine x_seq ?_
    refine x_cf (show _ = (V.bool (decide (((k14 : Nat) : Int) < ((l13.length : Nat) : Int)))) from rfl) (decide_eq_false hp0) ?_
    refine x_exitc ?_
    refine x_tE ?_
    refine x_tE ?_
    refine hk0 _ hD
  | cons a38 rest ih =>
    intro k14 s hdrop hkl hX hN hI h37 hD
    obtain ⟨hlt, -, hget, hdrop1, -⟩ := drop_cons hdrop
    have hp1 : ((k14 : Nat) : Int) < ((l13.length : Nat) : Int) := by omega
    have hwk := wi_succ (k := k14) (by unfold Lim at hlen; omega)
    refine awp_roundK fun K hK => ?_
    rw [L.seicheref01_Same_l1] at hD
    refine x_seq ?_
    refine x_start (b := false) ?_
    refine x_bin hI hN b_lss ?_
    refine x_done ?_
    refine x_tN ?_
    refine x_seq ?_
    refine x_ct (show _ = (V.bool (decide (((k14 : Nat) : Int) < ((l13.length : Nat) : Int)))) from rfl) (decide_eq_true hp1) ?_
    refine x_skip ?_
    refine x_tN ?_
    refine x_seq ?_
    refine x_block ?_
    refine x_seq ?_
    refine x_start (b := false) ?_
    refine x_mv' hI ?_
    refine x_mv' (show _ = (V.int .i64 ((k14 : Nat) : Int)) from rfl) ?_
    refine x_done ?_
    refine x_tN ?_
    refine x_seq ?_
    refine x_start (b := true) ?_
    refine x_mv hX fun v47 hv47 => ?_
    refine x_mv' (show _ = (V.int .i64 ((k14 : Nat) : Int)) from rfl) ?_
    refine x_iaddr hv47 (show _ = (V.int .i64 ((k14 : Nat) : Int)) from rfl) (at_k hget) fun v48 (hv48 : v48.nf = V.el [(V.str a38)] 0) => ?_
    refine x_load_el hv48 (show _ = some (V.str a38) from rfl) fun v49 hv49 => ?_
    refine x_mv h37 fun v50 hv50 => ?_
    refine x_mv' (show _ = (V.int .i64 ((k14 : Nat) : Int)) from rfl) ?_
    obtain ⟨a51, hx52, hD⟩ := Option.bind_eq_some_iff.1 hD
    refine x_iaddr hv50 (show _ = (V.int .i64 ((k14 : Nat) : Int)) from rfl) hx52 fun v53 (hv53 : v53.nf = V.el [(V.str a51)] 0) => ?_
    refine x_load_el hv53 (show _ = some (V.str a51) from rfl) fun v54 hv54 => ?_
    refine x_bin (nf_str hv49) (nf_str hv54) s_neq ?_
    refine x_done ?_
    refine x_tN ?_
    by_cases hp55 : a38 = a51
    · rw [if_pos hp55] at hD
      refine x_cf (show _ = (V.bool (!(decide (a38 = a51)))) from rfl) (bnot_t (decide_eq_true hp55)) ?_
      refine x_skip ?_
      refine x_bN ?_
      refine x_tN ?_
      refine x_start (b := false) ?_
      refine x_bin hI (show _ = (V.int .i64 1) from rfl) b_add ?_
      refine x_mv' (show _ = (V.int .i64 (wi (((k14 : Nat) : Int) + 1))) from rfl) ?_
      refine x_done ?_
      refine x_tN ?_
      refine hK _ ?_
      refine ih (k14 + 1) _ hdrop1 hlt ?_ ?_ ?_ ?_ hD
      · exact hX
      · exact hN
      · exact (Eq.trans (show _ = (V.int .i64 (wi (((k14 : Nat) : Int) + 1))) from rfl) (congrArg (V.int .i64) hwk))
      · exact h37
    · rw [if_neg hp55] at hD
      refine x_ct (show _ = (V.bool (!(decide (a38 = a51)))) from rfl) (bnot_f (decide_eq_false hp55)) ?_
      refine x_seq ?_
      refine x_start (b := false) ?_
      refine x_mv' (show _ = (V.bool false) from rfl) ?_
      refine x_done ?_
      refine x_tN ?_
      refine x_retc ?_
      refine x_bR ?_
      refine x_tR ?_
      refine x_tR ?_
      obtain rfl := Option.some.inj hD
      exact hR _ (ends_t (nf_of rfl (show _ = (V.bool false) from rfl)) (fun h => nomatch h))
def g.seicheref01_Same (p0 : (List Bytes)) (p1 : (List Bytes)) : Option Bool :=
  if ((p0.length : Nat) : Int) = ((p1.length : Nat) : Int) then
    if p0.length ≤ Lim then L.seicheref01_Same_l1 p1 (some true) p0 0 else none
  else
    some false
theorem ok.seicheref01_Same {Γ : Abs.Spec} {gl : Glob} {r : Bool} {p0 : (List Bytes)} {p1 : (List Bytes)} {v : List V}
    (hv : nfL v = [(V.sl false 1 (List.map V.str p0)), (V.sl false 1 (List.map V.str p1))]) (hD : g.seicheref01_Same p0 p1 = some r) : awp Γ gl c_seicheref01_Same (endQ [.t 4] false (V.bool r)) (St.init v) := by
  obtain ⟨v0, v, rfl, h0, hv⟩ := nfL_cons hv
  obtain ⟨v1, v, rfl, h1, hv⟩ := nfL_cons hv
  obtain rfl := nfL_nil hv
  have hR : ∀ s, EndsX [.t 4] false (V.bool r) s → endQ [.t 4] false (V.bool r) .ret s := fun _ h => h
  unfold g.seicheref01_Same at hD
  unfold c_seicheref01_Same
  refine x_seq ?_
  refine x_start (b := false) ?_
  refine x_mv' (show _ = (V.bool false) from rfl) ?_
  refine x_done ?_
  refine x_tN ?_
  refine x_seq ?_
  refine x_seq ?_
  refine x_start (b := false) ?_
  refine x_mv h0 fun v8 hv8 => ?_
  refine x_len hv8 ?_
  refine x_mv h1 fun v9 hv9 => ?_
  refine x_len hv9 ?_
  refine x_bin (show _ = (V.int .i64 ((p0.length : Nat) : Int)) from rfl) (show _ = (V.int .i64 ((p1.length : Nat) : Int)) from rfl) b_neq ?_
  refine x_done ?_
  refine x_tN ?_
  by_cases hp10 : ((p0.length : Nat) : Int) = ((p1.length : Nat) : Int)
  · rw [if_pos hp10] at hD
    refine x_cf (show _ = (V.bool (!(decide (((p0.length : Nat) : Int) = ((p1.length : Nat) : Int))))) from rfl) (bnot_t (decide_eq_true hp10)) ?_
    refine x_skip ?_
    refine x_tN ?_
    refine x_seq ?_
    refine x_seq ?_
    refine x_start (b := false) ?_
    refine x_mv h0 fun v12 hv12 => ?_
    refine x_len hv12 ?_
    refine x_mv' (show _ = (V.int .i64 0) from rfl) ?_
    refine x_done ?_
    refine x_tN ?_
    refine x_block ?_
    by_cases hlen57 : p0.length ≤ Lim
    · rw [if_pos hlen57] at hD
      refine ok.seicheref01_Same_l1 (t1_15 := p1) (l13 := p0) (fun s56 hD => ?_) (fun _ hE => ?_) hlen57 _ 0 _ rfl (Nat.zero_le _) ?_ ?_ ?_ ?_ hD
      · refine x_bE ?_
        refine x_tN ?_
        refine x_seq ?_
        refine x_start (b := false) ?_
        refine x_mv' (show _ = (V.bool true) from rfl) ?_
        refine x_done ?_
        refine x_tN ?_
        refine x_retc ?_
        obtain rfl := Option.some.inj hD
        exact hR _ (ends_t (nf_of rfl (show _ = (V.bool true) from rfl)) (fun h => nomatch h))
      · refine x_bR ?_; refine x_tR ?_; exact hR _ hE
      · exact h0
      · exact (show _ = (V.int .i64 ((p0.length : Nat) : Int)) from rfl)
      · exact (show _ = (V.int .i64 0) from rfl)
      · exact h1
    · rw [if_neg hlen57] at hD; cases hD
  · rw [if_neg hp10] at hD
    refine x_ct (show _ = (V.bool (!(decide (((p0.length : Nat) : Int) = ((p1.length : Nat) : Int))))) from rfl) (bnot_f (decide_eq_false hp10)) ?_
    refine x_seq ?_
    refine x_start (b := false) ?_
    refine x_mv' (show _ = (V.bool false) from rfl) ?_
    refine x_done ?_
    refine x_tN ?_
    refine x_retc ?_
    refine x_tR ?_
    obtain rfl := Option.some.inj hD
    exact hR _ (ends_t (nf_of rfl (show _ = (V.bool false) from rfl)) (fun h => nomatch h))
def K.seicheref01_Same : FC := fc F.seicheref01_Same (fun _ => true) false (fun (a : ((List Bytes) × (List Bytes))) => [(V.sl false 1 (List.map V.str a.1)), (V.sl false 1 (List.map V.str a.2))]) (fun (y : Bool) => (V.bool y)) (fun a => g.seicheref01_Same a.1 a.2)
  (fun a => (cleanL_mk (E.Lstring_clean _) (cleanL_mk (E.Lstring_clean _) rfl)))
  (fun y => rfl)
  (fun ⟨a0, a1⟩ ⟨b0, b1⟩ h => by
    obtain ⟨h0, h⟩ := List.cons.inj h
    obtain rfl : a0 = b0 := E.Lstring_inj h0
    obtain ⟨h0, h⟩ := List.cons.inj h
    obtain rfl : a1 = b1 := E.Lstring_inj h0
    rfl)
theorem H.seicheref01_Same (w : World) (_hw : EnvOK w) : K.seicheref01_Same.Holds (cxD w) :=
  FC.holds_of (cs := []) (glD w) mixed cf_seicheref01_Same (fun _ _ ⟨_, _, h, _⟩ => by subst h; exact Nat.le_of_ble_eq_true rfl) fun v y ⟨a, r, hv, hD, hy⟩ => by
    subst hy
    exact ok.seicheref01_Same hv hD
def c_seichelaw06_alive : ACode := (.seq (.region [
  ⟨(some 0), (.mv (.const (.bool false))), none, []⟩] false) (.seq (.region [
  ⟨(some 6), (.call F.path_From [(.const (.str [97, 47, 98])), (.const (.str [46, 46, 47, 99, 47, 46, 47, 100]))]), none, []⟩, 
  ⟨(some 5), (.mv (.tmp 6)), none, []⟩, 
  ⟨(some 7), (.ext (.tmp 5) 0), none, []⟩, 
  ⟨(some 8), (.ext (.tmp 5) 1), none, []⟩, 
  ⟨(some 1), (.mv (.tmp 7)), none, []⟩, 
  ⟨(some 2), (.mv (.tmp 8)), none, []⟩] false) (.seq (.region [
  ⟨(some 10), (.call F.path_From [(.const (.str [97])), (.const (.str [46, 46, 47, 46, 46]))]), none, []⟩, 
  ⟨(some 9), (.mv (.tmp 10)), none, []⟩, 
  ⟨(some 11), (.ext (.tmp 9) 0), none, []⟩, 
  ⟨(some 12), (.ext (.tmp 9) 1), none, []⟩, 
  ⟨(some 3), (.mv (.tmp 11)), none, []⟩, 
  ⟨(some 4), (.mv (.tmp 12)), none, []⟩] false) (.seq (.region [
  ⟨(some 13), (.mv (.tmp 2)), none, []⟩, 
  ⟨(some 14), (.mv (.tmp 13)), none, []⟩, 
  ⟨(some 15), (.mv (.tmp 1)), (some (14, true)), []⟩, 
  ⟨(some 16), (.bin .eql .no (.tmp 15) (.const (.str [97, 47, 99, 47, 100]))), (some (14, true)), []⟩, 
  ⟨(some 17), (.pick (.tmp 14) (.tmp 16) (.const (.bool false))), none, []⟩, 
  ⟨(some 18), (.mv (.tmp 17)), none, []⟩, 
  ⟨(some 19), (.mv (.tmp 4)), (some (18, true)), []⟩, 
  ⟨(some 20), (.un .not (.tmp 19)), (some (18, true)), []⟩, 
  ⟨(some 21), (.pick (.tmp 18) (.tmp 20) (.const (.bool false))), none, []⟩, 
  ⟨(some 22), (.mv (.tmp 21)), none, []⟩, 
  ⟨(some 23), (.call F.path_Good [(.const (.str [97, 47, 98]))]), (some (22, true)), []⟩, 
  ⟨(some 24), (.pick (.tmp 22) (.tmp 23) (.const (.bool false))), none, []⟩, 
  ⟨(some 25), (.mv (.tmp 24)), none, []⟩, 
  ⟨(some 26), (.call F.path_Good [(.const (.str [97, 47, 47, 98]))]), (some (25, true)), []⟩, 
  ⟨(some 27), (.un .not (.tmp 26)), (some (25, true)), []⟩, 
  ⟨(some 28), (.pick (.tmp 25) (.tmp 27) (.const (.bool false))), none, []⟩, 
  ⟨(some 0), (.mv (.tmp 28)), none, []⟩] false) .ret))))
theorem cf_seichelaw06_alive : cFn Go.Proofs.Tryd.prog F.seichelaw06_alive = some ⟨29, c_seichelaw06_alive, [.t 0]⟩ := by kernel_rfl
def g.seichelaw06_alive : Option Bool :=
  (g.path_From ([97, 47, 98] : Bytes) ([46, 46, 47, 99, 47, 46, 47, 100] : Bytes)).bind fun r8 =>
  (g.path_From ([97] : Bytes) ([46, 46, 47, 46, 46] : Bytes)).bind fun r20 =>
  if r8.2 = true then
    if r8.1 = ([97, 47, 99, 47, 100] : Bytes) then
      if r20.2 = true then
        some false
      else
        (g.path_Good ([97, 47, 98] : Bytes)).bind fun r29 =>
        if r29 = true then
          (g.path_Good ([97, 47, 47, 98] : Bytes)).bind fun r33 =>
          some (!r33)
        else
          some false
    else
      some false
  else
    some false
theorem ok.seichelaw06_alive {Γ : Abs.Spec} {gl : Glob} (hC_path_From : CallsX Γ K.path_From) (hC_path_Good : CallsX Γ K.path_Good) {r : Bool} {v : List V}
    (hv : nfL v = []) (hD : g.seichelaw06_alive = some r) : awp Γ gl c_seichelaw06_alive (endQ [.t 0] false (V.bool r)) (St.init v) := by
  obtain rfl := nfL_nil hv
  have hR : ∀ s, EndsX [.t 0] false (V.bool r) s → endQ [.t 0] false (V.bool r) .ret s := fun _ h => h
  unfold g.seichelaw06_alive at hD
  unfold c_seichelaw06_alive
  refine x_seq ?_
  refine x_start (b := false) ?_
  refine x_mv' (show _ = (V.bool false) from rfl) ?_
  refine x_done ?_
  refine x_tN ?_
  refine x_seq ?_
  refine x_start (b := false) ?_
  obtain ⟨r8, hx9, hD⟩ := Option.bind_eq_some_iff.1 hD
  refine x_callF hC_path_From (a := (([97, 47, 98] : Bytes), ([46, 46, 47, 99, 47, 46, 47, 100] : Bytes))) (cons_eq (nf_of rfl (show _ = (V.str ([97, 47, 98] : Bytes)) from rfl)) (cons_eq (nf_of rfl (show _ = (V.str ([46, 46, 47, 99, 47, 46, 47, 100] : Bytes)) from rfl)) rfl)) hx9 fun v7 ov7 (hv7 : v7.nf = (V.tup [(V.str r8.1), (V.bool r8.2)])) hov7 => ?_
  refine x_mv hv7 fun v10 hv10 => ?_
  refine x_ext hv10 (show _ = some (V.str r8.1) from rfl) fun v11 hv11 => ?_
  refine x_ext hv10 (show _ = some (V.bool r8.2) from rfl) fun v12 hv12 => ?_
  refine x_mv' (nf_str hv11) ?_
  refine x_mv' (nf_bool hv12) ?_
  refine x_done ?_
  refine x_tN ?_
  refine x_seq ?_
  refine x_start (b := false) ?_
  obtain ⟨r20, hx21, hD⟩ := Option.bind_eq_some_iff.1 hD
  refine x_callF hC_path_From (a := (([97] : Bytes), ([46, 46, 47, 46, 46] : Bytes))) (cons_eq (nf_of rfl (show _ = (V.str ([97] : Bytes)) from rfl)) (cons_eq (nf_of rfl (show _ = (V.str ([46, 46, 47, 46, 46] : Bytes)) from rfl)) rfl)) hx21 fun v19 ov19 (hv19 : v19.nf = (V.tup [(V.str r20.1), (V.bool r20.2)])) hov19 => ?_
  refine x_mv hv19 fun v22 hv22 => ?_
  refine x_ext hv22 (show _ = some (V.str r20.1) from rfl) fun v23 hv23 => ?_
  refine x_ext hv22 (show _ = some (V.bool r20.2) from rfl) fun v24 hv24 => ?_
  refine x_mv' (nf_str hv23) ?_
  refine x_mv' (nf_bool hv24) ?_
  refine x_done ?_
  refine x_tN ?_
  refine x_seq ?_
  refine x_start (b := false) ?_
  refine x_mv' (show _ = (V.bool r8.2) from rfl) ?_
  refine x_mv' (show _ = (V.bool r8.2) from rfl) ?_
  by_cases hp25 : r8.2 = true
  · rw [if_pos hp25] at hD
    refine x_gy (show _ = (V.bool r8.2) from rfl) hp25 ?_
    refine x_mv' (show _ = (V.str r8.1) from rfl) ?_
    refine x_gy (show _ = (V.bool r8.2) from rfl) hp25 ?_
    refine x_bin (show _ = (V.str r8.1) from rfl) (show _ = (V.str ([97, 47, 99, 47, 100] : Bytes)) from rfl) s_eql ?_
    refine x_pickt' (show _ = (V.bool r8.2) from rfl) hp25 (show _ = (V.bool (decide (r8.1 = ([97, 47, 99, 47, 100] : Bytes)))) from rfl) ?_
    refine x_mv' (show _ = (V.bool (decide (r8.1 = ([97, 47, 99, 47, 100] : Bytes)))) from rfl) ?_
    by_cases hp26 : r8.1 = ([97, 47, 99, 47, 100] : Bytes)
    · rw [if_pos hp26] at hD
      refine x_gy (show _ = (V.bool (decide (r8.1 = ([97, 47, 99, 47, 100] : Bytes)))) from rfl) (decide_eq_true hp26) ?_
      refine x_mv' (show _ = (V.bool r20.2) from rfl) ?_
      refine x_gy (show _ = (V.bool (decide (r8.1 = ([97, 47, 99, 47, 100] : Bytes)))) from rfl) (decide_eq_true hp26) ?_
      refine x_un (show _ = (V.bool r20.2) from rfl) (aun_not _) ?_
      refine x_pickt' (show _ = (V.bool (decide (r8.1 = ([97, 47, 99, 47, 100] : Bytes)))) from rfl) (decide_eq_true hp26) (show _ = (V.bool (!r20.2)) from rfl) ?_
      refine x_mv' (show _ = (V.bool (!r20.2)) from rfl) ?_
      by_cases hp27 : r20.2 = true
      · rw [if_pos hp27] at hD
        refine x_gn (show _ = (V.bool (!r20.2)) from rfl) (bnot_t hp27) ?_
        refine x_pickf' (show _ = (V.bool (!r20.2)) from rfl) (bnot_t hp27) (show _ = (V.bool false) from rfl) ?_
        refine x_mv' (show _ = (V.bool false) from rfl) ?_
        refine x_gn (show _ = (V.bool false) from rfl) rfl ?_
        refine x_gn (show _ = (V.bool false) from rfl) rfl ?_
        refine x_pickf' (show _ = (V.bool false) from rfl) rfl (show _ = (V.bool false) from rfl) ?_
        refine x_mv' (show _ = (V.bool false) from rfl) ?_
        refine x_done ?_
        refine x_tN ?_
        refine x_retc ?_
        obtain rfl := Option.some.inj hD
        exact hR _ (ends_t (nf_of rfl (show _ = (V.bool false) from rfl)) (fun h => nomatch h))
      · rw [if_neg hp27] at hD
        refine x_gy (show _ = (V.bool (!r20.2)) from rfl) (bnot_f (Bool.eq_false_iff.2 hp27)) ?_
        obtain ⟨r29, hx30, hD⟩ := Option.bind_eq_some_iff.1 hD
        refine x_callF hC_path_Good (a := (([97, 47, 98] : Bytes))) (cons_eq (nf_of rfl (show _ = (V.str ([97, 47, 98] : Bytes)) from rfl)) rfl) hx30 fun v28 ov28 (hv28 : v28.nf = (V.bool r29)) hov28 => ?_
        refine x_pickt' (show _ = (V.bool (!r20.2)) from rfl) (bnot_f (Bool.eq_false_iff.2 hp27)) (nf_bool hv28) ?_
        refine x_mv' (show _ = (V.bool r29) from rfl) ?_
        by_cases hp31 : r29 = true
        · rw [if_pos hp31] at hD
          refine x_gy (show _ = (V.bool r29) from rfl) hp31 ?_
          obtain ⟨r33, hx34, hD⟩ := Option.bind_eq_some_iff.1 hD
          refine x_callF hC_path_Good (a := (([97, 47, 47, 98] : Bytes))) (cons_eq (nf_of rfl (show _ = (V.str ([97, 47, 47, 98] : Bytes)) from rfl)) rfl) hx34 fun v32 ov32 (hv32 : v32.nf = (V.bool r33)) hov32 => ?_
          refine x_gy (show _ = (V.bool r29) from rfl) hp31 ?_
          refine x_un (nf_bool hv32) (aun_not _) ?_
          refine x_pickt' (show _ = (V.bool r29) from rfl) hp31 (show _ = (V.bool (!r33)) from rfl) ?_
          refine x_mv' (show _ = (V.bool (!r33)) from rfl) ?_
          refine x_done ?_
          refine x_tN ?_
          refine x_retc ?_
          obtain rfl := Option.some.inj hD
          exact hR _ (ends_t (nf_of rfl (show _ = (V.bool (!r33)) from rfl)) (fun h => nomatch h))
        · rw [if_neg hp31] at hD
          refine x_gn (show _ = (V.bool r29) from rfl) (Bool.eq_false_iff.2 hp31) ?_
          refine x_gn (show _ = (V.bool r29) from rfl) (Bool.eq_false_iff.2 hp31) ?_
          refine x_pickf' (show _ = (V.bool r29) from rfl) (Bool.eq_false_iff.2 hp31) (show _ = (V.bool false) from rfl) ?_
          refine x_mv' (show _ = (V.bool false) from rfl) ?_
          refine x_done ?_
          refine x_tN ?_
          refine x_retc ?_
          obtain rfl := Option.some.inj hD
          exact hR _ (ends_t (nf_of rfl (show _ = (V.bool false) from rfl)) (fun h => nomatch h))
    · rw [if_neg hp26] at hD
      refine x_gn (show _ = (V.bool (decide (r8.1 = ([97, 47, 99, 47, 100] : Bytes)))) from rfl) (decide_eq_false hp26) ?_
      refine x_gn (show _ = (V.bool (decide (r8.1 = ([97, 47, 99, 47, 100] : Bytes)))) from rfl) (decide_eq_false hp26) ?_
      refine x_pickf' (show _ = (V.bool (decide (r8.1 = ([97, 47, 99, 47, 100] : Bytes)))) from rfl) (decide_eq_false hp26) (show _ = (V.bool false) from rfl) ?_
      refine x_mv' (show _ = (V.bool false) from rfl) ?_
      refine x_gn (show _ = (V.bool false) from rfl) rfl ?_
      refine x_pickf' (show _ = (V.bool false) from rfl) rfl (show _ = (V.bool false) from rfl) ?_
      refine x_mv' (show _ = (V.bool false) from rfl) ?_
      refine x_gn (show _ = (V.bool false) from rfl) rfl ?_
      refine x_gn (show _ = (V.bool false) from rfl) rfl ?_
      refine x_pickf' (show _ = (V.bool false) from rfl) rfl (show _ = (V.bool false) from rfl) ?_
      refine x_mv' (show _ = (V.bool false) from rfl) ?_
      refine x_done ?_
      refine x_tN ?_
      refine x_retc ?_
      obtain rfl := Option.some.inj hD
      exact hR _ (ends_t (nf_of rfl (show _ = (V.bool false) from rfl)) (fun h => nomatch h))
  · rw [if_neg hp25] at hD
    refine x_gn (show _ = (V.bool r8.2) from rfl) (Bool.eq_false_iff.2 hp25) ?_
    refine x_gn (show _ = (V.bool r8.2) from rfl) (Bool.eq_false_iff.2 hp25) ?_
    refine x_pickf' (show _ = (V.bool r8.2) from rfl) (Bool.eq_false_iff.2 hp25) (show _ = (V.bool false) from rfl) ?_
    refine x_mv' (show _ = (V.bool false) from rfl) ?_
    refine x_gn (show _ = (V.bool false) from rfl) rfl ?_
    refine x_gn (show _ = (V.bool false) from rfl) rfl ?_
    refine x_pickf' (show _ = (V.bool false) from rfl) rfl (show _ = (V.bool false) from rfl) ?_
    refine x_mv' (show _ = (V.bool false) from rfl) ?_
    refine x_gn (show _ = (V.bool false) from rfl) rfl ?_
    refine x_pickf' (show _ = (V.bool false) from rfl) rfl (show _ = (V.bool false) from rfl) ?_
    refine x_mv' (show _ = (V.bool false) from rfl) ?_
    refine x_gn (show _ = (V.bool false) from rfl) rfl ?_
    refine x_gn (show _ = (V.bool false) from rfl) rfl ?_
    refine x_pickf' (show _ = (V.bool false) from rfl) rfl (show _ = (V.bool false) from rfl) ?_
    refine x_mv' (show _ = (V.bool false) from rfl) ?_
    refine x_done ?_
    refine x_tN ?_
    refine x_retc ?_
    obtain rfl := Option.some.inj hD
    exact hR _ (ends_t (nf_of rfl (show _ = (V.bool false) from rfl)) (fun h => nomatch h))
def K.seichelaw06_alive : FC := fc F.seichelaw06_alive (fun _ => true) false (fun (a : Unit) => []) (fun (y : Bool) => (V.bool y)) (fun a => g.seichelaw06_alive)
  (fun a => rfl)
  (fun y => rfl)
  (fun _ _ _ => rfl)
theorem H.seichelaw06_alive (w : World) (hw : EnvOK w) : K.seichelaw06_alive.Holds (cxD w) :=
  FC.holds_of (cs := [K.path_From, K.path_Good]) (glD w) mixed cf_seichelaw06_alive (fun _ _ ⟨_, _, h, _⟩ => by subst h; exact Nat.le_of_ble_eq_true rfl) fun v y ⟨a, r, hv, hD, hy⟩ => by
    subst hy
    exact ok.seichelaw06_alive (specOf_calls (H.path_From w hw) (fun _ _ ⟨_, _, h, _⟩ => by subst h; rfl)) (specOf_calls (H.path_Good w hw) (fun _ _ ⟨_, _, h, _⟩ => by subst h; rfl)) hv hD
def c_seichelaw06_PathParts : ACode := (.seq (.region [
  ⟨(some 2), (.mv (.const (.bool false))), none, []⟩] false) (.seq (.seq (.region [
  ⟨(some 3), (.call F.seichelaw06_alive []), none, []⟩, 
  ⟨(some 4), (.un .not (.tmp 3)), none, []⟩] false) (.cond (.tmp 4) (.seq (.region [
  ⟨(some 2), (.mv (.const (.bool false))), none, []⟩] false) .ret) .skip)) (.seq (.seq (.region [
  ⟨(some 5), (.mv (.tmp 0)), none, []⟩, 
  ⟨(some 6), (.len true (.tmp 5)), none, []⟩, 
  ⟨(some 7), (.bin .gtr .no (.tmp 6) (.const (.int .i64 1024))), none, []⟩] false) (.cond (.tmp 7) (.seq (.region [
  ⟨(some 2), (.mv (.const (.bool true))), none, []⟩] false) .ret) .skip)) (.seq (.region [
  ⟨(some 8), (.mv (.tmp 0)), none, []⟩, 
  ⟨(some 9), (.call F.path_Good [(.tmp 8)]), none, []⟩, 
  ⟨(some 10), (.mv (.tmp 0)), none, []⟩, 
  ⟨(some 11), (.call F.seicheref06_Good [(.tmp 10)]), none, []⟩, 
  ⟨(some 12), (.bin .eql .bool (.tmp 9) (.tmp 11)), none, []⟩, 
  ⟨(some 13), (.mv (.tmp 12)), none, []⟩, 
  ⟨(some 14), (.mv (.tmp 0)), (some (13, true)), []⟩, 
  ⟨(some 15), (.call F.path_Split [(.tmp 14)]), (some (13, true)), []⟩, 
  ⟨(some 16), (.mv (.tmp 0)), (some (13, true)), []⟩, 
  ⟨(some 17), (.call F.seicheref06_Split [(.tmp 16)]), (some (13, true)), []⟩, 
  ⟨(some 18), (.call F.seicheref01_Same [(.tmp 15), (.tmp 17)]), (some (13, true)), []⟩, 
  ⟨(some 19), (.pick (.tmp 13) (.tmp 18) (.const (.bool false))), none, []⟩, 
  ⟨(some 20), (.mv (.tmp 19)), none, []⟩, 
  ⟨(some 21), (.mv (.tmp 0)), (some (20, true)), []⟩, 
  ⟨(some 22), (.call F.path_Dir [(.tmp 21)]), (some (20, true)), []⟩, 
  ⟨(some 23), (.mv (.tmp 0)), (some (20, true)), []⟩, 
  ⟨(some 24), (.call F.seicheref06_Dir [(.tmp 23)]), (some (20, true)), []⟩, 
  ⟨(some 25), (.bin .eql .no (.tmp 22) (.tmp 24)), (some (20, true)), []⟩, 
  ⟨(some 26), (.pick (.tmp 20) (.tmp 25) (.const (.bool false))), none, []⟩, 
  ⟨(some 27), (.mv (.tmp 26)), none, []⟩, 
  ⟨(some 28), (.mv (.tmp 0)), (some (27, true)), []⟩, 
  ⟨(some 29), (.call F.path_Base [(.tmp 28)]), (some (27, true)), []⟩, 
  ⟨(some 30), (.mv (.tmp 0)), (some (27, true)), []⟩, 
  ⟨(some 31), (.call F.seicheref06_Base [(.tmp 30)]), (some (27, true)), []⟩, 
  ⟨(some 32), (.bin .eql .no (.tmp 29) (.tmp 31)), (some (27, true)), []⟩, 
  ⟨(some 33), (.pick (.tmp 27) (.tmp 32) (.const (.bool false))), none, []⟩, 
  ⟨(some 2), (.mv (.tmp 33)), none, []⟩] false) .ret))))
theorem cf_seichelaw06_PathParts : cFn Go.Proofs.Tryd.prog F.seichelaw06_PathParts = some ⟨34, c_seichelaw06_PathParts, [.t 2]⟩ := by kernel_rfl
def g.seichelaw06_PathParts (p0 : Bytes) : Option Bool :=
  (g.seichelaw06_alive).bind fun r12 =>
  if r12 = true then
    if 1024 < ((p0.length : Nat) : Int) then
      some true
    else
      (g.path_Good p0).bind fun r18 =>
      (g.seicheref06_Good p0).bind fun r21 =>
      if (r18 == r21) = true then
        (g.path_Split p0).bind fun r25 =>
        (g.seicheref06_Split p0).bind fun r28 =>
        (g.seicheref01_Same r25 r28).bind fun r31 =>
        if r31 = true then
          (g.path_Dir p0).bind fun r35 =>
          (g.seicheref06_Dir p0).bind fun r38 =>
          if r35 = r38 then
            (g.path_Base p0).bind fun r42 =>
            (g.seicheref06_Base p0).bind fun r45 =>
            some (decide (r42 = r45))
          else
            some false
        else
          some false
      else
        some false
  else
    some false
theorem ok.seichelaw06_PathParts {Γ : Abs.Spec} {gl : Glob} (hC_seichelaw06_alive : CallsX Γ K.seichelaw06_alive) (hC_path_Good : CallsX Γ K.path_Good) (hC_seicheref06_Good : CallsX Γ K.seicheref06_Good) (hC_path_Split : CallsX Γ K.path_Split) (hC_seicheref06_Split : CallsX Γ K.seicheref06_Split) (hC_seicheref01_Same : CallsX Γ K.seicheref01_Same) (hC_path_Dir : CallsX Γ K.path_Dir) (hC_seicheref06_Dir : CallsX Γ K.seicheref06_Dir) (hC_path_Base : CallsX Γ K.path_Base) (hC_seicheref06_Base : CallsX Γ K.seicheref06_Base) {r : Bool} {p0 : Bytes} {v : List V}
    (hv : nfL v = [(V.str p0)]) (hD : g.seichelaw06_PathParts p0 = some r) : awp Γ gl c_seichelaw06_PathParts (endQ [.t 2] false (V.bool r)) (St.init v) := by
  obtain ⟨v0, v, rfl, h0, hv⟩ := nfL_cons hv
  obtain rfl := nfL_nil hv
  have hR : ∀ s, EndsX [.t 2] false (V.bool r) s → endQ [.t 2] false (V.bool r) .ret s := fun _ h => h
  unfold g.seichelaw06_PathParts at hD
  unfold c_seichelaw06_PathParts
  refine x_seq ?_
  refine x_start (b := false) ?_
  refine x_mv' (show _ = (V.bool false) from rfl) ?_
  refine x_done ?_
  refine x_tN ?_
  refine x_seq ?_
  refine x_seq ?_
  refine x_start (b := false) ?_
  obtain ⟨r12, hx13, hD⟩ := Option.bind_eq_some_iff.1 hD
  refine x_callF hC_seichelaw06_alive (a := ()) rfl hx13 fun v11 ov11 (hv11 : v11.nf = (V.bool r12)) hov11 => ?_
  refine x_un (nf_bool hv11) (aun_not _) ?_
  refine x_done ?_
  refine x_tN ?_
  by_cases hp14 : r12 = true
  · rw [if_pos hp14] at hD
    refine x_cf (show _ = (V.bool (!r12)) from rfl) (bnot_t hp14) ?_
    refine x_skip ?_
    refine x_tN ?_
    refine x_seq ?_
    refine x_seq ?_
    refine x_start (b := false) ?_
    refine x_mv' (nf_str h0) ?_
    refine x_lens (show _ = (V.str p0) from rfl) ?_
    refine x_bin (show _ = (V.int .i64 ((p0.length : Nat) : Int)) from rfl) (show _ = (V.int .i64 1024) from rfl) b_gtr ?_
    refine x_done ?_
    refine x_tN ?_
    by_cases hp16 : 1024 < ((p0.length : Nat) : Int)
    · rw [if_pos hp16] at hD
      refine x_ct (show _ = (V.bool (decide (1024 < ((p0.length : Nat) : Int)))) from rfl) (decide_eq_true hp16) ?_
      refine x_seq ?_
      refine x_start (b := false) ?_
      refine x_mv' (show _ = (V.bool true) from rfl) ?_
      refine x_done ?_
      refine x_tN ?_
      refine x_retc ?_
      refine x_tR ?_
      obtain rfl := Option.some.inj hD
      exact hR _ (ends_t (nf_of rfl (show _ = (V.bool true) from rfl)) (fun h => nomatch h))
    · rw [if_neg hp16] at hD
      refine x_cf (show _ = (V.bool (decide (1024 < ((p0.length : Nat) : Int)))) from rfl) (decide_eq_false hp16) ?_
      refine x_skip ?_
      refine x_tN ?_
      refine x_seq ?_
      refine x_start (b := false) ?_
      refine x_mv' (nf_str h0) ?_
      obtain ⟨r18, hx19, hD⟩ := Option.bind_eq_some_iff.1 hD
      refine x_callF hC_path_Good (a := (p0)) (cons_eq (nf_of rfl (show _ = (V.str p0) from rfl)) rfl) hx19 fun v17 ov17 (hv17 : v17.nf = (V.bool r18)) hov17 => ?_
      refine x_mv' (nf_str h0) ?_
      obtain ⟨r21, hx22, hD⟩ := Option.bind_eq_some_iff.1 hD
      refine x_callF hC_seicheref06_Good (a := (p0)) (cons_eq (nf_of rfl (show _ = (V.str p0) from rfl)) rfl) hx22 fun v20 ov20 (hv20 : v20.nf = (V.bool r21)) hov20 => ?_
      refine x_bin (nf_bool hv17) (nf_bool hv20) bool_eql ?_
      refine x_mv' (show _ = (V.bool (r18 == r21)) from rfl) ?_
      by_cases hp23 : (r18 == r21) = true
      · rw [if_pos hp23] at hD
        refine x_gy (show _ = (V.bool (r18 == r21)) from rfl) hp23 ?_
        refine x_mv' (nf_str h0) ?_
        refine x_gy (show _ = (V.bool (r18 == r21)) from rfl) hp23 ?_
        obtain ⟨r25, hx26, hD⟩ := Option.bind_eq_some_iff.1 hD
        refine x_callF hC_path_Split (a := (p0)) (cons_eq (nf_of rfl (show _ = (V.str p0) from rfl)) rfl) hx26 fun v24 ov24 (hv24 : v24.nf = (V.sl false 1 (List.map V.str r25))) hov24 => ?_
        refine x_gy (show _ = (V.bool (r18 == r21)) from rfl) hp23 ?_
        refine x_mv' (nf_str h0) ?_
        refine x_gy (show _ = (V.bool (r18 == r21)) from rfl) hp23 ?_
        obtain ⟨r28, hx29, hD⟩ := Option.bind_eq_some_iff.1 hD
        refine x_callF hC_seicheref06_Split (a := (p0)) (cons_eq (nf_of rfl (show _ = (V.str p0) from rfl)) rfl) hx29 fun v27 ov27 (hv27 : v27.nf = (V.sl false 1 (List.map V.str r28))) hov27 => ?_
        refine x_gy (show _ = (V.bool (r18 == r21)) from rfl) hp23 ?_
        obtain ⟨r31, hx32, hD⟩ := Option.bind_eq_some_iff.1 hD
        refine x_callF hC_seicheref01_Same (a := (r25, r28)) (cons_eq hv24 (cons_eq hv27 rfl)) hx32 fun v30 ov30 (hv30 : v30.nf = (V.bool r31)) hov30 => ?_
        refine x_pickt' (show _ = (V.bool (r18 == r21)) from rfl) hp23 (nf_bool hv30) ?_
        refine x_mv' (show _ = (V.bool r31) from rfl) ?_
        by_cases hp33 : r31 = true
        · rw [if_pos hp33] at hD
          refine x_gy (show _ = (V.bool r31) from rfl) hp33 ?_
          refine x_mv' (nf_str h0) ?_
          refine x_gy (show _ = (V.bool r31) from rfl) hp33 ?_
          obtain ⟨r35, hx36, hD⟩ := Option.bind_eq_some_iff.1 hD
          refine x_callF hC_path_Dir (a := (p0)) (cons_eq (nf_of rfl (show _ = (V.str p0) from rfl)) rfl) hx36 fun v34 ov34 (hv34 : v34.nf = (V.str r35)) hov34 => ?_
          refine x_gy (show _ = (V.bool r31) from rfl) hp33 ?_
          refine x_mv' (nf_str h0) ?_
          refine x_gy (show _ = (V.bool r31) from rfl) hp33 ?_
          obtain ⟨r38, hx39, hD⟩ := Option.bind_eq_some_iff.1 hD
          refine x_callF hC_seicheref06_Dir (a := (p0)) (cons_eq (nf_of rfl (show _ = (V.str p0) from rfl)) rfl) hx39 fun v37 ov37 (hv37 : v37.nf = (V.str r38)) hov37 => ?_
          refine x_gy (show _ = (V.bool r31) from rfl) hp33 ?_
          refine x_bin (nf_str hv34) (nf_str hv37) s_eql ?_
          refine x_pickt' (show _ = (V.bool r31) from rfl) hp33 (show _ = (V.bool (decide (r35 = r38))) from rfl) ?_
          refine x_mv' (show _ = (V.bool (decide (r35 = r38))) from rfl) ?_
          by_cases hp40 : r35 = r38
          · rw [if_pos hp40] at hD
            refine x_gy (show _ = (V.bool (decide (r35 = r38))) from rfl) (decide_eq_true hp40) ?_
            refine x_mv' (nf_str h0) ?_
            refine x_gy (show _ = (V.bool (decide (r35 = r38))) from rfl) (decide_eq_true hp40) ?_
            obtain ⟨r42, hx43, hD⟩ := Option.bind_eq_some_iff.1 hD
            refine x_callF hC_path_Base (a := (p0)) (cons_eq (nf_of rfl (show _ = (V.str p0) from rfl)) rfl) hx43 fun v41 ov41 (hv41 : v41.nf = (V.str r42)) hov41 => ?_
            refine x_gy (show _ = (V.bool (decide (r35 = r38))) from rfl) (decide_eq_true hp40) ?_
            refine x_mv' (nf_str h0) ?_
            refine x_gy (show _ = (V.bool (decide (r35 = r38))) from rfl) (decide_eq_true hp40) ?_
            obtain ⟨r45, hx46, hD⟩ := Option.bind_eq_some_iff.1 hD
            refine x_callF hC_seicheref06_Base (a := (p0)) (cons_eq (nf_of rfl (show _ = (V.str p0) from rfl)) rfl) hx46 fun v44 ov44 (hv44 : v44.nf = (V.str r45)) hov44 => ?_
            refine x_gy (show _ = (V.bool (decide (r35 = r38))) from rfl) (decide_eq_true hp40) ?_
            refine x_bin (nf_str hv41) (nf_str hv44) s_eql ?_
            refine x_pickt' (show _ = (V.bool (decide (r35 = r38))) from rfl) (decide_eq_true hp40) (show _ = (V.bool (decide (r42 = r45))) from rfl) ?_
            refine x_mv' (show _ = (V.bool (decide (r42 = r45))) from rfl) ?_
            refine x_done ?_
            refine x_tN ?_
            refine x_retc ?_
            obtain rfl := Option.some.inj hD
            exact hR _ (ends_t (nf_of rfl (show _ = (V.bool (decide (r42 = r45))) from rfl)) (fun h => nomatch h))
          · rw [if_neg hp40] at hD
            refine x_gn (show _ = (V.bool (decide (r35 = r38))) from rfl) (decide_eq_false hp40) ?_
            refine x_gn (show _ = (V.bool (decide (r35 = r38))) from rfl) (decide_eq_false hp40) ?_
            refine x_gn (show _ = (V.bool (decide (r35 = r38))) from rfl) (decide_eq_false hp40) ?_
            refine x_gn (show _ = (V.bool (decide (r35 = r38))) from rfl) (decide_eq_false hp40) ?_
            refine x_gn (show _ = (V.bool (decide (r35 = r38))) from rfl) (decide_eq_false hp40) ?_
            refine x_pickf' (show _ = (V.bool (decide (r35 = r38))) from rfl) (decide_eq_false hp40) (show _ = (V.bool false) from rfl) ?_
            refine x_mv' (show _ = (V.bool false) from rfl) ?_
            refine x_done ?_
            refine x_tN ?_
            refine x_retc ?_
            obtain rfl := Option.some.inj hD
            exact hR _ (ends_t (nf_of rfl (show _ = (V.bool false) from rfl)) (fun h => nomatch h))
        · rw [if_neg hp33] at hD
          refine x_gn (show _ = (V.bool r31) from rfl) (Bool.eq_false_iff.2 hp33) ?_
          refine x_gn (show _ = (V.bool r31) from rfl) (Bool.eq_false_iff.2 hp33) ?_
          refine x_gn (show _ = (V.bool r31) from rfl) (Bool.eq_false_iff.2 hp33) ?_
          refine x_gn (show _ = (V.bool r31) from rfl) (Bool.eq_false_iff.2 hp33) ?_
          refine x_gn (show _ = (V.bool r31) from rfl) (Bool.eq_false_iff.2 hp33) ?_
          refine x_pickf' (show _ = (V.bool r31) from rfl) (Bool.eq_false_iff.2 hp33) (show _ = (V.bool false) from rfl) ?_
          refine x_mv' (show _ = (V.bool false) from rfl) ?_
          refine x_gn (show _ = (V.bool false) from rfl) rfl ?_
          refine x_gn (show _ = (V.bool false) from rfl) rfl ?_
          refine x_gn (show _ = (V.bool false) from rfl) rfl ?_
          refine x_gn (show _ = (V.bool false) from rfl) rfl ?_
          refine x_gn (show _ = (V.bool false) from rfl) rfl ?_
          refine x_pickf' (show _ = (V.bool false) from rfl) rfl (show _ = (V.bool false) from rfl) ?_
          refine x_mv' (show _ = (V.bool false) from rfl) ?_
          refine x_done ?_
          refine x_tN ?_
          refine x_retc ?_
          obtain rfl := Option.some.inj hD
          exact hR _ (ends_t (nf_of rfl (show _ = (V.bool false) from rfl)) (fun h => nomatch h))
      · rw [if_neg hp23] at hD
        refine x_gn (show _ = (V.bool (r18 == r21)) from rfl) (Bool.eq_false_iff.2 hp23) ?_
        refine x_gn (show _ = (V.bool (r18 == r21)) from rfl) (Bool.eq_false_iff.2 hp23) ?_
        refine x_gn (show _ = (V.bool (r18 == r21)) from rfl) (Bool.eq_false_iff.2 hp23) ?_
        refine x_gn (show _ = (V.bool (r18 == r21)) from rfl) (Bool.eq_false_iff.2 hp23) ?_
        refine x_gn (show _ = (V.bool (r18 == r21)) from rfl) (Bool.eq_false_iff.2 hp23) ?_
        refine x_pickf' (show _ = (V.bool (r18 == r21)) from rfl) (Bool.eq_false_iff.2 hp23) (show _ = (V.bool false) from rfl) ?_
        refine x_mv' (show _ = (V.bool false) from rfl) ?_
        refine x_gn (show _ = (V.bool false) from rfl) rfl ?_
        refine x_gn (show _ = (V.bool false) from rfl) rfl ?_
        refine x_gn (show _ = (V.bool false) from rfl) rfl ?_
        refine x_gn (show _ = (V.bool false) from rfl) rfl ?_
        refine x_gn (show _ = (V.bool false) from rfl) rfl ?_
        refine x_pickf' (show _ = (V.bool false) from rfl) rfl (show _ = (V.bool false) from rfl) ?_
        refine x_mv' (show _ = (V.bool false) from rfl) ?_
        refine x_gn (show _ = (V.bool false) from rfl) rfl ?_
        refine x_gn (show _ = (V.bool false) from rfl) rfl ?_
        refine x_gn (show _ = (V.bool false) from rfl) rfl ?_
        refine x_gn (show _ = (V.bool false) from rfl) rfl ?_
        refine x_gn (show _ = (V.bool false) from rfl) rfl ?_
        refine x_pickf' (show _ = (V.bool false) from rfl) rfl (show _ = (V.bool false) from rfl) ?_
        refine x_mv' (show _ = (V.bool false) from rfl) ?_
        refine x_done ?_
        refine x_tN ?_
        refine x_retc ?_
        obtain rfl := Option.some.inj hD
        exact hR _ (ends_t (nf_of rfl (show _ = (V.bool false) from rfl)) (fun h => nomatch h))
  · rw [if_neg hp14] at hD
    refine x_ct (show _ = (V.bool (!r12)) from rfl) (bnot_f (Bool.eq_false_iff.2 hp14)) ?_
    refine x_seq ?_
    refine x_start (b := false) ?_
    refine x_mv' (show _ = (V.bool false) from rfl) ?_
    refine x_done ?_
    refine x_tN ?_
    refine x_retc ?_
    refine x_tR ?_
    obtain rfl := Option.some.inj hD
    exact hR _ (ends_t (nf_of rfl (show _ = (V.bool false) from rfl)) (fun h => nomatch h))
def K.seichelaw06_PathParts : FC := fc F.seichelaw06_PathParts (fun _ => true) false (fun (a : Bytes) => [(V.str a)]) (fun (y : Bool) => (V.bool y)) (fun a => g.seichelaw06_PathParts a)
  (fun a => (cleanL_mk rfl rfl))
  (fun y => rfl)
  (fun a0 b0 h => by
    obtain ⟨h0, h⟩ := List.cons.inj h
    obtain rfl : a0 = b0 := V.str.inj h0
    rfl)
theorem H.seichelaw06_PathParts (w : World) (hw : EnvOK w) : K.seichelaw06_PathParts.Holds (cxD w) :=
  FC.holds_of (cs := [K.seichelaw06_alive, K.path_Good, K.seicheref06_Good, K.path_Split, K.seicheref06_Split, K.seicheref01_Same, K.path_Dir, K.seicheref06_Dir, K.path_Base, K.seicheref06_Base]) (glD w) mixed cf_seichelaw06_PathParts (fun _ _ ⟨_, _, h, _⟩ => by subst h; exact Nat.le_of_ble_eq_true rfl) fun v y ⟨a, r, hv, hD, hy⟩ => by
    subst hy
    exact ok.seichelaw06_PathParts (specOf_calls (H.seichelaw06_alive w hw) (fun _ _ ⟨_, _, h, _⟩ => by subst h; rfl)) (specOf_calls (H.path_Good w hw) (fun _ _ ⟨_, _, h, _⟩ => by subst h; rfl)) (specOf_calls (H.seicheref06_Good w hw) (fun _ _ ⟨_, _, h, _⟩ => by subst h; rfl)) (specOf_calls (H.path_Split w hw) (fun _ _ ⟨_, _, h, _⟩ => by subst h; rfl)) (specOf_calls (H.seicheref06_Split w hw) (fun _ _ ⟨_, _, h, _⟩ => by subst h; rfl)) (specOf_calls (H.seicheref01_Same w hw) (fun _ _ ⟨_, _, h, _⟩ => by subst h; rfl)) (specOf_calls (H.path_Dir w hw) (fun _ _ ⟨_, _, h, _⟩ => by subst h; rfl)) (specOf_calls (H.seicheref06_Dir w hw) (fun _ _ ⟨_, _, h, _⟩ => by subst h; rfl)) (specOf_calls (H.path_Base w hw) (fun _ _ ⟨_, _, h, _⟩ => by subst h; rfl)) (specOf_calls (H.seicheref06_Base w hw) (fun _ _ ⟨_, _, h, _⟩ => by subst h; rfl)) hv hD
def c_seichelaw06_PathJoins_l1 : ACode := (.seq (.region [
  ⟨(some 24), (.bin .lss .no (.tmp 23) (.tmp 22)), none, []⟩] false) (.seq (.cond (.tmp 24) .skip (.exit 0)) (.seq (.block 1 (.seq (.region [
  ⟨(some 25), (.iaddr 1 (.tmp 21) (.tmp 23)), none, []⟩, 
  ⟨(some 26), (.load none (.tmp 25)), none, []⟩, 
  ⟨(some 9), (.mv (.tmp 26)), none, []⟩] false) (.seq (.region [
  ⟨(some 27), (.mv (.tmp 7)), none, []⟩, 
  ⟨(some 28), (.mv (.tmp 9)), none, []⟩, 
  ⟨(some 29), (.len true (.tmp 28)), none, []⟩, 
  ⟨(some 30), (.bin .add .no (.tmp 27) (.tmp 29)), none, []⟩, 
  ⟨(some 7), (.mv (.tmp 30)), none, []⟩] false) (.seq (.region [
  ⟨(some 31), (.mv (.tmp 7)), none, []⟩, 
  ⟨(some 32), (.bin .gtr .no (.tmp 31) (.const (.int .i64 1024))), none, []⟩, 
  ⟨(some 33), (.mv (.tmp 32)), none, []⟩, 
  ⟨(some 34), (.mv (.tmp 0)), (some (33, false)), []⟩, 
  ⟨(some 35), (.len false (.tmp 34)), (some (33, false)), []⟩, 
  ⟨(some 36), (.bin .gtr .no (.tmp 35) (.const (.int .i64 60))), (some (33, false)), []⟩, 
  ⟨(some 37), (.pick (.tmp 33) (.const (.bool true)) (.tmp 36)), none, []⟩] false) (.cond (.tmp 37) (.seq (.region [
  ⟨(some 6), (.mv (.const (.bool true))), none, []⟩] false) .ret) .skip))))) (.region [
  ⟨(some 38), (.bin .add .no (.tmp 23) (.const (.int .i64 1))), none, []⟩, 
  ⟨(some 23), (.mv (.tmp 38)), none, []⟩] false))))
def c_seichelaw06_PathJoins : ACode := (.seq (.region [
  ⟨(some 6), (.mv (.const (.bool false))), none, []⟩] false) (.seq (.seq (.region [
  ⟨(some 14), (.call F.seichelaw06_alive []), none, []⟩, 
  ⟨(some 15), (.un .not (.tmp 14)), none, []⟩] false) (.cond (.tmp 15) (.seq (.region [
  ⟨(some 6), (.mv (.const (.bool false))), none, []⟩] false) .ret) .skip)) (.seq (.region [
  ⟨(some 16), (.mv (.tmp 1)), none, []⟩, 
  ⟨(some 17), (.len true (.tmp 16)), none, []⟩, 
  ⟨(some 18), (.mv (.tmp 2)), none, []⟩, 
  ⟨(some 19), (.len true (.tmp 18)), none, []⟩, 
  ⟨(some 20), (.bin .add .no (.tmp 17) (.tmp 19)), none, []⟩, 
  ⟨(some 7), (.mv (.tmp 20)), none, []⟩] false) (.seq (.seq (.region [
  ⟨(some 21), (.mv (.tmp 0)), none, []⟩, 
  ⟨(some 22), (.len false (.tmp 21)), none, []⟩, 
  ⟨(some 23), (.mv (.const (.int .i64 0))), none, []⟩] false) (.block 0 (.loop c_seichelaw06_PathJoins_l1))) (.seq (.seq (.region [
  ⟨(some 39), (.mv (.tmp 7)), none, []⟩, 
  ⟨(some 40), (.bin .gtr .no (.tmp 39) (.const (.int .i64 1024))), none, []⟩] false) (.cond (.tmp 40) (.seq (.region [
  ⟨(some 6), (.mv (.const (.bool true))), none, []⟩] false) .ret) .skip)) (.seq (.region [
  ⟨(some 42), (.mv (.tmp 1)), none, []⟩, 
  ⟨(some 43), (.mv (.tmp 2)), none, []⟩, 
  ⟨(some 44), (.call F.path_Under [(.tmp 42), (.tmp 43)]), none, []⟩, 
  ⟨(some 41), (.mv (.tmp 44)), none, []⟩, 
  ⟨(some 45), (.ext (.tmp 41) 0), none, []⟩, 
  ⟨(some 46), (.ext (.tmp 41) 1), none, []⟩, 
  ⟨(some 10), (.mv (.tmp 45)), none, []⟩, 
  ⟨(some 11), (.mv (.tmp 46)), none, []⟩] false) (.seq (.region [
  ⟨(some 48), (.mv (.tmp 1)), none, []⟩, 
  ⟨(some 49), (.mv (.tmp 2)), none, []⟩, 
  ⟨(some 50), (.call F.seicheref06_Under [(.tmp 48), (.tmp 49)]), none, []⟩, 
  ⟨(some 47), (.mv (.tmp 50)), none, []⟩, 
  ⟨(some 51), (.ext (.tmp 47) 0), none, []⟩, 
  ⟨(some 52), (.ext (.tmp 47) 1), none, []⟩, 
  ⟨(some 12), (.mv (.tmp 51)), none, []⟩, 
  ⟨(some 13), (.mv (.tmp 52)), none, []⟩] false) (.seq (.region [
  ⟨(some 53), (.mv (.tmp 0)), none, []⟩, 
  ⟨(some 54), (.call F.path_Join [(.tmp 53)]), none, []⟩, 
  ⟨(some 55), (.mv (.tmp 0)), none, []⟩, 
  ⟨(some 56), (.call F.seicheref06_Join [(.tmp 55)]), none, []⟩, 
  ⟨(some 57), (.bin .eql .no (.tmp 54) (.tmp 56)), none, []⟩, 
  ⟨(some 58), (.mv (.tmp 57)), none, []⟩, 
  ⟨(some 59), (.mv (.tmp 11)), (some (58, true)), []⟩, 
  ⟨(some 60), (.mv (.tmp 13)), (some (58, true)), []⟩, 
  ⟨(some 61), (.bin .eql .bool (.tmp 59) (.tmp 60)), (some (58, true)), []⟩, 
  ⟨(some 62), (.pick (.tmp 58) (.tmp 61) (.const (.bool false))), none, []⟩, 
  ⟨(some 63), (.mv (.tmp 62)), none, []⟩, 
  ⟨(some 64), (.mv (.tmp 11)), (some (63, true)), []⟩, 
  ⟨(some 65), (.un .not (.tmp 64)), (some (63, true)), []⟩, 
  ⟨(some 66), (.mv (.tmp 65)), (some (63, true)), []⟩, 
  ⟨(some 67), (.mv (.tmp 10)), (some (66, false)), []⟩, 
  ⟨(some 68), (.mv (.tmp 12)), (some (66, false)), []⟩, 
  ⟨(some 69), (.bin .eql .no (.tmp 67) (.tmp 68)), (some (66, false)), []⟩, 
  ⟨(some 70), (.pick (.tmp 66) (.const (.bool true)) (.tmp 69)), (some (63, true)), []⟩, 
  ⟨(some 71), (.pick (.tmp 63) (.tmp 70) (.const (.bool false))), none, []⟩, 
  ⟨(some 6), (.mv (.tmp 71)), none, []⟩] false) .ret))))))))
theorem cf_seichelaw06_PathJoins : cFn Go.Proofs.Tryd.prog F.seichelaw06_PathJoins = some ⟨72, c_seichelaw06_PathJoins, [.t 6]⟩ := by kernel_rfl
def L.seichelaw06_PathJoins_l1 (l45 : List Bytes) (k0 : Int → Option Bool) : List Bytes → Int → Option Bool
  | [], t7_70 =>
    k0 t7_70
  | a76 :: rest, t7_70 =>
    if 1024 < (wi (t7_70 + ((a76.length : Nat) : Int))) then
      some true
    else
      if 60 < ((l45.length : Nat) : Int) then
        some true
      else
        L.seichelaw06_PathJoins_l1 l45 k0 rest (wi (t7_70 + ((a76.length : Nat) : Int)))
theorem ok.seichelaw06_PathJoins_l1 {Γ : Abs.Spec} {gl : Glob} (hC_seichelaw06_alive : CallsX Γ K.seichelaw06_alive) (hC_path_Under : CallsX Γ K.path_Under) (hC_seicheref06_Under : CallsX Γ K.seicheref06_Under) (hC_path_Join : CallsX Γ K.path_Join) (hC_seicheref06_Join : CallsX Γ K.seicheref06_Join) {Q : Ex → St → Prop} {r : Bool} {t1_47 : Bytes} {t2_48 : Bytes} {l45 : List Bytes} {k0 : Int → Option Bool}
    (hk0 : ∀ (s : St) (t7_95 : Int), ((s.tm 0).nf = (V.sl false 1 (List.map V.str l45))) → (s.tm 1 = (V.str t1_47)) → (s.tm 2 = (V.str t2_48)) → (s.tm 7 = (V.int .i64 t7_95)) → k0 t7_95 = some r → Q (.exit 0) s)
    (hR : ∀ s, EndsX [.t 6] false (V.bool r) s → Q .ret s)
    (hlen : l45.length ≤ Lim) : ∀ (rest : List Bytes) (k46 : Nat) (s : St) (t7_70 : Int), l45.drop k46 = rest → k46 ≤ l45.length →
    ((s.tm 21).nf = V.sl false 1 (List.map V.str l45)) → (s.tm 22 = V.int .i64 ((l45.length : Nat) : Int)) → (s.tm 23 = V.int .i64 ((k46 : Nat) : Int)) → ((s.tm 0).nf = (V.sl false 1 (List.map V.str l45))) → (s.tm 1 = (V.str t1_47)) → (s.tm 2 = (V.str t2_48)) → (s.tm 7 = (V.int .i64 t7_70)) →
    L.seichelaw06_PathJoins_l1 l45 k0 rest t7_70 = some r → awp Γ gl (.loop c_seichelaw06_PathJoins_l1) Q s := by
  intro rest
  induction rest with
  | nil =>
    intro k46 s t7_70 hdrop hkl hX hN hI h66 h67 h68 h69 hD
    have hkz := drop_nil hdrop hkl
    have hp0 : ¬ (((k46 : Nat) : Int) < ((l45.length : Nat) : Int)) := by omega
    refine awp_roundK fun K hK => ?_
    rw [L.seichelaw06_PathJoins_l1] at hD
    refine x_seq ?_
    refine x_start (b := false) ?_
    refine x_bin hI hN b_lss ?_
    refine x_done ?_
    refine x_tN ?_
    refine x_seq ?_
    refine x_cf (show _ = (V.bool (decide (((k46 : Nat) : Int) < ((l45.length : Nat) : Int)))) from rfl) (decide_eq_false hp0) ?_
    refine x_exitc ?_
    refine x_tE ?_
    refine x_tE ?_
    refine hk0 _ _ ?_ ?_ ?_ ?_ hD
    · exact h66
    · exact h67
    · exact h68
    · exact h69
  | cons a76 rest ih =>
    intro k46 s t7_70 hdrop hkl hX hN hI h66 h67 h68 h69 hD
    obtain ⟨hlt, -, hget, hdrop1, -⟩ := drop_cons hdrop
    have hp1 : ((k46 : Nat) : Int) < ((l45.length : Nat) : Int) := by omega
    have hwk := wi_succ (k := k46) (by unfold Lim at hlen; omega)
    refine awp_roundK fun K hK => ?_
    rw [L.seichelaw06_PathJoins_l1] at hD
    refine x_seq ?_
    refine x_start (b := false) ?_
    refine x_bin hI hN b_lss ?_
    refine x_done ?_
    refine x_tN ?_
    refine x_seq ?_
    refine x_ct (show _ = (V.bool (decide (((k46 : Nat) : Int) < ((l45.length : Nat) : Int)))) from rfl) (decide_eq_true hp1) ?_
    refine x_skip ?_
    refine x_tN ?_
    refine x_seq ?_
    refine x_block ?_
    refine x_seq ?_
    refine x_start (b := false) ?_
    refine x_iaddr hX hI (at_k hget) fun v79 (hv79 : v79.nf = V.el [(V.str a76)] 0) => ?_
    refine x_load_el hv79 (show _ = some (V.str a76) from rfl) fun v80 hv80 => ?_
    refine x_mv' (nf_str hv80) ?_
    refine x_done ?_
    refine x_tN ?_
    refine x_seq ?_
    refine x_start (b := false) ?_
    refine x_mv' h69 ?_
    refine x_mv' (show _ = (V.str a76) from rfl) ?_
    refine x_lens (show _ = (V.str a76) from rfl) ?_
    refine x_bin (show _ = (V.int .i64 t7_70) from rfl) (show _ = (V.int .i64 ((a76.length : Nat) : Int)) from rfl) b_add ?_
    refine x_mv' (show _ = (V.int .i64 (wi (t7_70 + ((a76.length : Nat) : Int)))) from rfl) ?_
    refine x_done ?_
    refine x_tN ?_
    refine x_seq ?_
    refine x_start (b := false) ?_
    refine x_mv' (show _ = (V.int .i64 (wi (t7_70 + ((a76.length : Nat) : Int)))) from rfl) ?_
    refine x_bin (show _ = (V.int .i64 (wi (t7_70 + ((a76.length : Nat) : Int)))) from rfl) (show _ = (V.int .i64 1024) from rfl) b_gtr ?_
    refine x_mv' (show _ = (V.bool (decide (1024 < (wi (t7_70 + ((a76.length : Nat) : Int)))))) from rfl) ?_
    by_cases hp83 : 1024 < (wi (t7_70 + ((a76.length : Nat) : Int)))
    · rw [if_pos hp83] at hD
      refine x_gn (show _ = (V.bool (decide (1024 < (wi (t7_70 + ((a76.length : Nat) : Int)))))) from rfl) (decide_eq_true hp83) ?_
      refine x_gn (show _ = (V.bool (decide (1024 < (wi (t7_70 + ((a76.length : Nat) : Int)))))) from rfl) (decide_eq_true hp83) ?_
      refine x_gn (show _ = (V.bool (decide (1024 < (wi (t7_70 + ((a76.length : Nat) : Int)))))) from rfl) (decide_eq_true hp83) ?_
      refine x_pickt' (show _ = (V.bool (decide (1024 < (wi (t7_70 + ((a76.length : Nat) : Int)))))) from rfl) (decide_eq_true hp83) (show _ = (V.bool true) from rfl) ?_
      refine x_done ?_
      refine x_tN ?_
      refine x_ct (show _ = (V.bool true) from rfl) rfl ?_
      refine x_seq ?_
      refine x_start (b := false) ?_
      refine x_mv' (show _ = (V.bool true) from rfl) ?_
      refine x_done ?_
      refine x_tN ?_
      refine x_retc ?_
      refine x_bR ?_
      refine x_tR ?_
      refine x_tR ?_
      obtain rfl := Option.some.inj hD
      exact hR _ (ends_t (nf_of rfl (show _ = (V.bool true) from rfl)) (fun h => nomatch h))
    · rw [if_neg hp83] at hD
      refine x_gy (show _ = (V.bool (decide (1024 < (wi (t7_70 + ((a76.length : Nat) : Int)))))) from rfl) (decide_eq_false hp83) ?_
      refine x_mv h66 fun v84 hv84 => ?_
      refine x_gy (show _ = (V.bool (decide (1024 < (wi (t7_70 + ((a76.length : Nat) : Int)))))) from rfl) (decide_eq_false hp83) ?_
      refine x_len hv84 ?_
      refine x_gy (show _ = (V.bool (decide (1024 < (wi (t7_70 + ((a76.length : Nat) : Int)))))) from rfl) (decide_eq_false hp83) ?_
      refine x_bin (show _ = (V.int .i64 ((l45.length : Nat) : Int)) from rfl) (show _ = (V.int .i64 60) from rfl) b_gtr ?_
      refine x_pickf' (show _ = (V.bool (decide (1024 < (wi (t7_70 + ((a76.length : Nat) : Int)))))) from rfl) (decide_eq_false hp83) (show _ = (V.bool (decide (60 < ((l45.length : Nat) : Int)))) from rfl) ?_
      refine x_done ?_
      refine x_tN ?_
      by_cases hp85 : 60 < ((l45.length : Nat) : Int)
      · rw [if_pos hp85] at hD
        refine x_ct (show _ = (V.bool (decide (60 < ((l45.length : Nat) : Int)))) from rfl) (decide_eq_true hp85) ?_
        refine x_seq ?_
        refine x_start (b := false) ?_
        refine x_mv' (show _ = (V.bool true) from rfl) ?_
        refine x_done ?_
        refine x_tN ?_
        refine x_retc ?_
        refine x_bR ?_
        refine x_tR ?_
        refine x_tR ?_
        obtain rfl := Option.some.inj hD
        exact hR _ (ends_t (nf_of rfl (show _ = (V.bool true) from rfl)) (fun h => nomatch h))
      · rw [if_neg hp85] at hD
        refine x_cf (show _ = (V.bool (decide (60 < ((l45.length : Nat) : Int)))) from rfl) (decide_eq_false hp85) ?_
        refine x_skip ?_
        refine x_bN ?_
        refine x_tN ?_
        refine x_start (b := false) ?_
        refine x_bin hI (show _ = (V.int .i64 1) from rfl) b_add ?_
        refine x_mv' (show _ = (V.int .i64 (wi (((k46 : Nat) : Int) + 1))) from rfl) ?_
        refine x_done ?_
        refine x_tN ?_
        refine hK _ ?_
        refine ih (k46 + 1) _ _ hdrop1 hlt ?_ ?_ ?_ ?_ ?_ ?_ ?_ hD
        · exact hX
        · exact hN
        · exact (Eq.trans (show _ = (V.int .i64 (wi (((k46 : Nat) : Int) + 1))) from rfl) (congrArg (V.int .i64) hwk))
        · exact h66
        · exact h67
        · exact h68
        · exact (show _ = (V.int .i64 (wi (t7_70 + ((a76.length : Nat) : Int)))) from rfl)
def g.seichelaw06_PathJoins (p0 : (List Bytes)) (p1 : Bytes) (p2 : Bytes) : Option Bool :=
  (g.seichelaw06_alive).bind fun r12 =>
  if r12 = true then
    if p0.length ≤ Lim then L.seichelaw06_PathJoins_l1 p0 (fun (t7_100 : Int) => if 1024 < t7_100 then
      some true
    else
      (g.path_Under p1 p2).bind fun r110 =>
      (g.seicheref06_Under p1 p2).bind fun r122 =>
      (g.path_Join p0).bind fun r129 =>
      (g.seicheref06_Join p0).bind fun r133 =>
      if r129 = r133 then
        if (r110.2 == r122.2) = true then
          if r110.2 = true then
            some (decide (r110.1 = r122.1))
          else
            some true
        else
          some false
      else
        some false) p0 (wi (((p1.length : Nat) : Int) + ((p2.length : Nat) : Int))) else none
  else
    some false
theorem ok.seichelaw06_PathJoins {Γ : Abs.Spec} {gl : Glob} (hC_seichelaw06_alive : CallsX Γ K.seichelaw06_alive) (hC_path_Under : CallsX Γ K.path_Under) (hC_seicheref06_Under : CallsX Γ K.seicheref06_Under) (hC_path_Join : CallsX Γ K.path_Join) (hC_seicheref06_Join : CallsX Γ K.seicheref06_Join) {r : Bool} {p0 : (List Bytes)} {p1 : Bytes} {p2 : Bytes} {v : List V}
    (hv : nfL v = [(V.sl false 1 (List.map V.str p0)), (V.str p1), (V.str p2)]) (hD : g.seichelaw06_PathJoins p0 p1 p2 = some r) : awp Γ gl c_seichelaw06_PathJoins (endQ [.t 6] false (V.bool r)) (St.init v) := by
  obtain ⟨v0, v, rfl, h0, hv⟩ := nfL_cons hv
  obtain ⟨v1, v, rfl, h1, hv⟩ := nfL_cons hv
  obtain ⟨v2, v, rfl, h2, hv⟩ := nfL_cons hv
  obtain rfl := nfL_nil hv
  have hR : ∀ s, EndsX [.t 6] false (V.bool r) s → endQ [.t 6] false (V.bool r) .ret s := fun _ h => h
  unfold g.seichelaw06_PathJoins at hD
  unfold c_seichelaw06_PathJoins
  refine x_seq ?_
  refine x_start (b := false) ?_
  refine x_mv' (show _ = (V.bool false) from rfl) ?_
  refine x_done ?_
  refine x_tN ?_
  refine x_seq ?_
  refine x_seq ?_
  refine x_start (b := false) ?_
  obtain ⟨r12, hx13, hD⟩ := Option.bind_eq_some_iff.1 hD
  refine x_callF hC_seichelaw06_alive (a := ()) rfl hx13 fun v11 ov11 (hv11 : v11.nf = (V.bool r12)) hov11 => ?_
  refine x_un (nf_bool hv11) (aun_not _) ?_
  refine x_done ?_
  refine x_tN ?_
  by_cases hp14 : r12 = true
  · rw [if_pos hp14] at hD
    refine x_cf (show _ = (V.bool (!r12)) from rfl) (bnot_t hp14) ?_
    refine x_skip ?_
    refine x_tN ?_
    refine x_seq ?_
    refine x_start (b := false) ?_
    refine x_mv' (nf_str h1) ?_
    refine x_lens (show _ = (V.str p1) from rfl) ?_
    refine x_mv' (nf_str h2) ?_
    refine x_lens (show _ = (V.str p2) from rfl) ?_
    refine x_bin (show _ = (V.int .i64 ((p1.length : Nat) : Int)) from rfl) (show _ = (V.int .i64 ((p2.length : Nat) : Int)) from rfl) b_add ?_
    refine x_mv' (show _ = (V.int .i64 (wi (((p1.length : Nat) : Int) + ((p2.length : Nat) : Int)))) from rfl) ?_
    refine x_done ?_
    refine x_tN ?_
    refine x_seq ?_
    refine x_seq ?_
    refine x_start (b := false) ?_
    refine x_mv h0 fun v44 hv44 => ?_
    refine x_len hv44 ?_
    refine x_mv' (show _ = (V.int .i64 0) from rfl) ?_
    refine x_done ?_
    refine x_tN ?_
    refine x_block ?_
    by_cases hlen139 : p0.length ≤ Lim
    · rw [if_pos hlen139] at hD
      refine ok.seichelaw06_PathJoins_l1 (t1_47 := p1) (t2_48 := p2) (l45 := p0) hC_seichelaw06_alive hC_path_Under hC_seicheref06_Under hC_path_Join hC_seicheref06_Join (fun s138 t7_100 h96 h97 h98 h99 hD => ?_) (fun _ hE => ?_) hlen139 _ 0 _ _ rfl (Nat.zero_le _) ?_ ?_ ?_ ?_ ?_ ?_ ?_ hD
      · refine x_bE ?_
        refine x_tN ?_
        refine x_seq ?_
        refine x_seq ?_
        refine x_start (b := false) ?_
        refine x_mv' h99 ?_
        refine x_bin (show _ = (V.int .i64 t7_100) from rfl) (show _ = (V.int .i64 1024) from rfl) b_gtr ?_
        refine x_done ?_
        refine x_tN ?_
        by_cases hp102 : 1024 < t7_100
        · rw [if_pos hp102] at hD
          refine x_ct (show _ = (V.bool (decide (1024 < t7_100))) from rfl) (decide_eq_true hp102) ?_
          refine x_seq ?_
          refine x_start (b := false) ?_
          refine x_mv' (show _ = (V.bool true) from rfl) ?_
          refine x_done ?_
          refine x_tN ?_
          refine x_retc ?_
          refine x_tR ?_
          obtain rfl := Option.some.inj hD
          exact hR _ (ends_t (nf_of rfl (show _ = (V.bool true) from rfl)) (fun h => nomatch h))
        · rw [if_neg hp102] at hD
          refine x_cf (show _ = (V.bool (decide (1024 < t7_100))) from rfl) (decide_eq_false hp102) ?_
          refine x_skip ?_
          refine x_tN ?_
          refine x_seq ?_
          refine x_start (b := false) ?_
          refine x_mv' h97 ?_
          refine x_mv' h98 ?_
          obtain ⟨r110, hx111, hD⟩ := Option.bind_eq_some_iff.1 hD
          refine x_callF hC_path_Under (a := (p1, p2)) (cons_eq (nf_of rfl (show _ = (V.str p1) from rfl)) (cons_eq (nf_of rfl (show _ = (V.str p2) from rfl)) rfl)) hx111 fun v109 ov109 (hv109 : v109.nf = (V.tup [(V.str r110.1), (V.bool r110.2)])) hov109 => ?_
          refine x_mv hv109 fun v112 hv112 => ?_
          refine x_ext hv112 (show _ = some (V.str r110.1) from rfl) fun v113 hv113 => ?_
          refine x_ext hv112 (show _ = some (V.bool r110.2) from rfl) fun v114 hv114 => ?_
          refine x_mv' (nf_str hv113) ?_
          refine x_mv' (nf_bool hv114) ?_
          refine x_done ?_
          refine x_tN ?_
          refine x_seq ?_
          refine x_start (b := false) ?_
          refine x_mv' h97 ?_
          refine x_mv' h98 ?_
          obtain ⟨r122, hx123, hD⟩ := Option.bind_eq_some_iff.1 hD
          refine x_callF hC_seicheref06_Under (a := (p1, p2)) (cons_eq (nf_of rfl (show _ = (V.str p1) from rfl)) (cons_eq (nf_of rfl (show _ = (V.str p2) from rfl)) rfl)) hx123 fun v121 ov121 (hv121 : v121.nf = (V.tup [(V.str r122.1), (V.bool r122.2)])) hov121 => ?_
          refine x_mv hv121 fun v124 hv124 => ?_
          refine x_ext hv124 (show _ = some (V.str r122.1) from rfl) fun v125 hv125 => ?_
          refine x_ext hv124 (show _ = some (V.bool r122.2) from rfl) fun v126 hv126 => ?_
          refine x_mv' (nf_str hv125) ?_
          refine x_mv' (nf_bool hv126) ?_
          refine x_done ?_
          refine x_tN ?_
          refine x_seq ?_
          refine x_start (b := false) ?_
          refine x_mv h96 fun v127 hv127 => ?_
          obtain ⟨r129, hx130, hD⟩ := Option.bind_eq_some_iff.1 hD
          refine x_callF hC_path_Join (a := (p0)) (cons_eq hv127 rfl) hx130 fun v128 ov128 (hv128 : v128.nf = (V.str r129)) hov128 => ?_
          refine x_mv h96 fun v131 hv131 => ?_
          obtain ⟨r133, hx134, hD⟩ := Option.bind_eq_some_iff.1 hD
          refine x_callF hC_seicheref06_Join (a := (p0)) (cons_eq hv131 rfl) hx134 fun v132 ov132 (hv132 : v132.nf = (V.str r133)) hov132 => ?_
          refine x_bin (nf_str hv128) (nf_str hv132) s_eql ?_
          refine x_mv' (show _ = (V.bool (decide (r129 = r133))) from rfl) ?_
          by_cases hp135 : r129 = r133
          · rw [if_pos hp135] at hD
            refine x_gy (show _ = (V.bool (decide (r129 = r133))) from rfl) (decide_eq_true hp135) ?_
            refine x_mv' (show _ = (V.bool r110.2) from rfl) ?_
            refine x_gy (show _ = (V.bool (decide (r129 = r133))) from rfl) (decide_eq_true hp135) ?_
            refine x_mv' (show _ = (V.bool r122.2) from rfl) ?_
            refine x_gy (show _ = (V.bool (decide (r129 = r133))) from rfl) (decide_eq_true hp135) ?_
            refine x_bin (show _ = (V.bool r110.2) from rfl) (show _ = (V.bool r122.2) from rfl) bool_eql ?_
            refine x_pickt' (show _ = (V.bool (decide (r129 = r133))) from rfl) (decide_eq_true hp135) (show _ = (V.bool (r110.2 == r122.2)) from rfl) ?_
            refine x_mv' (show _ = (V.bool (r110.2 == r122.2)) from rfl) ?_
            by_cases hp136 : (r110.2 == r122.2) = true
            · rw [if_pos hp136] at hD
              refine x_gy (show _ = (V.bool (r110.2 == r122.2)) from rfl) hp136 ?_
              refine x_mv' (show _ = (V.bool r110.2) from rfl) ?_
              refine x_gy (show _ = (V.bool (r110.2 == r122.2)) from rfl) hp136 ?_
              refine x_un (show _ = (V.bool r110.2) from rfl) (aun_not _) ?_
              refine x_gy (show _ = (V.bool (r110.2 == r122.2)) from rfl) hp136 ?_
              refine x_mv' (show _ = (V.bool (!r110.2)) from rfl) ?_
              by_cases hp137 : r110.2 = true
              · rw [if_pos hp137] at hD
                refine x_gy (show _ = (V.bool (!r110.2)) from rfl) (bnot_t hp137) ?_
                refine x_mv' (show _ = (V.str r110.1) from rfl) ?_
                refine x_gy (show _ = (V.bool (!r110.2)) from rfl) (bnot_t hp137) ?_
                refine x_mv' (show _ = (V.str r122.1) from rfl) ?_
                refine x_gy (show _ = (V.bool (!r110.2)) from rfl) (bnot_t hp137) ?_
                refine x_bin (show _ = (V.str r110.1) from rfl) (show _ = (V.str r122.1) from rfl) s_eql ?_
                refine x_gy (show _ = (V.bool (r110.2 == r122.2)) from rfl) hp136 ?_
                refine x_pickf' (show _ = (V.bool (!r110.2)) from rfl) (bnot_t hp137) (show _ = (V.bool (decide (r110.1 = r122.1))) from rfl) ?_
                refine x_pickt' (show _ = (V.bool (r110.2 == r122.2)) from rfl) hp136 (show _ = (V.bool (decide (r110.1 = r122.1))) from rfl) ?_
                refine x_mv' (show _ = (V.bool (decide (r110.1 = r122.1))) from rfl) ?_
                refine x_done ?_
                refine x_tN ?_
                refine x_retc ?_
                obtain rfl := Option.some.inj hD
                exact hR _ (ends_t (nf_of rfl (show _ = (V.bool (decide (r110.1 = r122.1))) from rfl)) (fun h => nomatch h))
              · rw [if_neg hp137] at hD
                refine x_gn (show _ = (V.bool (!r110.2)) from rfl) (bnot_f (Bool.eq_false_iff.2 hp137)) ?_
                refine x_gn (show _ = (V.bool (!r110.2)) from rfl) (bnot_f (Bool.eq_false_iff.2 hp137)) ?_
                refine x_gn (show _ = (V.bool (!r110.2)) from rfl) (bnot_f (Bool.eq_false_iff.2 hp137)) ?_
                refine x_gy (show _ = (V.bool (r110.2 == r122.2)) from rfl) hp136 ?_
                refine x_pickt' (show _ = (V.bool (!r110.2)) from rfl) (bnot_f (Bool.eq_false_iff.2 hp137)) (show _ = (V.bool true) from rfl) ?_
                refine x_pickt' (show _ = (V.bool (r110.2 == r122.2)) from rfl) hp136 (show _ = (V.bool true) from rfl) ?_
                refine x_mv' (show _ = (V.bool true) from rfl) ?_
                refine x_done ?_
                refine x_tN ?_
                refine x_retc ?_
                obtain rfl := Option.some.inj hD
                exact hR _ (ends_t (nf_of rfl (show _ = (V.bool true) from rfl)) (fun h => nomatch h))
            · rw [if_neg hp136] at hD
              refine x_gn (show _ = (V.bool (r110.2 == r122.2)) from rfl) (Bool.eq_false_iff.2 hp136) ?_
              refine x_gn (show _ = (V.bool (r110.2 == r122.2)) from rfl) (Bool.eq_false_iff.2 hp136) ?_
              refine x_gn (show _ = (V.bool (r110.2 == r122.2)) from rfl) (Bool.eq_false_iff.2 hp136) ?_
              refine x_gnil (show _ = Nil from rfl) ?_
              refine x_gnil (show _ = Nil from rfl) ?_
              refine x_gnil (show _ = Nil from rfl) ?_
              refine x_gn (show _ = (V.bool (r110.2 == r122.2)) from rfl) (Bool.eq_false_iff.2 hp136) ?_
              refine x_pickf' (show _ = (V.bool (r110.2 == r122.2)) from rfl) (Bool.eq_false_iff.2 hp136) (show _ = (V.bool false) from rfl) ?_
              refine x_mv' (show _ = (V.bool false) from rfl) ?_
              refine x_done ?_
              refine x_tN ?_
              refine x_retc ?_
              obtain rfl := Option.some.inj hD
              exact hR _ (ends_t (nf_of rfl (show _ = (V.bool false) from rfl)) (fun h => nomatch h))
          · rw [if_neg hp135] at hD
            refine x_gn (show _ = (V.bool (decide (r129 = r133))) from rfl) (decide_eq_false hp135) ?_
            refine x_gn (show _ = (V.bool (decide (r129 = r133))) from rfl) (decide_eq_false hp135) ?_
            refine x_gn (show _ = (V.bool (decide (r129 = r133))) from rfl) (decide_eq_false hp135) ?_
            refine x_pickf' (show _ = (V.bool (decide (r129 = r133))) from rfl) (decide_eq_false hp135) (show _ = (V.bool false) from rfl) ?_
            refine x_mv' (show _ = (V.bool false) from rfl) ?_
            refine x_gn (show _ = (V.bool false) from rfl) rfl ?_
            refine x_gn (show _ = (V.bool false) from rfl) rfl ?_
            refine x_gn (show _ = (V.bool false) from rfl) rfl ?_
            refine x_gnil (show _ = Nil from rfl) ?_
            refine x_gnil (show _ = Nil from rfl) ?_
            refine x_gnil (show _ = Nil from rfl) ?_
            refine x_gn (show _ = (V.bool false) from rfl) rfl ?_
            refine x_pickf' (show _ = (V.bool false) from rfl) rfl (show _ = (V.bool false) from rfl) ?_
            refine x_mv' (show _ = (V.bool false) from rfl) ?_
            refine x_done ?_
            refine x_tN ?_
            refine x_retc ?_
            obtain rfl := Option.some.inj hD
            exact hR _ (ends_t (nf_of rfl (show _ = (V.bool false) from rfl)) (fun h => nomatch h))
      · refine x_bR ?_; refine x_tR ?_; exact hR _ hE
      · exact hv44
      · exact (show _ = (V.int .i64 ((p0.length : Nat) : Int)) from rfl)
      · exact (show _ = (V.int .i64 0) from rfl)
      · exact h0
      · exact (nf_str h1)
      · exact (nf_str h2)
      · exact (show _ = (V.int .i64 (wi (((p1.length : Nat) : Int) + ((p2.length : Nat) : Int)))) from rfl)
    · rw [if_neg hlen139] at hD; cases hD
  · rw [if_neg hp14] at hD
    refine x_ct (show _ = (V.bool (!r12)) from rfl) (bnot_f (Bool.eq_false_iff.2 hp14)) ?_
    refine x_seq ?_
    refine x_start (b := false) ?_
    refine x_mv' (show _ = (V.bool false) from rfl) ?_
    refine x_done ?_
    refine x_tN ?_
    refine x_retc ?_
    refine x_tR ?_
    obtain rfl := Option.some.inj hD
    exact hR _ (ends_t (nf_of rfl (show _ = (V.bool false) from rfl)) (fun h => nomatch h))
def K.seichelaw06_PathJoins : FC := fc F.seichelaw06_PathJoins (fun _ => true) false (fun (a : ((List Bytes) × Bytes × Bytes)) => [(V.sl false 1 (List.map V.str a.1)), (V.str a.2.1), (V.str a.2.2)]) (fun (y : Bool) => (V.bool y)) (fun a => g.seichelaw06_PathJoins a.1 a.2.1 a.2.2)
  (fun a => (cleanL_mk (E.Lstring_clean _) (cleanL_mk rfl (cleanL_mk rfl rfl))))
  (fun y => rfl)
  (fun ⟨a0, a1, a2⟩ ⟨b0, b1, b2⟩ h => by
    obtain ⟨h0, h⟩ := List.cons.inj h
    obtain rfl : a0 = b0 := E.Lstring_inj h0
    obtain ⟨h0, h⟩ := List.cons.inj h
    obtain rfl : a1 = b1 := V.str.inj h0
    obtain ⟨h0, h⟩ := List.cons.inj h
    obtain rfl : a2 = b2 := V.str.inj h0
    rfl)
theorem H.seichelaw06_PathJoins (w : World) (hw : EnvOK w) : K.seichelaw06_PathJoins.Holds (cxD w) :=
  FC.holds_of (cs := [K.seichelaw06_alive, K.path_Under, K.seicheref06_Under, K.path_Join, K.seicheref06_Join]) (glD w) mixed cf_seichelaw06_PathJoins (fun _ _ ⟨_, _, h, _⟩ => by subst h; exact Nat.le_of_ble_eq_true rfl) fun v y ⟨a, r, hv, hD, hy⟩ => by
    subst hy
    exact ok.seichelaw06_PathJoins (specOf_calls (H.seichelaw06_alive w hw) (fun _ _ ⟨_, _, h, _⟩ => by subst h; rfl)) (specOf_calls (H.path_Under w hw) (fun _ _ ⟨_, _, h, _⟩ => by subst h; rfl)) (specOf_calls (H.seicheref06_Under w hw) (fun _ _ ⟨_, _, h, _⟩ => by subst h; rfl)) (specOf_calls (H.path_Join w hw) (fun _ _ ⟨_, _, h, _⟩ => by subst h; rfl)) (specOf_calls (H.seicheref06_Join w hw) (fun _ _ ⟨_, _, h, _⟩ => by subst h; rfl)) hv hD
def c_seichelaw06_PathBack : ACode := (.seq (.region [
  ⟨(some 4), (.mv (.const (.bool false))), none, []⟩] false) (.seq (.seq (.region [
  ⟨(some 9), (.call F.seichelaw06_alive []), none, []⟩, 
  ⟨(some 10), (.un .not (.tmp 9)), none, []⟩] false) (.cond (.tmp 10) (.seq (.region [
  ⟨(some 4), (.mv (.const (.bool false))), none, []⟩] false) .ret) .skip)) (.seq (.seq (.region [
  ⟨(some 11), (.mv (.tmp 0)), none, []⟩, 
  ⟨(some 12), (.len true (.tmp 11)), none, []⟩, 
  ⟨(some 13), (.mv (.tmp 1)), none, []⟩, 
  ⟨(some 14), (.len true (.tmp 13)), none, []⟩, 
  ⟨(some 15), (.bin .add .no (.tmp 12) (.tmp 14)), none, []⟩, 
  ⟨(some 16), (.bin .gtr .no (.tmp 15) (.const (.int .i64 1024))), none, []⟩, 
  ⟨(some 17), (.mv (.tmp 16)), none, []⟩, 
  ⟨(some 18), (.mv (.tmp 0)), (some (17, false)), []⟩, 
  ⟨(some 19), (.call F.seicheref06_Good [(.tmp 18)]), (some (17, false)), []⟩, 
  ⟨(some 20), (.un .not (.tmp 19)), (some (17, false)), []⟩, 
  ⟨(some 21), (.pick (.tmp 17) (.const (.bool true)) (.tmp 20)), none, []⟩] false) (.cond (.tmp 21) (.seq (.region [
  ⟨(some 4), (.mv (.const (.bool true))), none, []⟩] false) .ret) .skip)) (.seq (.seq (.region [
  ⟨(some 22), (.mv (.tmp 0)), none, []⟩, 
  ⟨(some 23), (.call F.path_Split [(.tmp 22)]), none, []⟩, 
  ⟨(some 24), (.call F.path_Join [(.tmp 23)]), none, []⟩, 
  ⟨(some 25), (.mv (.tmp 0)), none, []⟩, 
  ⟨(some 26), (.bin .neq .no (.tmp 24) (.tmp 25)), none, []⟩, 
  ⟨(some 27), (.mv (.tmp 26)), none, []⟩, 
  ⟨(some 28), (.mv (.tmp 0)), (some (27, false)), []⟩, 
  ⟨(some 29), (.call F.path_Dir [(.tmp 28)]), (some (27, false)), []⟩, 
  ⟨(some 30), (.mv (.tmp 0)), (some (27, false)), []⟩, 
  ⟨(some 31), (.call F.path_Base [(.tmp 30)]), (some (27, false)), []⟩, 
  ⟨(some 32), (.bsl 1 [(.tmp 29), (.tmp 31)]), (some (27, false)), []⟩, 
  ⟨(some 33), (.call F.path_Join [(.tmp 32)]), (some (27, false)), []⟩, 
  ⟨(some 34), (.mv (.tmp 0)), (some (27, false)), []⟩, 
  ⟨(some 35), (.bin .neq .no (.tmp 33) (.tmp 34)), (some (27, false)), []⟩, 
  ⟨(some 36), (.pick (.tmp 27) (.const (.bool true)) (.tmp 35)), none, []⟩] false) (.cond (.tmp 36) (.seq (.region [
  ⟨(some 4), (.mv (.const (.bool false))), none, []⟩] false) .ret) .skip)) (.seq (.region [
  ⟨(some 38), (.mv (.tmp 1)), none, []⟩, 
  ⟨(some 39), (.mv (.tmp 0)), none, []⟩, 
  ⟨(some 40), (.call F.path_Under [(.tmp 38), (.tmp 39)]), none, []⟩, 
  ⟨(some 37), (.mv (.tmp 40)), none, []⟩, 
  ⟨(some 41), (.ext (.tmp 37) 0), none, []⟩, 
  ⟨(some 42), (.ext (.tmp 37) 1), none, []⟩, 
  ⟨(some 5), (.mv (.tmp 41)), none, []⟩, 
  ⟨(some 6), (.mv (.tmp 42)), none, []⟩] false) (.seq (.region [
  ⟨(some 44), (.mv (.tmp 0)), none, []⟩, 
  ⟨(some 45), (.call F.path_Dir [(.tmp 44)]), none, []⟩, 
  ⟨(some 46), (.mv (.tmp 0)), none, []⟩, 
  ⟨(some 47), (.call F.path_Under [(.tmp 45), (.tmp 46)]), none, []⟩, 
  ⟨(some 43), (.mv (.tmp 47)), none, []⟩, 
  ⟨(some 48), (.ext (.tmp 43) 0), none, []⟩, 
  ⟨(some 49), (.ext (.tmp 43) 1), none, []⟩, 
  ⟨(some 7), (.mv (.tmp 48)), none, []⟩, 
  ⟨(some 8), (.mv (.tmp 49)), none, []⟩] false) (.seq (.region [
  ⟨(some 50), (.mv (.tmp 6)), none, []⟩, 
  ⟨(some 51), (.un .not (.tmp 50)), none, []⟩, 
  ⟨(some 52), (.mv (.tmp 51)), none, []⟩, 
  ⟨(some 53), (.mv (.tmp 1)), (some (52, false)), []⟩, 
  ⟨(some 54), (.mv (.tmp 5)), (some (52, false)), []⟩, 
  ⟨(some 55), (.bsl 1 [(.tmp 53), (.tmp 54)]), (some (52, false)), []⟩, 
  ⟨(some 56), (.call F.path_Join [(.tmp 55)]), (some (52, false)), []⟩, 
  ⟨(some 57), (.mv (.tmp 0)), (some (52, false)), []⟩, 
  ⟨(some 58), (.bin .eql .no (.tmp 56) (.tmp 57)), (some (52, false)), []⟩, 
  ⟨(some 59), (.pick (.tmp 52) (.const (.bool true)) (.tmp 58)), none, []⟩, 
  ⟨(some 60), (.mv (.tmp 59)), none, []⟩, 
  ⟨(some 61), (.mv (.tmp 8)), (some (60, true)), []⟩, 
  ⟨(some 62), (.pick (.tmp 60) (.tmp 61) (.const (.bool false))), none, []⟩, 
  ⟨(some 63), (.mv (.tmp 62)), none, []⟩, 
  ⟨(some 64), (.mv (.tmp 7)), (some (63, true)), []⟩, 
  ⟨(some 65), (.mv (.tmp 0)), (some (63, true)), []⟩, 
  ⟨(some 66), (.call F.path_Base [(.tmp 65)]), (some (63, true)), []⟩, 
  ⟨(some 67), (.bin .eql .no (.tmp 64) (.tmp 66)), (some (63, true)), []⟩, 
  ⟨(some 68), (.pick (.tmp 63) (.tmp 67) (.const (.bool false))), none, []⟩, 
  ⟨(some 4), (.mv (.tmp 68)), none, []⟩] false) .ret)))))))
theorem cf_seichelaw06_PathBack : cFn Go.Proofs.Tryd.prog F.seichelaw06_PathBack = some ⟨69, c_seichelaw06_PathBack, [.t 4]⟩ := by kernel_rfl
def g.seichelaw06_PathBack (p0 : Bytes) (p1 : Bytes) : Option Bool :=
  (g.seichelaw06_alive).bind fun r12 =>
  if r12 = true then
    if 1024 < (wi (((p0.length : Nat) : Int) + ((p1.length : Nat) : Int))) then
      some true
    else
      (g.seicheref06_Good p0).bind fun r30 =>
      if r30 = true then
        (g.path_Split p0).bind fun r86 =>
        (g.path_Join r86).bind fun r89 =>
        if r89 = p0 then
          (g.path_Dir p0).bind fun r93 =>
          (g.path_Base p0).bind fun r96 =>
          (g.path_Join ([r93, r96] : (List Bytes))).bind fun r100 =>
          if r100 = p0 then
            (g.path_Under p1 p0).bind fun r110 =>
            (g.path_Under r93 p0).bind fun r124 =>
            if r110.2 = true then
              (g.path_Join ([p1, r110.1] : (List Bytes))).bind fun r132 =>
              if r132 = p0 then
                if r124.2 = true then
                  some (decide (r124.1 = r96))
                else
                  some false
              else
                some false
            else
              if r124.2 = true then
                some (decide (r124.1 = r96))
              else
                some false
          else
            some false
        else
          some false
      else
        some true
  else
    some false
theorem ok.seichelaw06_PathBack {Γ : Abs.Spec} {gl : Glob} (hC_seichelaw06_alive : CallsX Γ K.seichelaw06_alive) (hC_seicheref06_Good : CallsX Γ K.seicheref06_Good) (hC_path_Split : CallsX Γ K.path_Split) (hC_path_Join : CallsX Γ K.path_Join) (hC_path_Dir : CallsX Γ K.path_Dir) (hC_path_Base : CallsX Γ K.path_Base) (hC_path_Under : CallsX Γ K.path_Under) {r : Bool} {p0 : Bytes} {p1 : Bytes} {v : List V}
    (hv : nfL v = [(V.str p0), (V.str p1)]) (hD : g.seichelaw06_PathBack p0 p1 = some r) : awp Γ gl c_seichelaw06_PathBack (endQ [.t 4] false (V.bool r)) (St.init v) := by
  obtain ⟨v0, v, rfl, h0, hv⟩ := nfL_cons hv
  obtain ⟨v1, v, rfl, h1, hv⟩ := nfL_cons hv
  obtain rfl := nfL_nil hv
  have hR : ∀ s, EndsX [.t 4] false (V.bool r) s → endQ [.t 4] false (V.bool r) .ret s := fun _ h => h
  unfold g.seichelaw06_PathBack at hD
  unfold c_seichelaw06_PathBack
  refine x_seq ?_
  refine x_start (b := false) ?_
  refine x_mv' (show _ = (V.bool false) from rfl) ?_
  refine x_done ?_
  refine x_tN ?_
  refine x_seq ?_
  refine x_seq ?_
  refine x_start (b := false) ?_
  obtain ⟨r12, hx13, hD⟩ := Option.bind_eq_some_iff.1 hD
  refine x_callF hC_seichelaw06_alive (a := ()) rfl hx13 fun v11 ov11 (hv11 : v11.nf = (V.bool r12)) hov11 => ?_
  refine x_un (nf_bool hv11) (aun_not _) ?_
  refine x_done ?_
  refine x_tN ?_
  by_cases hp14 : r12 = true
  · rw [if_pos hp14] at hD
    refine x_cf (show _ = (V.bool (!r12)) from rfl) (bnot_t hp14) ?_
    refine x_skip ?_
    refine x_tN ?_
    refine x_seq ?_
    refine x_seq ?_
    refine x_start (b := false) ?_
    refine x_mv' (nf_str h0) ?_
    refine x_lens (show _ = (V.str p0) from rfl) ?_
    refine x_mv' (nf_str h1) ?_
    refine x_lens (show _ = (V.str p1) from rfl) ?_
    refine x_bin (show _ = (V.int .i64 ((p0.length : Nat) : Int)) from rfl) (show _ = (V.int .i64 ((p1.length : Nat) : Int)) from rfl) b_add ?_
    refine x_bin (show _ = (V.int .i64 (wi (((p0.length : Nat) : Int) + ((p1.length : Nat) : Int)))) from rfl) (show _ = (V.int .i64 1024) from rfl) b_gtr ?_
    refine x_mv' (show _ = (V.bool (decide (1024 < (wi (((p0.length : Nat) : Int) + ((p1.length : Nat) : Int)))))) from rfl) ?_
    by_cases hp28 : 1024 < (wi (((p0.length : Nat) : Int) + ((p1.length : Nat) : Int)))
    · rw [if_pos hp28] at hD
      refine x_gn (show _ = (V.bool (decide (1024 < (wi (((p0.length : Nat) : Int) + ((p1.length : Nat) : Int)))))) from rfl) (decide_eq_true hp28) ?_
      refine x_gn (show _ = (V.bool (decide (1024 < (wi (((p0.length : Nat) : Int) + ((p1.length : Nat) : Int)))))) from rfl) (decide_eq_true hp28) ?_
      refine x_gn (show _ = (V.bool (decide (1024 < (wi (((p0.length : Nat) : Int) + ((p1.length : Nat) : Int)))))) from rfl) (decide_eq_true hp28) ?_
      refine x_pickt' (show _ = (V.bool (decide (1024 < (wi (((p0.length : Nat) : Int) + ((p1.length : Nat) : Int)))))) from rfl) (decide_eq_true hp28) (show _ = (V.bool true) from rfl) ?_
      refine x_done ?_
      refine x_tN ?_
      refine x_ct (show _ = (V.bool true) from rfl) rfl ?_
      refine x_seq ?_
      refine x_start (b := false) ?_
      refine x_mv' (show _ = (V.bool true) from rfl) ?_
      refine x_done ?_
      refine x_tN ?_
      refine x_retc ?_
      refine x_tR ?_
      obtain rfl := Option.some.inj hD
      exact hR _ (ends_t (nf_of rfl (show _ = (V.bool true) from rfl)) (fun h => nomatch h))
    · rw [if_neg hp28] at hD
      refine x_gy (show _ = (V.bool (decide (1024 < (wi (((p0.length : Nat) : Int) + ((p1.length : Nat) : Int)))))) from rfl) (decide_eq_false hp28) ?_
      refine x_mv' (nf_str h0) ?_
      refine x_gy (show _ = (V.bool (decide (1024 < (wi (((p0.length : Nat) : Int) + ((p1.length : Nat) : Int)))))) from rfl) (decide_eq_false hp28) ?_
      obtain ⟨r30, hx31, hD⟩ := Option.bind_eq_some_iff.1 hD
      refine x_callF hC_seicheref06_Good (a := (p0)) (cons_eq (nf_of rfl (show _ = (V.str p0) from rfl)) rfl) hx31 fun v29 ov29 (hv29 : v29.nf = (V.bool r30)) hov29 => ?_
      refine x_gy (show _ = (V.bool (decide (1024 < (wi (((p0.length : Nat) : Int) + ((p1.length : Nat) : Int)))))) from rfl) (decide_eq_false hp28) ?_
      refine x_un (nf_bool hv29) (aun_not _) ?_
      refine x_pickf' (show _ = (V.bool (decide (1024 < (wi (((p0.length : Nat) : Int) + ((p1.length : Nat) : Int)))))) from rfl) (decide_eq_false hp28) (show _ = (V.bool (!r30)) from rfl) ?_
      refine x_done ?_
      refine x_tN ?_
      by_cases hp32 : r30 = true
      · rw [if_pos hp32] at hD
        refine x_cf (show _ = (V.bool (!r30)) from rfl) (bnot_t hp32) ?_
        refine x_skip ?_
        refine x_tN ?_
        refine x_seq ?_
        refine x_seq ?_
        refine x_start (b := false) ?_
        refine x_mv' (nf_str h0) ?_
        obtain ⟨r86, hx87, hD⟩ := Option.bind_eq_some_iff.1 hD
        refine x_callF hC_path_Split (a := (p0)) (cons_eq (nf_of rfl (show _ = (V.str p0) from rfl)) rfl) hx87 fun v85 ov85 (hv85 : v85.nf = (V.sl false 1 (List.map V.str r86))) hov85 => ?_
        obtain ⟨r89, hx90, hD⟩ := Option.bind_eq_some_iff.1 hD
        refine x_callF hC_path_Join (a := (r86)) (cons_eq hv85 rfl) hx90 fun v88 ov88 (hv88 : v88.nf = (V.str r89)) hov88 => ?_
        refine x_mv' (nf_str h0) ?_
        refine x_bin (nf_str hv88) (show _ = (V.str p0) from rfl) s_neq ?_
        refine x_mv' (show _ = (V.bool (!(decide (r89 = p0)))) from rfl) ?_
        by_cases hp91 : r89 = p0
        · rw [if_pos hp91] at hD
          refine x_gy (show _ = (V.bool (!(decide (r89 = p0)))) from rfl) (bnot_t (decide_eq_true hp91)) ?_
          refine x_mv' (nf_str h0) ?_
          refine x_gy (show _ = (V.bool (!(decide (r89 = p0)))) from rfl) (bnot_t (decide_eq_true hp91)) ?_
          obtain ⟨r93, hx94, hD⟩ := Option.bind_eq_some_iff.1 hD
          refine x_callF hC_path_Dir (a := (p0)) (cons_eq (nf_of rfl (show _ = (V.str p0) from rfl)) rfl) hx94 fun v92 ov92 (hv92 : v92.nf = (V.str r93)) hov92 => ?_
          refine x_gy (show _ = (V.bool (!(decide (r89 = p0)))) from rfl) (bnot_t (decide_eq_true hp91)) ?_
          refine x_mv' (nf_str h0) ?_
          refine x_gy (show _ = (V.bool (!(decide (r89 = p0)))) from rfl) (bnot_t (decide_eq_true hp91)) ?_
          obtain ⟨r96, hx97, hD⟩ := Option.bind_eq_some_iff.1 hD
          refine x_callF hC_path_Base (a := (p0)) (cons_eq (nf_of rfl (show _ = (V.str p0) from rfl)) rfl) hx97 fun v95 ov95 (hv95 : v95.nf = (V.str r96)) hov95 => ?_
          refine x_gy (show _ = (V.bool (!(decide (r89 = p0)))) from rfl) (bnot_t (decide_eq_true hp91)) ?_
          refine x_bsl (E := V.str) (l := ([r93, r96] : (List Bytes))) (cons_eq (nf_of rfl (nf_str hv92)) (cons_eq (nf_of rfl (nf_str hv95)) rfl)) (fits_map (E := V.str) (sz := 1) (fun x => ⟨rfl, rfl⟩) _) fun v98 ov98 hv98 hov98 => ?_
          refine x_gy (show _ = (V.bool (!(decide (r89 = p0)))) from rfl) (bnot_t (decide_eq_true hp91)) ?_
          obtain ⟨r100, hx101, hD⟩ := Option.bind_eq_some_iff.1 hD
          refine x_callF hC_path_Join (a := (([r93, r96] : (List Bytes)))) (cons_eq hv98 rfl) hx101 fun v99 ov99 (hv99 : v99.nf = (V.str r100)) hov99 => ?_
          refine x_gy (show _ = (V.bool (!(decide (r89 = p0)))) from rfl) (bnot_t (decide_eq_true hp91)) ?_
          refine x_mv' (nf_str h0) ?_
          refine x_gy (show _ = (V.bool (!(decide (r89 = p0)))) from rfl) (bnot_t (decide_eq_true hp91)) ?_
          refine x_bin (nf_str hv99) (show _ = (V.str p0) from rfl) s_neq ?_
          refine x_pickf' (show _ = (V.bool (!(decide (r89 = p0)))) from rfl) (bnot_t (decide_eq_true hp91)) (show _ = (V.bool (!(decide (r100 = p0)))) from rfl) ?_
          refine x_done ?_
          refine x_tN ?_
          by_cases hp102 : r100 = p0
          · rw [if_pos hp102] at hD
            refine x_cf (show _ = (V.bool (!(decide (r100 = p0)))) from rfl) (bnot_t (decide_eq_true hp102)) ?_
            refine x_skip ?_
            refine x_tN ?_
            refine x_seq ?_
            refine x_start (b := false) ?_
            refine x_mv' (nf_str h1) ?_
            refine x_mv' (nf_str h0) ?_
            obtain ⟨r110, hx111, hD⟩ := Option.bind_eq_some_iff.1 hD
            refine x_callF hC_path_Under (a := (p1, p0)) (cons_eq (nf_of rfl (show _ = (V.str p1) from rfl)) (cons_eq (nf_of rfl (show _ = (V.str p0) from rfl)) rfl)) hx111 fun v109 ov109 (hv109 : v109.nf = (V.tup [(V.str r110.1), (V.bool r110.2)])) hov109 => ?_
            refine x_mv hv109 fun v112 hv112 => ?_
            refine x_ext hv112 (show _ = some (V.str r110.1) from rfl) fun v113 hv113 => ?_
            refine x_ext hv112 (show _ = some (V.bool r110.2) from rfl) fun v114 hv114 => ?_
            refine x_mv' (nf_str hv113) ?_
            refine x_mv' (nf_bool hv114) ?_
            refine x_done ?_
            refine x_tN ?_
            refine x_seq ?_
            refine x_start (b := false) ?_
            refine x_mv' (nf_str h0) ?_
            refine x_callF hC_path_Dir (a := (p0)) (cons_eq (nf_of rfl (show _ = (V.str p0) from rfl)) rfl) hx94 fun v122 ov122 (hv122 : v122.nf = (V.str r93)) hov122 => ?_
            refine x_mv' (nf_str h0) ?_
            obtain ⟨r124, hx125, hD⟩ := Option.bind_eq_some_iff.1 hD
            refine x_callF hC_path_Under (a := (r93, p0)) (cons_eq (nf_of rfl (nf_str hv122)) (cons_eq (nf_of rfl (show _ = (V.str p0) from rfl)) rfl)) hx125 fun v123 ov123 (hv123 : v123.nf = (V.tup [(V.str r124.1), (V.bool r124.2)])) hov123 => ?_
            refine x_mv hv123 fun v126 hv126 => ?_
            refine x_ext hv126 (show _ = some (V.str r124.1) from rfl) fun v127 hv127 => ?_
            refine x_ext hv126 (show _ = some (V.bool r124.2) from rfl) fun v128 hv128 => ?_
            refine x_mv' (nf_str hv127) ?_
            refine x_mv' (nf_bool hv128) ?_
            refine x_done ?_
            refine x_tN ?_
            refine x_seq ?_
            refine x_start (b := false) ?_
            refine x_mv' (show _ = (V.bool r110.2) from rfl) ?_
            refine x_un (show _ = (V.bool r110.2) from rfl) (aun_not _) ?_
            refine x_mv' (show _ = (V.bool (!r110.2)) from rfl) ?_
            by_cases hp129 : r110.2 = true
            · rw [if_pos hp129] at hD
              refine x_gy (show _ = (V.bool (!r110.2)) from rfl) (bnot_t hp129) ?_
              refine x_mv' (nf_str h1) ?_
              refine x_gy (show _ = (V.bool (!r110.2)) from rfl) (bnot_t hp129) ?_
              refine x_mv' (show _ = (V.str r110.1) from rfl) ?_
              refine x_gy (show _ = (V.bool (!r110.2)) from rfl) (bnot_t hp129) ?_
              refine x_bsl (E := V.str) (l := ([p1, r110.1] : (List Bytes))) (cons_eq (nf_of rfl (show _ = (V.str p1) from rfl)) (cons_eq (nf_of rfl (show _ = (V.str r110.1) from rfl)) rfl)) (fits_map (E := V.str) (sz := 1) (fun x => ⟨rfl, rfl⟩) _) fun v130 ov130 hv130 hov130 => ?_
              refine x_gy (show _ = (V.bool (!r110.2)) from rfl) (bnot_t hp129) ?_
              obtain ⟨r132, hx133, hD⟩ := Option.bind_eq_some_iff.1 hD
              refine x_callF hC_path_Join (a := (([p1, r110.1] : (List Bytes)))) (cons_eq hv130 rfl) hx133 fun v131 ov131 (hv131 : v131.nf = (V.str r132)) hov131 => ?_
              refine x_gy (show _ = (V.bool (!r110.2)) from rfl) (bnot_t hp129) ?_
              refine x_mv' (nf_str h0) ?_
              refine x_gy (show _ = (V.bool (!r110.2)) from rfl) (bnot_t hp129) ?_
              refine x_bin (nf_str hv131) (show _ = (V.str p0) from rfl) s_eql ?_
              refine x_pickf' (show _ = (V.bool (!r110.2)) from rfl) (bnot_t hp129) (show _ = (V.bool (decide (r132 = p0))) from rfl) ?_
              refine x_mv' (show _ = (V.bool (decide (r132 = p0))) from rfl) ?_
              by_cases hp134 : r132 = p0
              · rw [if_pos hp134] at hD
                refine x_gy (show _ = (V.bool (decide (r132 = p0))) from rfl) (decide_eq_true hp134) ?_
                refine x_mv' (show _ = (V.bool r124.2) from rfl) ?_
                refine x_pickt' (show _ = (V.bool (decide (r132 = p0))) from rfl) (decide_eq_true hp134) (show _ = (V.bool r124.2) from rfl) ?_
                refine x_mv' (show _ = (V.bool r124.2) from rfl) ?_
                by_cases hp135 : r124.2 = true
                · rw [if_pos hp135] at hD
                  refine x_gy (show _ = (V.bool r124.2) from rfl) hp135 ?_
                  refine x_mv' (show _ = (V.str r124.1) from rfl) ?_
                  refine x_gy (show _ = (V.bool r124.2) from rfl) hp135 ?_
                  refine x_mv' (nf_str h0) ?_
                  refine x_gy (show _ = (V.bool r124.2) from rfl) hp135 ?_
                  refine x_callF hC_path_Base (a := (p0)) (cons_eq (nf_of rfl (show _ = (V.str p0) from rfl)) rfl) hx97 fun v136 ov136 (hv136 : v136.nf = (V.str r96)) hov136 => ?_
                  refine x_gy (show _ = (V.bool r124.2) from rfl) hp135 ?_
                  refine x_bin (show _ = (V.str r124.1) from rfl) (nf_str hv136) s_eql ?_
                  refine x_pickt' (show _ = (V.bool r124.2) from rfl) hp135 (show _ = (V.bool (decide (r124.1 = r96))) from rfl) ?_
                  refine x_mv' (show _ = (V.bool (decide (r124.1 = r96))) from rfl) ?_
                  refine x_done ?_
                  refine x_tN ?_
                  refine x_retc ?_
                  obtain rfl := Option.some.inj hD
                  exact hR _ (ends_t (nf_of rfl (show _ = (V.bool (decide (r124.1 = r96))) from rfl)) (fun h => nomatch h))
                · rw [if_neg hp135] at hD
                  refine x_gn (show _ = (V.bool r124.2) from rfl) (Bool.eq_false_iff.2 hp135) ?_
                  refine x_gn (show _ = (V.bool r124.2) from rfl) (Bool.eq_false_iff.2 hp135) ?_
                  refine x_gn (show _ = (V.bool r124.2) from rfl) (Bool.eq_false_iff.2 hp135) ?_
                  refine x_gn (show _ = (V.bool r124.2) from rfl) (Bool.eq_false_iff.2 hp135) ?_
                  refine x_pickf' (show _ = (V.bool r124.2) from rfl) (Bool.eq_false_iff.2 hp135) (show _ = (V.bool false) from rfl) ?_
                  refine x_mv' (show _ = (V.bool false) from rfl) ?_
                  refine x_done ?_
                  refine x_tN ?_
                  refine x_retc ?_
                  obtain rfl := Option.some.inj hD
                  exact hR _ (ends_t (nf_of rfl (show _ = (V.bool false) from rfl)) (fun h => nomatch h))
              · rw [if_neg hp134] at hD
                refine x_gn (show _ = (V.bool (decide (r132 = p0))) from rfl) (decide_eq_false hp134) ?_
                refine x_pickf' (show _ = (V.bool (decide (r132 = p0))) from rfl) (decide_eq_false hp134) (show _ = (V.bool false) from rfl) ?_
                refine x_mv' (show _ = (V.bool false) from rfl) ?_
                refine x_gn (show _ = (V.bool false) from rfl) rfl ?_
                refine x_gn (show _ = (V.bool false) from rfl) rfl ?_
                refine x_gn (show _ = (V.bool false) from rfl) rfl ?_
                refine x_gn (show _ = (V.bool false) from rfl) rfl ?_
                refine x_pickf' (show _ = (V.bool false) from rfl) rfl (show _ = (V.bool false) from rfl) ?_
                refine x_mv' (show _ = (V.bool false) from rfl) ?_
                refine x_done ?_
                refine x_tN ?_
                refine x_retc ?_
                obtain rfl := Option.some.inj hD
                exact hR _ (ends_t (nf_of rfl (show _ = (V.bool false) from rfl)) (fun h => nomatch h))
            · rw [if_neg hp129] at hD
              refine x_gn (show _ = (V.bool (!r110.2)) from rfl) (bnot_f (Bool.eq_false_iff.2 hp129)) ?_
              refine x_gn (show _ = (V.bool (!r110.2)) from rfl) (bnot_f (Bool.eq_false_iff.2 hp129)) ?_
              refine x_gn (show _ = (V.bool (!r110.2)) from rfl) (bnot_f (Bool.eq_false_iff.2 hp129)) ?_
              refine x_gn (show _ = (V.bool (!r110.2)) from rfl) (bnot_f (Bool.eq_false_iff.2 hp129)) ?_
              refine x_gn (show _ = (V.bool (!r110.2)) from rfl) (bnot_f (Bool.eq_false_iff.2 hp129)) ?_
              refine x_gn (show _ = (V.bool (!r110.2)) from rfl) (bnot_f (Bool.eq_false_iff.2 hp129)) ?_
              refine x_pickt' (show _ = (V.bool (!r110.2)) from rfl) (bnot_f (Bool.eq_false_iff.2 hp129)) (show _ = (V.bool true) from rfl) ?_
              refine x_mv' (show _ = (V.bool true) from rfl) ?_
              refine x_gy (show _ = (V.bool true) from rfl) rfl ?_
              refine x_mv' (show _ = (V.bool r124.2) from rfl) ?_
              refine x_pickt' (show _ = (V.bool true) from rfl) rfl (show _ = (V.bool r124.2) from rfl) ?_
              refine x_mv' (show _ = (V.bool r124.2) from rfl) ?_
              by_cases hp137 : r124.2 = true
              · rw [if_pos hp137] at hD
                refine x_gy (show _ = (V.bool r124.2) from rfl) hp137 ?_
                refine x_mv' (show _ = (V.str r124.1) from rfl) ?_
                refine x_gy (show _ = (V.bool r124.2) from rfl) hp137 ?_
                refine x_mv' (nf_str h0) ?_
                refine x_gy (show _ = (V.bool r124.2) from rfl) hp137 ?_
                refine x_callF hC_path_Base (a := (p0)) (cons_eq (nf_of rfl (show _ = (V.str p0) from rfl)) rfl) hx97 fun v138 ov138 (hv138 : v138.nf = (V.str r96)) hov138 => ?_
                refine x_gy (show _ = (V.bool r124.2) from rfl) hp137 ?_
                refine x_bin (show _ = (V.str r124.1) from rfl) (nf_str hv138) s_eql ?_
                refine x_pickt' (show _ = (V.bool r124.2) from rfl) hp137 (show _ = (V.bool (decide (r124.1 = r96))) from rfl) ?_
                refine x_mv' (show _ = (V.bool (decide (r124.1 = r96))) from rfl) ?_
                refine x_done ?_
                refine x_tN ?_
                refine x_retc ?_
                obtain rfl := Option.some.inj hD
                exact hR _ (ends_t (nf_of rfl (show _ = (V.bool (decide (r124.1 = r96))) from rfl)) (fun h => nomatch h))
              · rw [if_neg hp137] at hD
                refine x_gn (show _ = (V.bool r124.2) from rfl) (Bool.eq_false_iff.2 hp137) ?_
                refine x_gn (show _ = (V.bool r124.2) from rfl) (Bool.eq_false_iff.2 hp137) ?_
                refine x_gn (show _ = (V.bool r124.2) from rfl) (Bool.eq_false_iff.2 hp137) ?_
                refine x_gn (show _ = (V.bool r124.2) from rfl) (Bool.eq_false_iff.2 hp137) ?_
                refine x_pickf' (show _ = (V.bool r124.2) from rfl) (Bool.eq_false_iff.2 hp137) (show _ = (V.bool false) from rfl) ?_
                refine x_mv' (show _ = (V.bool false) from rfl) ?_
                refine x_done ?_
                refine x_tN ?_
                refine x_retc ?_
                obtain rfl := Option.some.inj hD
                exact hR _ (ends_t (nf_of rfl (show _ = (V.bool false) from rfl)) (fun h => nomatch h))
          · rw [if_neg hp102] at hD
            refine x_ct (show _ = (V.bool (!(decide (r100 = p0)))) from rfl) (bnot_f (decide_eq_false hp102)) ?_
            refine x_seq ?_
            refine x_start (b := false) ?_
            refine x_mv' (show _ = (V.bool false) from rfl) ?_
            refine x_done ?_
            refine x_tN ?_
            refine x_retc ?_
            refine x_tR ?_
            obtain rfl := Option.some.inj hD
            exact hR _ (ends_t (nf_of rfl (show _ = (V.bool false) from rfl)) (fun h => nomatch h))
        · rw [if_neg hp91] at hD
          refine x_gn (show _ = (V.bool (!(decide (r89 = p0)))) from rfl) (bnot_f (decide_eq_false hp91)) ?_
          refine x_gn (show _ = (V.bool (!(decide (r89 = p0)))) from rfl) (bnot_f (decide_eq_false hp91)) ?_
          refine x_gn (show _ = (V.bool (!(decide (r89 = p0)))) from rfl) (bnot_f (decide_eq_false hp91)) ?_
          refine x_gn (show _ = (V.bool (!(decide (r89 = p0)))) from rfl) (bnot_f (decide_eq_false hp91)) ?_
          refine x_gn (show _ = (V.bool (!(decide (r89 = p0)))) from rfl) (bnot_f (decide_eq_false hp91)) ?_
          refine x_gn (show _ = (V.bool (!(decide (r89 = p0)))) from rfl) (bnot_f (decide_eq_false hp91)) ?_
          refine x_gn (show _ = (V.bool (!(decide (r89 = p0)))) from rfl) (bnot_f (decide_eq_false hp91)) ?_
          refine x_gn (show _ = (V.bool (!(decide (r89 = p0)))) from rfl) (bnot_f (decide_eq_false hp91)) ?_
          refine x_pickt' (show _ = (V.bool (!(decide (r89 = p0)))) from rfl) (bnot_f (decide_eq_false hp91)) (show _ = (V.bool true) from rfl) ?_
          refine x_done ?_
          refine x_tN ?_
          refine x_ct (show _ = (V.bool true) from rfl) rfl ?_
          refine x_seq ?_
          refine x_start (b := false) ?_
          refine x_mv' (show _ = (V.bool false) from rfl) ?_
          refine x_done ?_
          refine x_tN ?_
          refine x_retc ?_
          refine x_tR ?_
          obtain rfl := Option.some.inj hD
          exact hR _ (ends_t (nf_of rfl (show _ = (V.bool false) from rfl)) (fun h => nomatch h))
      · rw [if_neg hp32] at hD
        refine x_ct (show _ = (V.bool (!r30)) from rfl) (bnot_f (Bool.eq_false_iff.2 hp32)) ?_
        refine x_seq ?_
        refine x_start (b := false) ?_
        refine x_mv' (show _ = (V.bool true) from rfl) ?_
        refine x_done ?_
        refine x_tN ?_
        refine x_retc ?_
        refine x_tR ?_
        obtain rfl := Option.some.inj hD
        exact hR _ (ends_t (nf_of rfl (show _ = (V.bool true) from rfl)) (fun h => nomatch h))
  · rw [if_neg hp14] at hD
    refine x_ct (show _ = (V.bool (!r12)) from rfl) (bnot_f (Bool.eq_false_iff.2 hp14)) ?_
    refine x_seq ?_
    refine x_start (b := false) ?_
    refine x_mv' (show _ = (V.bool false) from rfl) ?_
    refine x_done ?_
    refine x_tN ?_
    refine x_retc ?_
    refine x_tR ?_
    obtain rfl := Option.some.inj hD
    exact hR _ (ends_t (nf_of rfl (show _ = (V.bool false) from rfl)) (fun h => nomatch h))
def K.seichelaw06_PathBack : FC := fc F.seichelaw06_PathBack (fun _ => true) false (fun (a : (Bytes × Bytes)) => [(V.str a.1), (V.str a.2)]) (fun (y : Bool) => (V.bool y)) (fun a => g.seichelaw06_PathBack a.1 a.2)
  (fun a => (cleanL_mk rfl (cleanL_mk rfl rfl)))
  (fun y => rfl)
  (fun ⟨a0, a1⟩ ⟨b0, b1⟩ h => by
    obtain ⟨h0, h⟩ := List.cons.inj h
    obtain rfl : a0 = b0 := V.str.inj h0
    obtain ⟨h0, h⟩ := List.cons.inj h
    obtain rfl : a1 = b1 := V.str.inj h0
    rfl)
theorem H.seichelaw06_PathBack (w : World) (hw : EnvOK w) : K.seichelaw06_PathBack.Holds (cxD w) :=
  FC.holds_of (cs := [K.seichelaw06_alive, K.seicheref06_Good, K.path_Split, K.path_Join, K.path_Dir, K.path_Base, K.path_Under]) (glD w) mixed cf_seichelaw06_PathBack (fun _ _ ⟨_, _, h, _⟩ => by subst h; exact Nat.le_of_ble_eq_true rfl) fun v y ⟨a, r, hv, hD, hy⟩ => by
    subst hy
    exact ok.seichelaw06_PathBack (specOf_calls (H.seichelaw06_alive w hw) (fun _ _ ⟨_, _, h, _⟩ => by subst h; rfl)) (specOf_calls (H.seicheref06_Good w hw) (fun _ _ ⟨_, _, h, _⟩ => by subst h; rfl)) (specOf_calls (H.path_Split w hw) (fun _ _ ⟨_, _, h, _⟩ => by subst h; rfl)) (specOf_calls (H.path_Join w hw) (fun _ _ ⟨_, _, h, _⟩ => by subst h; rfl)) (specOf_calls (H.path_Dir w hw) (fun _ _ ⟨_, _, h, _⟩ => by subst h; rfl)) (specOf_calls (H.path_Base w hw) (fun _ _ ⟨_, _, h, _⟩ => by subst h; rfl)) (specOf_calls (H.path_Under w hw) (fun _ _ ⟨_, _, h, _⟩ => by subst h; rfl)) hv hD
def c_seichelaw06_PathGoes_j2 : ACode := (.seq (.seq (.region [
  ⟨(some 52), (.mv (.tmp 1)), none, []⟩, 
  ⟨(some 53), (.call F.seicheref06_Good [(.tmp 52)]), none, []⟩, 
  ⟨(some 54), (.un .not (.tmp 53)), none, []⟩] false) (.cond (.tmp 54) (.seq (.region [
  ⟨(some 4), (.mv (.const (.bool true))), none, []⟩] false) .ret) .skip)) (.seq (.region [
  ⟨(some 55), (.mv (.tmp 0)), none, []⟩, 
  ⟨(some 56), (.mv (.tmp 1)), none, []⟩, 
  ⟨(some 57), (.bsl 1 [(.tmp 55), (.tmp 56)]), none, []⟩, 
  ⟨(some 58), (.call F.path_Join [(.tmp 57)]), none, []⟩, 
  ⟨(some 9), (.mv (.tmp 58)), none, []⟩] false) (.seq (.region [
  ⟨(some 59), (.mv (.tmp 6)), none, []⟩, 
  ⟨(some 60), (.mv (.tmp 9)), none, []⟩, 
  ⟨(some 61), (.call F.seicheref06_Good [(.tmp 60)]), none, []⟩, 
  ⟨(some 62), (.bin .eql .bool (.tmp 59) (.tmp 61)), none, []⟩, 
  ⟨(some 63), (.mv (.tmp 62)), none, []⟩, 
  ⟨(some 64), (.mv (.tmp 6)), (some (63, true)), []⟩, 
  ⟨(some 65), (.un .not (.tmp 64)), (some (63, true)), []⟩, 
  ⟨(some 66), (.mv (.tmp 65)), (some (63, true)), []⟩, 
  ⟨(some 67), (.mv (.tmp 5)), (some (66, false)), []⟩, 
  ⟨(some 68), (.mv (.tmp 9)), (some (66, false)), []⟩, 
  ⟨(some 69), (.bin .eql .no (.tmp 67) (.tmp 68)), (some (66, false)), []⟩, 
  ⟨(some 70), (.pick (.tmp 66) (.const (.bool true)) (.tmp 69)), (some (63, true)), []⟩, 
  ⟨(some 71), (.pick (.tmp 63) (.tmp 70) (.const (.bool false))), none, []⟩, 
  ⟨(some 4), (.mv (.tmp 71)), none, []⟩] false) .ret)))
def c_seichelaw06_PathGoes_j1 : ACode := (.seq (.region [
  ⟨(some 30), (.mv (.tmp 0)), none, []⟩, 
  ⟨(some 31), (.mv (.tmp 1)), none, []⟩, 
  ⟨(some 32), (.call F.path_From [(.tmp 30), (.tmp 31)]), none, []⟩, 
  ⟨(some 29), (.mv (.tmp 32)), none, []⟩, 
  ⟨(some 33), (.ext (.tmp 29) 0), none, []⟩, 
  ⟨(some 34), (.ext (.tmp 29) 1), none, []⟩, 
  ⟨(some 5), (.mv (.tmp 33)), none, []⟩, 
  ⟨(some 6), (.mv (.tmp 34)), none, []⟩] false) (.seq (.region [
  ⟨(some 36), (.mv (.tmp 0)), none, []⟩, 
  ⟨(some 37), (.mv (.tmp 1)), none, []⟩, 
  ⟨(some 38), (.call F.seicheref06_From [(.tmp 36), (.tmp 37)]), none, []⟩, 
  ⟨(some 35), (.mv (.tmp 38)), none, []⟩, 
  ⟨(some 39), (.ext (.tmp 35) 0), none, []⟩, 
  ⟨(some 40), (.ext (.tmp 35) 1), none, []⟩, 
  ⟨(some 7), (.mv (.tmp 39)), none, []⟩, 
  ⟨(some 8), (.mv (.tmp 40)), none, []⟩] false) (.seq (.seq (.region [
  ⟨(some 41), (.mv (.tmp 6)), none, []⟩, 
  ⟨(some 42), (.mv (.tmp 8)), none, []⟩, 
  ⟨(some 43), (.bin .neq .bool (.tmp 41) (.tmp 42)), none, []⟩, 
  ⟨(some 44), (.mv (.tmp 43)), none, []⟩, 
  ⟨(some 45), (.mv (.tmp 6)), (some (44, false)), []⟩, 
  ⟨(some 46), (.mv (.tmp 45)), (some (44, false)), []⟩, 
  ⟨(some 47), (.mv (.tmp 5)), (some (46, true)), []⟩, 
  ⟨(some 48), (.mv (.tmp 7)), (some (46, true)), []⟩, 
  ⟨(some 49), (.bin .neq .no (.tmp 47) (.tmp 48)), (some (46, true)), []⟩, 
  ⟨(some 50), (.pick (.tmp 46) (.tmp 49) (.const (.bool false))), (some (44, false)), []⟩, 
  ⟨(some 51), (.pick (.tmp 44) (.const (.bool true)) (.tmp 50)), none, []⟩] false) (.cond (.tmp 51) (.seq (.region [
  ⟨(some 4), (.mv (.const (.bool false))), none, []⟩] false) .ret) .skip)) c_seichelaw06_PathGoes_j2)))
def c_seichelaw06_PathGoes : ACode := (.seq (.region [
  ⟨(some 4), (.mv (.const (.bool false))), none, []⟩] false) (.seq (.seq (.region [
  ⟨(some 10), (.call F.seichelaw06_alive []), none, []⟩, 
  ⟨(some 11), (.un .not (.tmp 10)), none, []⟩] false) (.cond (.tmp 11) (.seq (.region [
  ⟨(some 4), (.mv (.const (.bool false))), none, []⟩] false) .ret) .skip)) (.seq (.seq (.region [
  ⟨(some 12), (.mv (.tmp 0)), none, []⟩, 
  ⟨(some 13), (.len true (.tmp 12)), none, []⟩, 
  ⟨(some 14), (.bin .gtr .no (.tmp 13) (.const (.int .i64 512))), none, []⟩, 
  ⟨(some 15), (.mv (.tmp 14)), none, []⟩, 
  ⟨(some 16), (.mv (.tmp 1)), (some (15, false)), []⟩, 
  ⟨(some 17), (.len true (.tmp 16)), (some (15, false)), []⟩, 
  ⟨(some 18), (.bin .gtr .no (.tmp 17) (.const (.int .i64 512))), (some (15, false)), []⟩, 
  ⟨(some 19), (.pick (.tmp 15) (.const (.bool true)) (.tmp 18)), none, []⟩, 
  ⟨(some 20), (.mv (.tmp 19)), none, []⟩, 
  ⟨(some 21), (.mv (.tmp 0)), (some (20, false)), []⟩, 
  ⟨(some 22), (.bin .neq .no (.tmp 21) (.const (.str []))), (some (20, false)), []⟩, 
  ⟨(some 23), (.mv (.tmp 22)), (some (20, false)), []⟩, 
  ⟨(some 24), (.mv (.tmp 0)), (some (23, true)), []⟩, 
  ⟨(some 25), (.call F.seicheref06_Good [(.tmp 24)]), (some (23, true)), []⟩, 
  ⟨(some 26), (.un .not (.tmp 25)), (some (23, true)), []⟩, 
  ⟨(some 27), (.pick (.tmp 23) (.tmp 26) (.const (.bool false))), (some (20, false)), []⟩, 
  ⟨(some 28), (.pick (.tmp 20) (.const (.bool true)) (.tmp 27)), none, []⟩] false) (.cond (.tmp 28) (.seq (.region [
  ⟨(some 4), (.mv (.const (.bool true))), none, []⟩] false) .ret) .skip)) c_seichelaw06_PathGoes_j1)))
theorem cf_seichelaw06_PathGoes : cFn Go.Proofs.Tryd.prog F.seichelaw06_PathGoes = some ⟨72, c_seichelaw06_PathGoes, [.t 4]⟩ := by kernel_rfl
def L.seichelaw06_PathGoes_j2 (t0_74 : Bytes) (t1_76 : Bytes) (t5_78 : Bytes) (t6_80 : Bool) : Option Bool :=
  (g.seicheref06_Good t1_76).bind fun r92 =>
  if r92 = true then
    (g.path_Join ([t0_74, t1_76] : (List Bytes))).bind fun r101 =>
    (g.seicheref06_Good r101).bind fun r104 =>
    if (t6_80 == r104) = true then
      if t6_80 = true then
        some (decide (t5_78 = r101))
      else
        some true
    else
      some false
  else
    some true
theorem ok.seichelaw06_PathGoes_j2 {Γ : Abs.Spec} {gl : Glob} (hC_seichelaw06_alive : CallsX Γ K.seichelaw06_alive) (hC_seicheref06_Good : CallsX Γ K.seicheref06_Good) (hC_path_From : CallsX Γ K.path_From) (hC_seicheref06_From : CallsX Γ K.seicheref06_From) (hC_path_Join : CallsX Γ K.path_Join) {Q : Ex → St → Prop} {r : Bool}
    (hR : ∀ s, EndsX [.t 4] false (V.bool r) s → Q .ret s)
    {s : St} {t0_74 : Bytes} {t1_76 : Bytes} {t5_78 : Bytes} {t6_80 : Bool} (h73 : s.tm 0 = (V.str t0_74)) (h75 : s.tm 1 = (V.str t1_76)) (h77 : s.tm 5 = (V.str t5_78)) (h79 : s.tm 6 = (V.bool t6_80))
    (hD : L.seichelaw06_PathGoes_j2 t0_74 t1_76 t5_78 t6_80 = some r) : awp Γ gl c_seichelaw06_PathGoes_j2 Q s := by
  unfold L.seichelaw06_PathGoes_j2 at hD
  refine x_seq ?_
  refine x_seq ?_
  refine x_start (b := false) ?_
  refine x_mv' h75 ?_
  obtain ⟨r92, hx93, hD⟩ := Option.bind_eq_some_iff.1 hD
  refine x_callF hC_seicheref06_Good (a := (t1_76)) (cons_eq (nf_of rfl (show _ = (V.str t1_76) from rfl)) rfl) hx93 fun v91 ov91 (hv91 : v91.nf = (V.bool r92)) hov91 => ?_
  refine x_un (nf_bool hv91) (aun_not _) ?_
  refine x_done ?_
  refine x_tN ?_
  by_cases hp94 : r92 = true
  · rw [if_pos hp94] at hD
    refine x_cf (show _ = (V.bool (!r92)) from rfl) (bnot_t hp94) ?_
    refine x_skip ?_
    refine x_tN ?_
    refine x_seq ?_
    refine x_start (b := false) ?_
    refine x_mv' h73 ?_
    refine x_mv' h75 ?_
    refine x_bsl (E := V.str) (l := ([t0_74, t1_76] : (List Bytes))) (cons_eq (nf_of rfl (show _ = (V.str t0_74) from rfl)) (cons_eq (nf_of rfl (show _ = (V.str t1_76) from rfl)) rfl)) (fits_map (E := V.str) (sz := 1) (fun x => ⟨rfl, rfl⟩) _) fun v99 ov99 hv99 hov99 => ?_
    obtain ⟨r101, hx102, hD⟩ := Option.bind_eq_some_iff.1 hD
    refine x_callF hC_path_Join (a := (([t0_74, t1_76] : (List Bytes)))) (cons_eq hv99 rfl) hx102 fun v100 ov100 (hv100 : v100.nf = (V.str r101)) hov100 => ?_
    refine x_mv' (nf_str hv100) ?_
    refine x_done ?_
    refine x_tN ?_
    refine x_seq ?_
    refine x_start (b := false) ?_
    refine x_mv' h79 ?_
    refine x_mv' (show _ = (V.str r101) from rfl) ?_
    obtain ⟨r104, hx105, hD⟩ := Option.bind_eq_some_iff.1 hD
    refine x_callF hC_seicheref06_Good (a := (r101)) (cons_eq (nf_of rfl (show _ = (V.str r101) from rfl)) rfl) hx105 fun v103 ov103 (hv103 : v103.nf = (V.bool r104)) hov103 => ?_
    refine x_bin (show _ = (V.bool t6_80) from rfl) (nf_bool hv103) bool_eql ?_
    refine x_mv' (show _ = (V.bool (t6_80 == r104)) from rfl) ?_
    by_cases hp106 : (t6_80 == r104) = true
    · rw [if_pos hp106] at hD
      refine x_gy (show _ = (V.bool (t6_80 == r104)) from rfl) hp106 ?_
      refine x_mv' h79 ?_
      refine x_gy (show _ = (V.bool (t6_80 == r104)) from rfl) hp106 ?_
      refine x_un (show _ = (V.bool t6_80) from rfl) (aun_not _) ?_
      refine x_gy (show _ = (V.bool (t6_80 == r104)) from rfl) hp106 ?_
      refine x_mv' (show _ = (V.bool (!t6_80)) from rfl) ?_
      by_cases hp107 : t6_80 = true
      · rw [if_pos hp107] at hD
        refine x_gy (show _ = (V.bool (!t6_80)) from rfl) (bnot_t hp107) ?_
        refine x_mv' h77 ?_
        refine x_gy (show _ = (V.bool (!t6_80)) from rfl) (bnot_t hp107) ?_
        refine x_mv' (show _ = (V.str r101) from rfl) ?_
        refine x_gy (show _ = (V.bool (!t6_80)) from rfl) (bnot_t hp107) ?_
        refine x_bin (show _ = (V.str t5_78) from rfl) (show _ = (V.str r101) from rfl) s_eql ?_
        refine x_gy (show _ = (V.bool (t6_80 == r104)) from rfl) hp106 ?_
        refine x_pickf' (show _ = (V.bool (!t6_80)) from rfl) (bnot_t hp107) (show _ = (V.bool (decide (t5_78 = r101))) from rfl) ?_
        refine x_pickt' (show _ = (V.bool (t6_80 == r104)) from rfl) hp106 (show _ = (V.bool (decide (t5_78 = r101))) from rfl) ?_
        refine x_mv' (show _ = (V.bool (decide (t5_78 = r101))) from rfl) ?_
        refine x_done ?_
        refine x_tN ?_
        refine x_retc ?_
        obtain rfl := Option.some.inj hD
        exact hR _ (ends_t (nf_of rfl (show _ = (V.bool (decide (t5_78 = r101))) from rfl)) (fun h => nomatch h))
      · rw [if_neg hp107] at hD
        refine x_gn (show _ = (V.bool (!t6_80)) from rfl) (bnot_f (Bool.eq_false_iff.2 hp107)) ?_
        refine x_gn (show _ = (V.bool (!t6_80)) from rfl) (bnot_f (Bool.eq_false_iff.2 hp107)) ?_
        refine x_gn (show _ = (V.bool (!t6_80)) from rfl) (bnot_f (Bool.eq_false_iff.2 hp107)) ?_
        refine x_gy (show _ = (V.bool (t6_80 == r104)) from rfl) hp106 ?_
        refine x_pickt' (show _ = (V.bool (!t6_80)) from rfl) (bnot_f (Bool.eq_false_iff.2 hp107)) (show _ = (V.bool true) from rfl) ?_
        refine x_pickt' (show _ = (V.bool (t6_80 == r104)) from rfl) hp106 (show _ = (V.bool true) from rfl) ?_
        refine x_mv' (show _ = (V.bool true) from rfl) ?_
        refine x_done ?_
        refine x_tN ?_
        refine x_retc ?_
        obtain rfl := Option.some.inj hD
        exact hR _ (ends_t (nf_of rfl (show _ = (V.bool true) from rfl)) (fun h => nomatch h))
    · rw [if_neg hp106] at hD
      refine x_gn (show _ = (V.bool (t6_80 == r104)) from rfl) (Bool.eq_false_iff.2 hp106) ?_
      refine x_gn (show _ = (V.bool (t6_80 == r104)) from rfl) (Bool.eq_false_iff.2 hp106) ?_
      refine x_gn (show _ = (V.bool (t6_80 == r104)) from rfl) (Bool.eq_false_iff.2 hp106) ?_
      refine x_gnil (show _ = Nil from rfl) ?_
      refine x_gnil (show _ = Nil from rfl) ?_
      refine x_gnil (show _ = Nil from rfl) ?_
      refine x_gn (show _ = (V.bool (t6_80 == r104)) from rfl) (Bool.eq_false_iff.2 hp106) ?_
      refine x_pickf' (show _ = (V.bool (t6_80 == r104)) from rfl) (Bool.eq_false_iff.2 hp106) (show _ = (V.bool false) from rfl) ?_
      refine x_mv' (show _ = (V.bool false) from rfl) ?_
      refine x_done ?_
      refine x_tN ?_
      refine x_retc ?_
      obtain rfl := Option.some.inj hD
      exact hR _ (ends_t (nf_of rfl (show _ = (V.bool false) from rfl)) (fun h => nomatch h))
  · rw [if_neg hp94] at hD
    refine x_ct (show _ = (V.bool (!r92)) from rfl) (bnot_f (Bool.eq_false_iff.2 hp94)) ?_
    refine x_seq ?_
    refine x_start (b := false) ?_
    refine x_mv' (show _ = (V.bool true) from rfl) ?_
    refine x_done ?_
    refine x_tN ?_
    refine x_retc ?_
    refine x_tR ?_
    obtain rfl := Option.some.inj hD
    exact hR _ (ends_t (nf_of rfl (show _ = (V.bool true) from rfl)) (fun h => nomatch h))
def L.seichelaw06_PathGoes_j1 (t0_33 : Bytes) (t1_35 : Bytes) : Option Bool :=
  (g.path_From t0_33 t1_35).bind fun r43 =>
  (g.seicheref06_From t0_33 t1_35).bind fun r55 =>
  if (r43.2 == r55.2) = true then
    if r43.2 = true then
      if r43.1 = r55.1 then
        L.seichelaw06_PathGoes_j2 t0_33 t1_35 r43.1 r43.2
      else
        some false
    else
      L.seichelaw06_PathGoes_j2 t0_33 t1_35 r43.1 r43.2
  else
    some false
theorem ok.seichelaw06_PathGoes_j1 {Γ : Abs.Spec} {gl : Glob} (hC_seichelaw06_alive : CallsX Γ K.seichelaw06_alive) (hC_seicheref06_Good : CallsX Γ K.seicheref06_Good) (hC_path_From : CallsX Γ K.path_From) (hC_seicheref06_From : CallsX Γ K.seicheref06_From) (hC_path_Join : CallsX Γ K.path_Join) {Q : Ex → St → Prop} {r : Bool}
    (hR : ∀ s, EndsX [.t 4] false (V.bool r) s → Q .ret s)
    {s : St} {t0_33 : Bytes} {t1_35 : Bytes} (h32 : s.tm 0 = (V.str t0_33)) (h34 : s.tm 1 = (V.str t1_35))
    (hD : L.seichelaw06_PathGoes_j1 t0_33 t1_35 = some r) : awp Γ gl c_seichelaw06_PathGoes_j1 Q s := by
  unfold L.seichelaw06_PathGoes_j1 at hD
  refine x_seq ?_
  refine x_start (b := false) ?_
  refine x_mv' h32 ?_
  refine x_mv' h34 ?_
  obtain ⟨r43, hx44, hD⟩ := Option.bind_eq_some_iff.1 hD
  refine x_callF hC_path_From (a := (t0_33, t1_35)) (cons_eq (nf_of rfl (show _ = (V.str t0_33) from rfl)) (cons_eq (nf_of rfl (show _ = (V.str t1_35) from rfl)) rfl)) hx44 fun v42 ov42 (hv42 : v42.nf = (V.tup [(V.str r43.1), (V.bool r43.2)])) hov42 => ?_
  refine x_mv hv42 fun v45 hv45 => ?_
  refine x_ext hv45 (show _ = some (V.str r43.1) from rfl) fun v46 hv46 => ?_
  refine x_ext hv45 (show _ = some (V.bool r43.2) from rfl) fun v47 hv47 => ?_
  refine x_mv' (nf_str hv46) ?_
  refine x_mv' (nf_bool hv47) ?_
  refine x_done ?_
  refine x_tN ?_
  refine x_seq ?_
  refine x_start (b := false) ?_
  refine x_mv' h32 ?_
  refine x_mv' h34 ?_
  obtain ⟨r55, hx56, hD⟩ := Option.bind_eq_some_iff.1 hD
  refine x_callF hC_seicheref06_From (a := (t0_33, t1_35)) (cons_eq (nf_of rfl (show _ = (V.str t0_33) from rfl)) (cons_eq (nf_of rfl (show _ = (V.str t1_35) from rfl)) rfl)) hx56 fun v54 ov54 (hv54 : v54.nf = (V.tup [(V.str r55.1), (V.bool r55.2)])) hov54 => ?_
  refine x_mv hv54 fun v57 hv57 => ?_
  refine x_ext hv57 (show _ = some (V.str r55.1) from rfl) fun v58 hv58 => ?_
  refine x_ext hv57 (show _ = some (V.bool r55.2) from rfl) fun v59 hv59 => ?_
  refine x_mv' (nf_str hv58) ?_
  refine x_mv' (nf_bool hv59) ?_
  refine x_done ?_
  refine x_tN ?_
  refine x_seq ?_
  refine x_seq ?_
  refine x_start (b := false) ?_
  refine x_mv' (show _ = (V.bool r43.2) from rfl) ?_
  refine x_mv' (show _ = (V.bool r55.2) from rfl) ?_
  refine x_bin (show _ = (V.bool r43.2) from rfl) (show _ = (V.bool r55.2) from rfl) bool_neq ?_
  refine x_mv' (show _ = (V.bool (!(r43.2 == r55.2))) from rfl) ?_
  by_cases hp110 : (r43.2 == r55.2) = true
  · rw [if_pos hp110] at hD
    refine x_gy (show _ = (V.bool (!(r43.2 == r55.2))) from rfl) (bnot_t hp110) ?_
    refine x_mv' (show _ = (V.bool r43.2) from rfl) ?_
    refine x_gy (show _ = (V.bool (!(r43.2 == r55.2))) from rfl) (bnot_t hp110) ?_
    refine x_mv' (show _ = (V.bool r43.2) from rfl) ?_
    by_cases hp111 : r43.2 = true
    · rw [if_pos hp111] at hD
      refine x_gy (show _ = (V.bool r43.2) from rfl) hp111 ?_
      refine x_mv' (show _ = (V.str r43.1) from rfl) ?_
      refine x_gy (show _ = (V.bool r43.2) from rfl) hp111 ?_
      refine x_mv' (show _ = (V.str r55.1) from rfl) ?_
      refine x_gy (show _ = (V.bool r43.2) from rfl) hp111 ?_
      refine x_bin (show _ = (V.str r43.1) from rfl) (show _ = (V.str r55.1) from rfl) s_neq ?_
      refine x_gy (show _ = (V.bool (!(r43.2 == r55.2))) from rfl) (bnot_t hp110) ?_
      refine x_pickt' (show _ = (V.bool r43.2) from rfl) hp111 (show _ = (V.bool (!(decide (r43.1 = r55.1)))) from rfl) ?_
      refine x_pickf' (show _ = (V.bool (!(r43.2 == r55.2))) from rfl) (bnot_t hp110) (show _ = (V.bool (!(decide (r43.1 = r55.1)))) from rfl) ?_
      refine x_done ?_
      refine x_tN ?_
      by_cases hp112 : r43.1 = r55.1
      · rw [if_pos hp112] at hD
        refine x_cf (show _ = (V.bool (!(decide (r43.1 = r55.1)))) from rfl) (bnot_t (decide_eq_true hp112)) ?_
        refine x_skip ?_
        refine x_tN ?_
        refine ok.seichelaw06_PathGoes_j2 hC_seichelaw06_alive hC_seicheref06_Good hC_path_From hC_seicheref06_From hC_path_Join (fun _ hE => ?_) ?_ ?_ ?_ ?_ hD
        · exact hR _ hE
        · exact h32
        · exact h34
        · exact (show _ = (V.str r43.1) from rfl)
        · exact (show _ = (V.bool r43.2) from rfl)
      · rw [if_neg hp112] at hD
        refine x_ct (show _ = (V.bool (!(decide (r43.1 = r55.1)))) from rfl) (bnot_f (decide_eq_false hp112)) ?_
        refine x_seq ?_
        refine x_start (b := false) ?_
        refine x_mv' (show _ = (V.bool false) from rfl) ?_
        refine x_done ?_
        refine x_tN ?_
        refine x_retc ?_
        refine x_tR ?_
        obtain rfl := Option.some.inj hD
        exact hR _ (ends_t (nf_of rfl (show _ = (V.bool false) from rfl)) (fun h => nomatch h))
    · rw [if_neg hp111] at hD
      refine x_gn (show _ = (V.bool r43.2) from rfl) (Bool.eq_false_iff.2 hp111) ?_
      refine x_gn (show _ = (V.bool r43.2) from rfl) (Bool.eq_false_iff.2 hp111) ?_
      refine x_gn (show _ = (V.bool r43.2) from rfl) (Bool.eq_false_iff.2 hp111) ?_
      refine x_gy (show _ = (V.bool (!(r43.2 == r55.2))) from rfl) (bnot_t hp110) ?_
      refine x_pickf' (show _ = (V.bool r43.2) from rfl) (Bool.eq_false_iff.2 hp111) (show _ = (V.bool false) from rfl) ?_
      refine x_pickf' (show _ = (V.bool (!(r43.2 == r55.2))) from rfl) (bnot_t hp110) (show _ = (V.bool false) from rfl) ?_
      refine x_done ?_
      refine x_tN ?_
      refine x_cf (show _ = (V.bool false) from rfl) rfl ?_
      refine x_skip ?_
      refine x_tN ?_
      refine ok.seichelaw06_PathGoes_j2 hC_seichelaw06_alive hC_seicheref06_Good hC_path_From hC_seicheref06_From hC_path_Join (fun _ hE => ?_) ?_ ?_ ?_ ?_ hD
      · exact hR _ hE
      · exact h32
      · exact h34
      · exact (show _ = (V.str r43.1) from rfl)
      · exact (show _ = (V.bool r43.2) from rfl)
  · rw [if_neg hp110] at hD
    refine x_gn (show _ = (V.bool (!(r43.2 == r55.2))) from rfl) (bnot_f (Bool.eq_false_iff.2 hp110)) ?_
    refine x_gn (show _ = (V.bool (!(r43.2 == r55.2))) from rfl) (bnot_f (Bool.eq_false_iff.2 hp110)) ?_
    refine x_gnil (show _ = Nil from rfl) ?_
    refine x_gnil (show _ = Nil from rfl) ?_
    refine x_gnil (show _ = Nil from rfl) ?_
    refine x_gn (show _ = (V.bool (!(r43.2 == r55.2))) from rfl) (bnot_f (Bool.eq_false_iff.2 hp110)) ?_
    refine x_pickt' (show _ = (V.bool (!(r43.2 == r55.2))) from rfl) (bnot_f (Bool.eq_false_iff.2 hp110)) (show _ = (V.bool true) from rfl) ?_
    refine x_done ?_
    refine x_tN ?_
    refine x_ct (show _ = (V.bool true) from rfl) rfl ?_
    refine x_seq ?_
    refine x_start (b := false) ?_
    refine x_mv' (show _ = (V.bool false) from rfl) ?_
    refine x_done ?_
    refine x_tN ?_
    refine x_retc ?_
    refine x_tR ?_
    obtain rfl := Option.some.inj hD
    exact hR _ (ends_t (nf_of rfl (show _ = (V.bool false) from rfl)) (fun h => nomatch h))
def g.seichelaw06_PathGoes (p0 : Bytes) (p1 : Bytes) : Option Bool :=
  (g.seichelaw06_alive).bind fun r12 =>
  if r12 = true then
    if 512 < ((p0.length : Nat) : Int) then
      some true
    else
      if 512 < ((p1.length : Nat) : Int) then
        some true
      else
        if p0 = ([] : Bytes) then
          L.seichelaw06_PathGoes_j1 p0 p1
        else
          (g.seicheref06_Good p0).bind fun r123 =>
          if r123 = true then
            L.seichelaw06_PathGoes_j1 p0 p1
          else
            some true
  else
    some false
theorem ok.seichelaw06_PathGoes {Γ : Abs.Spec} {gl : Glob} (hC_seichelaw06_alive : CallsX Γ K.seichelaw06_alive) (hC_seicheref06_Good : CallsX Γ K.seicheref06_Good) (hC_path_From : CallsX Γ K.path_From) (hC_seicheref06_From : CallsX Γ K.seicheref06_From) (hC_path_Join : CallsX Γ K.path_Join) {r : Bool} {p0 : Bytes} {p1 : Bytes} {v : List V}
    (hv : nfL v = [(V.str p0), (V.str p1)]) (hD : g.seichelaw06_PathGoes p0 p1 = some r) : awp Γ gl c_seichelaw06_PathGoes (endQ [.t 4] false (V.bool r)) (St.init v) := by
  obtain ⟨v0, v, rfl, h0, hv⟩ := nfL_cons hv
  obtain ⟨v1, v, rfl, h1, hv⟩ := nfL_cons hv
  obtain rfl := nfL_nil hv
  have hR : ∀ s, EndsX [.t 4] false (V.bool r) s → endQ [.t 4] false (V.bool r) .ret s := fun _ h => h
  unfold g.seichelaw06_PathGoes at hD
  unfold c_seichelaw06_PathGoes
  refine x_seq ?_
  refine x_start (b := false) ?_
  refine x_mv' (show _ = (V.bool false) from rfl) ?_
  refine x_done ?_
  refine x_tN ?_
  refine x_seq ?_
  refine x_seq ?_
  refine x_start (b := false) ?_
  obtain ⟨r12, hx13, hD⟩ := Option.bind_eq_some_iff.1 hD
  refine x_callF hC_seichelaw06_alive (a := ()) rfl hx13 fun v11 ov11 (hv11 : v11.nf = (V.bool r12)) hov11 => ?_
  refine x_un (nf_bool hv11) (aun_not _) ?_
  refine x_done ?_
  refine x_tN ?_
  by_cases hp14 : r12 = true
  · rw [if_pos hp14] at hD
    refine x_cf (show _ = (V.bool (!r12)) from rfl) (bnot_t hp14) ?_
    refine x_skip ?_
    refine x_tN ?_
    refine x_seq ?_
    refine x_seq ?_
    refine x_start (b := false) ?_
    refine x_mv' (nf_str h0) ?_
    refine x_lens (show _ = (V.str p0) from rfl) ?_
    refine x_bin (show _ = (V.int .i64 ((p0.length : Nat) : Int)) from rfl) (show _ = (V.int .i64 512) from rfl) b_gtr ?_
    refine x_mv' (show _ = (V.bool (decide (512 < ((p0.length : Nat) : Int)))) from rfl) ?_
    by_cases hp119 : 512 < ((p0.length : Nat) : Int)
    · rw [if_pos hp119] at hD
      refine x_gn (show _ = (V.bool (decide (512 < ((p0.length : Nat) : Int)))) from rfl) (decide_eq_true hp119) ?_
      refine x_gn (show _ = (V.bool (decide (512 < ((p0.length : Nat) : Int)))) from rfl) (decide_eq_true hp119) ?_
      refine x_gn (show _ = (V.bool (decide (512 < ((p0.length : Nat) : Int)))) from rfl) (decide_eq_true hp119) ?_
      refine x_pickt' (show _ = (V.bool (decide (512 < ((p0.length : Nat) : Int)))) from rfl) (decide_eq_true hp119) (show _ = (V.bool true) from rfl) ?_
      refine x_mv' (show _ = (V.bool true) from rfl) ?_
      refine x_gn (show _ = (V.bool true) from rfl) rfl ?_
      refine x_gn (show _ = (V.bool true) from rfl) rfl ?_
      refine x_gn (show _ = (V.bool true) from rfl) rfl ?_
      refine x_gnil (show _ = Nil from rfl) ?_
      refine x_gnil (show _ = Nil from rfl) ?_
      refine x_gnil (show _ = Nil from rfl) ?_
      refine x_gn (show _ = (V.bool true) from rfl) rfl ?_
      refine x_pickt' (show _ = (V.bool true) from rfl) rfl (show _ = (V.bool true) from rfl) ?_
      refine x_done ?_
      refine x_tN ?_
      refine x_ct (show _ = (V.bool true) from rfl) rfl ?_
      refine x_seq ?_
      refine x_start (b := false) ?_
      refine x_mv' (show _ = (V.bool true) from rfl) ?_
      refine x_done ?_
      refine x_tN ?_
      refine x_retc ?_
      refine x_tR ?_
      obtain rfl := Option.some.inj hD
      exact hR _ (ends_t (nf_of rfl (show _ = (V.bool true) from rfl)) (fun h => nomatch h))
    · rw [if_neg hp119] at hD
      refine x_gy (show _ = (V.bool (decide (512 < ((p0.length : Nat) : Int)))) from rfl) (decide_eq_false hp119) ?_
      refine x_mv' (nf_str h1) ?_
      refine x_gy (show _ = (V.bool (decide (512 < ((p0.length : Nat) : Int)))) from rfl) (decide_eq_false hp119) ?_
      refine x_lens (show _ = (V.str p1) from rfl) ?_
      refine x_gy (show _ = (V.bool (decide (512 < ((p0.length : Nat) : Int)))) from rfl) (decide_eq_false hp119) ?_
      refine x_bin (show _ = (V.int .i64 ((p1.length : Nat) : Int)) from rfl) (show _ = (V.int .i64 512) from rfl) b_gtr ?_
      refine x_pickf' (show _ = (V.bool (decide (512 < ((p0.length : Nat) : Int)))) from rfl) (decide_eq_false hp119) (show _ = (V.bool (decide (512 < ((p1.length : Nat) : Int)))) from rfl) ?_
      refine x_mv' (show _ = (V.bool (decide (512 < ((p1.length : Nat) : Int)))) from rfl) ?_
      by_cases hp120 : 512 < ((p1.length : Nat) : Int)
      · rw [if_pos hp120] at hD
        refine x_gn (show _ = (V.bool (decide (512 < ((p1.length : Nat) : Int)))) from rfl) (decide_eq_true hp120) ?_
        refine x_gn (show _ = (V.bool (decide (512 < ((p1.length : Nat) : Int)))) from rfl) (decide_eq_true hp120) ?_
        refine x_gn (show _ = (V.bool (decide (512 < ((p1.length : Nat) : Int)))) from rfl) (decide_eq_true hp120) ?_
        refine x_gnil (show _ = Nil from rfl) ?_
        refine x_gnil (show _ = Nil from rfl) ?_
        refine x_gnil (show _ = Nil from rfl) ?_
        refine x_gn (show _ = (V.bool (decide (512 < ((p1.length : Nat) : Int)))) from rfl) (decide_eq_true hp120) ?_
        refine x_pickt' (show _ = (V.bool (decide (512 < ((p1.length : Nat) : Int)))) from rfl) (decide_eq_true hp120) (show _ = (V.bool true) from rfl) ?_
        refine x_done ?_
        refine x_tN ?_
        refine x_ct (show _ = (V.bool true) from rfl) rfl ?_
        refine x_seq ?_
        refine x_start (b := false) ?_
        refine x_mv' (show _ = (V.bool true) from rfl) ?_
        refine x_done ?_
        refine x_tN ?_
        refine x_retc ?_
        refine x_tR ?_
        obtain rfl := Option.some.inj hD
        exact hR _ (ends_t (nf_of rfl (show _ = (V.bool true) from rfl)) (fun h => nomatch h))
      · rw [if_neg hp120] at hD
        refine x_gy (show _ = (V.bool (decide (512 < ((p1.length : Nat) : Int)))) from rfl) (decide_eq_false hp120) ?_
        refine x_mv' (nf_str h0) ?_
        refine x_gy (show _ = (V.bool (decide (512 < ((p1.length : Nat) : Int)))) from rfl) (decide_eq_false hp120) ?_
        refine x_bin (show _ = (V.str p0) from rfl) (show _ = (V.str ([] : Bytes)) from rfl) s_neq ?_
        refine x_gy (show _ = (V.bool (decide (512 < ((p1.length : Nat) : Int)))) from rfl) (decide_eq_false hp120) ?_
        refine x_mv' (show _ = (V.bool (!(decide (p0 = ([] : Bytes))))) from rfl) ?_
        by_cases hp121 : p0 = ([] : Bytes)
        · rw [if_pos hp121] at hD
          refine x_gn (show _ = (V.bool (!(decide (p0 = ([] : Bytes))))) from rfl) (bnot_t (decide_eq_true hp121)) ?_
          refine x_gn (show _ = (V.bool (!(decide (p0 = ([] : Bytes))))) from rfl) (bnot_t (decide_eq_true hp121)) ?_
          refine x_gn (show _ = (V.bool (!(decide (p0 = ([] : Bytes))))) from rfl) (bnot_t (decide_eq_true hp121)) ?_
          refine x_gy (show _ = (V.bool (decide (512 < ((p1.length : Nat) : Int)))) from rfl) (decide_eq_false hp120) ?_
          refine x_pickf' (show _ = (V.bool (!(decide (p0 = ([] : Bytes))))) from rfl) (bnot_t (decide_eq_true hp121)) (show _ = (V.bool false) from rfl) ?_
          refine x_pickf' (show _ = (V.bool (decide (512 < ((p1.length : Nat) : Int)))) from rfl) (decide_eq_false hp120) (show _ = (V.bool false) from rfl) ?_
          refine x_done ?_
          refine x_tN ?_
          refine x_cf (show _ = (V.bool false) from rfl) rfl ?_
          refine x_skip ?_
          refine x_tN ?_
          refine ok.seichelaw06_PathGoes_j1 hC_seichelaw06_alive hC_seicheref06_Good hC_path_From hC_seicheref06_From hC_path_Join (fun _ hE => ?_) ?_ ?_ hD
          · exact hR _ hE
          · exact (nf_str h0)
          · exact (nf_str h1)
        · rw [if_neg hp121] at hD
          refine x_gy (show _ = (V.bool (!(decide (p0 = ([] : Bytes))))) from rfl) (bnot_f (decide_eq_false hp121)) ?_
          refine x_mv' (nf_str h0) ?_
          refine x_gy (show _ = (V.bool (!(decide (p0 = ([] : Bytes))))) from rfl) (bnot_f (decide_eq_false hp121)) ?_
          obtain ⟨r123, hx124, hD⟩ := Option.bind_eq_some_iff.1 hD
          refine x_callF hC_seicheref06_Good (a := (p0)) (cons_eq (nf_of rfl (show _ = (V.str p0) from rfl)) rfl) hx124 fun v122 ov122 (hv122 : v122.nf = (V.bool r123)) hov122 => ?_
          refine x_gy (show _ = (V.bool (!(decide (p0 = ([] : Bytes))))) from rfl) (bnot_f (decide_eq_false hp121)) ?_
          refine x_un (nf_bool hv122) (aun_not _) ?_
          refine x_gy (show _ = (V.bool (decide (512 < ((p1.length : Nat) : Int)))) from rfl) (decide_eq_false hp120) ?_
          refine x_pickt' (show _ = (V.bool (!(decide (p0 = ([] : Bytes))))) from rfl) (bnot_f (decide_eq_false hp121)) (show _ = (V.bool (!r123)) from rfl) ?_
          refine x_pickf' (show _ = (V.bool (decide (512 < ((p1.length : Nat) : Int)))) from rfl) (decide_eq_false hp120) (show _ = (V.bool (!r123)) from rfl) ?_
          refine x_done ?_
          refine x_tN ?_
          by_cases hp125 : r123 = true
          · rw [if_pos hp125] at hD
            refine x_cf (show _ = (V.bool (!r123)) from rfl) (bnot_t hp125) ?_
            refine x_skip ?_
            refine x_tN ?_
            refine ok.seichelaw06_PathGoes_j1 hC_seichelaw06_alive hC_seicheref06_Good hC_path_From hC_seicheref06_From hC_path_Join (fun _ hE => ?_) ?_ ?_ hD
            · exact hR _ hE
            · exact (nf_str h0)
            · exact (nf_str h1)
          · rw [if_neg hp125] at hD
            refine x_ct (show _ = (V.bool (!r123)) from rfl) (bnot_f (Bool.eq_false_iff.2 hp125)) ?_
            refine x_seq ?_
            refine x_start (b := false) ?_
            refine x_mv' (show _ = (V.bool true) from rfl) ?_
            refine x_done ?_
            refine x_tN ?_
            refine x_retc ?_
            refine x_tR ?_
            obtain rfl := Option.some.inj hD
            exact hR _ (ends_t (nf_of rfl (show _ = (V.bool true) from rfl)) (fun h => nomatch h))
  · rw [if_neg hp14] at hD
    refine x_ct (show _ = (V.bool (!r12)) from rfl) (bnot_f (Bool.eq_false_iff.2 hp14)) ?_
    refine x_seq ?_
    refine x_start (b := false) ?_
    refine x_mv' (show _ = (V.bool false) from rfl) ?_
    refine x_done ?_
    refine x_tN ?_
    refine x_retc ?_
    refine x_tR ?_
    obtain rfl := Option.some.inj hD
    exact hR _ (ends_t (nf_of rfl (show _ = (V.bool false) from rfl)) (fun h => nomatch h))
def K.seichelaw06_PathGoes : FC := fc F.seichelaw06_PathGoes (fun _ => true) false (fun (a : (Bytes × Bytes)) => [(V.str a.1), (V.str a.2)]) (fun (y : Bool) => (V.bool y)) (fun a => g.seichelaw06_PathGoes a.1 a.2)
  (fun a => (cleanL_mk rfl (cleanL_mk rfl rfl)))
  (fun y => rfl)
  (fun ⟨a0, a1⟩ ⟨b0, b1⟩ h => by
    obtain ⟨h0, h⟩ := List.cons.inj h
    obtain rfl : a0 = b0 := V.str.inj h0
    obtain ⟨h0, h⟩ := List.cons.inj h
    obtain rfl : a1 = b1 := V.str.inj h0
    rfl)
theorem H.seichelaw06_PathGoes (w : World) (hw : EnvOK w) : K.seichelaw06_PathGoes.Holds (cxD w) :=
  FC.holds_of (cs := [K.seichelaw06_alive, K.seicheref06_Good, K.path_From, K.seicheref06_From, K.path_Join]) (glD w) mixed cf_seichelaw06_PathGoes (fun _ _ ⟨_, _, h, _⟩ => by subst h; exact Nat.le_of_ble_eq_true rfl) fun v y ⟨a, r, hv, hD, hy⟩ => by
    subst hy
    exact ok.seichelaw06_PathGoes (specOf_calls (H.seichelaw06_alive w hw) (fun _ _ ⟨_, _, h, _⟩ => by subst h; rfl)) (specOf_calls (H.seicheref06_Good w hw) (fun _ _ ⟨_, _, h, _⟩ => by subst h; rfl)) (specOf_calls (H.path_From w hw) (fun _ _ ⟨_, _, h, _⟩ => by subst h; rfl)) (specOf_calls (H.seicheref06_From w hw) (fun _ _ ⟨_, _, h, _⟩ => by subst h; rfl)) (specOf_calls (H.path_Join w hw) (fun _ _ ⟨_, _, h, _⟩ => by subst h; rfl)) hv hD
end Go.Proofs.YtainplhaaklpeaaDoor
