/-
  Functions of the program as Lean functions over plain data, and the proofs that the loaded code comes to them. Printed by a program of this seat (wip/gen/gen.py).
-/
import Derived.Test.YtainplhaaklpeabDoorProg
import Derived.Test.YtainplhaaklpeabDoorGenC
namespace Go.Proofs.YtainplhaaklpeabDoor
open Go.Abs Go.RowKit

def F.seicheref06_Good : Nat := 23
def F.path_Good : Nat := 41
def F.seicheref06_Part : Nat := 52
def F.path_part : Nat := 71
def F.slices_ContainsFunc_Lstring_string : Nat := 72
def F.path_Good_1 : Nat := 73
def F.slices_IndexFunc_Lstring_string : Nat := 87
def F.strings_Contains : Nat := 101
def F.path_Dir : Nat := 103
def F.strings_LastIndexByte : Nat := 119
def F.internal_bytealg_LastIndexByteString : Nat := 130
def c_path_part : ACode := (.seq (.region [
  ⟨(some 2), (.mv (.const (.bool false))), none, []⟩] false) (.seq (.region [
  ⟨(some 3), (.mv (.tmp 0)), none, []⟩, 
  ⟨(some 4), (.bin .neq .no (.tmp 3) (.const (.str []))), none, []⟩, 
  ⟨(some 5), (.mv (.tmp 4)), none, []⟩, 
  ⟨(some 6), (.mv (.tmp 0)), (some (5, true)), []⟩, 
  ⟨(some 7), (.bin .neq .no (.tmp 6) (.const (.str [46]))), (some (5, true)), []⟩, 
  ⟨(some 8), (.pick (.tmp 5) (.tmp 7) (.const (.bool false))), none, []⟩, 
  ⟨(some 9), (.mv (.tmp 8)), none, []⟩, 
  ⟨(some 10), (.mv (.tmp 0)), (some (9, true)), []⟩, 
  ⟨(some 11), (.bin .neq .no (.tmp 10) (.const (.str [46, 46]))), (some (9, true)), []⟩, 
  ⟨(some 12), (.pick (.tmp 9) (.tmp 11) (.const (.bool false))), none, []⟩, 
  ⟨(some 13), (.mv (.tmp 12)), none, []⟩, 
  ⟨(some 14), (.mv (.tmp 0)), (some (13, true)), []⟩, 
  ⟨(some 15), (.call F.strings_Contains [(.tmp 14), (.const (.str [0]))]), (some (13, true)), []⟩, 
  ⟨(some 16), (.un .not (.tmp 15)), (some (13, true)), []⟩, 
  ⟨(some 17), (.pick (.tmp 13) (.tmp 16) (.const (.bool false))), none, []⟩, 
  ⟨(some 18), (.mv (.tmp 17)), none, []⟩, 
  ⟨(some 19), (.mv (.tmp 0)), (some (18, true)), []⟩, 
  ⟨(some 20), (.call F.strings_Contains [(.tmp 19), (.const (.str [47]))]), (some (18, true)), []⟩, 
  ⟨(some 21), (.un .not (.tmp 20)), (some (18, true)), []⟩, 
  ⟨(some 22), (.pick (.tmp 18) (.tmp 21) (.const (.bool false))), none, []⟩, 
  ⟨(some 2), (.mv (.tmp 22)), none, []⟩] false) .ret))
theorem cf_path_part : cFn Go.Proofs.Tryd.prog F.path_part = some ⟨23, c_path_part, [.t 2]⟩ := by kernel_rfl
def g.path_part (p0 : Bytes) : Option Bool :=
  if p0 = ([] : Bytes) then
    some false
  else
    if p0 = ([46] : Bytes) then
      some false
    else
      if p0 = ([46, 46] : Bytes) then
        some false
      else
        (g.strings_Contains p0 ([0] : Bytes)).bind fun r5 =>
        if r5 = true then
          some false
        else
          (g.strings_Contains p0 ([47] : Bytes)).bind fun r9 =>
          some (!r9)
theorem ok.path_part {Γ : Abs.Spec} {gl : Glob} (hC_strings_Contains : CallsX Γ K.strings_Contains) {r : Bool} {p0 : Bytes} {v : List V}
    (hv : nfL v = [(V.str p0)]) (hD : g.path_part p0 = some r) : awp Γ gl c_path_part (endQ [.t 2] false (V.bool r)) (St.init v) := by
  obtain ⟨v0, v, rfl, h0, hv⟩ := nfL_cons hv
  obtain rfl := nfL_nil hv
  have hR : ∀ s, EndsX [.t 2] false (V.bool r) s → endQ [.t 2] false (V.bool r) .ret s := fun _ h => h
  unfold g.path_part at hD
  unfold c_path_part
  refine x_seq ?_
  refine x_start (b := false) ?_
  refine x_mv' (show _ = (V.bool false) from rfl) ?_
  refine x_done ?_
  refine x_tN ?_
  refine x_seq ?_
  refine x_start (b := false) ?_
  refine x_mv' (nf_str h0) ?_
  refine x_bin (show _ = (V.str p0) from rfl) (show _ = (V.str ([] : Bytes)) from rfl) s_neq ?_
  refine x_mv' (show _ = (V.bool (!(decide (p0 = ([] : Bytes))))) from rfl) ?_
  by_cases hp1 : p0 = ([] : Bytes)
  · rw [if_pos hp1] at hD
    refine x_gn (show _ = (V.bool (!(decide (p0 = ([] : Bytes))))) from rfl) (bnot_t (decide_eq_true hp1)) ?_
    refine x_gn (show _ = (V.bool (!(decide (p0 = ([] : Bytes))))) from rfl) (bnot_t (decide_eq_true hp1)) ?_
    refine x_pickf' (show _ = (V.bool (!(decide (p0 = ([] : Bytes))))) from rfl) (bnot_t (decide_eq_true hp1)) (show _ = (V.bool false) from rfl) ?_
    refine x_mv' (show _ = (V.bool false) from rfl) ?_
    refine x_gn (show _ = (V.bool false) from rfl) rfl ?_
    refine x_gn (show _ = (V.bool false) from rfl) rfl ?_
    refine x_pickf' (show _ = (V.bool false) from rfl) rfl (show _ = (V.bool false) from rfl) ?_
    refine x_mv' (show _ = (V.bool false) from rfl) ?_
    refine x_gn (show _ = (V.bool false) from rfl) rfl ?_
    refine x_gn (show _ = (V.bool false) from rfl) rfl ?_
    refine x_gn (show _ = (V.bool false) from rfl) rfl ?_
    refine x_pickf' (show _ = (V.bool false) from rfl) rfl (show _ = (V.bool false) from rfl) ?_
    refine x_mv' (show _ = (V.bool false) from rfl) ?_
    refine x_gn (show _ = (V.bool false) from rfl) rfl ?_
    refine x_gn (show _ = (V.bool false) from rfl) rfl ?_
    refine x_gn (show _ = (V.bool false) from rfl) rfl ?_
    refine x_pickf' (show _ = (V.bool false) from rfl) rfl (show _ = (V.bool false) from rfl) ?_
    refine x_mv' (show _ = (V.bool false) from rfl) ?_
    refine x_done ?_
    refine x_tN ?_
    refine x_retc ?_
    obtain rfl := Option.some.inj hD
    exact hR _ (ends_t (nf_of rfl (show _ = (V.bool false) from rfl)) (fun h => nomatch h))
  · rw [if_neg hp1] at hD
    refine x_gy (show _ = (V.bool (!(decide (p0 = ([] : Bytes))))) from rfl) (bnot_f (decide_eq_false hp1)) ?_
    refine x_mv' (nf_str h0) ?_
    refine x_gy (show _ = (V.bool (!(decide (p0 = ([] : Bytes))))) from rfl) (bnot_f (decide_eq_false hp1)) ?_
    refine x_bin (show _ = (V.str p0) from rfl) (show _ = (V.str ([46] : Bytes)) from rfl) s_neq ?_
    refine x_pickt' (show _ = (V.bool (!(decide (p0 = ([] : Bytes))))) from rfl) (bnot_f (decide_eq_false hp1)) (show _ = (V.bool (!(decide (p0 = ([46] : Bytes))))) from rfl) ?_
    refine x_mv' (show _ = (V.bool (!(decide (p0 = ([46] : Bytes))))) from rfl) ?_
    by_cases hp2 : p0 = ([46] : Bytes)
    · rw [if_pos hp2] at hD
      refine x_gn (show _ = (V.bool (!(decide (p0 = ([46] : Bytes))))) from rfl) (bnot_t (decide_eq_true hp2)) ?_
      refine x_gn (show _ = (V.bool (!(decide (p0 = ([46] : Bytes))))) from rfl) (bnot_t (decide_eq_true hp2)) ?_
      refine x_pickf' (show _ = (V.bool (!(decide (p0 = ([46] : Bytes))))) from rfl) (bnot_t (decide_eq_true hp2)) (show _ = (V.bool false) from rfl) ?_
      refine x_mv' (show _ = (V.bool false) from rfl) ?_
      refine x_gn (show _ = (V.bool false) from rfl) rfl ?_
      refine x_gn (show _ = (V.bool false) from rfl) rfl ?_
      refine x_gn (show _ = (V.bool false) from rfl) rfl ?_
      refine x_pickf' (show _ = (V.bool false) from rfl) rfl (show _ = (V.bool false) from rfl) ?_
      refine x_mv' (show _ = (V.bool false) from rfl) ?_
      refine x_gn (show _ = (V.bool false) from rfl) rfl ?_
      refine x_gn (show _ = (V.bool false) from rfl) rfl ?_
      refine x_gn (show _ = (V.bool false) from rfl) rfl ?_
      refine x_pickf' (show _ = (V.bool false) from rfl) rfl (show _ = (V.bool false) from rfl) ?_
      refine x_mv' (show _ = (V.bool false) from rfl) ?_
      refine x_done ?_
      refine x_tN ?_
      refine x_retc ?_
      obtain rfl := Option.some.inj hD
      exact hR _ (ends_t (nf_of rfl (show _ = (V.bool false) from rfl)) (fun h => nomatch h))
    · rw [if_neg hp2] at hD
      refine x_gy (show _ = (V.bool (!(decide (p0 = ([46] : Bytes))))) from rfl) (bnot_f (decide_eq_false hp2)) ?_
      refine x_mv' (nf_str h0) ?_
      refine x_gy (show _ = (V.bool (!(decide (p0 = ([46] : Bytes))))) from rfl) (bnot_f (decide_eq_false hp2)) ?_
      refine x_bin (show _ = (V.str p0) from rfl) (show _ = (V.str ([46, 46] : Bytes)) from rfl) s_neq ?_
      refine x_pickt' (show _ = (V.bool (!(decide (p0 = ([46] : Bytes))))) from rfl) (bnot_f (decide_eq_false hp2)) (show _ = (V.bool (!(decide (p0 = ([46, 46] : Bytes))))) from rfl) ?_
      refine x_mv' (show _ = (V.bool (!(decide (p0 = ([46, 46] : Bytes))))) from rfl) ?_
      by_cases hp3 : p0 = ([46, 46] : Bytes)
      · rw [if_pos hp3] at hD
        refine x_gn (show _ = (V.bool (!(decide (p0 = ([46, 46] : Bytes))))) from rfl) (bnot_t (decide_eq_true hp3)) ?_
        refine x_gn (show _ = (V.bool (!(decide (p0 = ([46, 46] : Bytes))))) from rfl) (bnot_t (decide_eq_true hp3)) ?_
        refine x_gn (show _ = (V.bool (!(decide (p0 = ([46, 46] : Bytes))))) from rfl) (bnot_t (decide_eq_true hp3)) ?_
        refine x_pickf' (show _ = (V.bool (!(decide (p0 = ([46, 46] : Bytes))))) from rfl) (bnot_t (decide_eq_true hp3)) (show _ = (V.bool false) from rfl) ?_
        refine x_mv' (show _ = (V.bool false) from rfl) ?_
        refine x_gn (show _ = (V.bool false) from rfl) rfl ?_
        refine x_gn (show _ = (V.bool false) from rfl) rfl ?_
        refine x_gn (show _ = (V.bool false) from rfl) rfl ?_
        refine x_pickf' (show _ = (V.bool false) from rfl) rfl (show _ = (V.bool false) from rfl) ?_
        refine x_mv' (show _ = (V.bool false) from rfl) ?_
        refine x_done ?_
        refine x_tN ?_
        refine x_retc ?_
        obtain rfl := Option.some.inj hD
        exact hR _ (ends_t (nf_of rfl (show _ = (V.bool false) from rfl)) (fun h => nomatch h))
      · rw [if_neg hp3] at hD
        refine x_gy (show _ = (V.bool (!(decide (p0 = ([46, 46] : Bytes))))) from rfl) (bnot_f (decide_eq_false hp3)) ?_
        refine x_mv' (nf_str h0) ?_
        refine x_gy (show _ = (V.bool (!(decide (p0 = ([46, 46] : Bytes))))) from rfl) (bnot_f (decide_eq_false hp3)) ?_
        obtain ⟨r5, hx6, hD⟩ := Option.bind_eq_some_iff.1 hD
        refine x_callF hC_strings_Contains (a := (p0, ([0] : Bytes))) (cons_eq (nf_of rfl (show _ = (V.str p0) from rfl)) (cons_eq (nf_of rfl (show _ = (V.str ([0] : Bytes)) from rfl)) rfl)) hx6 fun v4 ov4 (hv4 : v4.nf = (V.bool r5)) hov4 => ?_
        refine x_gy (show _ = (V.bool (!(decide (p0 = ([46, 46] : Bytes))))) from rfl) (bnot_f (decide_eq_false hp3)) ?_
        refine x_un (nf_bool hv4) (aun_not _) ?_
        refine x_pickt' (show _ = (V.bool (!(decide (p0 = ([46, 46] : Bytes))))) from rfl) (bnot_f (decide_eq_false hp3)) (show _ = (V.bool (!r5)) from rfl) ?_
        refine x_mv' (show _ = (V.bool (!r5)) from rfl) ?_
        by_cases hp7 : r5 = true
        · rw [if_pos hp7] at hD
          refine x_gn (show _ = (V.bool (!r5)) from rfl) (bnot_t hp7) ?_
          refine x_gn (show _ = (V.bool (!r5)) from rfl) (bnot_t hp7) ?_
          refine x_gn (show _ = (V.bool (!r5)) from rfl) (bnot_t hp7) ?_
          refine x_pickf' (show _ = (V.bool (!r5)) from rfl) (bnot_t hp7) (show _ = (V.bool false) from rfl) ?_
          refine x_mv' (show _ = (V.bool false) from rfl) ?_
          refine x_done ?_
          refine x_tN ?_
          refine x_retc ?_
          obtain rfl := Option.some.inj hD
          exact hR _ (ends_t (nf_of rfl (show _ = (V.bool false) from rfl)) (fun h => nomatch h))
        · rw [if_neg hp7] at hD
          refine x_gy (show _ = (V.bool (!r5)) from rfl) (bnot_f (Bool.eq_false_iff.2 hp7)) ?_
          refine x_mv' (nf_str h0) ?_
          refine x_gy (show _ = (V.bool (!r5)) from rfl) (bnot_f (Bool.eq_false_iff.2 hp7)) ?_
          obtain ⟨r9, hx10, hD⟩ := Option.bind_eq_some_iff.1 hD
          refine x_callF hC_strings_Contains (a := (p0, ([47] : Bytes))) (cons_eq (nf_of rfl (show _ = (V.str p0) from rfl)) (cons_eq (nf_of rfl (show _ = (V.str ([47] : Bytes)) from rfl)) rfl)) hx10 fun v8 ov8 (hv8 : v8.nf = (V.bool r9)) hov8 => ?_
          refine x_gy (show _ = (V.bool (!r5)) from rfl) (bnot_f (Bool.eq_false_iff.2 hp7)) ?_
          refine x_un (nf_bool hv8) (aun_not _) ?_
          refine x_pickt' (show _ = (V.bool (!r5)) from rfl) (bnot_f (Bool.eq_false_iff.2 hp7)) (show _ = (V.bool (!r9)) from rfl) ?_
          refine x_mv' (show _ = (V.bool (!r9)) from rfl) ?_
          refine x_done ?_
          refine x_tN ?_
          refine x_retc ?_
          obtain rfl := Option.some.inj hD
          exact hR _ (ends_t (nf_of rfl (show _ = (V.bool (!r9)) from rfl)) (fun h => nomatch h))
def K.path_part : FC := fc F.path_part (fun _ => true) false (fun (a : Bytes) => [(V.str a)]) (fun (y : Bool) => (V.bool y)) (fun a => g.path_part a)
  (fun a => (cleanL_mk rfl rfl))
  (fun y => rfl)
  (fun a0 b0 h => by
    obtain ⟨h0, h⟩ := List.cons.inj h
    obtain rfl : a0 = b0 := V.str.inj h0
    rfl)
theorem H.path_part (w : World) (hw : EnvOK w) : K.path_part.Holds (cxD w) :=
  FC.holds_of (cs := [K.strings_Contains]) (glD w) mixed cf_path_part (fun _ _ ⟨_, _, h, _⟩ => by subst h; exact Nat.le_of_ble_eq_true rfl) fun v y ⟨a, r, hv, hD, hy⟩ => by
    subst hy
    exact ok.path_part (specOf_calls (H.strings_Contains w hw) (fun _ _ ⟨_, _, h, _⟩ => by subst h; rfl)) hv hD
def c_path_Good_1 : ACode := (.seq (.region [
  ⟨(some 2), (.mv (.const (.bool false))), none, []⟩] false) (.seq (.region [
  ⟨(some 3), (.mv (.tmp 0)), none, []⟩, 
  ⟨(some 4), (.call F.path_part [(.tmp 3)]), none, []⟩, 
  ⟨(some 5), (.un .not (.tmp 4)), none, []⟩, 
  ⟨(some 2), (.mv (.tmp 5)), none, []⟩] false) .ret))
theorem cf_path_Good_1 : cFn Go.Proofs.Tryd.prog F.path_Good_1 = some ⟨6, c_path_Good_1, [.t 2]⟩ := by kernel_rfl
def g.path_Good_1 (p0 : Bytes) : Option Bool :=
  (g.path_part p0).bind fun r2 =>
  some (!r2)
theorem ok.path_Good_1 {Γ : Abs.Spec} {gl : Glob} (hC_path_part : CallsX Γ K.path_part) {r : Bool} {p0 : Bytes} {v : List V}
    (hv : nfL v = [(V.str p0)]) (hD : g.path_Good_1 p0 = some r) : awp Γ gl c_path_Good_1 (endQ [.t 2] false (V.bool r)) (St.init v) := by
  obtain ⟨v0, v, rfl, h0, hv⟩ := nfL_cons hv
  obtain rfl := nfL_nil hv
  have hR : ∀ s, EndsX [.t 2] false (V.bool r) s → endQ [.t 2] false (V.bool r) .ret s := fun _ h => h
  unfold g.path_Good_1 at hD
  unfold c_path_Good_1
  refine x_seq ?_
  refine x_start (b := false) ?_
  refine x_mv' (show _ = (V.bool false) from rfl) ?_
  refine x_done ?_
  refine x_tN ?_
  refine x_seq ?_
  refine x_start (b := false) ?_
  refine x_mv' (nf_str h0) ?_
  obtain ⟨r2, hx3, hD⟩ := Option.bind_eq_some_iff.1 hD
  refine x_callF hC_path_part (a := (p0)) (cons_eq (nf_of rfl (show _ = (V.str p0) from rfl)) rfl) hx3 fun v1 ov1 (hv1 : v1.nf = (V.bool r2)) hov1 => ?_
  refine x_un (nf_bool hv1) (aun_not _) ?_
  refine x_mv' (show _ = (V.bool (!r2)) from rfl) ?_
  refine x_done ?_
  refine x_tN ?_
  refine x_retc ?_
  obtain rfl := Option.some.inj hD
  exact hR _ (ends_t (nf_of rfl (show _ = (V.bool (!r2)) from rfl)) (fun h => nomatch h))
def K.path_Good_1 : FC := fc F.path_Good_1 (fun _ => true) false (fun (a : Bytes) => [(V.str a)]) (fun (y : Bool) => (V.bool y)) (fun a => g.path_Good_1 a)
  (fun a => (cleanL_mk rfl rfl))
  (fun y => rfl)
  (fun a0 b0 h => by
    obtain ⟨h0, h⟩ := List.cons.inj h
    obtain rfl : a0 = b0 := V.str.inj h0
    rfl)
theorem H.path_Good_1 (w : World) (hw : EnvOK w) : K.path_Good_1.Holds (cxD w) :=
  FC.holds_of (cs := [K.path_part]) (glD w) mixed cf_path_Good_1 (fun _ _ ⟨_, _, h, _⟩ => by subst h; exact Nat.le_of_ble_eq_true rfl) fun v y ⟨a, r, hv, hD, hy⟩ => by
    subst hy
    exact ok.path_Good_1 (specOf_calls (H.path_part w hw) (fun _ _ ⟨_, _, h, _⟩ => by subst h; rfl)) hv hD
def c_slices_IndexFunc_Lstring_string_path_Good_1_l1 : ACode := (.seq (.region [
  ⟨(some 9), (.bin .lss .no (.tmp 8) (.tmp 7)), none, []⟩] false) (.seq (.cond (.tmp 9) .skip (.exit 0)) (.seq (.block 1 (.seq (.region [
  ⟨(some 10), (.mv (.tmp 8)), none, []⟩, 
  ⟨(some 5), (.mv (.tmp 10)), none, []⟩] false) (.seq (.region [
  ⟨(some 11), (.mv (.tmp 1)), none, []⟩, 
  ⟨(some 12), (.mv (.tmp 0)), none, []⟩, 
  ⟨(some 13), (.mv (.tmp 5)), none, []⟩, 
  ⟨(some 14), (.iaddr 1 (.tmp 12) (.tmp 13)), none, []⟩, 
  ⟨(some 15), (.load none (.tmp 14)), none, []⟩, 
  ⟨(some 16), (.callv (.tmp 11) [(.tmp 15)]), none, []⟩] false) (.cond (.tmp 16) (.seq (.region [
  ⟨(some 17), (.mv (.tmp 5)), none, []⟩, 
  ⟨(some 4), (.mv (.tmp 17)), none, []⟩] false) .ret) .skip)))) (.region [
  ⟨(some 18), (.bin .add .no (.tmp 8) (.const (.int .i64 1))), none, []⟩, 
  ⟨(some 8), (.mv (.tmp 18)), none, []⟩] false))))
def c_slices_IndexFunc_Lstring_string_path_Good_1 : ACode := (.seq (.region [
  ⟨(some 4), (.mv (.const (.int .i64 0))), none, []⟩] false) (.seq (.seq (.region [
  ⟨(some 6), (.mv (.tmp 0)), none, []⟩, 
  ⟨(some 7), (.len false (.tmp 6)), none, []⟩, 
  ⟨(some 8), (.mv (.const (.int .i64 0))), none, []⟩] false) (.block 0 (.loop c_slices_IndexFunc_Lstring_string_path_Good_1_l1))) (.seq (.region [
  ⟨(some 4), (.mv (.const (.int .i64 (-1)))), none, []⟩] false) .ret)))
theorem cf_slices_IndexFunc_Lstring_string_path_Good_1 : cFn Go.Proofs.Tryd.prog F.slices_IndexFunc_Lstring_string = some ⟨19, c_slices_IndexFunc_Lstring_string_path_Good_1, [.t 4]⟩ := by kernel_rfl
def L.slices_IndexFunc_Lstring_string_path_Good_1_l1 (k0 : Option Int) : List Bytes → Nat → Option Int
  | [], k4 =>
    k0
  | a25 :: rest, k4 =>
    (g.path_Good_1 a25).bind fun r38 =>
    if r38 = true then
      some ((k4 : Nat) : Int)
    else
      L.slices_IndexFunc_Lstring_string_path_Good_1_l1 k0 rest (k4 + 1)
theorem ok.slices_IndexFunc_Lstring_string_path_Good_1_l1 {Γ : Abs.Spec} {gl : Glob} (hC_path_Good_1 : CallsX Γ K.path_Good_1) {Q : Ex → St → Prop} {r : Int} {l3 : List Bytes} {k0 : Option Int}
    (hk0 : ∀ (s : St), k0 = some r → Q (.exit 0) s)
    (hR : ∀ s, EndsX [.t 4] false (V.int .i64 r) s → Q .ret s)
    (hlen : l3.length ≤ Lim) : ∀ (rest : List Bytes) (k4 : Nat) (s : St), l3.drop k4 = rest → k4 ≤ l3.length →
    ((s.tm 0).nf = V.sl false 1 (List.map V.str l3)) → (s.tm 7 = V.int .i64 ((l3.length : Nat) : Int)) → (s.tm 8 = V.int .i64 ((k4 : Nat) : Int)) → ((s.tm 1).nf = (V.fn F.path_Good_1 [])) →
    L.slices_IndexFunc_Lstring_string_path_Good_1_l1 k0 rest k4 = some r → awp Γ gl (.loop c_slices_IndexFunc_Lstring_string_path_Good_1_l1) Q s := by
  intro rest
  induction rest with
  | nil =>
    intro k4 s hdrop hkl hX hN hI h24 hD
    have hkz := drop_nil hdrop hkl
    have hp0 : ¬ (((k4 : Nat) : Int) < ((l3.length : Nat) : Int)) := by omega
    refine awp_roundK fun K hK => ?_
    rw [L.slices_IndexFunc_Lstring_string_path_Good_1_l1] at hD
    refine x_seq ?_
    refine x_start (b := false) ?_
    refine x_bin hI hN b_lss ?_
    refine x_done ?_
    refine x_tN ?_
    refine x_seq ?_
    refine x_cf (show _ = (V.bool (decide (((k4 : Nat) : Int) < ((l3.length : Nat) : Int)))) from rfl) (decide_eq_false hp0) ?_
    refine x_exitc ?_
    refine x_tE ?_
    refine x_tE ?_
    refine hk0 _ hD
  | cons a25 rest ih =>
    intro k4 s hdrop hkl hX hN hI h24 hD
    obtain ⟨hlt, -, hget, hdrop1, -⟩ := drop_cons hdrop
    have hp1 : ((k4 : Nat) : Int) < ((l3.length : Nat) : Int) := by omega
    have hwk := wi_succ (k := k4) (by unfold Lim at hlen; omega)
    refine awp_roundK fun K hK => ?_
    rw [L.slices_IndexFunc_Lstring_string_path_Good_1_l1] at hD
    refine x_seq ?_
    refine x_start (b := false) ?_
    refine x_bin hI hN b_lss ?_
    refine x_done ?_
    refine x_tN ?_
    refine x_seq ?_
    refine x_ct (show _ = (V.bool (decide (((k4 : Nat) : Int) < ((l3.length : Nat) : Int)))) from rfl) (decide_eq_true hp1) ?_
    refine x_skip ?_
    refine x_tN ?_
    refine x_seq ?_
    refine x_block ?_
    refine x_seq ?_
    refine x_start (b := false) ?_
    refine x_mv' hI ?_
    refine x_mv' (show _ = (V.int .i64 ((k4 : Nat) : Int)) from rfl) ?_
    refine x_done ?_
    refine x_tN ?_
    refine x_seq ?_
    refine x_start (b := false) ?_
    refine x_mv h24 fun v33 hv33 => ?_
    refine x_mv hX fun v34 hv34 => ?_
    refine x_mv' (show _ = (V.int .i64 ((k4 : Nat) : Int)) from rfl) ?_
    refine x_iaddr hv34 (show _ = (V.int .i64 ((k4 : Nat) : Int)) from rfl) (at_k hget) fun v35 (hv35 : v35.nf = V.el [(V.str a25)] 0) => ?_
    refine x_load_el hv35 (show _ = some (V.str a25) from rfl) fun v36 hv36 => ?_
    obtain ⟨r38, hx39, hD⟩ := Option.bind_eq_some_iff.1 hD
    refine x_callvF hC_path_Good_1 hv33 (a := (a25)) (cons_eq (nf_of rfl (nf_str hv36)) rfl) hx39 fun v37 ov37 (hv37 : v37.nf = (V.bool r38)) hov37 => ?_
    refine x_done ?_
    refine x_tN ?_
    by_cases hp40 : r38 = true
    · rw [if_pos hp40] at hD
      refine x_ct (nf_bool hv37) hp40 ?_
      refine x_seq ?_
      refine x_start (b := false) ?_
      refine x_mv' (show _ = (V.int .i64 ((k4 : Nat) : Int)) from rfl) ?_
      refine x_mv' (show _ = (V.int .i64 ((k4 : Nat) : Int)) from rfl) ?_
      refine x_done ?_
      refine x_tN ?_
      refine x_retc ?_
      refine x_bR ?_
      refine x_tR ?_
      refine x_tR ?_
      obtain rfl := Option.some.inj hD
      exact hR _ (ends_t (nf_of rfl (show _ = (V.int .i64 ((k4 : Nat) : Int)) from rfl)) (fun h => nomatch h))
    · rw [if_neg hp40] at hD
      refine x_cf (nf_bool hv37) (Bool.eq_false_iff.2 hp40) ?_
      refine x_skip ?_
      refine x_bN ?_
      refine x_tN ?_
      refine x_start (b := false) ?_
      refine x_bin hI (show _ = (V.int .i64 1) from rfl) b_add ?_
      refine x_mv' (show _ = (V.int .i64 (wi (((k4 : Nat) : Int) + 1))) from rfl) ?_
      refine x_done ?_
      refine x_tN ?_
      refine hK _ ?_
      refine ih (k4 + 1) _ hdrop1 hlt ?_ ?_ ?_ ?_ hD
      · exact hX
      · exact hN
      · exact (Eq.trans (show _ = (V.int .i64 (wi (((k4 : Nat) : Int) + 1))) from rfl) (congrArg (V.int .i64) hwk))
      · exact h24
def g.slices_IndexFunc_Lstring_string_path_Good_1 (p0 : (List Bytes)) : Option Int :=
  if p0.length ≤ Lim then L.slices_IndexFunc_Lstring_string_path_Good_1_l1 (some (-1)) p0 0 else none
theorem ok.slices_IndexFunc_Lstring_string_path_Good_1 {Γ : Abs.Spec} {gl : Glob} (hC_path_Good_1 : CallsX Γ K.path_Good_1) {r : Int} {p0 : (List Bytes)} {v : List V}
    (hv : nfL v = [(V.sl false 1 (List.map V.str p0)), (V.fn F.path_Good_1 [])]) (hD : g.slices_IndexFunc_Lstring_string_path_Good_1 p0 = some r) : awp Γ gl c_slices_IndexFunc_Lstring_string_path_Good_1 (endQ [.t 4] false (V.int .i64 r)) (St.init v) := by
  obtain ⟨v0, v, rfl, h0, hv⟩ := nfL_cons hv
  obtain ⟨v1, v, rfl, h1, hv⟩ := nfL_cons hv
  obtain rfl := nfL_nil hv
  have hR : ∀ s, EndsX [.t 4] false (V.int .i64 r) s → endQ [.t 4] false (V.int .i64 r) .ret s := fun _ h => h
  unfold g.slices_IndexFunc_Lstring_string_path_Good_1 at hD
  unfold c_slices_IndexFunc_Lstring_string_path_Good_1
  refine x_seq ?_
  refine x_start (b := false) ?_
  refine x_mv' (show _ = (V.int .i64 0) from rfl) ?_
  refine x_done ?_
  refine x_tN ?_
  refine x_seq ?_
  refine x_seq ?_
  refine x_start (b := false) ?_
  refine x_mv h0 fun v2 hv2 => ?_
  refine x_len hv2 ?_
  refine x_mv' (show _ = (V.int .i64 0) from rfl) ?_
  refine x_done ?_
  refine x_tN ?_
  refine x_block ?_
  by_cases hlen42 : p0.length ≤ Lim
  · rw [if_pos hlen42] at hD
    refine ok.slices_IndexFunc_Lstring_string_path_Good_1_l1 (l3 := p0) hC_path_Good_1 (fun s41 hD => ?_) (fun _ hE => ?_) hlen42 _ 0 _ rfl (Nat.zero_le _) ?_ ?_ ?_ ?_ hD
    · refine x_bE ?_
      refine x_tN ?_
      refine x_seq ?_
      refine x_start (b := false) ?_
      refine x_mv' (show _ = (V.int .i64 (-1)) from rfl) ?_
      refine x_done ?_
      refine x_tN ?_
      refine x_retc ?_
      obtain rfl := Option.some.inj hD
      exact hR _ (ends_t (nf_of rfl (show _ = (V.int .i64 (-1)) from rfl)) (fun h => nomatch h))
    · refine x_bR ?_; refine x_tR ?_; exact hR _ hE
    · exact h0
    · exact (show _ = (V.int .i64 ((p0.length : Nat) : Int)) from rfl)
    · exact (show _ = (V.int .i64 0) from rfl)
    · exact h1
  · rw [if_neg hlen42] at hD; cases hD
def K.slices_IndexFunc_Lstring_string_path_Good_1 : FC := fc F.slices_IndexFunc_Lstring_string (fun avs => isFn F.path_Good_1 avs[1]?) false (fun (a : (List Bytes)) => [(V.sl false 1 (List.map V.str a)), (V.fn F.path_Good_1 [])]) (fun (y : Int) => (V.int .i64 y)) (fun a => g.slices_IndexFunc_Lstring_string_path_Good_1 a)
  (fun a => (cleanL_mk (E.Lstring_clean _) (cleanL_mk rfl rfl)))
  (fun y => rfl)
  (fun a0 b0 h => by
    obtain ⟨h0, h⟩ := List.cons.inj h
    obtain rfl : a0 = b0 := E.Lstring_inj h0
    obtain ⟨h0, h⟩ := List.cons.inj h
    rfl)
theorem H.slices_IndexFunc_Lstring_string_path_Good_1 (w : World) (hw : EnvOK w) : K.slices_IndexFunc_Lstring_string_path_Good_1.Holds (cxD w) :=
  FC.holds_of (cs := [K.path_Good_1]) (glD w) mixed cf_slices_IndexFunc_Lstring_string_path_Good_1 (fun _ _ ⟨_, _, h, _⟩ => by subst h; exact Nat.le_of_ble_eq_true rfl) fun v y ⟨a, r, hv, hD, hy⟩ => by
    subst hy
    exact ok.slices_IndexFunc_Lstring_string_path_Good_1 (specOf_calls (H.path_Good_1 w hw) (fun _ _ ⟨_, _, h, _⟩ => by subst h; rfl)) hv hD
def c_slices_ContainsFunc_Lstring_string_path_Good_1 : ACode := (.seq (.region [
  ⟨(some 4), (.mv (.const (.bool false))), none, []⟩] false) (.seq (.region [
  ⟨(some 5), (.mv (.tmp 0)), none, []⟩, 
  ⟨(some 6), (.mv (.tmp 1)), none, []⟩, 
  ⟨(some 7), (.call F.slices_IndexFunc_Lstring_string [(.tmp 5), (.tmp 6)]), none, []⟩, 
  ⟨(some 8), (.bin .geq .no (.tmp 7) (.const (.int .i64 0))), none, []⟩, 
  ⟨(some 4), (.mv (.tmp 8)), none, []⟩] false) .ret))
theorem cf_slices_ContainsFunc_Lstring_string_path_Good_1 : cFn Go.Proofs.Tryd.prog F.slices_ContainsFunc_Lstring_string = some ⟨9, c_slices_ContainsFunc_Lstring_string_path_Good_1, [.t 4]⟩ := by kernel_rfl
def g.slices_ContainsFunc_Lstring_string_path_Good_1 (p0 : (List Bytes)) : Option Bool :=
  (g.slices_IndexFunc_Lstring_string_path_Good_1 p0).bind fun r4 =>
  some (decide (0 ≤ r4))
theorem ok.slices_ContainsFunc_Lstring_string_path_Good_1 {Γ : Abs.Spec} {gl : Glob} (hC_slices_IndexFunc_Lstring_string_path_Good_1 : CallsX Γ K.slices_IndexFunc_Lstring_string_path_Good_1) {r : Bool} {p0 : (List Bytes)} {v : List V}
    (hv : nfL v = [(V.sl false 1 (List.map V.str p0)), (V.fn F.path_Good_1 [])]) (hD : g.slices_ContainsFunc_Lstring_string_path_Good_1 p0 = some r) : awp Γ gl c_slices_ContainsFunc_Lstring_string_path_Good_1 (endQ [.t 4] false (V.bool r)) (St.init v) := by
  obtain ⟨v0, v, rfl, h0, hv⟩ := nfL_cons hv
  obtain ⟨v1, v, rfl, h1, hv⟩ := nfL_cons hv
  obtain rfl := nfL_nil hv
  have hR : ∀ s, EndsX [.t 4] false (V.bool r) s → endQ [.t 4] false (V.bool r) .ret s := fun _ h => h
  unfold g.slices_ContainsFunc_Lstring_string_path_Good_1 at hD
  unfold c_slices_ContainsFunc_Lstring_string_path_Good_1
  refine x_seq ?_
  refine x_start (b := false) ?_
  refine x_mv' (show _ = (V.bool false) from rfl) ?_
  refine x_done ?_
  refine x_tN ?_
  refine x_seq ?_
  refine x_start (b := false) ?_
  refine x_mv h0 fun v1 hv1 => ?_
  refine x_mv h1 fun v2 hv2 => ?_
  obtain ⟨r4, hx5, hD⟩ := Option.bind_eq_some_iff.1 hD
  refine x_callF hC_slices_IndexFunc_Lstring_string_path_Good_1 (a := (p0)) (cons_eq hv1 (cons_eq hv2 rfl)) hx5 fun v3 ov3 (hv3 : v3.nf = (V.int .i64 r4)) hov3 => ?_
  refine x_bin (nf_int hv3) (show _ = (V.int .i64 0) from rfl) b_geq ?_
  refine x_mv' (show _ = (V.bool (decide (0 ≤ r4))) from rfl) ?_
  refine x_done ?_
  refine x_tN ?_
  refine x_retc ?_
  obtain rfl := Option.some.inj hD
  exact hR _ (ends_t (nf_of rfl (show _ = (V.bool (decide (0 ≤ r4))) from rfl)) (fun h => nomatch h))
def K.slices_ContainsFunc_Lstring_string_path_Good_1 : FC := fc F.slices_ContainsFunc_Lstring_string (fun avs => isFn F.path_Good_1 avs[1]?) false (fun (a : (List Bytes)) => [(V.sl false 1 (List.map V.str a)), (V.fn F.path_Good_1 [])]) (fun (y : Bool) => (V.bool y)) (fun a => g.slices_ContainsFunc_Lstring_string_path_Good_1 a)
  (fun a => (cleanL_mk (E.Lstring_clean _) (cleanL_mk rfl rfl)))
  (fun y => rfl)
  (fun a0 b0 h => by
    obtain ⟨h0, h⟩ := List.cons.inj h
    obtain rfl : a0 = b0 := E.Lstring_inj h0
    obtain ⟨h0, h⟩ := List.cons.inj h
    rfl)
theorem H.slices_ContainsFunc_Lstring_string_path_Good_1 (w : World) (hw : EnvOK w) : K.slices_ContainsFunc_Lstring_string_path_Good_1.Holds (cxD w) :=
  FC.holds_of (cs := [K.slices_IndexFunc_Lstring_string_path_Good_1]) (glD w) mixed cf_slices_ContainsFunc_Lstring_string_path_Good_1 (fun _ _ ⟨_, _, h, _⟩ => by subst h; exact Nat.le_of_ble_eq_true rfl) fun v y ⟨a, r, hv, hD, hy⟩ => by
    subst hy
    exact ok.slices_ContainsFunc_Lstring_string_path_Good_1 (specOf_calls (H.slices_IndexFunc_Lstring_string_path_Good_1 w hw) (fun _ _ ⟨_, _, h, _⟩ => by subst h; rfl)) hv hD
def c_path_Good : ACode := (.seq (.region [
  ⟨(some 2), (.mv (.const (.bool false))), none, []⟩] false) (.seq (.seq (.region [
  ⟨(some 4), (.mv (.tmp 0)), none, []⟩, 
  ⟨(some 5), (.len true (.tmp 4)), none, []⟩, 
  ⟨(some 6), (.bin .gtr .no (.tmp 5) (.const (.int .i64 128))), none, []⟩] false) (.cond (.tmp 6) (.seq (.region [
  ⟨(some 2), (.mv (.const (.bool false))), none, []⟩] false) .ret) .skip)) (.seq (.region [
  ⟨(some 7), (.mv (.tmp 0)), none, []⟩, 
  ⟨(some 8), (.call F.strings_Split [(.tmp 7), (.const (.str [47]))]), none, []⟩, 
  ⟨(some 3), (.mvo 8), none, []⟩] false) (.seq (.region [
  ⟨(some 9), (.mv (.tmp 3)), none, []⟩, 
  ⟨(some 10), (.len false (.tmp 9)), none, []⟩, 
  ⟨(some 11), (.bin .leq .no (.tmp 10) (.const (.int .i64 16))), none, []⟩, 
  ⟨(some 12), (.mv (.tmp 11)), none, []⟩, 
  ⟨(some 13), (.mv (.tmp 3)), (some (12, true)), []⟩, 
  ⟨(some 14), (.call F.slices_ContainsFunc_Lstring_string [(.tmp 13), (.const (.fn F.path_Good_1 []))]), (some (12, true)), []⟩, 
  ⟨(some 15), (.un .not (.tmp 14)), (some (12, true)), []⟩, 
  ⟨(some 16), (.pick (.tmp 12) (.tmp 15) (.const (.bool false))), none, []⟩, 
  ⟨(some 2), (.mv (.tmp 16)), none, []⟩] false) .ret))))
theorem cf_path_Good : cFn Go.Proofs.Tryd.prog F.path_Good = some ⟨17, c_path_Good, [.t 2]⟩ := by kernel_rfl
def g.path_Good (p0 : Bytes) : Option Bool :=
  if 128 < ((p0.length : Nat) : Int) then
    some false
  else
    (g.strings_Split p0 ([47] : Bytes)).bind fun r8 =>
    if ((r8.length : Nat) : Int) ≤ 16 then
      (g.slices_ContainsFunc_Lstring_string_path_Good_1 r8).bind fun r15 =>
      some (!r15)
    else
      some false
theorem ok.path_Good {Γ : Abs.Spec} {gl : Glob} (hC_strings_Split : CallsX Γ K.strings_Split) (hC_slices_ContainsFunc_Lstring_string_path_Good_1 : CallsX Γ K.slices_ContainsFunc_Lstring_string_path_Good_1) {r : Bool} {p0 : Bytes} {v : List V}
    (hv : nfL v = [(V.str p0)]) (hD : g.path_Good p0 = some r) : awp Γ gl c_path_Good (endQ [.t 2] false (V.bool r)) (St.init v) := by
  obtain ⟨v0, v, rfl, h0, hv⟩ := nfL_cons hv
  obtain rfl := nfL_nil hv
  have hR : ∀ s, EndsX [.t 2] false (V.bool r) s → endQ [.t 2] false (V.bool r) .ret s := fun _ h => h
  unfold g.path_Good at hD
  unfold c_path_Good
  refine x_seq ?_
  refine x_start (b := false) ?_
  refine x_mv' (show _ = (V.bool false) from rfl) ?_
  refine x_done ?_
  refine x_tN ?_
  refine x_seq ?_
  refine x_seq ?_
  refine x_start (b := false) ?_
  refine x_mv' (nf_str h0) ?_
  refine x_lens (show _ = (V.str p0) from rfl) ?_
  refine x_bin (show _ = (V.int .i64 ((p0.length : Nat) : Int)) from rfl) (show _ = (V.int .i64 128) from rfl) b_gtr ?_
  refine x_done ?_
  refine x_tN ?_
  by_cases hp2 : 128 < ((p0.length : Nat) : Int)
  · rw [if_pos hp2] at hD
    refine x_ct (show _ = (V.bool (decide (128 < ((p0.length : Nat) : Int)))) from rfl) (decide_eq_true hp2) ?_
    refine x_seq ?_
    refine x_start (b := false) ?_
    refine x_mv' (show _ = (V.bool false) from rfl) ?_
    refine x_done ?_
    refine x_tN ?_
    refine x_retc ?_
    refine x_tR ?_
    obtain rfl := Option.some.inj hD
    exact hR _ (ends_t (nf_of rfl (show _ = (V.bool false) from rfl)) (fun h => nomatch h))
  · rw [if_neg hp2] at hD
    refine x_cf (show _ = (V.bool (decide (128 < ((p0.length : Nat) : Int)))) from rfl) (decide_eq_false hp2) ?_
    refine x_skip ?_
    refine x_tN ?_
    refine x_seq ?_
    refine x_start (b := false) ?_
    refine x_mv' (nf_str h0) ?_
    obtain ⟨r8, hx9, hD⟩ := Option.bind_eq_some_iff.1 hD
    refine x_callF hC_strings_Split (a := (p0, ([47] : Bytes))) (cons_eq (nf_of rfl (show _ = (V.str p0) from rfl)) (cons_eq (nf_of rfl (show _ = (V.str ([47] : Bytes)) from rfl)) rfl)) hx9 fun v7 ov7 (hv7 : v7.nf = (V.sl false 1 (List.map V.str r8))) hov7 => ?_
    refine x_mvo hv7 fun v10 ov10 hv10 hwv10 => ?_
    refine x_done ?_
    refine x_tN ?_
    refine x_seq ?_
    refine x_start (b := false) ?_
    refine x_mv hv10 fun v11 hv11 => ?_
    refine x_len hv11 ?_
    refine x_bin (show _ = (V.int .i64 ((r8.length : Nat) : Int)) from rfl) (show _ = (V.int .i64 16) from rfl) b_leq ?_
    refine x_mv' (show _ = (V.bool (decide (((r8.length : Nat) : Int) ≤ 16))) from rfl) ?_
    by_cases hp12 : ((r8.length : Nat) : Int) ≤ 16
    · rw [if_pos hp12] at hD
      refine x_gy (show _ = (V.bool (decide (((r8.length : Nat) : Int) ≤ 16))) from rfl) (decide_eq_true hp12) ?_
      refine x_mv hv10 fun v13 hv13 => ?_
      refine x_gy (show _ = (V.bool (decide (((r8.length : Nat) : Int) ≤ 16))) from rfl) (decide_eq_true hp12) ?_
      obtain ⟨r15, hx16, hD⟩ := Option.bind_eq_some_iff.1 hD
      refine x_callF hC_slices_ContainsFunc_Lstring_string_path_Good_1 (a := (r8)) (cons_eq hv13 (cons_eq (show V.nf _ = (V.fn F.path_Good_1 []) from rfl) rfl)) hx16 fun v14 ov14 (hv14 : v14.nf = (V.bool r15)) hov14 => ?_
      refine x_gy (show _ = (V.bool (decide (((r8.length : Nat) : Int) ≤ 16))) from rfl) (decide_eq_true hp12) ?_
      refine x_un (nf_bool hv14) (aun_not _) ?_
      refine x_pickt' (show _ = (V.bool (decide (((r8.length : Nat) : Int) ≤ 16))) from rfl) (decide_eq_true hp12) (show _ = (V.bool (!r15)) from rfl) ?_
      refine x_mv' (show _ = (V.bool (!r15)) from rfl) ?_
      refine x_done ?_
      refine x_tN ?_
      refine x_retc ?_
      obtain rfl := Option.some.inj hD
      exact hR _ (ends_t (nf_of rfl (show _ = (V.bool (!r15)) from rfl)) (fun h => nomatch h))
    · rw [if_neg hp12] at hD
      refine x_gn (show _ = (V.bool (decide (((r8.length : Nat) : Int) ≤ 16))) from rfl) (decide_eq_false hp12) ?_
      refine x_gn (show _ = (V.bool (decide (((r8.length : Nat) : Int) ≤ 16))) from rfl) (decide_eq_false hp12) ?_
      refine x_gn (show _ = (V.bool (decide (((r8.length : Nat) : Int) ≤ 16))) from rfl) (decide_eq_false hp12) ?_
      refine x_pickf' (show _ = (V.bool (decide (((r8.length : Nat) : Int) ≤ 16))) from rfl) (decide_eq_false hp12) (show _ = (V.bool false) from rfl) ?_
      refine x_mv' (show _ = (V.bool false) from rfl) ?_
      refine x_done ?_
      refine x_tN ?_
      refine x_retc ?_
      obtain rfl := Option.some.inj hD
      exact hR _ (ends_t (nf_of rfl (show _ = (V.bool false) from rfl)) (fun h => nomatch h))
def K.path_Good : FC := fc F.path_Good (fun _ => true) false (fun (a : Bytes) => [(V.str a)]) (fun (y : Bool) => (V.bool y)) (fun a => g.path_Good a)
  (fun a => (cleanL_mk rfl rfl))
  (fun y => rfl)
  (fun a0 b0 h => by
    obtain ⟨h0, h⟩ := List.cons.inj h
    obtain rfl : a0 = b0 := V.str.inj h0
    rfl)
theorem H.path_Good (w : World) (hw : EnvOK w) : K.path_Good.Holds (cxD w) :=
  FC.holds_of (cs := [K.strings_Split, K.slices_ContainsFunc_Lstring_string_path_Good_1]) (glD w) mixed cf_path_Good (fun _ _ ⟨_, _, h, _⟩ => by subst h; exact Nat.le_of_ble_eq_true rfl) fun v y ⟨a, r, hv, hD, hy⟩ => by
    subst hy
    exact ok.path_Good (specOf_calls (H.strings_Split w hw) (fun _ _ ⟨_, _, h, _⟩ => by subst h; rfl)) (specOf_calls (H.slices_ContainsFunc_Lstring_string_path_Good_1 w hw) (fun _ _ ⟨_, _, h, _⟩ => by subst h; rfl)) hv hD
def c_internal_bytealg_LastIndexByteString_l1 : ACode := (.seq (.seq (.region [
  ⟨(some 9), (.mv (.tmp 5)), none, []⟩, 
  ⟨(some 10), (.bin .geq .no (.tmp 9) (.const (.int .i64 0))), none, []⟩] false) (.cond (.tmp 10) .skip (.exit 0))) (.seq (.block 1 (.seq (.region [
  ⟨(some 13), (.mv (.tmp 0)), none, []⟩, 
  ⟨(some 14), (.mv (.tmp 5)), none, []⟩, 
  ⟨(some 15), (.idx (.tmp 13) (.tmp 14)), none, []⟩, 
  ⟨(some 16), (.mv (.tmp 1)), none, []⟩, 
  ⟨(some 17), (.bin .eql .no (.tmp 15) (.tmp 16)), none, []⟩] false) (.cond (.tmp 17) (.seq (.region [
  ⟨(some 18), (.mv (.tmp 5)), none, []⟩, 
  ⟨(some 4), (.mv (.tmp 18)), none, []⟩] false) .ret) .skip))) (.region [
  ⟨(some 11), (.mv (.tmp 5)), none, []⟩, 
  ⟨(some 12), (.bin .sub .no (.tmp 11) (.const (.int .i64 1))), none, []⟩, 
  ⟨(some 5), (.mv (.tmp 12)), none, []⟩] false)))
def c_internal_bytealg_LastIndexByteString : ACode := (.seq (.region [
  ⟨(some 4), (.mv (.const (.int .i64 0))), none, []⟩] false) (.seq (.seq (.region [
  ⟨(some 6), (.mv (.tmp 0)), none, []⟩, 
  ⟨(some 7), (.len true (.tmp 6)), none, []⟩, 
  ⟨(some 8), (.bin .sub .no (.tmp 7) (.const (.int .i64 1))), none, []⟩, 
  ⟨(some 5), (.mv (.tmp 8)), none, []⟩] false) (.block 0 (.loop c_internal_bytealg_LastIndexByteString_l1))) (.seq (.region [
  ⟨(some 4), (.mv (.const (.int .i64 (-1)))), none, []⟩] false) .ret)))
theorem cf_internal_bytealg_LastIndexByteString : cFn Go.Proofs.Tryd.prog F.internal_bytealg_LastIndexByteString = some ⟨19, c_internal_bytealg_LastIndexByteString, [.t 4]⟩ := by kernel_rfl
def L.internal_bytealg_LastIndexByteString_l1 (t0_1 : Bytes) (t1_2 : UInt8) (k0 : Option Int) : Nat → Int → Option Int
  | 0, _ => none
  | n + 1, t5_17 =>
    if 0 ≤ t5_17 then
      (at? t0_1 t5_17).bind fun b22 =>
      if b22 = t1_2 then
        some t5_17
      else
        L.internal_bytealg_LastIndexByteString_l1 t0_1 t1_2 k0 n (wi (t5_17 - 1))
    else
      k0
theorem ok.internal_bytealg_LastIndexByteString_l1 {Γ : Abs.Spec} {gl : Glob} {Q : Ex → St → Prop} {r : Int} {t0_1 : Bytes} {t1_2 : UInt8} {k0 : Option Int}
    (hk0 : ∀ (s : St), k0 = some r → Q (.exit 0) s)
    (hR : ∀ s, EndsX [.t 4] false (V.int .i64 r) s → Q .ret s) : ∀ (n : Nat) (s : St) (t5_17 : Int),
    (s.tm 0 = (V.str t0_1)) → (s.tm 1 = (V.int .u8 ((t1_2 : UInt8).toNat : Int))) → (s.tm 5 = (V.int .i64 t5_17)) → L.internal_bytealg_LastIndexByteString_l1 t0_1 t1_2 k0 n t5_17 = some r → awp Γ gl (.loop c_internal_bytealg_LastIndexByteString_l1) Q s := by
  intro n
  induction n with
  | zero => intro s t5_17 h14 h15 h16 hD; rw [L.internal_bytealg_LastIndexByteString_l1] at hD; cases hD
  | succ n ih =>
    intro s t5_17 h14 h15 h16 hD
    refine awp_roundK fun K hK => ?_
    rw [L.internal_bytealg_LastIndexByteString_l1] at hD
    refine x_seq ?_
    refine x_seq ?_
    refine x_start (b := false) ?_
    refine x_mv' h16 ?_
    refine x_bin (show _ = (V.int .i64 t5_17) from rfl) (show _ = (V.int .i64 0) from rfl) b_geq ?_
    refine x_done ?_
    refine x_tN ?_
    by_cases hp19 : 0 ≤ t5_17
    · rw [if_pos hp19] at hD
      refine x_ct (show _ = (V.bool (decide (0 ≤ t5_17))) from rfl) (decide_eq_true hp19) ?_
      refine x_skip ?_
      refine x_tN ?_
      refine x_seq ?_
      refine x_block ?_
      refine x_seq ?_
      refine x_start (b := false) ?_
      refine x_mv' h14 ?_
      refine x_mv' h16 ?_
      obtain ⟨b22, hx23, hD⟩ := Option.bind_eq_some_iff.1 hD
      refine x_idx (show _ = (V.str t0_1) from rfl) (show _ = (V.int .i64 t5_17) from rfl) hx23 ?_
      refine x_mv' h15 ?_
      refine x_bin (show _ = (V.int .u8 ((b22 : UInt8).toNat : Int)) from rfl) (show _ = (V.int .u8 ((t1_2 : UInt8).toNat : Int)) from rfl) u8_eql ?_
      refine x_done ?_
      refine x_tN ?_
      by_cases hp24 : b22 = t1_2
      · rw [if_pos hp24] at hD
        refine x_ct (show _ = (V.bool (decide (b22 = t1_2))) from rfl) (decide_eq_true hp24) ?_
        refine x_seq ?_
        refine x_start (b := false) ?_
        refine x_mv' h16 ?_
        refine x_mv' (show _ = (V.int .i64 t5_17) from rfl) ?_
        refine x_done ?_
        refine x_tN ?_
        refine x_retc ?_
        refine x_bR ?_
        refine x_tR ?_
        refine x_tR ?_
        obtain rfl := Option.some.inj hD
        exact hR _ (ends_t (nf_of rfl (show _ = (V.int .i64 t5_17) from rfl)) (fun h => nomatch h))
      · rw [if_neg hp24] at hD
        refine x_cf (show _ = (V.bool (decide (b22 = t1_2))) from rfl) (decide_eq_false hp24) ?_
        refine x_skip ?_
        refine x_bN ?_
        refine x_tN ?_
        refine x_start (b := false) ?_
        refine x_mv' h16 ?_
        refine x_bin (show _ = (V.int .i64 t5_17) from rfl) (show _ = (V.int .i64 1) from rfl) b_sub ?_
        refine x_mv' (show _ = (V.int .i64 (wi (t5_17 - 1))) from rfl) ?_
        refine x_done ?_
        refine x_tN ?_
        refine hK _ ?_
        refine ih _ _ ?_ ?_ ?_ hD
        · exact h14
        · exact h15
        · exact (show _ = (V.int .i64 (wi (t5_17 - 1))) from rfl)
    · rw [if_neg hp19] at hD
      refine x_cf (show _ = (V.bool (decide (0 ≤ t5_17))) from rfl) (decide_eq_false hp19) ?_
      refine x_exitc ?_
      refine x_tE ?_
      refine x_tE ?_
      refine hk0 _ hD
def g.internal_bytealg_LastIndexByteString (p0 : Bytes) (p1 : UInt8) : Option Int :=
  L.internal_bytealg_LastIndexByteString_l1 p0 p1 (some (-1)) fuel (wi (((p0.length : Nat) : Int) - 1))
theorem ok.internal_bytealg_LastIndexByteString {Γ : Abs.Spec} {gl : Glob} {r : Int} {p0 : Bytes} {p1 : UInt8} {v : List V}
    (hv : nfL v = [(V.str p0), (V.int .u8 ((p1 : UInt8).toNat : Int))]) (hD : g.internal_bytealg_LastIndexByteString p0 p1 = some r) : awp Γ gl c_internal_bytealg_LastIndexByteString (endQ [.t 4] false (V.int .i64 r)) (St.init v) := by
  obtain ⟨v0, v, rfl, h0, hv⟩ := nfL_cons hv
  obtain ⟨v1, v, rfl, h1, hv⟩ := nfL_cons hv
  obtain rfl := nfL_nil hv
  have hR : ∀ s, EndsX [.t 4] false (V.int .i64 r) s → endQ [.t 4] false (V.int .i64 r) .ret s := fun _ h => h
  unfold g.internal_bytealg_LastIndexByteString at hD
  unfold c_internal_bytealg_LastIndexByteString
  refine x_seq ?_
  refine x_start (b := false) ?_
  refine x_mv' (show _ = (V.int .i64 0) from rfl) ?_
  refine x_done ?_
  refine x_tN ?_
  refine x_seq ?_
  refine x_seq ?_
  refine x_start (b := false) ?_
  refine x_mv' (nf_str h0) ?_
  refine x_lens (show _ = (V.str p0) from rfl) ?_
  refine x_bin (show _ = (V.int .i64 ((p0.length : Nat) : Int)) from rfl) (show _ = (V.int .i64 1) from rfl) b_sub ?_
  refine x_mv' (show _ = (V.int .i64 (wi (((p0.length : Nat) : Int) - 1))) from rfl) ?_
  refine x_done ?_
  refine x_tN ?_
  refine x_block ?_
  refine ok.internal_bytealg_LastIndexByteString_l1 (t0_1 := p0) (t1_2 := p1) (fun s25 hD => ?_) (fun _ hE => ?_) _ _ _ ?_ ?_ ?_ hD
  · refine x_bE ?_
    refine x_tN ?_
    refine x_seq ?_
    refine x_start (b := false) ?_
    refine x_mv' (show _ = (V.int .i64 (-1)) from rfl) ?_
    refine x_done ?_
    refine x_tN ?_
    refine x_retc ?_
    obtain rfl := Option.some.inj hD
    exact hR _ (ends_t (nf_of rfl (show _ = (V.int .i64 (-1)) from rfl)) (fun h => nomatch h))
  · refine x_bR ?_; refine x_tR ?_; exact hR _ hE
  · exact (nf_str h0)
  · exact (nf_int h1)
  · exact (show _ = (V.int .i64 (wi (((p0.length : Nat) : Int) - 1))) from rfl)
def K.internal_bytealg_LastIndexByteString : FC := fc F.internal_bytealg_LastIndexByteString (fun _ => true) false (fun (a : (Bytes × UInt8)) => [(V.str a.1), (V.int .u8 ((a.2 : UInt8).toNat : Int))]) (fun (y : Int) => (V.int .i64 y)) (fun a => g.internal_bytealg_LastIndexByteString a.1 a.2)
  (fun a => (cleanL_mk rfl (cleanL_mk rfl rfl)))
  (fun y => rfl)
  (fun ⟨a0, a1⟩ ⟨b0, b1⟩ h => by
    obtain ⟨h0, h⟩ := List.cons.inj h
    obtain rfl : a0 = b0 := V.str.inj h0
    obtain ⟨h0, h⟩ := List.cons.inj h
    obtain rfl : a1 = b1 := byteV_inj h0
    rfl)
theorem H.internal_bytealg_LastIndexByteString (w : World) (_hw : EnvOK w) : K.internal_bytealg_LastIndexByteString.Holds (cxD w) :=
  FC.holds_of (cs := []) (glD w) mixed cf_internal_bytealg_LastIndexByteString (fun _ _ ⟨_, _, h, _⟩ => by subst h; exact Nat.le_of_ble_eq_true rfl) fun v y ⟨a, r, hv, hD, hy⟩ => by
    subst hy
    exact ok.internal_bytealg_LastIndexByteString hv hD
def c_strings_LastIndexByte : ACode := (.seq (.region [
  ⟨(some 4), (.mv (.const (.int .i64 0))), none, []⟩] false) (.seq (.region [
  ⟨(some 5), (.mv (.tmp 0)), none, []⟩, 
  ⟨(some 6), (.mv (.tmp 1)), none, []⟩, 
  ⟨(some 7), (.call F.internal_bytealg_LastIndexByteString [(.tmp 5), (.tmp 6)]), none, []⟩, 
  ⟨(some 4), (.mv (.tmp 7)), none, []⟩] false) .ret))
theorem cf_strings_LastIndexByte : cFn Go.Proofs.Tryd.prog F.strings_LastIndexByte = some ⟨8, c_strings_LastIndexByte, [.t 4]⟩ := by kernel_rfl
def g.strings_LastIndexByte (p0 : Bytes) (p1 : UInt8) : Option Int :=
  (g.internal_bytealg_LastIndexByteString p0 p1).bind fun r2 =>
  some r2
theorem ok.strings_LastIndexByte {Γ : Abs.Spec} {gl : Glob} (hC_internal_bytealg_LastIndexByteString : CallsX Γ K.internal_bytealg_LastIndexByteString) {r : Int} {p0 : Bytes} {p1 : UInt8} {v : List V}
    (hv : nfL v = [(V.str p0), (V.int .u8 ((p1 : UInt8).toNat : Int))]) (hD : g.strings_LastIndexByte p0 p1 = some r) : awp Γ gl c_strings_LastIndexByte (endQ [.t 4] false (V.int .i64 r)) (St.init v) := by
  obtain ⟨v0, v, rfl, h0, hv⟩ := nfL_cons hv
  obtain ⟨v1, v, rfl, h1, hv⟩ := nfL_cons hv
  obtain rfl := nfL_nil hv
  have hR : ∀ s, EndsX [.t 4] false (V.int .i64 r) s → endQ [.t 4] false (V.int .i64 r) .ret s := fun _ h => h
  unfold g.strings_LastIndexByte at hD
  unfold c_strings_LastIndexByte
  refine x_seq ?_
  refine x_start (b := false) ?_
  refine x_mv' (show _ = (V.int .i64 0) from rfl) ?_
  refine x_done ?_
  refine x_tN ?_
  refine x_seq ?_
  refine x_start (b := false) ?_
  refine x_mv' (nf_str h0) ?_
  refine x_mv' (nf_int h1) ?_
  obtain ⟨r2, hx3, hD⟩ := Option.bind_eq_some_iff.1 hD
  refine x_callF hC_internal_bytealg_LastIndexByteString (a := (p0, p1)) (cons_eq (nf_of rfl (show _ = (V.str p0) from rfl)) (cons_eq (nf_of rfl (show _ = (V.int .u8 ((p1 : UInt8).toNat : Int)) from rfl)) rfl)) hx3 fun v1 ov1 (hv1 : v1.nf = (V.int .i64 r2)) hov1 => ?_
  refine x_mv' (nf_int hv1) ?_
  refine x_done ?_
  refine x_tN ?_
  refine x_retc ?_
  obtain rfl := Option.some.inj hD
  exact hR _ (ends_t (nf_of rfl (show _ = (V.int .i64 r2) from rfl)) (fun h => nomatch h))
def K.strings_LastIndexByte : FC := fc F.strings_LastIndexByte (fun _ => true) false (fun (a : (Bytes × UInt8)) => [(V.str a.1), (V.int .u8 ((a.2 : UInt8).toNat : Int))]) (fun (y : Int) => (V.int .i64 y)) (fun a => g.strings_LastIndexByte a.1 a.2)
  (fun a => (cleanL_mk rfl (cleanL_mk rfl rfl)))
  (fun y => rfl)
  (fun ⟨a0, a1⟩ ⟨b0, b1⟩ h => by
    obtain ⟨h0, h⟩ := List.cons.inj h
    obtain rfl : a0 = b0 := V.str.inj h0
    obtain ⟨h0, h⟩ := List.cons.inj h
    obtain rfl : a1 = b1 := byteV_inj h0
    rfl)
theorem H.strings_LastIndexByte (w : World) (hw : EnvOK w) : K.strings_LastIndexByte.Holds (cxD w) :=
  FC.holds_of (cs := [K.internal_bytealg_LastIndexByteString]) (glD w) mixed cf_strings_LastIndexByte (fun _ _ ⟨_, _, h, _⟩ => by subst h; exact Nat.le_of_ble_eq_true rfl) fun v y ⟨a, r, hv, hD, hy⟩ => by
    subst hy
    exact ok.strings_LastIndexByte (specOf_calls (H.internal_bytealg_LastIndexByteString w hw) (fun _ _ ⟨_, _, h, _⟩ => by subst h; rfl)) hv hD
def c_path_Dir : ACode := (.seq (.region [
  ⟨(some 2), (.mv (.const (.str []))), none, []⟩] false) (.seq (.region [
  ⟨(some 3), (.mv (.tmp 0)), none, []⟩, 
  ⟨(some 4), (.mv (.tmp 0)), none, []⟩, 
  ⟨(some 5), (.call F.strings_LastIndexByte [(.tmp 4), (.const (.int .u8 47))]), none, []⟩, 
  ⟨(some 6), (.mnx true (.tmp 5) (.const (.int .i64 0))), none, []⟩, 
  ⟨(some 7), (.sls (.tmp 3) none (some (.tmp 6))), none, []⟩, 
  ⟨(some 2), (.mv (.tmp 7)), none, []⟩] false) .ret))
theorem cf_path_Dir : cFn Go.Proofs.Tryd.prog F.path_Dir = some ⟨8, c_path_Dir, [.t 2]⟩ := by kernel_rfl
def g.path_Dir (p0 : Bytes) : Option Bytes :=
  (g.strings_LastIndexByte p0 47).bind fun r2 =>
  (cut p0 0 (imax r2 0)).bind fun q4 =>
  some q4
theorem ok.path_Dir {Γ : Abs.Spec} {gl : Glob} (hC_strings_LastIndexByte : CallsX Γ K.strings_LastIndexByte) {r : Bytes} {p0 : Bytes} {v : List V}
    (hv : nfL v = [(V.str p0)]) (hD : g.path_Dir p0 = some r) : awp Γ gl c_path_Dir (endQ [.t 2] false (V.str r)) (St.init v) := by
  obtain ⟨v0, v, rfl, h0, hv⟩ := nfL_cons hv
  obtain rfl := nfL_nil hv
  have hR : ∀ s, EndsX [.t 2] false (V.str r) s → endQ [.t 2] false (V.str r) .ret s := fun _ h => h
  unfold g.path_Dir at hD
  unfold c_path_Dir
  refine x_seq ?_
  refine x_start (b := false) ?_
  refine x_mv' (show _ = (V.str ([] : Bytes)) from rfl) ?_
  refine x_done ?_
  refine x_tN ?_
  refine x_seq ?_
  refine x_start (b := false) ?_
  refine x_mv' (nf_str h0) ?_
  refine x_mv' (nf_str h0) ?_
  obtain ⟨r2, hx3, hD⟩ := Option.bind_eq_some_iff.1 hD
  refine x_callF hC_strings_LastIndexByte (a := (p0, 47)) (cons_eq (nf_of rfl (show _ = (V.str p0) from rfl)) (cons_eq (nf_of rfl (show _ = (V.int .u8 ((47 : UInt8).toNat : Int)) from rfl)) rfl)) hx3 fun v1 ov1 (hv1 : v1.nf = (V.int .i64 r2)) hov1 => ?_
  refine x_mnx (nf_int hv1) (show _ = (V.int .i64 0) from rfl) (vMnx_max _ _ _) ?_
  obtain ⟨q4, hx5, hD⟩ := Option.bind_eq_some_iff.1 hD
  refine x_slsh (show _ = (V.str p0) from rfl) (show _ = (V.int .i64 (imax r2 0)) from rfl) hx5 ?_
  refine x_mv' (show _ = (V.str q4) from rfl) ?_
  refine x_done ?_
  refine x_tN ?_
  refine x_retc ?_
  obtain rfl := Option.some.inj hD
  exact hR _ (ends_t (nf_of rfl (show _ = (V.str q4) from rfl)) (fun h => nomatch h))
def K.path_Dir : FC := fc F.path_Dir (fun _ => true) false (fun (a : Bytes) => [(V.str a)]) (fun (y : Bytes) => (V.str y)) (fun a => g.path_Dir a)
  (fun a => (cleanL_mk rfl rfl))
  (fun y => rfl)
  (fun a0 b0 h => by
    obtain ⟨h0, h⟩ := List.cons.inj h
    obtain rfl : a0 = b0 := V.str.inj h0
    rfl)
theorem H.path_Dir (w : World) (hw : EnvOK w) : K.path_Dir.Holds (cxD w) :=
  FC.holds_of (cs := [K.strings_LastIndexByte]) (glD w) mixed cf_path_Dir (fun _ _ ⟨_, _, h, _⟩ => by subst h; exact Nat.le_of_ble_eq_true rfl) fun v y ⟨a, r, hv, hD, hy⟩ => by
    subst hy
    exact ok.path_Dir (specOf_calls (H.strings_LastIndexByte w hw) (fun _ _ ⟨_, _, h, _⟩ => by subst h; rfl)) hv hD
def c_seicheref06_Part_l1 : ACode := (.seq (.seq (.region [
  ⟨(some 4), (.mv (.tmp 3)), none, []⟩, 
  ⟨(some 5), (.mv (.tmp 0)), none, []⟩, 
  ⟨(some 6), (.len true (.tmp 5)), none, []⟩, 
  ⟨(some 7), (.bin .lss .no (.tmp 4) (.tmp 6)), none, []⟩] false) (.cond (.tmp 7) .skip (.exit 0))) (.seq (.block 1 (.seq (.region [
  ⟨(some 10), (.mv (.tmp 0)), none, []⟩, 
  ⟨(some 11), (.mv (.tmp 3)), none, []⟩, 
  ⟨(some 12), (.idx (.tmp 10) (.tmp 11)), none, []⟩, 
  ⟨(some 13), (.bin .eql .no (.tmp 12) (.const (.int .u8 0))), none, []⟩, 
  ⟨(some 14), (.mv (.tmp 13)), none, []⟩, 
  ⟨(some 15), (.mv (.tmp 0)), (some (14, false)), []⟩, 
  ⟨(some 16), (.mv (.tmp 3)), (some (14, false)), []⟩, 
  ⟨(some 17), (.idx (.tmp 15) (.tmp 16)), (some (14, false)), []⟩, 
  ⟨(some 18), (.bin .eql .no (.tmp 17) (.const (.int .u8 47))), (some (14, false)), []⟩, 
  ⟨(some 19), (.pick (.tmp 14) (.const (.bool true)) (.tmp 18)), none, []⟩] false) (.cond (.tmp 19) (.seq (.region [
  ⟨(some 2), (.mv (.const (.bool false))), none, []⟩] false) .ret) .skip))) (.region [
  ⟨(some 8), (.mv (.tmp 3)), none, []⟩, 
  ⟨(some 9), (.bin .add .no (.tmp 8) (.const (.int .i64 1))), none, []⟩, 
  ⟨(some 3), (.mv (.tmp 9)), none, []⟩] false)))
def c_seicheref06_Part : ACode := (.seq (.region [
  ⟨(some 2), (.mv (.const (.bool false))), none, []⟩] false) (.seq (.seq (.region [
  ⟨(some 3), (.mv (.const (.int .i64 0))), none, []⟩] false) (.block 0 (.loop c_seicheref06_Part_l1))) (.seq (.region [
  ⟨(some 20), (.mv (.tmp 0)), none, []⟩, 
  ⟨(some 21), (.bin .neq .no (.tmp 20) (.const (.str []))), none, []⟩, 
  ⟨(some 22), (.mv (.tmp 21)), none, []⟩, 
  ⟨(some 23), (.mv (.tmp 0)), (some (22, true)), []⟩, 
  ⟨(some 24), (.bin .neq .no (.tmp 23) (.const (.str [46]))), (some (22, true)), []⟩, 
  ⟨(some 25), (.pick (.tmp 22) (.tmp 24) (.const (.bool false))), none, []⟩, 
  ⟨(some 26), (.mv (.tmp 25)), none, []⟩, 
  ⟨(some 27), (.mv (.tmp 0)), (some (26, true)), []⟩, 
  ⟨(some 28), (.bin .neq .no (.tmp 27) (.const (.str [46, 46]))), (some (26, true)), []⟩, 
  ⟨(some 29), (.pick (.tmp 26) (.tmp 28) (.const (.bool false))), none, []⟩, 
  ⟨(some 2), (.mv (.tmp 29)), none, []⟩] false) .ret)))
theorem cf_seicheref06_Part : cFn Go.Proofs.Tryd.prog F.seicheref06_Part = some ⟨30, c_seicheref06_Part, [.t 2]⟩ := by kernel_rfl
def L.seicheref06_Part_l1 (t0_15 : Bytes) (k0 : Option Bool) : Nat → Int → Option Bool
  | 0, _ => none
  | n + 1, t3_30 =>
    if t3_30 < ((t0_15.length : Nat) : Int) then
      (at? t0_15 t3_30).bind fun b37 =>
      if b37 = 0 then
        some false
      else
        if b37 = 47 then
          some false
        else
          L.seicheref06_Part_l1 t0_15 k0 n (wi (t3_30 + 1))
    else
      k0
theorem ok.seicheref06_Part_l1 {Γ : Abs.Spec} {gl : Glob} {Q : Ex → St → Prop} {r : Bool} {t0_15 : Bytes} {k0 : Option Bool}
    (hk0 : ∀ (s : St), (s.tm 0 = (V.str t0_15)) → k0 = some r → Q (.exit 0) s)
    (hR : ∀ s, EndsX [.t 2] false (V.bool r) s → Q .ret s) : ∀ (n : Nat) (s : St) (t3_30 : Int),
    (s.tm 0 = (V.str t0_15)) → (s.tm 3 = (V.int .i64 t3_30)) → L.seicheref06_Part_l1 t0_15 k0 n t3_30 = some r → awp Γ gl (.loop c_seicheref06_Part_l1) Q s := by
  intro n
  induction n with
  | zero => intro s t3_30 h28 h29 hD; rw [L.seicheref06_Part_l1] at hD; cases hD
  | succ n ih =>
    intro s t3_30 h28 h29 hD
    refine awp_roundK fun K hK => ?_
    rw [L.seicheref06_Part_l1] at hD
    refine x_seq ?_
    refine x_seq ?_
    refine x_start (b := false) ?_
    refine x_mv' h29 ?_
    refine x_mv' h28 ?_
    refine x_lens (show _ = (V.str t0_15) from rfl) ?_
    refine x_bin (show _ = (V.int .i64 t3_30) from rfl) (show _ = (V.int .i64 ((t0_15.length : Nat) : Int)) from rfl) b_lss ?_
    refine x_done ?_
    refine x_tN ?_
    by_cases hp33 : t3_30 < ((t0_15.length : Nat) : Int)
    · rw [if_pos hp33] at hD
      refine x_ct (show _ = (V.bool (decide (t3_30 < ((t0_15.length : Nat) : Int)))) from rfl) (decide_eq_true hp33) ?_
      refine x_skip ?_
      refine x_tN ?_
      refine x_seq ?_
      refine x_block ?_
      refine x_seq ?_
      refine x_start (b := false) ?_
      refine x_mv' h28 ?_
      refine x_mv' h29 ?_
      obtain ⟨b37, hx38, hD⟩ := Option.bind_eq_some_iff.1 hD
      refine x_idx (show _ = (V.str t0_15) from rfl) (show _ = (V.int .i64 t3_30) from rfl) hx38 ?_
      refine x_bin (show _ = (V.int .u8 ((b37 : UInt8).toNat : Int)) from rfl) (show _ = (V.int .u8 ((0 : UInt8).toNat : Int)) from rfl) u8_eql ?_
      refine x_mv' (show _ = (V.bool (decide (b37 = 0))) from rfl) ?_
      by_cases hp39 : b37 = 0
      · rw [if_pos hp39] at hD
        refine x_gn (show _ = (V.bool (decide (b37 = 0))) from rfl) (decide_eq_true hp39) ?_
        refine x_gn (show _ = (V.bool (decide (b37 = 0))) from rfl) (decide_eq_true hp39) ?_
        refine x_gn (show _ = (V.bool (decide (b37 = 0))) from rfl) (decide_eq_true hp39) ?_
        refine x_gn (show _ = (V.bool (decide (b37 = 0))) from rfl) (decide_eq_true hp39) ?_
        refine x_pickt' (show _ = (V.bool (decide (b37 = 0))) from rfl) (decide_eq_true hp39) (show _ = (V.bool true) from rfl) ?_
        refine x_done ?_
        refine x_tN ?_
        refine x_ct (show _ = (V.bool true) from rfl) rfl ?_
        refine x_seq ?_
        refine x_start (b := false) ?_
        refine x_mv' (show _ = (V.bool false) from rfl) ?_
        refine x_done ?_
        refine x_tN ?_
        refine x_retc ?_
        refine x_bR ?_
        refine x_tR ?_
        refine x_tR ?_
        obtain rfl := Option.some.inj hD
        exact hR _ (ends_t (nf_of rfl (show _ = (V.bool false) from rfl)) (fun h => nomatch h))
      · rw [if_neg hp39] at hD
        refine x_gy (show _ = (V.bool (decide (b37 = 0))) from rfl) (decide_eq_false hp39) ?_
        refine x_mv' h28 ?_
        refine x_gy (show _ = (V.bool (decide (b37 = 0))) from rfl) (decide_eq_false hp39) ?_
        refine x_mv' h29 ?_
        refine x_gy (show _ = (V.bool (decide (b37 = 0))) from rfl) (decide_eq_false hp39) ?_
        refine x_idx (show _ = (V.str t0_15) from rfl) (show _ = (V.int .i64 t3_30) from rfl) hx38 ?_
        refine x_gy (show _ = (V.bool (decide (b37 = 0))) from rfl) (decide_eq_false hp39) ?_
        refine x_bin (show _ = (V.int .u8 ((b37 : UInt8).toNat : Int)) from rfl) (show _ = (V.int .u8 ((47 : UInt8).toNat : Int)) from rfl) u8_eql ?_
        refine x_pickf' (show _ = (V.bool (decide (b37 = 0))) from rfl) (decide_eq_false hp39) (show _ = (V.bool (decide (b37 = 47))) from rfl) ?_
        refine x_done ?_
        refine x_tN ?_
        by_cases hp40 : b37 = 47
        · rw [if_pos hp40] at hD
          refine x_ct (show _ = (V.bool (decide (b37 = 47))) from rfl) (decide_eq_true hp40) ?_
          refine x_seq ?_
          refine x_start (b := false) ?_
          refine x_mv' (show _ = (V.bool false) from rfl) ?_
          refine x_done ?_
          refine x_tN ?_
          refine x_retc ?_
          refine x_bR ?_
          refine x_tR ?_
          refine x_tR ?_
          obtain rfl := Option.some.inj hD
          exact hR _ (ends_t (nf_of rfl (show _ = (V.bool false) from rfl)) (fun h => nomatch h))
        · rw [if_neg hp40] at hD
          refine x_cf (show _ = (V.bool (decide (b37 = 47))) from rfl) (decide_eq_false hp40) ?_
          refine x_skip ?_
          refine x_bN ?_
          refine x_tN ?_
          refine x_start (b := false) ?_
          refine x_mv' h29 ?_
          refine x_bin (show _ = (V.int .i64 t3_30) from rfl) (show _ = (V.int .i64 1) from rfl) b_add ?_
          refine x_mv' (show _ = (V.int .i64 (wi (t3_30 + 1))) from rfl) ?_
          refine x_done ?_
          refine x_tN ?_
          refine hK _ ?_
          refine ih _ _ ?_ ?_ hD
          · exact h28
          · exact (show _ = (V.int .i64 (wi (t3_30 + 1))) from rfl)
    · rw [if_neg hp33] at hD
      refine x_cf (show _ = (V.bool (decide (t3_30 < ((t0_15.length : Nat) : Int)))) from rfl) (decide_eq_false hp33) ?_
      refine x_exitc ?_
      refine x_tE ?_
      refine x_tE ?_
      refine hk0 _ ?_ hD
      · exact h28
def g.seicheref06_Part (p0 : Bytes) : Option Bool :=
  L.seicheref06_Part_l1 p0 (if p0 = ([] : Bytes) then
    some false
  else
    if p0 = ([46] : Bytes) then
      some false
    else
      some (!(decide (p0 = ([46, 46] : Bytes))))) fuel 0
theorem ok.seicheref06_Part {Γ : Abs.Spec} {gl : Glob} {r : Bool} {p0 : Bytes} {v : List V}
    (hv : nfL v = [(V.str p0)]) (hD : g.seicheref06_Part p0 = some r) : awp Γ gl c_seicheref06_Part (endQ [.t 2] false (V.bool r)) (St.init v) := by
  obtain ⟨v0, v, rfl, h0, hv⟩ := nfL_cons hv
  obtain rfl := nfL_nil hv
  have hR : ∀ s, EndsX [.t 2] false (V.bool r) s → endQ [.t 2] false (V.bool r) .ret s := fun _ h => h
  unfold g.seicheref06_Part at hD
  unfold c_seicheref06_Part
  refine x_seq ?_
  refine x_start (b := false) ?_
  refine x_mv' (show _ = (V.bool false) from rfl) ?_
  refine x_done ?_
  refine x_tN ?_
  refine x_seq ?_
  refine x_seq ?_
  refine x_start (b := false) ?_
  refine x_mv' (show _ = (V.int .i64 0) from rfl) ?_
  refine x_done ?_
  refine x_tN ?_
  refine x_block ?_
  refine ok.seicheref06_Part_l1 (t0_15 := p0) (fun s46 h43 hD => ?_) (fun _ hE => ?_) _ _ _ ?_ ?_ hD
  · refine x_bE ?_
    refine x_tN ?_
    refine x_seq ?_
    refine x_start (b := false) ?_
    refine x_mv' h43 ?_
    refine x_bin (show _ = (V.str p0) from rfl) (show _ = (V.str ([] : Bytes)) from rfl) s_neq ?_
    refine x_mv' (show _ = (V.bool (!(decide (p0 = ([] : Bytes))))) from rfl) ?_
    by_cases hp44 : p0 = ([] : Bytes)
    · rw [if_pos hp44] at hD
      refine x_gn (show _ = (V.bool (!(decide (p0 = ([] : Bytes))))) from rfl) (bnot_t (decide_eq_true hp44)) ?_
      refine x_gn (show _ = (V.bool (!(decide (p0 = ([] : Bytes))))) from rfl) (bnot_t (decide_eq_true hp44)) ?_
      refine x_pickf' (show _ = (V.bool (!(decide (p0 = ([] : Bytes))))) from rfl) (bnot_t (decide_eq_true hp44)) (show _ = (V.bool false) from rfl) ?_
      refine x_mv' (show _ = (V.bool false) from rfl) ?_
      refine x_gn (show _ = (V.bool false) from rfl) rfl ?_
      refine x_gn (show _ = (V.bool false) from rfl) rfl ?_
      refine x_pickf' (show _ = (V.bool false) from rfl) rfl (show _ = (V.bool false) from rfl) ?_
      refine x_mv' (show _ = (V.bool false) from rfl) ?_
      refine x_done ?_
      refine x_tN ?_
      refine x_retc ?_
      obtain rfl := Option.some.inj hD
      exact hR _ (ends_t (nf_of rfl (show _ = (V.bool false) from rfl)) (fun h => nomatch h))
    · rw [if_neg hp44] at hD
      refine x_gy (show _ = (V.bool (!(decide (p0 = ([] : Bytes))))) from rfl) (bnot_f (decide_eq_false hp44)) ?_
      refine x_mv' h43 ?_
      refine x_gy (show _ = (V.bool (!(decide (p0 = ([] : Bytes))))) from rfl) (bnot_f (decide_eq_false hp44)) ?_
      refine x_bin (show _ = (V.str p0) from rfl) (show _ = (V.str ([46] : Bytes)) from rfl) s_neq ?_
      refine x_pickt' (show _ = (V.bool (!(decide (p0 = ([] : Bytes))))) from rfl) (bnot_f (decide_eq_false hp44)) (show _ = (V.bool (!(decide (p0 = ([46] : Bytes))))) from rfl) ?_
      refine x_mv' (show _ = (V.bool (!(decide (p0 = ([46] : Bytes))))) from rfl) ?_
      by_cases hp45 : p0 = ([46] : Bytes)
      · rw [if_pos hp45] at hD
        refine x_gn (show _ = (V.bool (!(decide (p0 = ([46] : Bytes))))) from rfl) (bnot_t (decide_eq_true hp45)) ?_
        refine x_gn (show _ = (V.bool (!(decide (p0 = ([46] : Bytes))))) from rfl) (bnot_t (decide_eq_true hp45)) ?_
        refine x_pickf' (show _ = (V.bool (!(decide (p0 = ([46] : Bytes))))) from rfl) (bnot_t (decide_eq_true hp45)) (show _ = (V.bool false) from rfl) ?_
        refine x_mv' (show _ = (V.bool false) from rfl) ?_
        refine x_done ?_
        refine x_tN ?_
        refine x_retc ?_
        obtain rfl := Option.some.inj hD
        exact hR _ (ends_t (nf_of rfl (show _ = (V.bool false) from rfl)) (fun h => nomatch h))
      · rw [if_neg hp45] at hD
        refine x_gy (show _ = (V.bool (!(decide (p0 = ([46] : Bytes))))) from rfl) (bnot_f (decide_eq_false hp45)) ?_
        refine x_mv' h43 ?_
        refine x_gy (show _ = (V.bool (!(decide (p0 = ([46] : Bytes))))) from rfl) (bnot_f (decide_eq_false hp45)) ?_
        refine x_bin (show _ = (V.str p0) from rfl) (show _ = (V.str ([46, 46] : Bytes)) from rfl) s_neq ?_
        refine x_pickt' (show _ = (V.bool (!(decide (p0 = ([46] : Bytes))))) from rfl) (bnot_f (decide_eq_false hp45)) (show _ = (V.bool (!(decide (p0 = ([46, 46] : Bytes))))) from rfl) ?_
        refine x_mv' (show _ = (V.bool (!(decide (p0 = ([46, 46] : Bytes))))) from rfl) ?_
        refine x_done ?_
        refine x_tN ?_
        refine x_retc ?_
        obtain rfl := Option.some.inj hD
        exact hR _ (ends_t (nf_of rfl (show _ = (V.bool (!(decide (p0 = ([46, 46] : Bytes))))) from rfl)) (fun h => nomatch h))
  · refine x_bR ?_; refine x_tR ?_; exact hR _ hE
  · exact (nf_str h0)
  · exact (show _ = (V.int .i64 0) from rfl)
def K.seicheref06_Part : FC := fc F.seicheref06_Part (fun _ => true) false (fun (a : Bytes) => [(V.str a)]) (fun (y : Bool) => (V.bool y)) (fun a => g.seicheref06_Part a)
  (fun a => (cleanL_mk rfl rfl))
  (fun y => rfl)
  (fun a0 b0 h => by
    obtain ⟨h0, h⟩ := List.cons.inj h
    obtain rfl : a0 = b0 := V.str.inj h0
    rfl)
theorem H.seicheref06_Part (w : World) (_hw : EnvOK w) : K.seicheref06_Part.Holds (cxD w) :=
  FC.holds_of (cs := []) (glD w) mixed cf_seicheref06_Part (fun _ _ ⟨_, _, h, _⟩ => by subst h; exact Nat.le_of_ble_eq_true rfl) fun v y ⟨a, r, hv, hD, hy⟩ => by
    subst hy
    exact ok.seicheref06_Part hv hD
def c_seicheref06_Good_l1 : ACode := (.seq (.region [
  ⟨(some 11), (.bin .lss .no (.tmp 10) (.tmp 9)), none, []⟩] false) (.seq (.cond (.tmp 11) .skip (.exit 0)) (.seq (.block 1 (.seq (.region [
  ⟨(some 12), (.iaddr 1 (.tmp 8) (.tmp 10)), none, []⟩, 
  ⟨(some 13), (.load none (.tmp 12)), none, []⟩, 
  ⟨(some 5), (.mv (.tmp 13)), none, []⟩] false) (.seq (.region [
  ⟨(some 14), (.mv (.tmp 5)), none, []⟩, 
  ⟨(some 15), (.call F.seicheref06_Part [(.tmp 14)]), none, []⟩, 
  ⟨(some 16), (.un .not (.tmp 15)), none, []⟩] false) (.cond (.tmp 16) (.seq (.region [
  ⟨(some 2), (.mv (.const (.bool false))), none, []⟩] false) .ret) .skip)))) (.region [
  ⟨(some 17), (.bin .add .no (.tmp 10) (.const (.int .i64 1))), none, []⟩, 
  ⟨(some 10), (.mv (.tmp 17)), none, []⟩] false))))
def c_seicheref06_Good : ACode := (.seq (.region [
  ⟨(some 2), (.mv (.const (.bool false))), none, []⟩] false) (.seq (.region [
  ⟨(some 6), (.mv (.tmp 0)), none, []⟩, 
  ⟨(some 7), (.call F.seicheref06_Parts [(.tmp 6)]), none, []⟩, 
  ⟨(some 3), (.mvo 7), none, []⟩] false) (.seq (.seq (.region [
  ⟨(some 8), (.mv (.tmp 3)), none, []⟩, 
  ⟨(some 9), (.len false (.tmp 8)), none, []⟩, 
  ⟨(some 10), (.mv (.const (.int .i64 0))), none, []⟩] false) (.block 0 (.loop c_seicheref06_Good_l1))) (.seq (.region [
  ⟨(some 18), (.mv (.tmp 0)), none, []⟩, 
  ⟨(some 19), (.len true (.tmp 18)), none, []⟩, 
  ⟨(some 20), (.bin .leq .no (.tmp 19) (.const (.int .i64 128))), none, []⟩, 
  ⟨(some 21), (.mv (.tmp 20)), none, []⟩, 
  ⟨(some 22), (.mv (.tmp 3)), (some (21, true)), []⟩, 
  ⟨(some 23), (.len false (.tmp 22)), (some (21, true)), []⟩, 
  ⟨(some 24), (.bin .leq .no (.tmp 23) (.const (.int .i64 16))), (some (21, true)), []⟩, 
  ⟨(some 25), (.pick (.tmp 21) (.tmp 24) (.const (.bool false))), none, []⟩, 
  ⟨(some 2), (.mv (.tmp 25)), none, []⟩] false) .ret))))
theorem cf_seicheref06_Good : cFn Go.Proofs.Tryd.prog F.seicheref06_Good = some ⟨26, c_seicheref06_Good, [.t 2]⟩ := by kernel_rfl
def L.seicheref06_Good_l1 (k0 : Option Bool) : List Bytes → Option Bool
  | [] =>
    k0
  | a57 :: rest =>
    (g.seicheref06_Part a57).bind fun r66 =>
    if r66 = true then
      L.seicheref06_Good_l1 k0 rest
    else
      some false
theorem ok.seicheref06_Good_l1 {Γ : Abs.Spec} {gl : Glob} (hC_seicheref06_Parts : CallsX Γ K.seicheref06_Parts) (hC_seicheref06_Part : CallsX Γ K.seicheref06_Part) {Q : Ex → St → Prop} {r : Bool} {t0_36 : Bytes} {l34 : List Bytes} {k0 : Option Bool}
    (hk0 : ∀ (s : St), (s.tm 0 = (V.str t0_36)) → ((s.tm 3).nf = (V.sl false 1 (List.map V.str l34))) → (OwnS s 3) → k0 = some r → Q (.exit 0) s)
    (hR : ∀ s, EndsX [.t 2] false (V.bool r) s → Q .ret s)
    (hlen : l34.length ≤ Lim) : ∀ (rest : List Bytes) (k35 : Nat) (s : St), l34.drop k35 = rest → k35 ≤ l34.length →
    ((s.tm 8).nf = V.sl false 1 (List.map V.str l34)) → (s.tm 9 = V.int .i64 ((l34.length : Nat) : Int)) → (s.tm 10 = V.int .i64 ((k35 : Nat) : Int)) → (s.tm 0 = (V.str t0_36)) → ((s.tm 3).nf = (V.sl false 1 (List.map V.str l34))) → (OwnS s 3) →
    L.seicheref06_Good_l1 k0 rest = some r → awp Γ gl (.loop c_seicheref06_Good_l1) Q s := by
  intro rest
  induction rest with
  | nil =>
    intro k35 s hdrop hkl hX hN hI h53 h54 h54o hD
    have hkz := drop_nil hdrop hkl
    have hp0 : ¬ (((k35 : Nat) : Int) < ((l34.length : Nat) : Int)) := by omega
    refine awp_roundK fun K hK => ?_
    rw [L.seicheref06_Good_l1] at hD
    refine x_seq ?_
    refine x_start (b := false) ?_
    refine x_bin hI hN b_lss ?_
    refine x_done ?_
    refine x_tN ?_
    refine x_seq ?_
    refine x_cf (show _ = (V.bool (decide (((k35 : Nat) : Int) < ((l34.length : Nat) : Int)))) from rfl) (decide_eq_false hp0) ?_
    refine x_exitc ?_
    refine x_tE ?_
    refine x_tE ?_
    refine hk0 _ ?_ ?_ ?_ hD
    · exact h53
    · exact h54
    · exact h54o
  | cons a57 rest ih =>
    intro k35 s hdrop hkl hX hN hI h53 h54 h54o hD
    obtain ⟨hlt, -, hget, hdrop1, -⟩ := drop_cons hdrop
    have hp1 : ((k35 : Nat) : Int) < ((l34.length : Nat) : Int) := by omega
    have hwk := wi_succ (k := k35) (by unfold Lim at hlen; omega)
    refine awp_roundK fun K hK => ?_
    rw [L.seicheref06_Good_l1] at hD
    refine x_seq ?_
    refine x_start (b := false) ?_
    refine x_bin hI hN b_lss ?_
    refine x_done ?_
    refine x_tN ?_
    refine x_seq ?_
    refine x_ct (show _ = (V.bool (decide (((k35 : Nat) : Int) < ((l34.length : Nat) : Int)))) from rfl) (decide_eq_true hp1) ?_
    refine x_skip ?_
    refine x_tN ?_
    refine x_seq ?_
    refine x_block ?_
    refine x_seq ?_
    refine x_start (b := false) ?_
    refine x_iaddr hX hI (at_k hget) fun v60 (hv60 : v60.nf = V.el [(V.str a57)] 0) => ?_
    refine x_load_el hv60 (show _ = some (V.str a57) from rfl) fun v61 hv61 => ?_
    refine x_mv' (nf_str hv61) ?_
    refine x_done ?_
    refine x_tN ?_
    refine x_seq ?_
    refine x_start (b := false) ?_
    refine x_mv' (show _ = (V.str a57) from rfl) ?_
    obtain ⟨r66, hx67, hD⟩ := Option.bind_eq_some_iff.1 hD
    refine x_callF hC_seicheref06_Part (a := (a57)) (cons_eq (nf_of rfl (show _ = (V.str a57) from rfl)) rfl) hx67 fun v65 ov65 (hv65 : v65.nf = (V.bool r66)) hov65 => ?_
    refine x_un (nf_bool hv65) (aun_not _) ?_
    refine x_done ?_
    refine x_tN ?_
    by_cases hp68 : r66 = true
    · rw [if_pos hp68] at hD
      refine x_cf (show _ = (V.bool (!r66)) from rfl) (bnot_t hp68) ?_
      refine x_skip ?_
      refine x_bN ?_
      refine x_tN ?_
      refine x_start (b := false) ?_
      refine x_bin hI (show _ = (V.int .i64 1) from rfl) b_add ?_
      refine x_mv' (show _ = (V.int .i64 (wi (((k35 : Nat) : Int) + 1))) from rfl) ?_
      refine x_done ?_
      refine x_tN ?_
      refine hK _ ?_
      refine ih (k35 + 1) _ hdrop1 hlt ?_ ?_ ?_ ?_ ?_ ?_ hD
      · exact hX
      · exact hN
      · exact (Eq.trans (show _ = (V.int .i64 (wi (((k35 : Nat) : Int) + 1))) from rfl) (congrArg (V.int .i64) hwk))
      · exact h53
      · exact h54
      · exact h54o
    · rw [if_neg hp68] at hD
      refine x_ct (show _ = (V.bool (!r66)) from rfl) (bnot_f (Bool.eq_false_iff.2 hp68)) ?_
      refine x_seq ?_
      refine x_start (b := false) ?_
      refine x_mv' (show _ = (V.bool false) from rfl) ?_
      refine x_done ?_
      refine x_tN ?_
      refine x_retc ?_
      refine x_bR ?_
      refine x_tR ?_
      refine x_tR ?_
      obtain rfl := Option.some.inj hD
      exact hR _ (ends_t (nf_of rfl (show _ = (V.bool false) from rfl)) (fun h => nomatch h))
def g.seicheref06_Good (p0 : Bytes) : Option Bool :=
  (g.seicheref06_Parts p0).bind fun r6 =>
  if r6.length ≤ Lim then L.seicheref06_Good_l1 (if ((p0.length : Nat) : Int) ≤ 128 then
    some (decide (((r6.length : Nat) : Int) ≤ 16))
  else
    some false) r6 else none
theorem ok.seicheref06_Good {Γ : Abs.Spec} {gl : Glob} (hC_seicheref06_Parts : CallsX Γ K.seicheref06_Parts) (hC_seicheref06_Part : CallsX Γ K.seicheref06_Part) {r : Bool} {p0 : Bytes} {v : List V}
    (hv : nfL v = [(V.str p0)]) (hD : g.seicheref06_Good p0 = some r) : awp Γ gl c_seicheref06_Good (endQ [.t 2] false (V.bool r)) (St.init v) := by
  obtain ⟨v0, v, rfl, h0, hv⟩ := nfL_cons hv
  obtain rfl := nfL_nil hv
  have hR : ∀ s, EndsX [.t 2] false (V.bool r) s → endQ [.t 2] false (V.bool r) .ret s := fun _ h => h
  unfold g.seicheref06_Good at hD
  unfold c_seicheref06_Good
  refine x_seq ?_
  refine x_start (b := false) ?_
  refine x_mv' (show _ = (V.bool false) from rfl) ?_
  refine x_done ?_
  refine x_tN ?_
  refine x_seq ?_
  refine x_start (b := false) ?_
  refine x_mv' (nf_str h0) ?_
  obtain ⟨r6, hx7, hD⟩ := Option.bind_eq_some_iff.1 hD
  refine x_callF hC_seicheref06_Parts (a := (p0)) (cons_eq (nf_of rfl (show _ = (V.str p0) from rfl)) rfl) hx7 fun v5 ov5 (hv5 : v5.nf = (V.sl false 1 (List.map V.str r6))) hov5 => ?_
  refine x_mvo hv5 fun v8 ov8 hv8 hwv8 => ?_
  refine x_done ?_
  refine x_tN ?_
  refine x_seq ?_
  refine x_seq ?_
  refine x_start (b := false) ?_
  refine x_mv hv8 fun v33 hv33 => ?_
  refine x_len hv33 ?_
  refine x_mv' (show _ = (V.int .i64 0) from rfl) ?_
  refine x_done ?_
  refine x_tN ?_
  refine x_block ?_
  by_cases hlen78 : r6.length ≤ Lim
  · rw [if_pos hlen78] at hD
    refine ok.seicheref06_Good_l1 (t0_36 := p0) (l34 := r6) hC_seicheref06_Parts hC_seicheref06_Part (fun s77 h73 h74 h74o hD => ?_) (fun _ hE => ?_) hlen78 _ 0 _ rfl (Nat.zero_le _) ?_ ?_ ?_ ?_ ?_ ?_ hD
    · refine x_bE ?_
      refine x_tN ?_
      refine x_seq ?_
      refine x_start (b := false) ?_
      refine x_mv' h73 ?_
      refine x_lens (show _ = (V.str p0) from rfl) ?_
      refine x_bin (show _ = (V.int .i64 ((p0.length : Nat) : Int)) from rfl) (show _ = (V.int .i64 128) from rfl) b_leq ?_
      refine x_mv' (show _ = (V.bool (decide (((p0.length : Nat) : Int) ≤ 128))) from rfl) ?_
      by_cases hp75 : ((p0.length : Nat) : Int) ≤ 128
      · rw [if_pos hp75] at hD
        refine x_gy (show _ = (V.bool (decide (((p0.length : Nat) : Int) ≤ 128))) from rfl) (decide_eq_true hp75) ?_
        refine x_mv h74 fun v76 hv76 => ?_
        refine x_gy (show _ = (V.bool (decide (((p0.length : Nat) : Int) ≤ 128))) from rfl) (decide_eq_true hp75) ?_
        refine x_len hv76 ?_
        refine x_gy (show _ = (V.bool (decide (((p0.length : Nat) : Int) ≤ 128))) from rfl) (decide_eq_true hp75) ?_
        refine x_bin (show _ = (V.int .i64 ((r6.length : Nat) : Int)) from rfl) (show _ = (V.int .i64 16) from rfl) b_leq ?_
        refine x_pickt' (show _ = (V.bool (decide (((p0.length : Nat) : Int) ≤ 128))) from rfl) (decide_eq_true hp75) (show _ = (V.bool (decide (((r6.length : Nat) : Int) ≤ 16))) from rfl) ?_
        refine x_mv' (show _ = (V.bool (decide (((r6.length : Nat) : Int) ≤ 16))) from rfl) ?_
        refine x_done ?_
        refine x_tN ?_
        refine x_retc ?_
        obtain rfl := Option.some.inj hD
        exact hR _ (ends_t (nf_of rfl (show _ = (V.bool (decide (((r6.length : Nat) : Int) ≤ 16))) from rfl)) (fun h => nomatch h))
      · rw [if_neg hp75] at hD
        refine x_gn (show _ = (V.bool (decide (((p0.length : Nat) : Int) ≤ 128))) from rfl) (decide_eq_false hp75) ?_
        refine x_gn (show _ = (V.bool (decide (((p0.length : Nat) : Int) ≤ 128))) from rfl) (decide_eq_false hp75) ?_
        refine x_gn (show _ = (V.bool (decide (((p0.length : Nat) : Int) ≤ 128))) from rfl) (decide_eq_false hp75) ?_
        refine x_pickf' (show _ = (V.bool (decide (((p0.length : Nat) : Int) ≤ 128))) from rfl) (decide_eq_false hp75) (show _ = (V.bool false) from rfl) ?_
        refine x_mv' (show _ = (V.bool false) from rfl) ?_
        refine x_done ?_
        refine x_tN ?_
        refine x_retc ?_
        obtain rfl := Option.some.inj hD
        exact hR _ (ends_t (nf_of rfl (show _ = (V.bool false) from rfl)) (fun h => nomatch h))
    · refine x_bR ?_; refine x_tR ?_; exact hR _ hE
    · exact hv33
    · exact (show _ = (V.int .i64 ((r6.length : Nat) : Int)) from rfl)
    · exact (show _ = (V.int .i64 0) from rfl)
    · exact (nf_str h0)
    · exact hv8
    · exact (hwv8 (hov5 rfl))
  · rw [if_neg hlen78] at hD; cases hD
def K.seicheref06_Good : FC := fc F.seicheref06_Good (fun _ => true) false (fun (a : Bytes) => [(V.str a)]) (fun (y : Bool) => (V.bool y)) (fun a => g.seicheref06_Good a)
  (fun a => (cleanL_mk rfl rfl))
  (fun y => rfl)
  (fun a0 b0 h => by
    obtain ⟨h0, h⟩ := List.cons.inj h
    obtain rfl : a0 = b0 := V.str.inj h0
    rfl)
theorem H.seicheref06_Good (w : World) (hw : EnvOK w) : K.seicheref06_Good.Holds (cxD w) :=
  FC.holds_of (cs := [K.seicheref06_Parts, K.seicheref06_Part]) (glD w) mixed cf_seicheref06_Good (fun _ _ ⟨_, _, h, _⟩ => by subst h; exact Nat.le_of_ble_eq_true rfl) fun v y ⟨a, r, hv, hD, hy⟩ => by
    subst hy
    exact ok.seicheref06_Good (specOf_calls (H.seicheref06_Parts w hw) (fun _ _ ⟨_, _, h, _⟩ => by subst h; rfl)) (specOf_calls (H.seicheref06_Part w hw) (fun _ _ ⟨_, _, h, _⟩ => by subst h; rfl)) hv hD
end Go.Proofs.YtainplhaaklpeabDoor
