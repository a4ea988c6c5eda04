/-
  Functions of the program as Lean functions over plain data, and the proofs that the loaded code comes to them. Printed by a program of this seat (wip/gen/gen.py).
-/
import Derived.Test.YtainplhaaklpeabDoorProg
import Derived.Test.YtainplhaaklpeabDoorL1
namespace Go.Proofs.YtainplhaaklpeabDoor
open Go.Abs Go.RowKit

def F.path_Compare : Nat := 16
def F.seicheref06_Compare : Nat := 17
def F.slices_Compare_Lstring_string : Nat := 42
def F.path_Split : Nat := 43
def F.seicheref06_Split : Nat := 44
def F.seicheref06_Parts : Nat := 51
def F.strings_Split : Nat := 59
def F.cmp_Compare_string : Nat := 74
def F.cmp_isNaN_string : Nat := 102
def c_cmp_isNaN_string : ACode := (.seq (.region [
  ⟨(some 2), (.mv (.const (.bool false))), none, []⟩] false) (.seq (.region [
  ⟨(some 3), (.mv (.tmp 0)), none, []⟩, 
  ⟨(some 4), (.mv (.tmp 0)), none, []⟩, 
  ⟨(some 5), (.bin .neq .no (.tmp 3) (.tmp 4)), none, []⟩, 
  ⟨(some 2), (.mv (.tmp 5)), none, []⟩] false) .ret))
theorem cf_cmp_isNaN_string : cFn Go.Proofs.Tryd.prog F.cmp_isNaN_string = some ⟨6, c_cmp_isNaN_string, [.t 2]⟩ := by kernel_rfl
def g.cmp_isNaN_string (p0 : Bytes) : Option Bool :=
  some (!(decide (p0 = p0)))
theorem ok.cmp_isNaN_string {Γ : Abs.Spec} {gl : Glob} {r : Bool} {p0 : Bytes} {v : List V}
    (hv : nfL v = [(V.str p0)]) (hD : g.cmp_isNaN_string p0 = some r) : awp Γ gl c_cmp_isNaN_string (endQ [.t 2] false (V.bool r)) (St.init v) := by
  obtain ⟨v0, v, rfl, h0, hv⟩ := nfL_cons hv
  obtain rfl := nfL_nil hv
  have hR : ∀ s, EndsX [.t 2] false (V.bool r) s → endQ [.t 2] false (V.bool r) .ret s := fun _ h => h
  unfold g.cmp_isNaN_string at hD
  unfold c_cmp_isNaN_string
  refine x_seq ?_
  refine x_start (b := false) ?_
  refine x_mv' (show _ = (V.bool false) from rfl) ?_
  refine x_done ?_
  refine x_tN ?_
  refine x_seq ?_
  refine x_start (b := false) ?_
  refine x_mv' (nf_str h0) ?_
  refine x_mv' (nf_str h0) ?_
  refine x_bin (show _ = (V.str p0) from rfl) (show _ = (V.str p0) from rfl) s_neq ?_
  refine x_mv' (show _ = (V.bool (!(decide (p0 = p0)))) from rfl) ?_
  refine x_done ?_
  refine x_tN ?_
  refine x_retc ?_
  obtain rfl := Option.some.inj hD
  exact hR _ (ends_t (nf_of rfl (show _ = (V.bool (!(decide (p0 = p0)))) from rfl)) (fun h => nomatch h))
def K.cmp_isNaN_string : FC := fc F.cmp_isNaN_string (fun _ => true) false (fun (a : Bytes) => [(V.str a)]) (fun (y : Bool) => (V.bool y)) (fun a => g.cmp_isNaN_string a)
  (fun a => (cleanL_mk rfl rfl))
  (fun y => rfl)
  (fun a0 b0 h => by
    obtain ⟨h0, h⟩ := List.cons.inj h
    obtain rfl : a0 = b0 := V.str.inj h0
    rfl)
theorem H.cmp_isNaN_string (w : World) (_hw : EnvOK w) : K.cmp_isNaN_string.Holds (cxD w) :=
  FC.holds_of (cs := []) (glD w) mixed cf_cmp_isNaN_string (fun _ _ ⟨_, _, h, _⟩ => by subst h; exact Nat.le_of_ble_eq_true rfl) fun v y ⟨a, r, hv, hD, hy⟩ => by
    subst hy
    exact ok.cmp_isNaN_string hv hD
def c_cmp_Compare_string : ACode := (.seq (.region [
  ⟨(some 4), (.mv (.const (.int .i64 0))), none, []⟩] false) (.seq (.region [
  ⟨(some 7), (.mv (.tmp 0)), none, []⟩, 
  ⟨(some 8), (.call F.cmp_isNaN_string [(.tmp 7)]), none, []⟩, 
  ⟨(some 5), (.mv (.tmp 8)), none, []⟩] false) (.seq (.region [
  ⟨(some 9), (.mv (.tmp 1)), none, []⟩, 
  ⟨(some 10), (.call F.cmp_isNaN_string [(.tmp 9)]), none, []⟩, 
  ⟨(some 6), (.mv (.tmp 10)), none, []⟩] false) (.seq (.seq (.region [
  ⟨(some 11), (.mv (.tmp 5)), none, []⟩] false) (.cond (.tmp 11) (.seq (.seq (.region [
  ⟨(some 12), (.mv (.tmp 6)), none, []⟩] false) (.cond (.tmp 12) (.seq (.region [
  ⟨(some 4), (.mv (.const (.int .i64 0))), none, []⟩] false) .ret) .skip)) (.seq (.region [
  ⟨(some 4), (.mv (.const (.int .i64 (-1)))), none, []⟩] false) .ret)) .skip)) (.seq (.seq (.region [
  ⟨(some 13), (.mv (.tmp 6)), none, []⟩] false) (.cond (.tmp 13) (.seq (.region [
  ⟨(some 4), (.mv (.const (.int .i64 1))), none, []⟩] false) .ret) .skip)) (.seq (.seq (.region [
  ⟨(some 14), (.mv (.tmp 0)), none, []⟩, 
  ⟨(some 15), (.mv (.tmp 1)), none, []⟩, 
  ⟨(some 16), (.bin .lss .no (.tmp 14) (.tmp 15)), none, []⟩] false) (.cond (.tmp 16) (.seq (.region [
  ⟨(some 4), (.mv (.const (.int .i64 (-1)))), none, []⟩] false) .ret) .skip)) (.seq (.seq (.region [
  ⟨(some 17), (.mv (.tmp 0)), none, []⟩, 
  ⟨(some 18), (.mv (.tmp 1)), none, []⟩, 
  ⟨(some 19), (.bin .gtr .no (.tmp 17) (.tmp 18)), none, []⟩] false) (.cond (.tmp 19) (.seq (.region [
  ⟨(some 4), (.mv (.const (.int .i64 1))), none, []⟩] false) .ret) .skip)) (.seq (.region [
  ⟨(some 4), (.mv (.const (.int .i64 0))), none, []⟩] false) .ret))))))))
theorem cf_cmp_Compare_string : cFn Go.Proofs.Tryd.prog F.cmp_Compare_string = some ⟨20, c_cmp_Compare_string, [.t 4]⟩ := by kernel_rfl
def g.cmp_Compare_string (p0 : Bytes) (p1 : Bytes) : Option Int :=
  (g.cmp_isNaN_string p0).bind fun r5 =>
  (g.cmp_isNaN_string p1).bind fun r11 =>
  if r5 = true then
    if r11 = true then
      some 0
    else
      some (-1)
  else
    if r11 = true then
      some 1
    else
      if (Op.bytesLess p0 p1) = true then
        some (-1)
      else
        if (Op.bytesLess p1 p0) = true then
          some 1
        else
          some 0
theorem ok.cmp_Compare_string {Γ : Abs.Spec} {gl : Glob} (hC_cmp_isNaN_string : CallsX Γ K.cmp_isNaN_string) {r : Int} {p0 : Bytes} {p1 : Bytes} {v : List V}
    (hv : nfL v = [(V.str p0), (V.str p1)]) (hD : g.cmp_Compare_string p0 p1 = some r) : awp Γ gl c_cmp_Compare_string (endQ [.t 4] false (V.int .i64 r)) (St.init v) := by
  obtain ⟨v0, v, rfl, h0, hv⟩ := nfL_cons hv
  obtain ⟨v1, v, rfl, h1, hv⟩ := nfL_cons hv
  obtain rfl := nfL_nil hv
  have hR : ∀ s, EndsX [.t 4] false (V.int .i64 r) s → endQ [.t 4] false (V.int .i64 r) .ret s := fun _ h => h
  unfold g.cmp_Compare_string at hD
  unfold c_cmp_Compare_string
  refine x_seq ?_
  refine x_start (b := false) ?_
  refine x_mv' (show _ = (V.int .i64 0) from rfl) ?_
  refine x_done ?_
  refine x_tN ?_
  refine x_seq ?_
  refine x_start (b := false) ?_
  refine x_mv' (nf_str h0) ?_
  obtain ⟨r5, hx6, hD⟩ := Option.bind_eq_some_iff.1 hD
  refine x_callF hC_cmp_isNaN_string (a := (p0)) (cons_eq (nf_of rfl (show _ = (V.str p0) from rfl)) rfl) hx6 fun v4 ov4 (hv4 : v4.nf = (V.bool r5)) hov4 => ?_
  refine x_mv' (nf_bool hv4) ?_
  refine x_done ?_
  refine x_tN ?_
  refine x_seq ?_
  refine x_start (b := false) ?_
  refine x_mv' (nf_str h1) ?_
  obtain ⟨r11, hx12, hD⟩ := Option.bind_eq_some_iff.1 hD
  refine x_callF hC_cmp_isNaN_string (a := (p1)) (cons_eq (nf_of rfl (show _ = (V.str p1) from rfl)) rfl) hx12 fun v10 ov10 (hv10 : v10.nf = (V.bool r11)) hov10 => ?_
  refine x_mv' (nf_bool hv10) ?_
  refine x_done ?_
  refine x_tN ?_
  refine x_seq ?_
  refine x_seq ?_
  refine x_start (b := false) ?_
  refine x_mv' (show _ = (V.bool r5) from rfl) ?_
  refine x_done ?_
  refine x_tN ?_
  by_cases hp15 : r5 = true
  · rw [if_pos hp15] at hD
    refine x_ct (show _ = (V.bool r5) from rfl) hp15 ?_
    refine x_seq ?_
    refine x_seq ?_
    refine x_start (b := false) ?_
    refine x_mv' (show _ = (V.bool r11) from rfl) ?_
    refine x_done ?_
    refine x_tN ?_
    by_cases hp16 : r11 = true
    · rw [if_pos hp16] at hD
      refine x_ct (show _ = (V.bool r11) from rfl) hp16 ?_
      refine x_seq ?_
      refine x_start (b := false) ?_
      refine x_mv' (show _ = (V.int .i64 0) from rfl) ?_
      refine x_done ?_
      refine x_tN ?_
      refine x_retc ?_
      refine x_tR ?_
      refine x_tR ?_
      obtain rfl := Option.some.inj hD
      exact hR _ (ends_t (nf_of rfl (show _ = (V.int .i64 0) from rfl)) (fun h => nomatch h))
    · rw [if_neg hp16] at hD
      refine x_cf (show _ = (V.bool r11) from rfl) (Bool.eq_false_iff.2 hp16) ?_
      refine x_skip ?_
      refine x_tN ?_
      refine x_seq ?_
      refine x_start (b := false) ?_
      refine x_mv' (show _ = (V.int .i64 (-1)) from rfl) ?_
      refine x_done ?_
      refine x_tN ?_
      refine x_retc ?_
      refine x_tR ?_
      obtain rfl := Option.some.inj hD
      exact hR _ (ends_t (nf_of rfl (show _ = (V.int .i64 (-1)) from rfl)) (fun h => nomatch h))
  · rw [if_neg hp15] at hD
    refine x_cf (show _ = (V.bool r5) from rfl) (Bool.eq_false_iff.2 hp15) ?_
    refine x_skip ?_
    refine x_tN ?_
    refine x_seq ?_
    refine x_seq ?_
    refine x_start (b := false) ?_
    refine x_mv' (show _ = (V.bool r11) from rfl) ?_
    refine x_done ?_
    refine x_tN ?_
    by_cases hp18 : r11 = true
    · rw [if_pos hp18] at hD
      refine x_ct (show _ = (V.bool r11) from rfl) hp18 ?_
      refine x_seq ?_
      refine x_start (b := false) ?_
      refine x_mv' (show _ = (V.int .i64 1) from rfl) ?_
      refine x_done ?_
      refine x_tN ?_
      refine x_retc ?_
      refine x_tR ?_
      obtain rfl := Option.some.inj hD
      exact hR _ (ends_t (nf_of rfl (show _ = (V.int .i64 1) from rfl)) (fun h => nomatch h))
    · rw [if_neg hp18] at hD
      refine x_cf (show _ = (V.bool r11) from rfl) (Bool.eq_false_iff.2 hp18) ?_
      refine x_skip ?_
      refine x_tN ?_
      refine x_seq ?_
      refine x_seq ?_
      refine x_start (b := false) ?_
      refine x_mv' (nf_str h0) ?_
      refine x_mv' (nf_str h1) ?_
      refine x_bin (show _ = (V.str p0) from rfl) (show _ = (V.str p1) from rfl) s_lss ?_
      refine x_done ?_
      refine x_tN ?_
      by_cases hp20 : (Op.bytesLess p0 p1) = true
      · rw [if_pos hp20] at hD
        refine x_ct (show _ = (V.bool (Op.bytesLess p0 p1)) from rfl) hp20 ?_
        refine x_seq ?_
        refine x_start (b := false) ?_
        refine x_mv' (show _ = (V.int .i64 (-1)) from rfl) ?_
        refine x_done ?_
        refine x_tN ?_
        refine x_retc ?_
        refine x_tR ?_
        obtain rfl := Option.some.inj hD
        exact hR _ (ends_t (nf_of rfl (show _ = (V.int .i64 (-1)) from rfl)) (fun h => nomatch h))
      · rw [if_neg hp20] at hD
        refine x_cf (show _ = (V.bool (Op.bytesLess p0 p1)) from rfl) (Bool.eq_false_iff.2 hp20) ?_
        refine x_skip ?_
        refine x_tN ?_
        refine x_seq ?_
        refine x_seq ?_
        refine x_start (b := false) ?_
        refine x_mv' (nf_str h0) ?_
        refine x_mv' (nf_str h1) ?_
        refine x_bin (show _ = (V.str p0) from rfl) (show _ = (V.str p1) from rfl) s_gtr ?_
        refine x_done ?_
        refine x_tN ?_
        by_cases hp21 : (Op.bytesLess p1 p0) = true
        · rw [if_pos hp21] at hD
          refine x_ct (show _ = (V.bool (Op.bytesLess p1 p0)) from rfl) hp21 ?_
          refine x_seq ?_
          refine x_start (b := false) ?_
          refine x_mv' (show _ = (V.int .i64 1) from rfl) ?_
          refine x_done ?_
          refine x_tN ?_
          refine x_retc ?_
          refine x_tR ?_
          obtain rfl := Option.some.inj hD
          exact hR _ (ends_t (nf_of rfl (show _ = (V.int .i64 1) from rfl)) (fun h => nomatch h))
        · rw [if_neg hp21] at hD
          refine x_cf (show _ = (V.bool (Op.bytesLess p1 p0)) from rfl) (Bool.eq_false_iff.2 hp21) ?_
          refine x_skip ?_
          refine x_tN ?_
          refine x_seq ?_
          refine x_start (b := false) ?_
          refine x_mv' (show _ = (V.int .i64 0) from rfl) ?_
          refine x_done ?_
          refine x_tN ?_
          refine x_retc ?_
          obtain rfl := Option.some.inj hD
          exact hR _ (ends_t (nf_of rfl (show _ = (V.int .i64 0) from rfl)) (fun h => nomatch h))
def K.cmp_Compare_string : FC := fc F.cmp_Compare_string (fun _ => true) false (fun (a : (Bytes × Bytes)) => [(V.str a.1), (V.str a.2)]) (fun (y : Int) => (V.int .i64 y)) (fun a => g.cmp_Compare_string a.1 a.2)
  (fun a => (cleanL_mk rfl (cleanL_mk rfl rfl)))
  (fun y => rfl)
  (fun ⟨a0, a1⟩ ⟨b0, b1⟩ h => by
    obtain ⟨h0, h⟩ := List.cons.inj h
    obtain rfl : a0 = b0 := V.str.inj h0
    obtain ⟨h0, h⟩ := List.cons.inj h
    obtain rfl : a1 = b1 := V.str.inj h0
    rfl)
theorem H.cmp_Compare_string (w : World) (hw : EnvOK w) : K.cmp_Compare_string.Holds (cxD w) :=
  FC.holds_of (cs := [K.cmp_isNaN_string]) (glD w) mixed cf_cmp_Compare_string (fun _ _ ⟨_, _, h, _⟩ => by subst h; exact Nat.le_of_ble_eq_true rfl) fun v y ⟨a, r, hv, hD, hy⟩ => by
    subst hy
    exact ok.cmp_Compare_string (specOf_calls (H.cmp_isNaN_string w hw) (fun _ _ ⟨_, _, h, _⟩ => by subst h; rfl)) hv hD
def E.Lstring (l : (List Bytes)) : V := .sl false 1 (l.map V.str)
theorem E.Lstring_clean (l : (List Bytes)) : (E.Lstring l).clean = true := cleanL_map (fun x => rfl) l
theorem E.Lstring_inj {a b : (List Bytes)} (h : E.Lstring a = E.Lstring b) : a = b := by
  simp only [E.Lstring, V.sl.injEq, true_and] at h
  exact map_inj (fun x y h => V.str.inj h) h
theorem E.Lstring_fit (l : (List Bytes)) : (E.Lstring l).cells.length = 1 ∧ (E.Lstring l).cells.all V.sc = true := ⟨rfl, rfl⟩
def c_slices_Compare_Lstring_string_l1 : ACode := (.seq (.region [
  ⟨(some 12), (.bin .lss .no (.tmp 11) (.tmp 10)), none, []⟩] false) (.seq (.cond (.tmp 12) .skip (.exit 0)) (.seq (.block 1 (.seq (.region [
  ⟨(some 13), (.mv (.tmp 11)), none, []⟩, 
  ⟨(some 14), (.iaddr 1 (.tmp 9) (.tmp 11)), none, []⟩, 
  ⟨(some 15), (.load none (.tmp 14)), none, []⟩, 
  ⟨(some 5), (.mv (.tmp 13)), none, []⟩, 
  ⟨(some 6), (.mv (.tmp 15)), none, []⟩] false) (.seq (.seq (.region [
  ⟨(some 16), (.mv (.tmp 5)), none, []⟩, 
  ⟨(some 17), (.mv (.tmp 1)), none, []⟩, 
  ⟨(some 18), (.len false (.tmp 17)), none, []⟩, 
  ⟨(some 19), (.bin .geq .no (.tmp 16) (.tmp 18)), none, []⟩] false) (.cond (.tmp 19) (.seq (.region [
  ⟨(some 4), (.mv (.const (.int .i64 1))), none, []⟩] false) .ret) .skip)) (.seq (.region [
  ⟨(some 20), (.mv (.tmp 1)), none, []⟩, 
  ⟨(some 21), (.mv (.tmp 5)), none, []⟩, 
  ⟨(some 22), (.iaddr 1 (.tmp 20) (.tmp 21)), none, []⟩, 
  ⟨(some 23), (.load none (.tmp 22)), none, []⟩, 
  ⟨(some 7), (.mv (.tmp 23)), none, []⟩] false) (.seq (.region [
  ⟨(some 24), (.mv (.tmp 6)), none, []⟩, 
  ⟨(some 25), (.mv (.tmp 7)), none, []⟩, 
  ⟨(some 26), (.call F.cmp_Compare_string [(.tmp 24), (.tmp 25)]), none, []⟩, 
  ⟨(some 8), (.mv (.tmp 26)), none, []⟩] false) (.seq (.region [
  ⟨(some 27), (.mv (.tmp 8)), none, []⟩, 
  ⟨(some 28), (.bin .neq .no (.tmp 27) (.const (.int .i64 0))), none, []⟩] false) (.cond (.tmp 28) (.seq (.region [
  ⟨(some 29), (.mv (.tmp 8)), none, []⟩, 
  ⟨(some 4), (.mv (.tmp 29)), none, []⟩] false) .ret) .skip))))))) (.region [
  ⟨(some 30), (.bin .add .no (.tmp 11) (.const (.int .i64 1))), none, []⟩, 
  ⟨(some 11), (.mv (.tmp 30)), none, []⟩] false))))
def c_slices_Compare_Lstring_string : ACode := (.seq (.region [
  ⟨(some 4), (.mv (.const (.int .i64 0))), none, []⟩] false) (.seq (.seq (.region [
  ⟨(some 9), (.mv (.tmp 0)), none, []⟩, 
  ⟨(some 10), (.len false (.tmp 9)), none, []⟩, 
  ⟨(some 11), (.mv (.const (.int .i64 0))), none, []⟩] false) (.block 0 (.loop c_slices_Compare_Lstring_string_l1))) (.seq (.seq (.region [
  ⟨(some 31), (.mv (.tmp 0)), none, []⟩, 
  ⟨(some 32), (.len false (.tmp 31)), none, []⟩, 
  ⟨(some 33), (.mv (.tmp 1)), none, []⟩, 
  ⟨(some 34), (.len false (.tmp 33)), none, []⟩, 
  ⟨(some 35), (.bin .lss .no (.tmp 32) (.tmp 34)), none, []⟩] false) (.cond (.tmp 35) (.seq (.region [
  ⟨(some 4), (.mv (.const (.int .i64 (-1)))), none, []⟩] false) .ret) .skip)) (.seq (.region [
  ⟨(some 4), (.mv (.const (.int .i64 0))), none, []⟩] false) .ret))))
theorem cf_slices_Compare_Lstring_string : cFn Go.Proofs.Tryd.prog F.slices_Compare_Lstring_string = some ⟨36, c_slices_Compare_Lstring_string, [.t 4]⟩ := by kernel_rfl
def L.slices_Compare_Lstring_string_l1 (t1_44 : (List Bytes)) (k0 : Option Int) : List Bytes → Nat → Option Int
  | [], k43 =>
    k0
  | a81 :: rest, k43 =>
    if ((t1_44.length : Nat) : Int) ≤ ((k43 : Nat) : Int) then
      some 1
    else
      (at? t1_44 ((k43 : Nat) : Int)).bind fun a98 =>
      (g.cmp_Compare_string a81 a98).bind fun r106 =>
      if r106 = 0 then
        L.slices_Compare_Lstring_string_l1 t1_44 k0 rest (k43 + 1)
      else
        some r106
theorem ok.slices_Compare_Lstring_string_l1 {Γ : Abs.Spec} {gl : Glob} (hC_cmp_Compare_string : CallsX Γ K.cmp_Compare_string) {Q : Ex → St → Prop} {r : Int} {t1_44 : (List Bytes)} {l42 : List Bytes} {k0 : Option Int}
    (hk0 : ∀ (s : St), ((s.tm 0).nf = (V.sl false 1 (List.map V.str l42))) → ((s.tm 1).nf = (V.sl false 1 (List.map V.str t1_44))) → k0 = some r → Q (.exit 0) s)
    (hR : ∀ s, EndsX [.t 4] false (V.int .i64 r) s → Q .ret s)
    (hlen : l42.length ≤ Lim) : ∀ (rest : List Bytes) (k43 : Nat) (s : St), l42.drop k43 = rest → k43 ≤ l42.length →
    ((s.tm 9).nf = V.sl false 1 (List.map V.str l42)) → (s.tm 10 = V.int .i64 ((l42.length : Nat) : Int)) → (s.tm 11 = V.int .i64 ((k43 : Nat) : Int)) → ((s.tm 0).nf = (V.sl false 1 (List.map V.str l42))) → ((s.tm 1).nf = (V.sl false 1 (List.map V.str t1_44))) →
    L.slices_Compare_Lstring_string_l1 t1_44 k0 rest k43 = some r → awp Γ gl (.loop c_slices_Compare_Lstring_string_l1) Q s := by
  intro rest
  induction rest with
  | nil =>
    intro k43 s hdrop hkl hX hN hI h77 h78 hD
    have hkz := drop_nil hdrop hkl
    have hp0 : ¬ (((k43 : Nat) : Int) < ((l42.length : Nat) : Int)) := by omega
    refine awp_roundK fun K hK => ?_
    rw [L.slices_Compare_Lstring_string_l1] at hD
    refine x_seq ?_
    refine x_start (b := false) ?_
    refine x_bin hI hN b_lss ?_
    refine x_done ?_
    refine x_tN ?_
    refine x_seq ?_
    refine x_cf (show _ = (V.bool (decide (((k43 : Nat) : Int) < ((l42.length : Nat) : Int)))) from rfl) (decide_eq_false hp0) ?_
    refine x_exitc ?_
    refine x_tE ?_
    refine x_tE ?_
    refine hk0 _ ?_ ?_ hD
    · exact h77
    · exact h78
  | cons a81 rest ih =>
    intro k43 s hdrop hkl hX hN hI h77 h78 hD
    obtain ⟨hlt, -, hget, hdrop1, -⟩ := drop_cons hdrop
    have hp1 : ((k43 : Nat) : Int) < ((l42.length : Nat) : Int) := by omega
    have hwk := wi_succ (k := k43) (by unfold Lim at hlen; omega)
    refine awp_roundK fun K hK => ?_
    rw [L.slices_Compare_Lstring_string_l1] at hD
    refine x_seq ?_
    refine x_start (b := false) ?_
    refine x_bin hI hN b_lss ?_
    refine x_done ?_
    refine x_tN ?_
    refine x_seq ?_
    refine x_ct (show _ = (V.bool (decide (((k43 : Nat) : Int) < ((l42.length : Nat) : Int)))) from rfl) (decide_eq_true hp1) ?_
    refine x_skip ?_
    refine x_tN ?_
    refine x_seq ?_
    refine x_block ?_
    refine x_seq ?_
    refine x_start (b := false) ?_
    refine x_mv' hI ?_
    refine x_iaddr hX hI (at_k hget) fun v84 (hv84 : v84.nf = V.el [(V.str a81)] 0) => ?_
    refine x_load_el hv84 (show _ = some (V.str a81) from rfl) fun v85 hv85 => ?_
    refine x_mv' (show _ = (V.int .i64 ((k43 : Nat) : Int)) from rfl) ?_
    refine x_mv' (nf_str hv85) ?_
    refine x_done ?_
    refine x_tN ?_
    refine x_seq ?_
    refine x_seq ?_
    refine x_start (b := false) ?_
    refine x_mv' (show _ = (V.int .i64 ((k43 : Nat) : Int)) from rfl) ?_
    refine x_mv h78 fun v90 hv90 => ?_
    refine x_len hv90 ?_
    refine x_bin (show _ = (V.int .i64 ((k43 : Nat) : Int)) from rfl) (show _ = (V.int .i64 ((t1_44.length : Nat) : Int)) from rfl) b_geq ?_
    refine x_done ?_
    refine x_tN ?_
    by_cases hp91 : ((t1_44.length : Nat) : Int) ≤ ((k43 : Nat) : Int)
    · rw [if_pos hp91] at hD
      refine x_ct (show _ = (V.bool (decide (((t1_44.length : Nat) : Int) ≤ ((k43 : Nat) : Int)))) from rfl) (decide_eq_true hp91) ?_
      refine x_seq ?_
      refine x_start (b := false) ?_
      refine x_mv' (show _ = (V.int .i64 1) from rfl) ?_
      refine x_done ?_
      refine x_tN ?_
      refine x_retc ?_
      refine x_tR ?_
      refine x_bR ?_
      refine x_tR ?_
      refine x_tR ?_
      obtain rfl := Option.some.inj hD
      exact hR _ (ends_t (nf_of rfl (show _ = (V.int .i64 1) from rfl)) (fun h => nomatch h))
    · rw [if_neg hp91] at hD
      refine x_cf (show _ = (V.bool (decide (((t1_44.length : Nat) : Int) ≤ ((k43 : Nat) : Int)))) from rfl) (decide_eq_false hp91) ?_
      refine x_skip ?_
      refine x_tN ?_
      refine x_seq ?_
      refine x_start (b := false) ?_
      refine x_mv h78 fun v97 hv97 => ?_
      refine x_mv' (show _ = (V.int .i64 ((k43 : Nat) : Int)) from rfl) ?_
      obtain ⟨a98, hx99, hD⟩ := Option.bind_eq_some_iff.1 hD
      refine x_iaddr hv97 (show _ = (V.int .i64 ((k43 : Nat) : Int)) from rfl) hx99 fun v100 (hv100 : v100.nf = V.el [(V.str a98)] 0) => ?_
      refine x_load_el hv100 (show _ = some (V.str a98) from rfl) fun v101 hv101 => ?_
      refine x_mv' (nf_str hv101) ?_
      refine x_done ?_
      refine x_tN ?_
      refine x_seq ?_
      refine x_start (b := false) ?_
      refine x_mv' (show _ = (V.str a81) from rfl) ?_
      refine x_mv' (show _ = (V.str a98) from rfl) ?_
      obtain ⟨r106, hx107, hD⟩ := Option.bind_eq_some_iff.1 hD
      refine x_callF hC_cmp_Compare_string (a := (a81, a98)) (cons_eq (nf_of rfl (show _ = (V.str a81) from rfl)) (cons_eq (nf_of rfl (show _ = (V.str a98) from rfl)) rfl)) hx107 fun v105 ov105 (hv105 : v105.nf = (V.int .i64 r106)) hov105 => ?_
      refine x_mv' (nf_int hv105) ?_
      refine x_done ?_
      refine x_tN ?_
      refine x_seq ?_
      refine x_start (b := false) ?_
      refine x_mv' (show _ = (V.int .i64 r106) from rfl) ?_
      refine x_bin (show _ = (V.int .i64 r106) from rfl) (show _ = (V.int .i64 0) from rfl) b_neq ?_
      refine x_done ?_
      refine x_tN ?_
      by_cases hp108 : r106 = 0
      · rw [if_pos hp108] at hD
        refine x_cf (show _ = (V.bool (!(decide (r106 = 0)))) from rfl) (bnot_t (decide_eq_true hp108)) ?_
        refine x_skip ?_
        refine x_bN ?_
        refine x_tN ?_
        refine x_start (b := false) ?_
        refine x_bin hI (show _ = (V.int .i64 1) from rfl) b_add ?_
        refine x_mv' (show _ = (V.int .i64 (wi (((k43 : Nat) : Int) + 1))) from rfl) ?_
        refine x_done ?_
        refine x_tN ?_
        refine hK _ ?_
        refine ih (k43 + 1) _ hdrop1 hlt ?_ ?_ ?_ ?_ ?_ hD
        · exact hX
        · exact hN
        · exact (Eq.trans (show _ = (V.int .i64 (wi (((k43 : Nat) : Int) + 1))) from rfl) (congrArg (V.int .i64) hwk))
        · exact h77
        · exact h78
      · rw [if_neg hp108] at hD
        refine x_ct (show _ = (V.bool (!(decide (r106 = 0)))) from rfl) (bnot_f (decide_eq_false hp108)) ?_
        refine x_seq ?_
        refine x_start (b := false) ?_
        refine x_mv' (show _ = (V.int .i64 r106) from rfl) ?_
        refine x_mv' (show _ = (V.int .i64 r106) from rfl) ?_
        refine x_done ?_
        refine x_tN ?_
        refine x_retc ?_
        refine x_bR ?_
        refine x_tR ?_
        refine x_tR ?_
        obtain rfl := Option.some.inj hD
        exact hR _ (ends_t (nf_of rfl (show _ = (V.int .i64 r106) from rfl)) (fun h => nomatch h))
def g.slices_Compare_Lstring_string (p0 : (List Bytes)) (p1 : (List Bytes)) : Option Int :=
  if p0.length ≤ Lim then L.slices_Compare_Lstring_string_l1 p1 (if ((p0.length : Nat) : Int) < ((p1.length : Nat) : Int) then
    some (-1)
  else
    some 0) p0 0 else none
theorem ok.slices_Compare_Lstring_string {Γ : Abs.Spec} {gl : Glob} (hC_cmp_Compare_string : CallsX Γ K.cmp_Compare_string) {r : Int} {p0 : (List Bytes)} {p1 : (List Bytes)} {v : List V}
    (hv : nfL v = [(V.sl false 1 (List.map V.str p0)), (V.sl false 1 (List.map V.str p1))]) (hD : g.slices_Compare_Lstring_string p0 p1 = some r) : awp Γ gl c_slices_Compare_Lstring_string (endQ [.t 4] false (V.int .i64 r)) (St.init v) := by
  obtain ⟨v0, v, rfl, h0, hv⟩ := nfL_cons hv
  obtain ⟨v1, v, rfl, h1, hv⟩ := nfL_cons hv
  obtain rfl := nfL_nil hv
  have hR : ∀ s, EndsX [.t 4] false (V.int .i64 r) s → endQ [.t 4] false (V.int .i64 r) .ret s := fun _ h => h
  unfold g.slices_Compare_Lstring_string at hD
  unfold c_slices_Compare_Lstring_string
  refine x_seq ?_
  refine x_start (b := false) ?_
  refine x_mv' (show _ = (V.int .i64 0) from rfl) ?_
  refine x_done ?_
  refine x_tN ?_
  refine x_seq ?_
  refine x_seq ?_
  refine x_start (b := false) ?_
  refine x_mv h0 fun v41 hv41 => ?_
  refine x_len hv41 ?_
  refine x_mv' (show _ = (V.int .i64 0) from rfl) ?_
  refine x_done ?_
  refine x_tN ?_
  refine x_block ?_
  by_cases hlen121 : p0.length ≤ Lim
  · rw [if_pos hlen121] at hD
    refine ok.slices_Compare_Lstring_string_l1 (t1_44 := p1) (l42 := p0) hC_cmp_Compare_string (fun s120 h113 h114 hD => ?_) (fun _ hE => ?_) hlen121 _ 0 _ rfl (Nat.zero_le _) ?_ ?_ ?_ ?_ ?_ hD
    · refine x_bE ?_
      refine x_tN ?_
      refine x_seq ?_
      refine x_seq ?_
      refine x_start (b := false) ?_
      refine x_mv h113 fun v117 hv117 => ?_
      refine x_len hv117 ?_
      refine x_mv h114 fun v118 hv118 => ?_
      refine x_len hv118 ?_
      refine x_bin (show _ = (V.int .i64 ((p0.length : Nat) : Int)) from rfl) (show _ = (V.int .i64 ((p1.length : Nat) : Int)) from rfl) b_lss ?_
      refine x_done ?_
      refine x_tN ?_
      by_cases hp119 : ((p0.length : Nat) : Int) < ((p1.length : Nat) : Int)
      · rw [if_pos hp119] at hD
        refine x_ct (show _ = (V.bool (decide (((p0.length : Nat) : Int) < ((p1.length : Nat) : Int)))) from rfl) (decide_eq_true hp119) ?_
        refine x_seq ?_
        refine x_start (b := false) ?_
        refine x_mv' (show _ = (V.int .i64 (-1)) from rfl) ?_
        refine x_done ?_
        refine x_tN ?_
        refine x_retc ?_
        refine x_tR ?_
        obtain rfl := Option.some.inj hD
        exact hR _ (ends_t (nf_of rfl (show _ = (V.int .i64 (-1)) from rfl)) (fun h => nomatch h))
      · rw [if_neg hp119] at hD
        refine x_cf (show _ = (V.bool (decide (((p0.length : Nat) : Int) < ((p1.length : Nat) : Int)))) from rfl) (decide_eq_false hp119) ?_
        refine x_skip ?_
        refine x_tN ?_
        refine x_seq ?_
        refine x_start (b := false) ?_
        refine x_mv' (show _ = (V.int .i64 0) from rfl) ?_
        refine x_done ?_
        refine x_tN ?_
        refine x_retc ?_
        obtain rfl := Option.some.inj hD
        exact hR _ (ends_t (nf_of rfl (show _ = (V.int .i64 0) from rfl)) (fun h => nomatch h))
    · refine x_bR ?_; refine x_tR ?_; exact hR _ hE
    · exact hv41
    · exact (show _ = (V.int .i64 ((p0.length : Nat) : Int)) from rfl)
    · exact (show _ = (V.int .i64 0) from rfl)
    · exact h0
    · exact h1
  · rw [if_neg hlen121] at hD; cases hD
def K.slices_Compare_Lstring_string : FC := fc F.slices_Compare_Lstring_string (fun _ => true) false (fun (a : ((List Bytes) × (List Bytes))) => [(V.sl false 1 (List.map V.str a.1)), (V.sl false 1 (List.map V.str a.2))]) (fun (y : Int) => (V.int .i64 y)) (fun a => g.slices_Compare_Lstring_string a.1 a.2)
  (fun a => (cleanL_mk (E.Lstring_clean _) (cleanL_mk (E.Lstring_clean _) rfl)))
  (fun y => rfl)
  (fun ⟨a0, a1⟩ ⟨b0, b1⟩ h => by
    obtain ⟨h0, h⟩ := List.cons.inj h
    obtain rfl : a0 = b0 := E.Lstring_inj h0
    obtain ⟨h0, h⟩ := List.cons.inj h
    obtain rfl : a1 = b1 := E.Lstring_inj h0
    rfl)
theorem H.slices_Compare_Lstring_string (w : World) (hw : EnvOK w) : K.slices_Compare_Lstring_string.Holds (cxD w) :=
  FC.holds_of (cs := [K.cmp_Compare_string]) (glD w) mixed cf_slices_Compare_Lstring_string (fun _ _ ⟨_, _, h, _⟩ => by subst h; exact Nat.le_of_ble_eq_true rfl) fun v y ⟨a, r, hv, hD, hy⟩ => by
    subst hy
    exact ok.slices_Compare_Lstring_string (specOf_calls (H.cmp_Compare_string w hw) (fun _ _ ⟨_, _, h, _⟩ => by subst h; rfl)) hv hD
def c_path_Split : ACode := (.seq (.region [
  ⟨(some 2), (.mv (.const (.sl true 1 []))), none, []⟩] false) (.seq (.seq (.region [
  ⟨(some 3), (.mv (.tmp 0)), none, []⟩, 
  ⟨(some 4), (.bin .eql .no (.tmp 3) (.const (.str []))), none, []⟩] false) (.cond (.tmp 4) (.seq (.region [
  ⟨(some 2), (.mv (.const (.sl true 1 []))), none, []⟩] false) .ret) .skip)) (.seq (.region [
  ⟨(some 5), (.mv (.tmp 0)), none, []⟩, 
  ⟨(some 6), (.call F.strings_Split [(.tmp 5), (.const (.str [47]))]), none, []⟩, 
  ⟨(some 2), (.mvo 6), none, []⟩] false) .ret)))
theorem cf_path_Split : cFn Go.Proofs.Tryd.prog F.path_Split = some ⟨7, c_path_Split, [.t 2]⟩ := by kernel_rfl
def g.path_Split (p0 : Bytes) : Option (List Bytes) :=
  if p0 = ([] : Bytes) then
    some []
  else
    (g.strings_Split p0 ([47] : Bytes)).bind fun r4 =>
    some r4
theorem ok.path_Split {Γ : Abs.Spec} {gl : Glob} (hC_strings_Split : CallsX Γ K.strings_Split) {r : (List Bytes)} {p0 : Bytes} {v : List V}
    (hv : nfL v = [(V.str p0)]) (hD : g.path_Split p0 = some r) : awp Γ gl c_path_Split (endQ [.t 2] true (V.sl false 1 (List.map V.str r))) (St.init v) := by
  obtain ⟨v0, v, rfl, h0, hv⟩ := nfL_cons hv
  obtain rfl := nfL_nil hv
  have hR : ∀ s, EndsX [.t 2] true (V.sl false 1 (List.map V.str r)) s → endQ [.t 2] true (V.sl false 1 (List.map V.str r)) .ret s := fun _ h => h
  unfold g.path_Split at hD
  unfold c_path_Split
  refine x_seq ?_
  refine x_start (b := false) ?_
  refine x_mv' (y := V.sl true 1 []) rfl ?_
  refine x_done ?_
  refine x_tN ?_
  refine x_seq ?_
  refine x_seq ?_
  refine x_start (b := false) ?_
  refine x_mv' (nf_str h0) ?_
  refine x_bin (show _ = (V.str p0) from rfl) (show _ = (V.str ([] : Bytes)) from rfl) s_eql ?_
  refine x_done ?_
  refine x_tN ?_
  by_cases hp2 : p0 = ([] : Bytes)
  · rw [if_pos hp2] at hD
    refine x_ct (show _ = (V.bool (decide (p0 = ([] : Bytes)))) from rfl) (decide_eq_true hp2) ?_
    refine x_seq ?_
    refine x_start (b := false) ?_
    refine x_mv' (y := V.sl true 1 []) rfl ?_
    refine x_done ?_
    refine x_tN ?_
    refine x_retc ?_
    refine x_tR ?_
    obtain rfl := Option.some.inj hD
    exact hR _ (ends_t (show V.nf _ = (V.sl false 1 (List.map V.str [])) from rfl) (fun _ => (Or.inr ⟨1, rfl⟩)))
  · rw [if_neg hp2] at hD
    refine x_cf (show _ = (V.bool (decide (p0 = ([] : Bytes)))) from rfl) (decide_eq_false hp2) ?_
    refine x_skip ?_
    refine x_tN ?_
    refine x_seq ?_
    refine x_start (b := false) ?_
    refine x_mv' (nf_str h0) ?_
    obtain ⟨r4, hx5, hD⟩ := Option.bind_eq_some_iff.1 hD
    refine x_callF hC_strings_Split (a := (p0, ([47] : Bytes))) (cons_eq (nf_of rfl (show _ = (V.str p0) from rfl)) (cons_eq (nf_of rfl (show _ = (V.str ([47] : Bytes)) from rfl)) rfl)) hx5 fun v3 ov3 (hv3 : v3.nf = (V.sl false 1 (List.map V.str r4))) hov3 => ?_
    refine x_mvo hv3 fun v6 ov6 hv6 hwv6 => ?_
    refine x_done ?_
    refine x_tN ?_
    refine x_retc ?_
    obtain rfl := Option.some.inj hD
    exact hR _ (ends_t hv6 (fun _ => (hwv6 (hov3 rfl))))
def K.path_Split : FC := fc F.path_Split (fun _ => true) true (fun (a : Bytes) => [(V.str a)]) (fun (y : (List Bytes)) => (V.sl false 1 (List.map V.str y))) (fun a => g.path_Split a)
  (fun a => (cleanL_mk rfl rfl))
  (fun y => (E.Lstring_clean _))
  (fun a0 b0 h => by
    obtain ⟨h0, h⟩ := List.cons.inj h
    obtain rfl : a0 = b0 := V.str.inj h0
    rfl)
theorem H.path_Split (w : World) (hw : EnvOK w) : K.path_Split.Holds (cxD w) :=
  FC.holds_of (cs := [K.strings_Split]) (glD w) mixed cf_path_Split (fun _ _ ⟨_, _, h, _⟩ => by subst h; exact Nat.le_of_ble_eq_true rfl) fun v y ⟨a, r, hv, hD, hy⟩ => by
    subst hy
    exact ok.path_Split (specOf_calls (H.strings_Split w hw) (fun _ _ ⟨_, _, h, _⟩ => by subst h; rfl)) hv hD
def c_path_Compare : ACode := (.seq (.region [
  ⟨(some 4), (.mv (.const (.int .i64 0))), none, []⟩] false) (.seq (.region [
  ⟨(some 5), (.mv (.tmp 0)), none, []⟩, 
  ⟨(some 6), (.call F.path_Split [(.tmp 5)]), none, []⟩, 
  ⟨(some 7), (.mv (.tmp 1)), none, []⟩, 
  ⟨(some 8), (.call F.path_Split [(.tmp 7)]), none, []⟩, 
  ⟨(some 9), (.call F.slices_Compare_Lstring_string [(.tmp 6), (.tmp 8)]), none, []⟩, 
  ⟨(some 4), (.mv (.tmp 9)), none, []⟩] false) .ret))
theorem cf_path_Compare : cFn Go.Proofs.Tryd.prog F.path_Compare = some ⟨10, c_path_Compare, [.t 4]⟩ := by kernel_rfl
def g.path_Compare (p0 : Bytes) (p1 : Bytes) : Option Int :=
  (g.path_Split p0).bind fun r2 =>
  (g.path_Split p1).bind fun r5 =>
  (g.slices_Compare_Lstring_string r2 r5).bind fun r8 =>
  some r8
theorem ok.path_Compare {Γ : Abs.Spec} {gl : Glob} (hC_path_Split : CallsX Γ K.path_Split) (hC_slices_Compare_Lstring_string : CallsX Γ K.slices_Compare_Lstring_string) {r : Int} {p0 : Bytes} {p1 : Bytes} {v : List V}
    (hv : nfL v = [(V.str p0), (V.str p1)]) (hD : g.path_Compare p0 p1 = some r) : awp Γ gl c_path_Compare (endQ [.t 4] false (V.int .i64 r)) (St.init v) := by
  obtain ⟨v0, v, rfl, h0, hv⟩ := nfL_cons hv
  obtain ⟨v1, v, rfl, h1, hv⟩ := nfL_cons hv
  obtain rfl := nfL_nil hv
  have hR : ∀ s, EndsX [.t 4] false (V.int .i64 r) s → endQ [.t 4] false (V.int .i64 r) .ret s := fun _ h => h
  unfold g.path_Compare at hD
  unfold c_path_Compare
  refine x_seq ?_
  refine x_start (b := false) ?_
  refine x_mv' (show _ = (V.int .i64 0) from rfl) ?_
  refine x_done ?_
  refine x_tN ?_
  refine x_seq ?_
  refine x_start (b := false) ?_
  refine x_mv' (nf_str h0) ?_
  obtain ⟨r2, hx3, hD⟩ := Option.bind_eq_some_iff.1 hD
  refine x_callF hC_path_Split (a := (p0)) (cons_eq (nf_of rfl (show _ = (V.str p0) from rfl)) rfl) hx3 fun v1 ov1 (hv1 : v1.nf = (V.sl false 1 (List.map V.str r2))) hov1 => ?_
  refine x_mv' (nf_str h1) ?_
  obtain ⟨r5, hx6, hD⟩ := Option.bind_eq_some_iff.1 hD
  refine x_callF hC_path_Split (a := (p1)) (cons_eq (nf_of rfl (show _ = (V.str p1) from rfl)) rfl) hx6 fun v4 ov4 (hv4 : v4.nf = (V.sl false 1 (List.map V.str r5))) hov4 => ?_
  obtain ⟨r8, hx9, hD⟩ := Option.bind_eq_some_iff.1 hD
  refine x_callF hC_slices_Compare_Lstring_string (a := (r2, r5)) (cons_eq hv1 (cons_eq hv4 rfl)) hx9 fun v7 ov7 (hv7 : v7.nf = (V.int .i64 r8)) hov7 => ?_
  refine x_mv' (nf_int hv7) ?_
  refine x_done ?_
  refine x_tN ?_
  refine x_retc ?_
  obtain rfl := Option.some.inj hD
  exact hR _ (ends_t (nf_of rfl (show _ = (V.int .i64 r8) from rfl)) (fun h => nomatch h))
def K.path_Compare : FC := fc F.path_Compare (fun _ => true) false (fun (a : (Bytes × Bytes)) => [(V.str a.1), (V.str a.2)]) (fun (y : Int) => (V.int .i64 y)) (fun a => g.path_Compare a.1 a.2)
  (fun a => (cleanL_mk rfl (cleanL_mk rfl rfl)))
  (fun y => rfl)
  (fun ⟨a0, a1⟩ ⟨b0, b1⟩ h => by
    obtain ⟨h0, h⟩ := List.cons.inj h
    obtain rfl : a0 = b0 := V.str.inj h0
    obtain ⟨h0, h⟩ := List.cons.inj h
    obtain rfl : a1 = b1 := V.str.inj h0
    rfl)
theorem H.path_Compare (w : World) (hw : EnvOK w) : K.path_Compare.Holds (cxD w) :=
  FC.holds_of (cs := [K.path_Split, K.slices_Compare_Lstring_string]) (glD w) mixed cf_path_Compare (fun _ _ ⟨_, _, h, _⟩ => by subst h; exact Nat.le_of_ble_eq_true rfl) fun v y ⟨a, r, hv, hD, hy⟩ => by
    subst hy
    exact ok.path_Compare (specOf_calls (H.path_Split w hw) (fun _ _ ⟨_, _, h, _⟩ => by subst h; rfl)) (specOf_calls (H.slices_Compare_Lstring_string w hw) (fun _ _ ⟨_, _, h, _⟩ => by subst h; rfl)) hv hD
def c_seicheref06_Parts_j1 : ACode := (.seq (.region [
  ⟨(some 22), (.mvo 3), none, []⟩, 
  ⟨(some 23), (.mv (.tmp 0)), none, []⟩, 
  ⟨(some 24), (.mv (.tmp 4)), none, []⟩, 
  ⟨(some 25), (.mv (.tmp 5)), none, []⟩, 
  ⟨(some 26), (.sls (.tmp 23) (some (.tmp 24)) (some (.tmp 25))), none, []⟩, 
  ⟨(some 27), (.bsl 1 [(.tmp 26)]), none, []⟩, 
  ⟨(some 28), (.app 1 (.tmp 22) (.tmp 27)), none, []⟩, 
  ⟨(some 3), (.mvo 28), none, []⟩] false) (.region [
  ⟨(some 29), (.mv (.tmp 5)), none, []⟩, 
  ⟨(some 30), (.bin .add .no (.tmp 29) (.const (.int .i64 1))), none, []⟩, 
  ⟨(some 4), (.mv (.tmp 30)), none, []⟩] false))
def c_seicheref06_Parts_l1 : ACode := (.seq (.seq (.region [
  ⟨(some 6), (.mv (.tmp 5)), none, []⟩, 
  ⟨(some 7), (.mv (.tmp 0)), none, []⟩, 
  ⟨(some 8), (.len true (.tmp 7)), none, []⟩, 
  ⟨(some 9), (.bin .leq .no (.tmp 6) (.tmp 8)), none, []⟩] false) (.cond (.tmp 9) .skip (.exit 0))) (.seq (.block 1 (.seq (.region [
  ⟨(some 12), (.mv (.tmp 5)), none, []⟩, 
  ⟨(some 13), (.mv (.tmp 0)), none, []⟩, 
  ⟨(some 14), (.len true (.tmp 13)), none, []⟩, 
  ⟨(some 15), (.bin .eql .no (.tmp 12) (.tmp 14)), none, []⟩, 
  ⟨(some 16), (.mv (.tmp 15)), none, []⟩, 
  ⟨(some 17), (.mv (.tmp 0)), (some (16, false)), []⟩, 
  ⟨(some 18), (.mv (.tmp 5)), (some (16, false)), []⟩, 
  ⟨(some 19), (.idx (.tmp 17) (.tmp 18)), (some (16, false)), []⟩, 
  ⟨(some 20), (.bin .eql .no (.tmp 19) (.const (.int .u8 47))), (some (16, false)), []⟩, 
  ⟨(some 21), (.pick (.tmp 16) (.const (.bool true)) (.tmp 20)), none, []⟩] false) (.cond (.tmp 21) c_seicheref06_Parts_j1 .skip))) (.region [
  ⟨(some 10), (.mv (.tmp 5)), none, []⟩, 
  ⟨(some 11), (.bin .add .no (.tmp 10) (.const (.int .i64 1))), none, []⟩, 
  ⟨(some 5), (.mv (.tmp 11)), none, []⟩] false)))
def c_seicheref06_Parts : ACode := (.seq (.region [
  ⟨(some 2), (.mv (.const (.sl true 1 []))), none, []⟩] false) (.seq (.region [
  ⟨(some 3), (.mv (.const (.sl true 1 []))), none, []⟩] false) (.seq (.region [
  ⟨(some 4), (.mv (.const (.int .i64 0))), none, []⟩] false) (.seq (.seq (.region [
  ⟨(some 5), (.mv (.const (.int .i64 0))), none, []⟩] false) (.block 0 (.loop c_seicheref06_Parts_l1))) (.seq (.region [
  ⟨(some 31), (.mvo 3), none, []⟩, 
  ⟨(some 2), (.mvo 31), none, []⟩] false) .ret)))))
theorem cf_seicheref06_Parts : cFn Go.Proofs.Tryd.prog F.seicheref06_Parts = some ⟨32, c_seicheref06_Parts, [.t 2]⟩ := by kernel_rfl
def L.seicheref06_Parts_j1 (t0_1 : Bytes) (k0 : (List Bytes) → Int → Int → Option (List Bytes)) (t3_64 : (List Bytes)) (t4_66 : Int) (t5_68 : Int) : Option (List Bytes) :=
  (cut t0_1 t4_66 t5_68).bind fun q70 =>
  (appL t3_64 ([q70] : (List Bytes))).bind fun l73 =>
  k0 l73 (wi (t5_68 + 1)) t5_68
theorem ok.seicheref06_Parts_j1 {Γ : Abs.Spec} {gl : Glob} {Q : Ex → St → Prop} {r : (List Bytes)} {t0_1 : Bytes} {k0 : (List Bytes) → Int → Int → Option (List Bytes)}
    (hk0 : ∀ (s : St) (t3_100 : (List Bytes)) (t4_102 : Int) (t5_104 : Int), (s.tm 0 = (V.str t0_1)) → ((s.tm 3).nf = (V.sl false 1 (List.map V.str t3_100))) → (OwnS s 3) → (s.tm 4 = (V.int .i64 t4_102)) → (s.tm 5 = (V.int .i64 t5_104)) → k0 t3_100 t4_102 t5_104 = some r → Q .normal s)
    (hR : ∀ s, EndsX [.t 2] true (V.sl false 1 (List.map V.str r)) s → Q .ret s)
    {s : St} {t3_64 : (List Bytes)} {t4_66 : Int} {t5_68 : Int} (h62 : s.tm 0 = (V.str t0_1)) (h63 : (s.tm 3).nf = (V.sl false 1 (List.map V.str t3_64))) (h63o : OwnS s 3) (h65 : s.tm 4 = (V.int .i64 t4_66)) (h67 : s.tm 5 = (V.int .i64 t5_68))
    (hD : L.seicheref06_Parts_j1 t0_1 k0 t3_64 t4_66 t5_68 = some r) : awp Γ gl c_seicheref06_Parts_j1 Q s := by
  unfold L.seicheref06_Parts_j1 at hD
  refine x_seq ?_
  refine x_start (b := false) ?_
  refine x_mvo h63 fun v69 ov69 hv69 hwv69 => ?_
  refine x_mv' h62 ?_
  refine x_mv' h65 ?_
  refine x_mv' h67 ?_
  obtain ⟨q70, hx71, hD⟩ := Option.bind_eq_some_iff.1 hD
  refine x_slslh (show _ = (V.str t0_1) from rfl) (show _ = (V.int .i64 t4_66) from rfl) (show _ = (V.int .i64 t5_68) from rfl) hx71 ?_
  refine x_bsl (E := V.str) (l := ([q70] : (List Bytes))) (cons_eq (nf_of rfl (show _ = (V.str q70) from rfl)) rfl) (fits_map (E := V.str) (sz := 1) (fun x => ⟨rfl, rfl⟩) _) fun v72 ov72 hv72 hov72 => ?_
  obtain ⟨l73, hx74, hD⟩ := Option.bind_eq_some_iff.1 hD
  refine x_app hv69 (hwv69 h63o) (tail_sl hv72) hx74 fun v75 ov75 fv75 hv75 hov75 hfv75 => ?_
  refine x_mvo hv75 fun v76 ov76 hv76 hwv76 => ?_
  refine x_done ?_
  refine x_tN ?_
  refine x_start (b := false) ?_
  refine x_mv' h67 ?_
  refine x_bin (show _ = (V.int .i64 t5_68) from rfl) (show _ = (V.int .i64 1) from rfl) b_add ?_
  refine x_mv' (show _ = (V.int .i64 (wi (t5_68 + 1))) from rfl) ?_
  refine x_done ?_
  refine hk0 _ _ _ _ ?_ ?_ ?_ ?_ ?_ hD
  · exact h62
  · exact hv76
  · exact (hwv76 hov75)
  · exact (show _ = (V.int .i64 (wi (t5_68 + 1))) from rfl)
  · exact h67
def L.seicheref06_Parts_l1 (t0_1 : Bytes) (k0 : (List Bytes) → Option (List Bytes)) : Nat → (List Bytes) → Int → Int → Option (List Bytes)
  | 0, _, _, _ => none
  | n + 1, t3_35, t4_37, t5_39 =>
    if t5_39 ≤ ((t0_1.length : Nat) : Int) then
      if t5_39 = ((t0_1.length : Nat) : Int) then
        L.seicheref06_Parts_j1 t0_1 (fun (t3_108 : (List Bytes)) (t4_110 : Int) (t5_112 : Int) => L.seicheref06_Parts_l1 t0_1 k0 n t3_108 t4_110 (wi (t5_112 + 1))) t3_35 t4_37 t5_39
      else
        (at? t0_1 t5_39).bind fun b114 =>
        if b114 = 47 then
          L.seicheref06_Parts_j1 t0_1 (fun (t3_119 : (List Bytes)) (t4_121 : Int) (t5_123 : Int) => L.seicheref06_Parts_l1 t0_1 k0 n t3_119 t4_121 (wi (t5_123 + 1))) t3_35 t4_37 t5_39
        else
          L.seicheref06_Parts_l1 t0_1 k0 n t3_35 t4_37 (wi (t5_39 + 1))
    else
      k0 t3_35
theorem ok.seicheref06_Parts_l1 {Γ : Abs.Spec} {gl : Glob} {Q : Ex → St → Prop} {r : (List Bytes)} {t0_1 : Bytes} {k0 : (List Bytes) → Option (List Bytes)}
    (hk0 : ∀ (s : St) (t3_128 : (List Bytes)), ((s.tm 3).nf = (V.sl false 1 (List.map V.str t3_128))) → (OwnS s 3) → k0 t3_128 = some r → Q (.exit 0) s)
    (hR : ∀ s, EndsX [.t 2] true (V.sl false 1 (List.map V.str r)) s → Q .ret s) : ∀ (n : Nat) (s : St) (t3_35 : (List Bytes)) (t4_37 : Int) (t5_39 : Int),
    (s.tm 0 = (V.str t0_1)) → ((s.tm 3).nf = (V.sl false 1 (List.map V.str t3_35))) → (OwnS s 3) → (s.tm 4 = (V.int .i64 t4_37)) → (s.tm 5 = (V.int .i64 t5_39)) → L.seicheref06_Parts_l1 t0_1 k0 n t3_35 t4_37 t5_39 = some r → awp Γ gl (.loop c_seicheref06_Parts_l1) Q s := by
  intro n
  induction n with
  | zero => intro s t3_35 t4_37 t5_39 h33 h34 h34o h36 h38 hD; rw [L.seicheref06_Parts_l1] at hD; cases hD
  | succ n ih =>
    intro s t3_35 t4_37 t5_39 h33 h34 h34o h36 h38 hD
    refine awp_roundK fun K hK => ?_
    rw [L.seicheref06_Parts_l1] at hD
    refine x_seq ?_
    refine x_seq ?_
    refine x_start (b := false) ?_
    refine x_mv' h38 ?_
    refine x_mv' h33 ?_
    refine x_lens (show _ = (V.str t0_1) from rfl) ?_
    refine x_bin (show _ = (V.int .i64 t5_39) from rfl) (show _ = (V.int .i64 ((t0_1.length : Nat) : Int)) from rfl) b_leq ?_
    refine x_done ?_
    refine x_tN ?_
    by_cases hp43 : t5_39 ≤ ((t0_1.length : Nat) : Int)
    · rw [if_pos hp43] at hD
      refine x_ct (show _ = (V.bool (decide (t5_39 ≤ ((t0_1.length : Nat) : Int)))) from rfl) (decide_eq_true hp43) ?_
      refine x_skip ?_
      refine x_tN ?_
      refine x_seq ?_
      refine x_block ?_
      refine x_seq ?_
      refine x_start (b := false) ?_
      refine x_mv' h38 ?_
      refine x_mv' h33 ?_
      refine x_lens (show _ = (V.str t0_1) from rfl) ?_
      refine x_bin (show _ = (V.int .i64 t5_39) from rfl) (show _ = (V.int .i64 ((t0_1.length : Nat) : Int)) from rfl) b_eql ?_
      refine x_mv' (show _ = (V.bool (decide (t5_39 = ((t0_1.length : Nat) : Int)))) from rfl) ?_
      by_cases hp105 : t5_39 = ((t0_1.length : Nat) : Int)
      · rw [if_pos hp105] at hD
        refine x_gn (show _ = (V.bool (decide (t5_39 = ((t0_1.length : Nat) : Int)))) from rfl) (decide_eq_true hp105) ?_
        refine x_gn (show _ = (V.bool (decide (t5_39 = ((t0_1.length : Nat) : Int)))) from rfl) (decide_eq_true hp105) ?_
        refine x_gn (show _ = (V.bool (decide (t5_39 = ((t0_1.length : Nat) : Int)))) from rfl) (decide_eq_true hp105) ?_
        refine x_gn (show _ = (V.bool (decide (t5_39 = ((t0_1.length : Nat) : Int)))) from rfl) (decide_eq_true hp105) ?_
        refine x_pickt' (show _ = (V.bool (decide (t5_39 = ((t0_1.length : Nat) : Int)))) from rfl) (decide_eq_true hp105) (show _ = (V.bool true) from rfl) ?_
        refine x_done ?_
        refine x_tN ?_
        refine x_ct (show _ = (V.bool true) from rfl) rfl ?_
        refine ok.seicheref06_Parts_j1 (t0_1 := t0_1) (fun s113 t3_108 t4_110 t5_112 h106 h107 h107o h109 h111 hD => ?_) (fun _ hE => ?_) ?_ ?_ ?_ ?_ ?_ hD
        · refine x_bN ?_
          refine x_tN ?_
          refine x_start (b := false) ?_
          refine x_mv' h111 ?_
          refine x_bin (show _ = (V.int .i64 t5_112) from rfl) (show _ = (V.int .i64 1) from rfl) b_add ?_
          refine x_mv' (show _ = (V.int .i64 (wi (t5_112 + 1))) from rfl) ?_
          refine x_done ?_
          refine x_tN ?_
          refine hK _ ?_
          refine ih _ _ _ _ ?_ ?_ ?_ ?_ ?_ hD
          · exact h106
          · exact h107
          · exact h107o
          · exact h109
          · exact (show _ = (V.int .i64 (wi (t5_112 + 1))) from rfl)
        · refine x_bR ?_; refine x_tR ?_; refine x_tR ?_; exact hR _ hE
        · exact h33
        · exact h34
        · exact h34o
        · exact h36
        · exact h38
      · rw [if_neg hp105] at hD
        refine x_gy (show _ = (V.bool (decide (t5_39 = ((t0_1.length : Nat) : Int)))) from rfl) (decide_eq_false hp105) ?_
        refine x_mv' h33 ?_
        refine x_gy (show _ = (V.bool (decide (t5_39 = ((t0_1.length : Nat) : Int)))) from rfl) (decide_eq_false hp105) ?_
        refine x_mv' h38 ?_
        refine x_gy (show _ = (V.bool (decide (t5_39 = ((t0_1.length : Nat) : Int)))) from rfl) (decide_eq_false hp105) ?_
        obtain ⟨b114, hx115, hD⟩ := Option.bind_eq_some_iff.1 hD
        refine x_idx (show _ = (V.str t0_1) from rfl) (show _ = (V.int .i64 t5_39) from rfl) hx115 ?_
        refine x_gy (show _ = (V.bool (decide (t5_39 = ((t0_1.length : Nat) : Int)))) from rfl) (decide_eq_false hp105) ?_
        refine x_bin (show _ = (V.int .u8 ((b114 : UInt8).toNat : Int)) from rfl) (show _ = (V.int .u8 ((47 : UInt8).toNat : Int)) from rfl) u8_eql ?_
        refine x_pickf' (show _ = (V.bool (decide (t5_39 = ((t0_1.length : Nat) : Int)))) from rfl) (decide_eq_false hp105) (show _ = (V.bool (decide (b114 = 47))) from rfl) ?_
        refine x_done ?_
        refine x_tN ?_
        by_cases hp116 : b114 = 47
        · rw [if_pos hp116] at hD
          refine x_ct (show _ = (V.bool (decide (b114 = 47))) from rfl) (decide_eq_true hp116) ?_
          refine ok.seicheref06_Parts_j1 (t0_1 := t0_1) (fun s124 t3_119 t4_121 t5_123 h117 h118 h118o h120 h122 hD => ?_) (fun _ hE => ?_) ?_ ?_ ?_ ?_ ?_ hD
          · refine x_bN ?_
            refine x_tN ?_
            refine x_start (b := false) ?_
            refine x_mv' h122 ?_
            refine x_bin (show _ = (V.int .i64 t5_123) from rfl) (show _ = (V.int .i64 1) from rfl) b_add ?_
            refine x_mv' (show _ = (V.int .i64 (wi (t5_123 + 1))) from rfl) ?_
            refine x_done ?_
            refine x_tN ?_
            refine hK _ ?_
            refine ih _ _ _ _ ?_ ?_ ?_ ?_ ?_ hD
            · exact h117
            · exact h118
            · exact h118o
            · exact h120
            · exact (show _ = (V.int .i64 (wi (t5_123 + 1))) from rfl)
          · refine x_bR ?_; refine x_tR ?_; refine x_tR ?_; exact hR _ hE
          · exact h33
          · exact h34
          · exact h34o
          · exact h36
          · exact h38
        · rw [if_neg hp116] at hD
          refine x_cf (show _ = (V.bool (decide (b114 = 47))) from rfl) (decide_eq_false hp116) ?_
          refine x_skip ?_
          refine x_bN ?_
          refine x_tN ?_
          refine x_start (b := false) ?_
          refine x_mv' h38 ?_
          refine x_bin (show _ = (V.int .i64 t5_39) from rfl) (show _ = (V.int .i64 1) from rfl) b_add ?_
          refine x_mv' (show _ = (V.int .i64 (wi (t5_39 + 1))) from rfl) ?_
          refine x_done ?_
          refine x_tN ?_
          refine hK _ ?_
          refine ih _ _ _ _ ?_ ?_ ?_ ?_ ?_ hD
          · exact h33
          · exact h34
          · exact h34o
          · exact h36
          · exact (show _ = (V.int .i64 (wi (t5_39 + 1))) from rfl)
    · rw [if_neg hp43] at hD
      refine x_cf (show _ = (V.bool (decide (t5_39 ≤ ((t0_1.length : Nat) : Int)))) from rfl) (decide_eq_false hp43) ?_
      refine x_exitc ?_
      refine x_tE ?_
      refine x_tE ?_
      refine hk0 _ _ ?_ ?_ hD
      · exact h34
      · exact h34o
def g.seicheref06_Parts (p0 : Bytes) : Option (List Bytes) :=
  L.seicheref06_Parts_l1 p0 (fun (t3_130 : (List Bytes)) => some t3_130) fuel [] 0 0
theorem ok.seicheref06_Parts {Γ : Abs.Spec} {gl : Glob} {r : (List Bytes)} {p0 : Bytes} {v : List V}
    (hv : nfL v = [(V.str p0)]) (hD : g.seicheref06_Parts p0 = some r) : awp Γ gl c_seicheref06_Parts (endQ [.t 2] true (V.sl false 1 (List.map V.str r))) (St.init v) := by
  obtain ⟨v0, v, rfl, h0, hv⟩ := nfL_cons hv
  obtain rfl := nfL_nil hv
  have hR : ∀ s, EndsX [.t 2] true (V.sl false 1 (List.map V.str r)) s → endQ [.t 2] true (V.sl false 1 (List.map V.str r)) .ret s := fun _ h => h
  unfold g.seicheref06_Parts at hD
  unfold c_seicheref06_Parts
  refine x_seq ?_
  refine x_start (b := false) ?_
  refine x_mv' (y := V.sl true 1 []) rfl ?_
  refine x_done ?_
  refine x_tN ?_
  refine x_seq ?_
  refine x_start (b := false) ?_
  refine x_mv' (y := V.sl true 1 []) rfl ?_
  refine x_done ?_
  refine x_tN ?_
  refine x_seq ?_
  refine x_start (b := false) ?_
  refine x_mv' (show _ = (V.int .i64 0) from rfl) ?_
  refine x_done ?_
  refine x_tN ?_
  refine x_seq ?_
  refine x_seq ?_
  refine x_start (b := false) ?_
  refine x_mv' (show _ = (V.int .i64 0) from rfl) ?_
  refine x_done ?_
  refine x_tN ?_
  refine x_block ?_
  refine ok.seicheref06_Parts_l1 (t0_1 := p0) (fun s133 t3_130 h129 h129o hD => ?_) (fun _ hE => ?_) _ _ _ _ _ ?_ ?_ ?_ ?_ ?_ hD
  · refine x_bE ?_
    refine x_tN ?_
    refine x_seq ?_
    refine x_start (b := false) ?_
    refine x_mvo h129 fun v131 ov131 hv131 hwv131 => ?_
    refine x_mvo hv131 fun v132 ov132 hv132 hwv132 => ?_
    refine x_done ?_
    refine x_tN ?_
    refine x_retc ?_
    obtain rfl := Option.some.inj hD
    exact hR _ (ends_t hv132 (fun _ => (hwv132 (hwv131 h129o))))
  · refine x_bR ?_; refine x_tR ?_; exact hR _ hE
  · exact (nf_str h0)
  · exact (show V.nf _ = (V.sl false 1 (List.map V.str [])) from rfl)
  · exact (Or.inr ⟨1, rfl⟩)
  · exact (show _ = (V.int .i64 0) from rfl)
  · exact (show _ = (V.int .i64 0) from rfl)
def K.seicheref06_Parts : FC := fc F.seicheref06_Parts (fun _ => true) true (fun (a : Bytes) => [(V.str a)]) (fun (y : (List Bytes)) => (V.sl false 1 (List.map V.str y))) (fun a => g.seicheref06_Parts a)
  (fun a => (cleanL_mk rfl rfl))
  (fun y => (E.Lstring_clean _))
  (fun a0 b0 h => by
    obtain ⟨h0, h⟩ := List.cons.inj h
    obtain rfl : a0 = b0 := V.str.inj h0
    rfl)
theorem H.seicheref06_Parts (w : World) (_hw : EnvOK w) : K.seicheref06_Parts.Holds (cxD w) :=
  FC.holds_of (cs := []) (glD w) mixed cf_seicheref06_Parts (fun _ _ ⟨_, _, h, _⟩ => by subst h; exact Nat.le_of_ble_eq_true rfl) fun v y ⟨a, r, hv, hD, hy⟩ => by
    subst hy
    exact ok.seicheref06_Parts hv hD
def c_seicheref06_Split : ACode := (.seq (.region [
  ⟨(some 2), (.mv (.const (.sl true 1 []))), none, []⟩] false) (.seq (.seq (.region [
  ⟨(some 3), (.mv (.tmp 0)), none, []⟩, 
  ⟨(some 4), (.bin .eql .no (.tmp 3) (.const (.str []))), none, []⟩] false) (.cond (.tmp 4) (.seq (.region [
  ⟨(some 2), (.mv (.const (.sl true 1 []))), none, []⟩] false) .ret) .skip)) (.seq (.region [
  ⟨(some 5), (.mv (.tmp 0)), none, []⟩, 
  ⟨(some 6), (.call F.seicheref06_Parts [(.tmp 5)]), none, []⟩, 
  ⟨(some 2), (.mvo 6), none, []⟩] false) .ret)))
theorem cf_seicheref06_Split : cFn Go.Proofs.Tryd.prog F.seicheref06_Split = some ⟨7, c_seicheref06_Split, [.t 2]⟩ := by kernel_rfl
def g.seicheref06_Split (p0 : Bytes) : Option (List Bytes) :=
  if p0 = ([] : Bytes) then
    some []
  else
    (g.seicheref06_Parts p0).bind fun r4 =>
    some r4
theorem ok.seicheref06_Split {Γ : Abs.Spec} {gl : Glob} (hC_seicheref06_Parts : CallsX Γ K.seicheref06_Parts) {r : (List Bytes)} {p0 : Bytes} {v : List V}
    (hv : nfL v = [(V.str p0)]) (hD : g.seicheref06_Split p0 = some r) : awp Γ gl c_seicheref06_Split (endQ [.t 2] true (V.sl false 1 (List.map V.str r))) (St.init v) := by
  obtain ⟨v0, v, rfl, h0, hv⟩ := nfL_cons hv
  obtain rfl := nfL_nil hv
  have hR : ∀ s, EndsX [.t 2] true (V.sl false 1 (List.map V.str r)) s → endQ [.t 2] true (V.sl false 1 (List.map V.str r)) .ret s := fun _ h => h
  unfold g.seicheref06_Split at hD
  unfold c_seicheref06_Split
  refine x_seq ?_
  refine x_start (b := false) ?_
  refine x_mv' (y := V.sl true 1 []) rfl ?_
  refine x_done ?_
  refine x_tN ?_
  refine x_seq ?_
  refine x_seq ?_
  refine x_start (b := false) ?_
  refine x_mv' (nf_str h0) ?_
  refine x_bin (show _ = (V.str p0) from rfl) (show _ = (V.str ([] : Bytes)) from rfl) s_eql ?_
  refine x_done ?_
  refine x_tN ?_
  by_cases hp2 : p0 = ([] : Bytes)
  · rw [if_pos hp2] at hD
    refine x_ct (show _ = (V.bool (decide (p0 = ([] : Bytes)))) from rfl) (decide_eq_true hp2) ?_
    refine x_seq ?_
    refine x_start (b := false) ?_
    refine x_mv' (y := V.sl true 1 []) rfl ?_
    refine x_done ?_
    refine x_tN ?_
    refine x_retc ?_
    refine x_tR ?_
    obtain rfl := Option.some.inj hD
    exact hR _ (ends_t (show V.nf _ = (V.sl false 1 (List.map V.str [])) from rfl) (fun _ => (Or.inr ⟨1, rfl⟩)))
  · rw [if_neg hp2] at hD
    refine x_cf (show _ = (V.bool (decide (p0 = ([] : Bytes)))) from rfl) (decide_eq_false hp2) ?_
    refine x_skip ?_
    refine x_tN ?_
    refine x_seq ?_
    refine x_start (b := false) ?_
    refine x_mv' (nf_str h0) ?_
    obtain ⟨r4, hx5, hD⟩ := Option.bind_eq_some_iff.1 hD
    refine x_callF hC_seicheref06_Parts (a := (p0)) (cons_eq (nf_of rfl (show _ = (V.str p0) from rfl)) rfl) hx5 fun v3 ov3 (hv3 : v3.nf = (V.sl false 1 (List.map V.str r4))) hov3 => ?_
    refine x_mvo hv3 fun v6 ov6 hv6 hwv6 => ?_
    refine x_done ?_
    refine x_tN ?_
    refine x_retc ?_
    obtain rfl := Option.some.inj hD
    exact hR _ (ends_t hv6 (fun _ => (hwv6 (hov3 rfl))))
def K.seicheref06_Split : FC := fc F.seicheref06_Split (fun _ => true) true (fun (a : Bytes) => [(V.str a)]) (fun (y : (List Bytes)) => (V.sl false 1 (List.map V.str y))) (fun a => g.seicheref06_Split a)
  (fun a => (cleanL_mk rfl rfl))
  (fun y => (E.Lstring_clean _))
  (fun a0 b0 h => by
    obtain ⟨h0, h⟩ := List.cons.inj h
    obtain rfl : a0 = b0 := V.str.inj h0
    rfl)
theorem H.seicheref06_Split (w : World) (hw : EnvOK w) : K.seicheref06_Split.Holds (cxD w) :=
  FC.holds_of (cs := [K.seicheref06_Parts]) (glD w) mixed cf_seicheref06_Split (fun _ _ ⟨_, _, h, _⟩ => by subst h; exact Nat.le_of_ble_eq_true rfl) fun v y ⟨a, r, hv, hD, hy⟩ => by
    subst hy
    exact ok.seicheref06_Split (specOf_calls (H.seicheref06_Parts w hw) (fun _ _ ⟨_, _, h, _⟩ => by subst h; rfl)) hv hD
def c_seicheref06_Compare_l1 : ACode := (.seq (.seq (.region [
  ⟨(some 12), (.mv (.tmp 7)), none, []⟩, 
  ⟨(some 13), (.mv (.tmp 5)), none, []⟩, 
  ⟨(some 14), (.len false (.tmp 13)), none, []⟩, 
  ⟨(some 15), (.bin .lss .no (.tmp 12) (.tmp 14)), none, []⟩, 
  ⟨(some 16), (.mv (.tmp 15)), none, []⟩, 
  ⟨(some 17), (.mv (.tmp 7)), (some (16, true)), []⟩, 
  ⟨(some 18), (.mv (.tmp 6)), (some (16, true)), []⟩, 
  ⟨(some 19), (.len false (.tmp 18)), (some (16, true)), []⟩, 
  ⟨(some 20), (.bin .lss .no (.tmp 17) (.tmp 19)), (some (16, true)), []⟩, 
  ⟨(some 21), (.pick (.tmp 16) (.tmp 20) (.const (.bool false))), none, []⟩] false) (.cond (.tmp 21) .skip (.exit 0))) (.seq (.block 1 (.seq (.seq (.region [
  ⟨(some 24), (.mv (.tmp 5)), none, []⟩, 
  ⟨(some 25), (.mv (.tmp 7)), none, []⟩, 
  ⟨(some 26), (.iaddr 1 (.tmp 24) (.tmp 25)), none, []⟩, 
  ⟨(some 27), (.load none (.tmp 26)), none, []⟩, 
  ⟨(some 28), (.mv (.tmp 6)), none, []⟩, 
  ⟨(some 29), (.mv (.tmp 7)), none, []⟩, 
  ⟨(some 30), (.iaddr 1 (.tmp 28) (.tmp 29)), none, []⟩, 
  ⟨(some 31), (.load none (.tmp 30)), none, []⟩, 
  ⟨(some 32), (.bin .lss .no (.tmp 27) (.tmp 31)), none, []⟩] true) (.cond (.tmp 32) (.seq (.region [
  ⟨(some 4), (.mv (.const (.int .i64 (-1)))), none, []⟩] false) .ret) .skip)) (.seq (.region [
  ⟨(some 33), (.mv (.tmp 5)), none, []⟩, 
  ⟨(some 34), (.mv (.tmp 7)), none, []⟩, 
  ⟨(some 35), (.iaddr 1 (.tmp 33) (.tmp 34)), none, []⟩, 
  ⟨(some 36), (.load none (.tmp 35)), none, []⟩, 
  ⟨(some 37), (.mv (.tmp 6)), none, []⟩, 
  ⟨(some 38), (.mv (.tmp 7)), none, []⟩, 
  ⟨(some 39), (.iaddr 1 (.tmp 37) (.tmp 38)), none, []⟩, 
  ⟨(some 40), (.load none (.tmp 39)), none, []⟩, 
  ⟨(some 41), (.bin .gtr .no (.tmp 36) (.tmp 40)), none, []⟩] true) (.cond (.tmp 41) (.seq (.region [
  ⟨(some 4), (.mv (.const (.int .i64 1))), none, []⟩] false) .ret) .skip)))) (.region [
  ⟨(some 22), (.mv (.tmp 7)), none, []⟩, 
  ⟨(some 23), (.bin .add .no (.tmp 22) (.const (.int .i64 1))), none, []⟩, 
  ⟨(some 7), (.mv (.tmp 23)), none, []⟩] false)))
def c_seicheref06_Compare : ACode := (.seq (.region [
  ⟨(some 4), (.mv (.const (.int .i64 0))), none, []⟩] false) (.seq (.region [
  ⟨(some 8), (.mv (.tmp 0)), none, []⟩, 
  ⟨(some 9), (.call F.seicheref06_Split [(.tmp 8)]), none, []⟩, 
  ⟨(some 10), (.mv (.tmp 1)), none, []⟩, 
  ⟨(some 11), (.call F.seicheref06_Split [(.tmp 10)]), none, []⟩, 
  ⟨(some 5), (.mvo 9), none, []⟩, 
  ⟨(some 6), (.mvo 11), none, []⟩] false) (.seq (.seq (.region [
  ⟨(some 7), (.mv (.const (.int .i64 0))), none, []⟩] false) (.block 0 (.loop c_seicheref06_Compare_l1))) (.seq (.seq (.region [
  ⟨(some 42), (.mv (.tmp 5)), none, []⟩, 
  ⟨(some 43), (.len false (.tmp 42)), none, []⟩, 
  ⟨(some 44), (.mv (.tmp 6)), none, []⟩, 
  ⟨(some 45), (.len false (.tmp 44)), none, []⟩, 
  ⟨(some 46), (.bin .lss .no (.tmp 43) (.tmp 45)), none, []⟩] false) (.cond (.tmp 46) (.seq (.region [
  ⟨(some 4), (.mv (.const (.int .i64 (-1)))), none, []⟩] false) .ret) .skip)) (.seq (.seq (.region [
  ⟨(some 47), (.mv (.tmp 5)), none, []⟩, 
  ⟨(some 48), (.len false (.tmp 47)), none, []⟩, 
  ⟨(some 49), (.mv (.tmp 6)), none, []⟩, 
  ⟨(some 50), (.len false (.tmp 49)), none, []⟩, 
  ⟨(some 51), (.bin .gtr .no (.tmp 48) (.tmp 50)), none, []⟩] false) (.cond (.tmp 51) (.seq (.region [
  ⟨(some 4), (.mv (.const (.int .i64 1))), none, []⟩] false) .ret) .skip)) (.seq (.region [
  ⟨(some 4), (.mv (.const (.int .i64 0))), none, []⟩] false) .ret))))))
theorem cf_seicheref06_Compare : cFn Go.Proofs.Tryd.prog F.seicheref06_Compare = some ⟨52, c_seicheref06_Compare, [.t 4]⟩ := by kernel_rfl
def L.seicheref06_Compare_l1 (t5_94 : (List Bytes)) (t6_95 : (List Bytes)) (k0 : Option Int) : Nat → Int → Option Int
  | 0, _ => none
  | n + 1, t7_172 =>
    if t7_172 < ((t5_94.length : Nat) : Int) then
      if t7_172 < ((t6_95.length : Nat) : Int) then
        (at? t5_94 t7_172).bind fun a221 =>
        (at? t6_95 t7_172).bind fun a226 =>
        if (Op.bytesLess a221 a226) = true then
          some (-1)
        else
          if (Op.bytesLess a226 a221) = true then
            some 1
          else
            L.seicheref06_Compare_l1 t5_94 t6_95 k0 n (wi (t7_172 + 1))
      else
        k0
    else
      k0
theorem ok.seicheref06_Compare_l1 {Γ : Abs.Spec} {gl : Glob} (hC_seicheref06_Split : CallsX Γ K.seicheref06_Split) {Q : Ex → St → Prop} {r : Int} {t5_94 : (List Bytes)} {t6_95 : (List Bytes)} {k0 : Option Int}
    (hk0 : ∀ (s : St), ((s.tm 5).nf = (V.sl false 1 (List.map V.str t5_94))) → (OwnS s 5) → ((s.tm 6).nf = (V.sl false 1 (List.map V.str t6_95))) → (OwnS s 6) → k0 = some r → Q (.exit 0) s)
    (hR : ∀ s, EndsX [.t 4] false (V.int .i64 r) s → Q .ret s) : ∀ (n : Nat) (s : St) (t7_172 : Int),
    ((s.tm 5).nf = (V.sl false 1 (List.map V.str t5_94))) → (OwnS s 5) → ((s.tm 6).nf = (V.sl false 1 (List.map V.str t6_95))) → (OwnS s 6) → (s.tm 7 = (V.int .i64 t7_172)) → L.seicheref06_Compare_l1 t5_94 t6_95 k0 n t7_172 = some r → awp Γ gl (.loop c_seicheref06_Compare_l1) Q s := by
  intro n
  induction n with
  | zero => intro s t7_172 h169 h169o h170 h170o h171 hD; rw [L.seicheref06_Compare_l1] at hD; cases hD
  | succ n ih =>
    intro s t7_172 h169 h169o h170 h170o h171 hD
    refine awp_roundK fun K hK => ?_
    rw [L.seicheref06_Compare_l1] at hD
    refine x_seq ?_
    refine x_seq ?_
    refine x_start (b := false) ?_
    refine x_mv' h171 ?_
    refine x_mv h169 fun v185 hv185 => ?_
    refine x_len hv185 ?_
    refine x_bin (show _ = (V.int .i64 t7_172) from rfl) (show _ = (V.int .i64 ((t5_94.length : Nat) : Int)) from rfl) b_lss ?_
    refine x_mv' (show _ = (V.bool (decide (t7_172 < ((t5_94.length : Nat) : Int)))) from rfl) ?_
    by_cases hp186 : t7_172 < ((t5_94.length : Nat) : Int)
    · rw [if_pos hp186] at hD
      refine x_gy (show _ = (V.bool (decide (t7_172 < ((t5_94.length : Nat) : Int)))) from rfl) (decide_eq_true hp186) ?_
      refine x_mv' h171 ?_
      refine x_gy (show _ = (V.bool (decide (t7_172 < ((t5_94.length : Nat) : Int)))) from rfl) (decide_eq_true hp186) ?_
      refine x_mv h170 fun v187 hv187 => ?_
      refine x_gy (show _ = (V.bool (decide (t7_172 < ((t5_94.length : Nat) : Int)))) from rfl) (decide_eq_true hp186) ?_
      refine x_len hv187 ?_
      refine x_gy (show _ = (V.bool (decide (t7_172 < ((t5_94.length : Nat) : Int)))) from rfl) (decide_eq_true hp186) ?_
      refine x_bin (show _ = (V.int .i64 t7_172) from rfl) (show _ = (V.int .i64 ((t6_95.length : Nat) : Int)) from rfl) b_lss ?_
      refine x_pickt' (show _ = (V.bool (decide (t7_172 < ((t5_94.length : Nat) : Int)))) from rfl) (decide_eq_true hp186) (show _ = (V.bool (decide (t7_172 < ((t6_95.length : Nat) : Int)))) from rfl) ?_
      refine x_done ?_
      refine x_tN ?_
      by_cases hp188 : t7_172 < ((t6_95.length : Nat) : Int)
      · rw [if_pos hp188] at hD
        refine x_ct (show _ = (V.bool (decide (t7_172 < ((t6_95.length : Nat) : Int)))) from rfl) (decide_eq_true hp188) ?_
        refine x_skip ?_
        refine x_tN ?_
        refine x_seq ?_
        refine x_block ?_
        refine x_seq ?_
        refine x_seq ?_
        refine x_start (b := true) ?_
        refine x_mv h169 fun v220 hv220 => ?_
        refine x_mv' h171 ?_
        obtain ⟨a221, hx222, hD⟩ := Option.bind_eq_some_iff.1 hD
        refine x_iaddr hv220 (show _ = (V.int .i64 t7_172) from rfl) hx222 fun v223 (hv223 : v223.nf = V.el [(V.str a221)] 0) => ?_
        refine x_load_el hv223 (show _ = some (V.str a221) from rfl) fun v224 hv224 => ?_
        refine x_mv h170 fun v225 hv225 => ?_
        refine x_mv' h171 ?_
        obtain ⟨a226, hx227, hD⟩ := Option.bind_eq_some_iff.1 hD
        refine x_iaddr hv225 (show _ = (V.int .i64 t7_172) from rfl) hx227 fun v228 (hv228 : v228.nf = V.el [(V.str a226)] 0) => ?_
        refine x_load_el hv228 (show _ = some (V.str a226) from rfl) fun v229 hv229 => ?_
        refine x_bin (nf_str hv224) (nf_str hv229) s_lss ?_
        refine x_done ?_
        refine x_tN ?_
        by_cases hp230 : (Op.bytesLess a221 a226) = true
        · rw [if_pos hp230] at hD
          refine x_ct (show _ = (V.bool (Op.bytesLess a221 a226)) from rfl) hp230 ?_
          refine x_seq ?_
          refine x_start (b := false) ?_
          refine x_mv' (show _ = (V.int .i64 (-1)) from rfl) ?_
          refine x_done ?_
          refine x_tN ?_
          refine x_retc ?_
          refine x_tR ?_
          refine x_bR ?_
          refine x_tR ?_
          refine x_tR ?_
          obtain rfl := Option.some.inj hD
          exact hR _ (ends_t (nf_of rfl (show _ = (V.int .i64 (-1)) from rfl)) (fun h => nomatch h))
        · rw [if_neg hp230] at hD
          refine x_cf (show _ = (V.bool (Op.bytesLess a221 a226)) from rfl) (Bool.eq_false_iff.2 hp230) ?_
          refine x_skip ?_
          refine x_tN ?_
          refine x_seq ?_
          refine x_start (b := true) ?_
          refine x_mv h169 fun v237 hv237 => ?_
          refine x_mv' h171 ?_
          refine x_iaddr hv237 (show _ = (V.int .i64 t7_172) from rfl) hx222 fun v238 (hv238 : v238.nf = V.el [(V.str a221)] 0) => ?_
          refine x_load_el hv238 (show _ = some (V.str a221) from rfl) fun v239 hv239 => ?_
          refine x_mv h170 fun v240 hv240 => ?_
          refine x_mv' h171 ?_
          refine x_iaddr hv240 (show _ = (V.int .i64 t7_172) from rfl) hx227 fun v241 (hv241 : v241.nf = V.el [(V.str a226)] 0) => ?_
          refine x_load_el hv241 (show _ = some (V.str a226) from rfl) fun v242 hv242 => ?_
          refine x_bin (nf_str hv239) (nf_str hv242) s_gtr ?_
          refine x_done ?_
          refine x_tN ?_
          by_cases hp243 : (Op.bytesLess a226 a221) = true
          · rw [if_pos hp243] at hD
            refine x_ct (show _ = (V.bool (Op.bytesLess a226 a221)) from rfl) hp243 ?_
            refine x_seq ?_
            refine x_start (b := false) ?_
            refine x_mv' (show _ = (V.int .i64 1) from rfl) ?_
            refine x_done ?_
            refine x_tN ?_
            refine x_retc ?_
            refine x_bR ?_
            refine x_tR ?_
            refine x_tR ?_
            obtain rfl := Option.some.inj hD
            exact hR _ (ends_t (nf_of rfl (show _ = (V.int .i64 1) from rfl)) (fun h => nomatch h))
          · rw [if_neg hp243] at hD
            refine x_cf (show _ = (V.bool (Op.bytesLess a226 a221)) from rfl) (Bool.eq_false_iff.2 hp243) ?_
            refine x_skip ?_
            refine x_bN ?_
            refine x_tN ?_
            refine x_start (b := false) ?_
            refine x_mv' h171 ?_
            refine x_bin (show _ = (V.int .i64 t7_172) from rfl) (show _ = (V.int .i64 1) from rfl) b_add ?_
            refine x_mv' (show _ = (V.int .i64 (wi (t7_172 + 1))) from rfl) ?_
            refine x_done ?_
            refine x_tN ?_
            refine hK _ ?_
            refine ih _ _ ?_ ?_ ?_ ?_ ?_ hD
            · exact h169
            · exact h169o
            · exact h170
            · exact h170o
            · exact (show _ = (V.int .i64 (wi (t7_172 + 1))) from rfl)
      · rw [if_neg hp188] at hD
        refine x_cf (show _ = (V.bool (decide (t7_172 < ((t6_95.length : Nat) : Int)))) from rfl) (decide_eq_false hp188) ?_
        refine x_exitc ?_
        refine x_tE ?_
        refine x_tE ?_
        refine hk0 _ ?_ ?_ ?_ ?_ hD
        · exact h169
        · exact h169o
        · exact h170
        · exact h170o
    · rw [if_neg hp186] at hD
      refine x_gn (show _ = (V.bool (decide (t7_172 < ((t5_94.length : Nat) : Int)))) from rfl) (decide_eq_false hp186) ?_
      refine x_gn (show _ = (V.bool (decide (t7_172 < ((t5_94.length : Nat) : Int)))) from rfl) (decide_eq_false hp186) ?_
      refine x_gn (show _ = (V.bool (decide (t7_172 < ((t5_94.length : Nat) : Int)))) from rfl) (decide_eq_false hp186) ?_
      refine x_gn (show _ = (V.bool (decide (t7_172 < ((t5_94.length : Nat) : Int)))) from rfl) (decide_eq_false hp186) ?_
      refine x_pickf' (show _ = (V.bool (decide (t7_172 < ((t5_94.length : Nat) : Int)))) from rfl) (decide_eq_false hp186) (show _ = (V.bool false) from rfl) ?_
      refine x_done ?_
      refine x_tN ?_
      refine x_cf (show _ = (V.bool false) from rfl) rfl ?_
      refine x_exitc ?_
      refine x_tE ?_
      refine x_tE ?_
      refine hk0 _ ?_ ?_ ?_ ?_ hD
      · exact h169
      · exact h169o
      · exact h170
      · exact h170o
def g.seicheref06_Compare (p0 : Bytes) (p1 : Bytes) : Option Int :=
  (g.seicheref06_Split p0).bind fun r10 =>
  (g.seicheref06_Split p1).bind fun r13 =>
  L.seicheref06_Compare_l1 r10 r13 (if ((r10.length : Nat) : Int) < ((r13.length : Nat) : Int) then
    some (-1)
  else
    if ((r13.length : Nat) : Int) < ((r10.length : Nat) : Int) then
      some 1
    else
      some 0) fuel 0
theorem ok.seicheref06_Compare {Γ : Abs.Spec} {gl : Glob} (hC_seicheref06_Split : CallsX Γ K.seicheref06_Split) {r : Int} {p0 : Bytes} {p1 : Bytes} {v : List V}
    (hv : nfL v = [(V.str p0), (V.str p1)]) (hD : g.seicheref06_Compare p0 p1 = some r) : awp Γ gl c_seicheref06_Compare (endQ [.t 4] false (V.int .i64 r)) (St.init v) := by
  obtain ⟨v0, v, rfl, h0, hv⟩ := nfL_cons hv
  obtain ⟨v1, v, rfl, h1, hv⟩ := nfL_cons hv
  obtain rfl := nfL_nil hv
  have hR : ∀ s, EndsX [.t 4] false (V.int .i64 r) s → endQ [.t 4] false (V.int .i64 r) .ret s := fun _ h => h
  unfold g.seicheref06_Compare at hD
  unfold c_seicheref06_Compare
  refine x_seq ?_
  refine x_start (b := false) ?_
  refine x_mv' (show _ = (V.int .i64 0) from rfl) ?_
  refine x_done ?_
  refine x_tN ?_
  refine x_seq ?_
  refine x_start (b := false) ?_
  refine x_mv' (nf_str h0) ?_
  obtain ⟨r10, hx11, hD⟩ := Option.bind_eq_some_iff.1 hD
  refine x_callF hC_seicheref06_Split (a := (p0)) (cons_eq (nf_of rfl (show _ = (V.str p0) from rfl)) rfl) hx11 fun v9 ov9 (hv9 : v9.nf = (V.sl false 1 (List.map V.str r10))) hov9 => ?_
  refine x_mv' (nf_str h1) ?_
  obtain ⟨r13, hx14, hD⟩ := Option.bind_eq_some_iff.1 hD
  refine x_callF hC_seicheref06_Split (a := (p1)) (cons_eq (nf_of rfl (show _ = (V.str p1) from rfl)) rfl) hx14 fun v12 ov12 (hv12 : v12.nf = (V.sl false 1 (List.map V.str r13))) hov12 => ?_
  refine x_mvo hv9 fun v15 ov15 hv15 hwv15 => ?_
  refine x_mvo hv12 fun v16 ov16 hv16 hwv16 => ?_
  refine x_done ?_
  refine x_tN ?_
  refine x_seq ?_
  refine x_seq ?_
  refine x_start (b := false) ?_
  refine x_mv' (show _ = (V.int .i64 0) from rfl) ?_
  refine x_done ?_
  refine x_tN ?_
  refine x_block ?_
  refine ok.seicheref06_Compare_l1 (t5_94 := r10) (t6_95 := r13) hC_seicheref06_Split (fun s265 h248 h248o h249 h249o hD => ?_) (fun _ hE => ?_) _ _ _ ?_ ?_ ?_ ?_ ?_ hD
  · refine x_bE ?_
    refine x_tN ?_
    refine x_seq ?_
    refine x_seq ?_
    refine x_start (b := false) ?_
    refine x_mv h248 fun v257 hv257 => ?_
    refine x_len hv257 ?_
    refine x_mv h249 fun v258 hv258 => ?_
    refine x_len hv258 ?_
    refine x_bin (show _ = (V.int .i64 ((r10.length : Nat) : Int)) from rfl) (show _ = (V.int .i64 ((r13.length : Nat) : Int)) from rfl) b_lss ?_
    refine x_done ?_
    refine x_tN ?_
    by_cases hp259 : ((r10.length : Nat) : Int) < ((r13.length : Nat) : Int)
    · rw [if_pos hp259] at hD
      refine x_ct (show _ = (V.bool (decide (((r10.length : Nat) : Int) < ((r13.length : Nat) : Int)))) from rfl) (decide_eq_true hp259) ?_
      refine x_seq ?_
      refine x_start (b := false) ?_
      refine x_mv' (show _ = (V.int .i64 (-1)) from rfl) ?_
      refine x_done ?_
      refine x_tN ?_
      refine x_retc ?_
      refine x_tR ?_
      obtain rfl := Option.some.inj hD
      exact hR _ (ends_t (nf_of rfl (show _ = (V.int .i64 (-1)) from rfl)) (fun h => nomatch h))
    · rw [if_neg hp259] at hD
      refine x_cf (show _ = (V.bool (decide (((r10.length : Nat) : Int) < ((r13.length : Nat) : Int)))) from rfl) (decide_eq_false hp259) ?_
      refine x_skip ?_
      refine x_tN ?_
      refine x_seq ?_
      refine x_seq ?_
      refine x_start (b := false) ?_
      refine x_mv h248 fun v262 hv262 => ?_
      refine x_len hv262 ?_
      refine x_mv h249 fun v263 hv263 => ?_
      refine x_len hv263 ?_
      refine x_bin (show _ = (V.int .i64 ((r10.length : Nat) : Int)) from rfl) (show _ = (V.int .i64 ((r13.length : Nat) : Int)) from rfl) b_gtr ?_
      refine x_done ?_
      refine x_tN ?_
      by_cases hp264 : ((r13.length : Nat) : Int) < ((r10.length : Nat) : Int)
      · rw [if_pos hp264] at hD
        refine x_ct (show _ = (V.bool (decide (((r13.length : Nat) : Int) < ((r10.length : Nat) : Int)))) from rfl) (decide_eq_true hp264) ?_
        refine x_seq ?_
        refine x_start (b := false) ?_
        refine x_mv' (show _ = (V.int .i64 1) from rfl) ?_
        refine x_done ?_
        refine x_tN ?_
        refine x_retc ?_
        refine x_tR ?_
        obtain rfl := Option.some.inj hD
        exact hR _ (ends_t (nf_of rfl (show _ = (V.int .i64 1) from rfl)) (fun h => nomatch h))
      · rw [if_neg hp264] at hD
        refine x_cf (show _ = (V.bool (decide (((r13.length : Nat) : Int) < ((r10.length : Nat) : Int)))) from rfl) (decide_eq_false hp264) ?_
        refine x_skip ?_
        refine x_tN ?_
        refine x_seq ?_
        refine x_start (b := false) ?_
        refine x_mv' (show _ = (V.int .i64 0) from rfl) ?_
        refine x_done ?_
        refine x_tN ?_
        refine x_retc ?_
        obtain rfl := Option.some.inj hD
        exact hR _ (ends_t (nf_of rfl (show _ = (V.int .i64 0) from rfl)) (fun h => nomatch h))
  · refine x_bR ?_; refine x_tR ?_; exact hR _ hE
  · exact hv15
  · exact (hwv15 (hov9 rfl))
  · exact hv16
  · exact (hwv16 (hov12 rfl))
  · exact (show _ = (V.int .i64 0) from rfl)
def K.seicheref06_Compare : FC := fc F.seicheref06_Compare (fun _ => true) false (fun (a : (Bytes × Bytes)) => [(V.str a.1), (V.str a.2)]) (fun (y : Int) => (V.int .i64 y)) (fun a => g.seicheref06_Compare a.1 a.2)
  (fun a => (cleanL_mk rfl (cleanL_mk rfl rfl)))
  (fun y => rfl)
  (fun ⟨a0, a1⟩ ⟨b0, b1⟩ h => by
    obtain ⟨h0, h⟩ := List.cons.inj h
    obtain rfl : a0 = b0 := V.str.inj h0
    obtain ⟨h0, h⟩ := List.cons.inj h
    obtain rfl : a1 = b1 := V.str.inj h0
    rfl)
theorem H.seicheref06_Compare (w : World) (hw : EnvOK w) : K.seicheref06_Compare.Holds (cxD w) :=
  FC.holds_of (cs := [K.seicheref06_Split]) (glD w) mixed cf_seicheref06_Compare (fun _ _ ⟨_, _, h, _⟩ => by subst h; exact Nat.le_of_ble_eq_true rfl) fun v y ⟨a, r, hv, hD, hy⟩ => by
    subst hy
    exact ok.seicheref06_Compare (specOf_calls (H.seicheref06_Split w hw) (fun _ _ ⟨_, _, h, _⟩ => by subst h; rfl)) hv hD
end Go.Proofs.YtainplhaaklpeabDoor
