/-
  Functions of the program as Lean functions over plain data, and the proofs that the loaded code comes to them. Printed by a program of this seat (wip/gen/gen.py).
-/
import Derived.Test.YtainplhaaklpeaaDoorProg
import Derived.Test.YtainplhaaklpeaaDoorGenC
namespace Go.Proofs.YtainplhaaklpeaaDoor
open Go.Abs Go.RowKit

def F.seichelaw09_DiffJoins : Nat := 5
def F.seichelaw09_alive : Nat := 15
def F.seichelaw09_odd : Nat := 16
def F.seicheref09_Same : Nat := 17
def F.diff_Lists : Nat := 18
def F.seicheref09_Of : Nat := 19
def F.seicheref08_Same : Nat := 20
def F.seicheref09_Rises : Nat := 61
def F.seicheref09_At : Nat := 63
structure T.Change where
  Path : Bytes
  Kind : Int
  deriving DecidableEq
def C.Change (x : T.Change) : List V := [(V.str x.Path)] ++ [(V.int .i64 x.Kind)]
def E.Change (x : T.Change) : V := .agg (C.Change x)
theorem C.Change_len (x : T.Change) : (C.Change x).length = 2 := (len_app (show [(V.str x.Path)].length = 1 from rfl) (show [(V.int .i64 x.Kind)].length = 1 from rfl))
theorem C.Change_sc (x : T.Change) : (C.Change x).all V.sc = true := (sc_app rfl rfl)
theorem E.Change_clean (x : T.Change) : (E.Change x).clean = true := (clean_app (cleanL_mk rfl rfl) (cleanL_mk rfl rfl))
theorem E.Change_inj {a b : T.Change} (h : E.Change a = E.Change b) : a = b := by
  obtain ⟨a0, a1⟩ := a
  obtain ⟨b0, b1⟩ := b
  simp only [E.Change, V.agg.injEq] at h
  dsimp only [C.Change] at h
  have h1 := append_inj_r h (by rfl)
  have h := append_inj_l h (by rfl)
  have e1 : a1 = b1 := (V.int.inj (List.cons.inj h1).1).2
  have h0 := h
  have e0 : a0 = b0 := V.str.inj (List.cons.inj h0).1
  subst e0; subst e1; rfl
theorem E.Change_fit (x : T.Change) : (E.Change x).cells.length = 2 ∧ (E.Change x).cells.all V.sc = true := ⟨C.Change_len x, C.Change_sc x⟩
def E.A32_u8 (x : (Arr 32)) : V := .agg (encB x.1)
theorem E.A32_u8_clean (x : (Arr 32)) : (E.A32_u8 x).clean = true := cleanL_encB _
theorem E.A32_u8_inj {a b : (Arr 32)} (h : E.A32_u8 a = E.A32_u8 b) : a = b := by
  simp only [E.A32_u8, V.agg.injEq] at h
  exact Subtype.ext (encB_inj h)
theorem E.A32_u8_fit (x : (Arr 32)) : (E.A32_u8 x).cells.length = 32 ∧ (E.A32_u8 x).cells.all V.sc = true := ⟨enc_len x, encB_sc x.1⟩
structure T.Input where
  Path : Bytes
  Id : (Arr 32)
  deriving DecidableEq
def C.Input (x : T.Input) : List V := [(V.str x.Path)] ++ (encB (x.Id).1)
def E.Input (x : T.Input) : V := .agg (C.Input x)
theorem C.Input_len (x : T.Input) : (C.Input x).length = 33 := (len_app (show [(V.str x.Path)].length = 1 from rfl) (enc_len x.Id))
theorem C.Input_sc (x : T.Input) : (C.Input x).all V.sc = true := (sc_app rfl (encB_sc x.Id.1))
theorem E.Input_clean (x : T.Input) : (E.Input x).clean = true := (clean_app (cleanL_mk rfl rfl) (cleanL_encB _))
theorem E.Input_inj {a b : T.Input} (h : E.Input a = E.Input b) : a = b := by
  obtain ⟨a0, a1⟩ := a
  obtain ⟨b0, b1⟩ := b
  simp only [E.Input, V.agg.injEq] at h
  dsimp only [C.Input] at h
  have h1 := append_inj_r h (by rw [encB_length, encB_length, Arr.h, Arr.h])
  have h := append_inj_l h (by rw [encB_length, encB_length, Arr.h, Arr.h])
  have e1 : a1 = b1 := Subtype.ext (encB_inj h1)
  have h0 := h
  have e0 : a0 = b0 := V.str.inj (List.cons.inj h0).1
  subst e0; subst e1; rfl
theorem E.Input_fit (x : T.Input) : (E.Input x).cells.length = 33 ∧ (E.Input x).cells.all V.sc = true := ⟨C.Input_len x, C.Input_sc x⟩
theorem ld_Input_0_n (x : T.Input) : ldCells none (C.Input x) 0 = some (V.str x.Path) := by
  unfold C.Input
  rw [ld_left (le_len (show [(V.str x.Path)].length = 1 from rfl) (by decide))]
  exact (show _ = some (V.str x.Path) from rfl)
theorem set_Change_0_1 (x : T.Change) (v : Bytes) : setAt (C.Change x) 0 [(V.str v)] = C.Change ({ x with Path := v } : T.Change) := by
  unfold C.Change
  rw [set_left (Nat.le_trans (Nat.le_of_eq (congrArg (0 + ·) (show [(V.str v)].length = 1 from rfl))) (le_len (show [(V.str x.Path)].length = 1 from rfl) (by decide)))]
  rw [(setAt_full (Eq.trans (show [(V.str v)].length = 1 from rfl) (Eq.symm (show [(V.str x.Path)].length = 1 from rfl))))]
theorem set_Change_1_1 (x : T.Change) (v : Int) : setAt (C.Change x) 1 [(V.int .i64 v)] = C.Change ({ x with Kind := v } : T.Change) := by
  unfold C.Change
  rw [set_right 1 (show [(V.str x.Path)].length = 1 from rfl)]
  rw [(setAt_full (Eq.trans (show [(V.int .i64 v)].length = 1 from rfl) (Eq.symm (show [(V.int .i64 x.Kind)].length = 1 from rfl))))]
theorem ld_Input_1_32 (x : T.Input) : ldCells (some 32) (C.Input x) 1 = some (V.agg (encB (x.Id).1)) := by
  unfold C.Input
  rw [ld_right 1 (show [(V.str x.Path)].length = 1 from rfl)]
  exact (ld_arr x.Id)
def E.LInput (l : (List T.Input)) : V := .sl false 33 (l.map E.Input)
theorem E.LInput_clean (l : (List T.Input)) : (E.LInput l).clean = true := cleanL_map (fun x => E.Input_clean x) l
theorem E.LInput_inj {a b : (List T.Input)} (h : E.LInput a = E.LInput b) : a = b := by
  simp only [E.LInput, V.sl.injEq, true_and] at h
  exact map_inj (fun x y h => E.Input_inj h) h
theorem E.LInput_fit (l : (List T.Input)) : (E.LInput l).cells.length = 1 ∧ (E.LInput l).cells.all V.sc = true := ⟨rfl, rfl⟩
def E.LChange (l : (List T.Change)) : V := .sl false 2 (l.map E.Change)
theorem E.LChange_clean (l : (List T.Change)) : (E.LChange l).clean = true := cleanL_map (fun x => E.Change_clean x) l
theorem E.LChange_inj {a b : (List T.Change)} (h : E.LChange a = E.LChange b) : a = b := by
  simp only [E.LChange, V.sl.injEq, true_and] at h
  exact map_inj (fun x y h => E.Change_inj h) h
theorem E.LChange_fit (l : (List T.Change)) : (E.LChange l).cells.length = 1 ∧ (E.LChange l).cells.all V.sc = true := ⟨rfl, rfl⟩
def c_diff_Lists_j3 : ACode := (.region [
  ⟨(some 49), (.mv (.tmp 0)), none, []⟩, 
  ⟨(some 50), (.slc 33 (.tmp 49) (some (.const (.int .i64 1))) none none), none, []⟩, 
  ⟨(some 51), (.mv (.tmp 1)), none, []⟩, 
  ⟨(some 52), (.slc 33 (.tmp 51) (some (.const (.int .i64 1))) none none), none, []⟩, 
  ⟨(some 0), (.mvo 50), none, []⟩, 
  ⟨(some 1), (.mvo 52), none, []⟩] true)
def c_diff_Lists_j2 : ACode := (.block 3 (.seq (.region [
  ⟨(some 54), (.mv (.tmp 6)), none, []⟩, 
  ⟨(some 55), (.bin .lss .no (.tmp 54) (.const (.int .i64 0))), none, []⟩, 
  ⟨(some 53), (.mv (.tmp 55)), none, []⟩] false) (.cond (.tmp 53) (.region [
  ⟨(some 56), (.mvo 5), none, []⟩, 
  ⟨(some 57), (.mv (.tmp 0)), none, []⟩, 
  ⟨(some 58), (.iaddr 33 (.tmp 57) (.const (.int .i64 0))), none, []⟩, 
  ⟨(some 59), (.faddr 0 (.tmp 58)), none, []⟩, 
  ⟨(some 60), (.load none (.tmp 59)), none, []⟩, 
  ⟨(some 61), (.build [(.str []), (.int .i64 0)] [(0, (1, (.tmp 60))), (1, (1, (.const (.int .i64 2))))]), none, []⟩, 
  ⟨(some 62), (.bsl 2 [(.tmp 61)]), none, []⟩, 
  ⟨(some 63), (.app 2 (.tmp 56) (.tmp 62)), none, []⟩, 
  ⟨(some 64), (.mv (.tmp 0)), none, []⟩, 
  ⟨(some 65), (.slc 33 (.tmp 64) (some (.const (.int .i64 1))) none none), none, []⟩, 
  ⟨(some 5), (.mvo 63), none, []⟩, 
  ⟨(some 0), (.mvo 65), none, []⟩] true) (.seq (.region [
  ⟨(some 67), (.mv (.tmp 6)), none, []⟩, 
  ⟨(some 68), (.bin .gtr .no (.tmp 67) (.const (.int .i64 0))), none, []⟩, 
  ⟨(some 66), (.mv (.tmp 68)), none, []⟩] false) (.cond (.tmp 66) (.region [
  ⟨(some 69), (.mvo 5), none, []⟩, 
  ⟨(some 70), (.mv (.tmp 1)), none, []⟩, 
  ⟨(some 71), (.iaddr 33 (.tmp 70) (.const (.int .i64 0))), none, []⟩, 
  ⟨(some 72), (.faddr 0 (.tmp 71)), none, []⟩, 
  ⟨(some 73), (.load none (.tmp 72)), none, []⟩, 
  ⟨(some 74), (.build [(.str []), (.int .i64 0)] [(0, (1, (.tmp 73))), (1, (1, (.const (.int .i64 1))))]), none, []⟩, 
  ⟨(some 75), (.bsl 2 [(.tmp 74)]), none, []⟩, 
  ⟨(some 76), (.app 2 (.tmp 69) (.tmp 75)), none, []⟩, 
  ⟨(some 77), (.mv (.tmp 1)), none, []⟩, 
  ⟨(some 78), (.slc 33 (.tmp 77) (some (.const (.int .i64 1))) none none), none, []⟩, 
  ⟨(some 5), (.mvo 76), none, []⟩, 
  ⟨(some 1), (.mvo 78), none, []⟩] true) (.seq (.seq (.region [
  ⟨(some 32), (.mv (.tmp 0)), none, []⟩, 
  ⟨(some 33), (.iaddr 33 (.tmp 32) (.const (.int .i64 0))), none, []⟩, 
  ⟨(some 34), (.faddr 1 (.tmp 33)), none, []⟩, 
  ⟨(some 35), (.load (some 32) (.tmp 34)), none, []⟩, 
  ⟨(some 36), (.mv (.tmp 1)), none, []⟩, 
  ⟨(some 37), (.iaddr 33 (.tmp 36) (.const (.int .i64 0))), none, []⟩, 
  ⟨(some 38), (.faddr 1 (.tmp 37)), none, []⟩, 
  ⟨(some 39), (.load (some 32) (.tmp 38)), none, []⟩, 
  ⟨(some 40), (.bin .neq (.flat (repl 32 ((some .u8), true))) (.tmp 35) (.tmp 39)), none, []⟩] true) (.cond (.tmp 40) (.region [
  ⟨(some 41), (.mvo 5), none, []⟩, 
  ⟨(some 42), (.mv (.tmp 0)), none, []⟩, 
  ⟨(some 43), (.iaddr 33 (.tmp 42) (.const (.int .i64 0))), none, []⟩, 
  ⟨(some 44), (.faddr 0 (.tmp 43)), none, []⟩, 
  ⟨(some 45), (.load none (.tmp 44)), none, []⟩, 
  ⟨(some 46), (.build [(.str []), (.int .i64 0)] [(0, (1, (.tmp 45))), (1, (1, (.const (.int .i64 3))))]), none, []⟩, 
  ⟨(some 47), (.bsl 2 [(.tmp 46)]), none, []⟩, 
  ⟨(some 48), (.app 2 (.tmp 41) (.tmp 47)), none, []⟩, 
  ⟨(some 5), (.mvo 48), none, []⟩] false) .skip)) c_diff_Lists_j3))))))
def c_diff_Lists_j1 : ACode := (.block 1 (.seq (.region [
  ⟨(some 6), (.mv (.const (.int .i64 0))), none, []⟩] false) (.seq (.block 2 (.seq (.region [
  ⟨(some 25), (.mv (.tmp 0)), none, []⟩, 
  ⟨(some 26), (.len false (.tmp 25)), none, []⟩, 
  ⟨(some 27), (.bin .eql .no (.tmp 26) (.const (.int .i64 0))), none, []⟩, 
  ⟨(some 24), (.mv (.tmp 27)), none, []⟩] false) (.cond (.tmp 24) (.region [
  ⟨(some 6), (.mv (.const (.int .i64 1))), none, []⟩] false) (.seq (.region [
  ⟨(some 29), (.mv (.tmp 1)), none, []⟩, 
  ⟨(some 30), (.len false (.tmp 29)), none, []⟩, 
  ⟨(some 31), (.bin .eql .no (.tmp 30) (.const (.int .i64 0))), none, []⟩, 
  ⟨(some 28), (.mv (.tmp 31)), none, []⟩] false) (.cond (.tmp 28) (.region [
  ⟨(some 6), (.mv (.const (.int .i64 (-1)))), none, []⟩] false) (.region [
  ⟨(some 15), (.mv (.tmp 0)), none, []⟩, 
  ⟨(some 16), (.iaddr 33 (.tmp 15) (.const (.int .i64 0))), none, []⟩, 
  ⟨(some 17), (.faddr 0 (.tmp 16)), none, []⟩, 
  ⟨(some 18), (.load none (.tmp 17)), none, []⟩, 
  ⟨(some 19), (.mv (.tmp 1)), none, []⟩, 
  ⟨(some 20), (.iaddr 33 (.tmp 19) (.const (.int .i64 0))), none, []⟩, 
  ⟨(some 21), (.faddr 0 (.tmp 20)), none, []⟩, 
  ⟨(some 22), (.load none (.tmp 21)), none, []⟩, 
  ⟨(some 23), (.call F.path_Compare [(.tmp 18), (.tmp 22)]), none, []⟩, 
  ⟨(some 6), (.mv (.tmp 23)), none, []⟩] true)))))) c_diff_Lists_j2)))
def c_diff_Lists_l1 : ACode := (.seq (.seq (.region [
  ⟨(some 7), (.mv (.tmp 0)), none, []⟩, 
  ⟨(some 8), (.len false (.tmp 7)), none, []⟩, 
  ⟨(some 9), (.bin .gtr .no (.tmp 8) (.const (.int .i64 0))), none, []⟩, 
  ⟨(some 10), (.mv (.tmp 9)), none, []⟩, 
  ⟨(some 11), (.mv (.tmp 1)), (some (10, false)), []⟩, 
  ⟨(some 12), (.len false (.tmp 11)), (some (10, false)), []⟩, 
  ⟨(some 13), (.bin .gtr .no (.tmp 12) (.const (.int .i64 0))), (some (10, false)), []⟩, 
  ⟨(some 14), (.pick (.tmp 10) (.const (.bool true)) (.tmp 13)), none, []⟩] false) (.cond (.tmp 14) .skip (.exit 0))) c_diff_Lists_j1)
def c_diff_Lists : ACode := (.seq (.region [
  ⟨(some 4), (.mv (.const (.sl true 2 []))), none, []⟩] false) (.seq (.region [
  ⟨(some 5), (.mv (.const (.sl true 2 []))), none, []⟩] false) (.seq (.block 0 (.loop c_diff_Lists_l1)) (.seq (.region [
  ⟨(some 79), (.mvo 5), none, []⟩, 
  ⟨(some 4), (.mvo 79), none, []⟩] false) .ret))))
theorem cf_diff_Lists : cFn Go.Proofs.Tryd.prog F.diff_Lists = some ⟨80, c_diff_Lists, [.t 4]⟩ := by kernel_rfl
def L.diff_Lists_j3 (k0 : (List T.Input) → (List T.Input) → (List T.Change) → Option (List T.Change)) (t0_420 : (List T.Input)) (t1_422 : (List T.Input)) (t5_424 : (List T.Change)) : Option (List T.Change) :=
  (cut t0_420 1 (t0_420.length : Nat)).bind fun q426 =>
  (cut t1_422 1 (t1_422.length : Nat)).bind fun q430 =>
  k0 q426 q430 t5_424
theorem ok.diff_Lists_j3 {Γ : Abs.Spec} {gl : Glob} (hC_path_Compare : CallsX Γ K.path_Compare) {Q : Ex → St → Prop} {r : (List T.Change)} {k0 : (List T.Input) → (List T.Input) → (List T.Change) → Option (List T.Change)}
    (hk0 : ∀ (s : St) (t0_454 : (List T.Input)) (t1_456 : (List T.Input)) (t5_458 : (List T.Change)), ((s.tm 0).nf = (V.sl false 33 (List.map E.Input t0_454))) → ((s.tm 1).nf = (V.sl false 33 (List.map E.Input t1_456))) → ((s.tm 5).nf = (V.sl false 2 (List.map E.Change t5_458))) → (OwnS s 5) → k0 t0_454 t1_456 t5_458 = some r → Q .normal s)
    (hR : ∀ s, EndsX [.t 4] true (V.sl false 2 (List.map E.Change r)) s → Q .ret s)
    {s : St} {t0_420 : (List T.Input)} {t1_422 : (List T.Input)} {t5_424 : (List T.Change)} (h419 : (s.tm 0).nf = (V.sl false 33 (List.map E.Input t0_420))) (h421 : (s.tm 1).nf = (V.sl false 33 (List.map E.Input t1_422))) (h423 : (s.tm 5).nf = (V.sl false 2 (List.map E.Change t5_424))) (h423o : OwnS s 5)
    (hD : L.diff_Lists_j3 k0 t0_420 t1_422 t5_424 = some r) : awp Γ gl c_diff_Lists_j3 Q s := by
  unfold L.diff_Lists_j3 at hD
  refine x_start (b := true) ?_
  refine x_mv h419 fun v425 hv425 => ?_
  obtain ⟨q426, hx427, hD⟩ := Option.bind_eq_some_iff.1 hD
  refine x_slc (ka := .i64) (kb := .i64) hv425 (show _ = (V.int .i64 1) from rfl) rfl hx427 fun v428 hv428 => ?_
  refine x_mv h421 fun v429 hv429 => ?_
  obtain ⟨q430, hx431, hD⟩ := Option.bind_eq_some_iff.1 hD
  refine x_slc (ka := .i64) (kb := .i64) hv429 (show _ = (V.int .i64 1) from rfl) rfl hx431 fun v432 hv432 => ?_
  refine x_mvo hv428 fun v433 ov433 hv433 hwv433 => ?_
  refine x_mvo hv432 fun v434 ov434 hv434 hwv434 => ?_
  refine x_done ?_
  refine hk0 _ _ _ _ ?_ ?_ ?_ ?_ hD
  · exact hv433
  · exact hv434
  · exact h423
  · exact h423o
def L.diff_Lists_j2 (k0 : (List T.Input) → (List T.Input) → (List T.Change) → Option (List T.Change)) (t0_332 : (List T.Input)) (t1_334 : (List T.Input)) (t5_336 : (List T.Change)) (t6_338 : Int) : Option (List T.Change) :=
  if t6_338 < 0 then
    (at? t0_332 0).bind fun a342 =>
    (appL t5_336 ([({ Path := a342.Path, Kind := 2 } : T.Change)] : (List T.Change))).bind fun l349 =>
    (cut t0_332 1 (t0_332.length : Nat)).bind fun q353 =>
    k0 q353 t1_334 l349
  else
    if 0 < t6_338 then
      (at? t1_334 0).bind fun a361 =>
      (appL t5_336 ([({ Path := a361.Path, Kind := 1 } : T.Change)] : (List T.Change))).bind fun l368 =>
      (cut t1_334 1 (t1_334.length : Nat)).bind fun q372 =>
      k0 t0_332 q372 l368
    else
      (at? t0_332 0).bind fun a472 =>
      (at? t1_334 0).bind fun a478 =>
      if a472.Id = a478.Id then
        L.diff_Lists_j3 (fun (t0_485 : (List T.Input)) (t1_487 : (List T.Input)) (t5_489 : (List T.Change)) => k0 t0_485 t1_487 t5_489) t0_332 t1_334 t5_336
      else
        (appL t5_336 ([({ Path := a472.Path, Kind := 3 } : T.Change)] : (List T.Change))).bind fun l498 =>
        L.diff_Lists_j3 (fun (t0_503 : (List T.Input)) (t1_505 : (List T.Input)) (t5_507 : (List T.Change)) => k0 t0_503 t1_505 t5_507) t0_332 t1_334 l498
theorem ok.diff_Lists_j2 {Γ : Abs.Spec} {gl : Glob} (hC_path_Compare : CallsX Γ K.path_Compare) {Q : Ex → St → Prop} {r : (List T.Change)} {k0 : (List T.Input) → (List T.Input) → (List T.Change) → Option (List T.Change)}
    (hk0 : ∀ (s : St) (t0_528 : (List T.Input)) (t1_530 : (List T.Input)) (t5_532 : (List T.Change)), ((s.tm 0).nf = (V.sl false 33 (List.map E.Input t0_528))) → ((s.tm 1).nf = (V.sl false 33 (List.map E.Input t1_530))) → ((s.tm 5).nf = (V.sl false 2 (List.map E.Change t5_532))) → (OwnS s 5) → k0 t0_528 t1_530 t5_532 = some r → Q .normal s)
    (hR : ∀ s, EndsX [.t 4] true (V.sl false 2 (List.map E.Change r)) s → Q .ret s)
    {s : St} {t0_332 : (List T.Input)} {t1_334 : (List T.Input)} {t5_336 : (List T.Change)} {t6_338 : Int} (h331 : (s.tm 0).nf = (V.sl false 33 (List.map E.Input t0_332))) (h333 : (s.tm 1).nf = (V.sl false 33 (List.map E.Input t1_334))) (h335 : (s.tm 5).nf = (V.sl false 2 (List.map E.Change t5_336))) (h335o : OwnS s 5) (h337 : s.tm 6 = (V.int .i64 t6_338))
    (hD : L.diff_Lists_j2 k0 t0_332 t1_334 t5_336 t6_338 = some r) : awp Γ gl c_diff_Lists_j2 Q s := by
  unfold L.diff_Lists_j2 at hD
  refine x_block ?_
  refine x_seq ?_
  refine x_start (b := false) ?_
  refine x_mv' h337 ?_
  refine x_bin (show _ = (V.int .i64 t6_338) from rfl) (show _ = (V.int .i64 0) from rfl) b_lss ?_
  refine x_mv' (show _ = (V.bool (decide (t6_338 < 0))) from rfl) ?_
  refine x_done ?_
  refine x_tN ?_
  by_cases hp339 : t6_338 < 0
  · rw [if_pos hp339] at hD
    refine x_ct (show _ = (V.bool (decide (t6_338 < 0))) from rfl) (decide_eq_true hp339) ?_
    refine x_start (b := true) ?_
    refine x_mvo h335 fun v340 ov340 hv340 hwv340 => ?_
    refine x_mv h331 fun v341 hv341 => ?_
    obtain ⟨a342, hx343, hD⟩ := Option.bind_eq_some_iff.1 hD
    refine x_iaddr hv341 (show _ = (V.int .i64 0) from rfl) hx343 fun v344 (hv344 : v344.nf = V.el (C.Input a342) 0) => ?_
    refine x_faddr_el hv344 fun v345 (hv345 : v345.nf = V.el (C.Input a342) 0) => ?_
    refine x_load_el hv345 (ld_Input_0_n a342) fun v346 hv346 => ?_
    refine x_build (ws := [(0, 1, (V.str a342.Path)), (1, 1, (V.int .i64 2))]) (l := C.Change ({ Path := a342.Path, Kind := 2 } : T.Change)) (part_eq (nf_of rfl (nf_str hv346)) (part_eq (nf_of rfl (show _ = (V.int .i64 2) from rfl)) rfl)) (fill_from (by kernel_rfl : _ = C.Change ({ Path := [], Kind := 0 } : T.Change)) (fill_step (set_Change_0_1 ({ Path := [], Kind := 0 } : T.Change) a342.Path) ⟨(show [(V.str a342.Path)].length = 1 from rfl), rfl, le_len (C.Change_len ({ Path := [], Kind := 0 } : T.Change)) (by decide)⟩ (fill_step (set_Change_1_1 ({ ({ Path := [], Kind := 0 } : T.Change) with Path := a342.Path } : T.Change) 2) ⟨(show [(V.int .i64 2)].length = 1 from rfl), rfl, le_len (C.Change_len ({ ({ Path := [], Kind := 0 } : T.Change) with Path := a342.Path } : T.Change)) (by decide)⟩ fill_nil))) fun v347 hv347 hnv347 => ?_
    refine x_bsl (E := E.Change) (l := ([({ Path := a342.Path, Kind := 2 } : T.Change)] : (List T.Change))) (cons_eq hv347 rfl) (fits_map (E := E.Change) (sz := 2) (fun x => E.Change_fit x) _) fun v348 ov348 hv348 hov348 => ?_
    obtain ⟨l349, hx350, hD⟩ := Option.bind_eq_some_iff.1 hD
    refine x_app hv340 (hwv340 h335o) (tail_sl hv348) hx350 fun v351 ov351 fv351 hv351 hov351 hfv351 => ?_
    refine x_mv h331 fun v352 hv352 => ?_
    obtain ⟨q353, hx354, hD⟩ := Option.bind_eq_some_iff.1 hD
    refine x_slc (ka := .i64) (kb := .i64) hv352 (show _ = (V.int .i64 1) from rfl) rfl hx354 fun v355 hv355 => ?_
    refine x_mvo hv351 fun v356 ov356 hv356 hwv356 => ?_
    refine x_mvo hv355 fun v357 ov357 hv357 hwv357 => ?_
    refine x_done ?_
    refine x_bN ?_
    refine hk0 _ _ _ _ ?_ ?_ ?_ ?_ hD
    · exact hv357
    · exact h333
    · exact hv356
    · exact (hwv356 hov351)
  · rw [if_neg hp339] at hD
    refine x_cf (show _ = (V.bool (decide (t6_338 < 0))) from rfl) (decide_eq_false hp339) ?_
    refine x_seq ?_
    refine x_start (b := false) ?_
    refine x_mv' h337 ?_
    refine x_bin (show _ = (V.int .i64 t6_338) from rfl) (show _ = (V.int .i64 0) from rfl) b_gtr ?_
    refine x_mv' (show _ = (V.bool (decide (0 < t6_338))) from rfl) ?_
    refine x_done ?_
    refine x_tN ?_
    by_cases hp358 : 0 < t6_338
    · rw [if_pos hp358] at hD
      refine x_ct (show _ = (V.bool (decide (0 < t6_338))) from rfl) (decide_eq_true hp358) ?_
      refine x_start (b := true) ?_
      refine x_mvo h335 fun v359 ov359 hv359 hwv359 => ?_
      refine x_mv h333 fun v360 hv360 => ?_
      obtain ⟨a361, hx362, hD⟩ := Option.bind_eq_some_iff.1 hD
      refine x_iaddr hv360 (show _ = (V.int .i64 0) from rfl) hx362 fun v363 (hv363 : v363.nf = V.el (C.Input a361) 0) => ?_
      refine x_faddr_el hv363 fun v364 (hv364 : v364.nf = V.el (C.Input a361) 0) => ?_
      refine x_load_el hv364 (ld_Input_0_n a361) fun v365 hv365 => ?_
      refine x_build (ws := [(0, 1, (V.str a361.Path)), (1, 1, (V.int .i64 1))]) (l := C.Change ({ Path := a361.Path, Kind := 1 } : T.Change)) (part_eq (nf_of rfl (nf_str hv365)) (part_eq (nf_of rfl (show _ = (V.int .i64 1) from rfl)) rfl)) (fill_from (by kernel_rfl : _ = C.Change ({ Path := [], Kind := 0 } : T.Change)) (fill_step (set_Change_0_1 ({ Path := [], Kind := 0 } : T.Change) a361.Path) ⟨(show [(V.str a361.Path)].length = 1 from rfl), rfl, le_len (C.Change_len ({ Path := [], Kind := 0 } : T.Change)) (by decide)⟩ (fill_step (set_Change_1_1 ({ ({ Path := [], Kind := 0 } : T.Change) with Path := a361.Path } : T.Change) 1) ⟨(show [(V.int .i64 1)].length = 1 from rfl), rfl, le_len (C.Change_len ({ ({ Path := [], Kind := 0 } : T.Change) with Path := a361.Path } : T.Change)) (by decide)⟩ fill_nil))) fun v366 hv366 hnv366 => ?_
      refine x_bsl (E := E.Change) (l := ([({ Path := a361.Path, Kind := 1 } : T.Change)] : (List T.Change))) (cons_eq hv366 rfl) (fits_map (E := E.Change) (sz := 2) (fun x => E.Change_fit x) _) fun v367 ov367 hv367 hov367 => ?_
      obtain ⟨l368, hx369, hD⟩ := Option.bind_eq_some_iff.1 hD
      refine x_app hv359 (hwv359 h335o) (tail_sl hv367) hx369 fun v370 ov370 fv370 hv370 hov370 hfv370 => ?_
      refine x_mv h333 fun v371 hv371 => ?_
      obtain ⟨q372, hx373, hD⟩ := Option.bind_eq_some_iff.1 hD
      refine x_slc (ka := .i64) (kb := .i64) hv371 (show _ = (V.int .i64 1) from rfl) rfl hx373 fun v374 hv374 => ?_
      refine x_mvo hv370 fun v375 ov375 hv375 hwv375 => ?_
      refine x_mvo hv374 fun v376 ov376 hv376 hwv376 => ?_
      refine x_done ?_
      refine x_bN ?_
      refine hk0 _ _ _ _ ?_ ?_ ?_ ?_ hD
      · exact h331
      · exact hv376
      · exact hv375
      · exact (hwv375 hov370)
    · rw [if_neg hp358] at hD
      refine x_cf (show _ = (V.bool (decide (0 < t6_338))) from rfl) (decide_eq_false hp358) ?_
      refine x_seq ?_
      refine x_seq ?_
      refine x_start (b := true) ?_
      refine x_mv h331 fun v471 hv471 => ?_
      obtain ⟨a472, hx473, hD⟩ := Option.bind_eq_some_iff.1 hD
      refine x_iaddr hv471 (show _ = (V.int .i64 0) from rfl) hx473 fun v474 (hv474 : v474.nf = V.el (C.Input a472) 0) => ?_
      refine x_faddr_el hv474 fun v475 (hv475 : v475.nf = V.el (C.Input a472) 1) => ?_
      refine x_load_el hv475 (ld_Input_1_32 a472) fun v476 hv476 => ?_
      refine x_mv h333 fun v477 hv477 => ?_
      obtain ⟨a478, hx479, hD⟩ := Option.bind_eq_some_iff.1 hD
      refine x_iaddr hv477 (show _ = (V.int .i64 0) from rfl) hx479 fun v480 (hv480 : v480.nf = V.el (C.Input a478) 0) => ?_
      refine x_faddr_el hv480 fun v481 (hv481 : v481.nf = V.el (C.Input a478) 1) => ?_
      refine x_load_el hv481 (ld_Input_1_32 a478) fun v482 hv482 => ?_
      refine x_fne hv476 hv482 (flatEq_arr true _ _) ?_
      refine x_done ?_
      refine x_tN ?_
      by_cases hp483 : a472.Id = a478.Id
      · rw [if_pos hp483] at hD
        refine x_cf (show _ = (V.bool (!(decide (a472.Id = a478.Id)))) from rfl) (bnot_t (decide_eq_true hp483)) ?_
        refine x_skip ?_
        refine x_tN ?_
        refine ok.diff_Lists_j3 hC_path_Compare (fun s490 t0_485 t1_487 t5_489 h484 h486 h488 h488o hD => ?_) (fun _ hE => ?_) ?_ ?_ ?_ ?_ hD
        · refine x_bN ?_
          refine hk0 _ _ _ _ ?_ ?_ ?_ ?_ hD
          · exact h484
          · exact h486
          · exact h488
          · exact h488o
        · refine x_bR ?_; exact hR _ hE
        · exact h331
        · exact h333
        · exact h335
        · exact h335o
      · rw [if_neg hp483] at hD
        refine x_ct (show _ = (V.bool (!(decide (a472.Id = a478.Id)))) from rfl) (bnot_f (decide_eq_false hp483)) ?_
        refine x_start (b := false) ?_
        refine x_mvo h335 fun v491 ov491 hv491 hwv491 => ?_
        refine x_mv h331 fun v492 hv492 => ?_
        refine x_iaddr hv492 (show _ = (V.int .i64 0) from rfl) hx473 fun v493 (hv493 : v493.nf = V.el (C.Input a472) 0) => ?_
        refine x_faddr_el hv493 fun v494 (hv494 : v494.nf = V.el (C.Input a472) 0) => ?_
        refine x_load_el hv494 (ld_Input_0_n a472) fun v495 hv495 => ?_
        refine x_build (ws := [(0, 1, (V.str a472.Path)), (1, 1, (V.int .i64 3))]) (l := C.Change ({ Path := a472.Path, Kind := 3 } : T.Change)) (part_eq (nf_of rfl (nf_str hv495)) (part_eq (nf_of rfl (show _ = (V.int .i64 3) from rfl)) rfl)) (fill_from (by kernel_rfl : _ = C.Change ({ Path := [], Kind := 0 } : T.Change)) (fill_step (set_Change_0_1 ({ Path := [], Kind := 0 } : T.Change) a472.Path) ⟨(show [(V.str a472.Path)].length = 1 from rfl), rfl, le_len (C.Change_len ({ Path := [], Kind := 0 } : T.Change)) (by decide)⟩ (fill_step (set_Change_1_1 ({ ({ Path := [], Kind := 0 } : T.Change) with Path := a472.Path } : T.Change) 3) ⟨(show [(V.int .i64 3)].length = 1 from rfl), rfl, le_len (C.Change_len ({ ({ Path := [], Kind := 0 } : T.Change) with Path := a472.Path } : T.Change)) (by decide)⟩ fill_nil))) fun v496 hv496 hnv496 => ?_
        refine x_bsl (E := E.Change) (l := ([({ Path := a472.Path, Kind := 3 } : T.Change)] : (List T.Change))) (cons_eq hv496 rfl) (fits_map (E := E.Change) (sz := 2) (fun x => E.Change_fit x) _) fun v497 ov497 hv497 hov497 => ?_
        obtain ⟨l498, hx499, hD⟩ := Option.bind_eq_some_iff.1 hD
        refine x_app hv491 (hwv491 h335o) (tail_sl hv497) hx499 fun v500 ov500 fv500 hv500 hov500 hfv500 => ?_
        refine x_mvo hv500 fun v501 ov501 hv501 hwv501 => ?_
        refine x_done ?_
        refine x_tN ?_
        refine ok.diff_Lists_j3 hC_path_Compare (fun s508 t0_503 t1_505 t5_507 h502 h504 h506 h506o hD => ?_) (fun _ hE => ?_) ?_ ?_ ?_ ?_ hD
        · refine x_bN ?_
          refine hk0 _ _ _ _ ?_ ?_ ?_ ?_ hD
          · exact h502
          · exact h504
          · exact h506
          · exact h506o
        · refine x_bR ?_; exact hR _ hE
        · exact h331
        · exact h333
        · exact hv501
        · exact (hwv501 hov500)
def L.diff_Lists_j1 (k0 : (List T.Input) → (List T.Input) → (List T.Change) → Option (List T.Change)) (t0_297 : (List T.Input)) (t1_299 : (List T.Input)) (t5_301 : (List T.Change)) : Option (List T.Change) :=
  if ((t0_297.length : Nat) : Int) = 0 then
    L.diff_Lists_j2 (fun (t0_537 : (List T.Input)) (t1_539 : (List T.Input)) (t5_541 : (List T.Change)) => k0 t0_537 t1_539 t5_541) t0_297 t1_299 t5_301 1
  else
    if ((t1_299.length : Nat) : Int) = 0 then
      L.diff_Lists_j2 (fun (t0_547 : (List T.Input)) (t1_549 : (List T.Input)) (t5_551 : (List T.Change)) => k0 t0_547 t1_549 t5_551) t0_297 t1_299 t5_301 (-1)
    else
      (at? t0_297 0).bind fun a554 =>
      (at? t1_299 0).bind fun a560 =>
      (g.path_Compare a554.Path a560.Path).bind fun r566 =>
      L.diff_Lists_j2 (fun (t0_569 : (List T.Input)) (t1_571 : (List T.Input)) (t5_573 : (List T.Change)) => k0 t0_569 t1_571 t5_573) t0_297 t1_299 t5_301 r566
theorem ok.diff_Lists_j1 {Γ : Abs.Spec} {gl : Glob} (hC_path_Compare : CallsX Γ K.path_Compare) {Q : Ex → St → Prop} {r : (List T.Change)} {k0 : (List T.Input) → (List T.Input) → (List T.Change) → Option (List T.Change)}
    (hk0 : ∀ (s : St) (t0_594 : (List T.Input)) (t1_596 : (List T.Input)) (t5_598 : (List T.Change)), ((s.tm 0).nf = (V.sl false 33 (List.map E.Input t0_594))) → ((s.tm 1).nf = (V.sl false 33 (List.map E.Input t1_596))) → ((s.tm 5).nf = (V.sl false 2 (List.map E.Change t5_598))) → (OwnS s 5) → k0 t0_594 t1_596 t5_598 = some r → Q .normal s)
    (hR : ∀ s, EndsX [.t 4] true (V.sl false 2 (List.map E.Change r)) s → Q .ret s)
    {s : St} {t0_297 : (List T.Input)} {t1_299 : (List T.Input)} {t5_301 : (List T.Change)} (h296 : (s.tm 0).nf = (V.sl false 33 (List.map E.Input t0_297))) (h298 : (s.tm 1).nf = (V.sl false 33 (List.map E.Input t1_299))) (h300 : (s.tm 5).nf = (V.sl false 2 (List.map E.Change t5_301))) (h300o : OwnS s 5)
    (hD : L.diff_Lists_j1 k0 t0_297 t1_299 t5_301 = some r) : awp Γ gl c_diff_Lists_j1 Q s := by
  unfold L.diff_Lists_j1 at hD
  refine x_block ?_
  refine x_seq ?_
  refine x_start (b := false) ?_
  refine x_mv' (show _ = (V.int .i64 0) from rfl) ?_
  refine x_done ?_
  refine x_tN ?_
  refine x_seq ?_
  refine x_block ?_
  refine x_seq ?_
  refine x_start (b := false) ?_
  refine x_mv h296 fun v534 hv534 => ?_
  refine x_len hv534 ?_
  refine x_bin (show _ = (V.int .i64 ((t0_297.length : Nat) : Int)) from rfl) (show _ = (V.int .i64 0) from rfl) b_eql ?_
  refine x_mv' (show _ = (V.bool (decide (((t0_297.length : Nat) : Int) = 0))) from rfl) ?_
  refine x_done ?_
  refine x_tN ?_
  by_cases hp535 : ((t0_297.length : Nat) : Int) = 0
  · rw [if_pos hp535] at hD
    refine x_ct (show _ = (V.bool (decide (((t0_297.length : Nat) : Int) = 0))) from rfl) (decide_eq_true hp535) ?_
    refine x_start (b := false) ?_
    refine x_mv' (show _ = (V.int .i64 1) from rfl) ?_
    refine x_done ?_
    refine x_bN ?_
    refine x_tN ?_
    refine ok.diff_Lists_j2 hC_path_Compare (fun s542 t0_537 t1_539 t5_541 h536 h538 h540 h540o hD => ?_) (fun _ hE => ?_) ?_ ?_ ?_ ?_ ?_ hD
    · refine x_bN ?_
      refine hk0 _ _ _ _ ?_ ?_ ?_ ?_ hD
      · exact h536
      · exact h538
      · exact h540
      · exact h540o
    · refine x_bR ?_; exact hR _ hE
    · exact h296
    · exact h298
    · exact h300
    · exact h300o
    · exact (show _ = (V.int .i64 1) from rfl)
  · rw [if_neg hp535] at hD
    refine x_cf (show _ = (V.bool (decide (((t0_297.length : Nat) : Int) = 0))) from rfl) (decide_eq_false hp535) ?_
    refine x_seq ?_
    refine x_start (b := false) ?_
    refine x_mv h298 fun v544 hv544 => ?_
    refine x_len hv544 ?_
    refine x_bin (show _ = (V.int .i64 ((t1_299.length : Nat) : Int)) from rfl) (show _ = (V.int .i64 0) from rfl) b_eql ?_
    refine x_mv' (show _ = (V.bool (decide (((t1_299.length : Nat) : Int) = 0))) from rfl) ?_
    refine x_done ?_
    refine x_tN ?_
    by_cases hp545 : ((t1_299.length : Nat) : Int) = 0
    · rw [if_pos hp545] at hD
      refine x_ct (show _ = (V.bool (decide (((t1_299.length : Nat) : Int) = 0))) from rfl) (decide_eq_true hp545) ?_
      refine x_start (b := false) ?_
      refine x_mv' (show _ = (V.int .i64 (-1)) from rfl) ?_
      refine x_done ?_
      refine x_bN ?_
      refine x_tN ?_
      refine ok.diff_Lists_j2 hC_path_Compare (fun s552 t0_547 t1_549 t5_551 h546 h548 h550 h550o hD => ?_) (fun _ hE => ?_) ?_ ?_ ?_ ?_ ?_ hD
      · refine x_bN ?_
        refine hk0 _ _ _ _ ?_ ?_ ?_ ?_ hD
        · exact h546
        · exact h548
        · exact h550
        · exact h550o
      · refine x_bR ?_; exact hR _ hE
      · exact h296
      · exact h298
      · exact h300
      · exact h300o
      · exact (show _ = (V.int .i64 (-1)) from rfl)
    · rw [if_neg hp545] at hD
      refine x_cf (show _ = (V.bool (decide (((t1_299.length : Nat) : Int) = 0))) from rfl) (decide_eq_false hp545) ?_
      refine x_start (b := true) ?_
      refine x_mv h296 fun v553 hv553 => ?_
      obtain ⟨a554, hx555, hD⟩ := Option.bind_eq_some_iff.1 hD
      refine x_iaddr hv553 (show _ = (V.int .i64 0) from rfl) hx555 fun v556 (hv556 : v556.nf = V.el (C.Input a554) 0) => ?_
      refine x_faddr_el hv556 fun v557 (hv557 : v557.nf = V.el (C.Input a554) 0) => ?_
      refine x_load_el hv557 (ld_Input_0_n a554) fun v558 hv558 => ?_
      refine x_mv h298 fun v559 hv559 => ?_
      obtain ⟨a560, hx561, hD⟩ := Option.bind_eq_some_iff.1 hD
      refine x_iaddr hv559 (show _ = (V.int .i64 0) from rfl) hx561 fun v562 (hv562 : v562.nf = V.el (C.Input a560) 0) => ?_
      refine x_faddr_el hv562 fun v563 (hv563 : v563.nf = V.el (C.Input a560) 0) => ?_
      refine x_load_el hv563 (ld_Input_0_n a560) fun v564 hv564 => ?_
      obtain ⟨r566, hx567, hD⟩ := Option.bind_eq_some_iff.1 hD
      refine x_callF hC_path_Compare (a := (a554.Path, a560.Path)) (cons_eq (nf_of rfl (nf_str hv558)) (cons_eq (nf_of rfl (nf_str hv564)) rfl)) hx567 fun v565 ov565 (hv565 : v565.nf = (V.int .i64 r566)) hov565 => ?_
      refine x_mv' (nf_int hv565) ?_
      refine x_done ?_
      refine x_bN ?_
      refine x_tN ?_
      refine ok.diff_Lists_j2 hC_path_Compare (fun s574 t0_569 t1_571 t5_573 h568 h570 h572 h572o hD => ?_) (fun _ hE => ?_) ?_ ?_ ?_ ?_ ?_ hD
      · refine x_bN ?_
        refine hk0 _ _ _ _ ?_ ?_ ?_ ?_ hD
        · exact h568
        · exact h570
        · exact h572
        · exact h572o
      · refine x_bR ?_; exact hR _ hE
      · exact h296
      · exact h298
      · exact h300
      · exact h300o
      · exact (show _ = (V.int .i64 r566) from rfl)
def L.diff_Lists_l1 (k0 : (List T.Change) → Option (List T.Change)) : Nat → (List T.Input) → (List T.Input) → (List T.Change) → Option (List T.Change)
  | 0, _, _, _ => none
  | n + 1, t0_276, t1_278, t5_280 =>
    if 0 < ((t0_276.length : Nat) : Int) then
      L.diff_Lists_j1 (fun (t0_605 : (List T.Input)) (t1_607 : (List T.Input)) (t5_609 : (List T.Change)) => L.diff_Lists_l1 k0 n t0_605 t1_607 t5_609) t0_276 t1_278 t5_280
    else
      if 0 < ((t1_278.length : Nat) : Int) then
        L.diff_Lists_j1 (fun (t0_614 : (List T.Input)) (t1_616 : (List T.Input)) (t5_618 : (List T.Change)) => L.diff_Lists_l1 k0 n t0_614 t1_616 t5_618) t0_276 t1_278 t5_280
      else
        k0 t5_280
theorem ok.diff_Lists_l1 {Γ : Abs.Spec} {gl : Glob} (hC_path_Compare : CallsX Γ K.path_Compare) {Q : Ex → St → Prop} {r : (List T.Change)} {k0 : (List T.Change) → Option (List T.Change)}
    (hk0 : ∀ (s : St) (t5_623 : (List T.Change)), ((s.tm 5).nf = (V.sl false 2 (List.map E.Change t5_623))) → (OwnS s 5) → k0 t5_623 = some r → Q (.exit 0) s)
    (hR : ∀ s, EndsX [.t 4] true (V.sl false 2 (List.map E.Change r)) s → Q .ret s) : ∀ (n : Nat) (s : St) (t0_276 : (List T.Input)) (t1_278 : (List T.Input)) (t5_280 : (List T.Change)),
    ((s.tm 0).nf = (V.sl false 33 (List.map E.Input t0_276))) → ((s.tm 1).nf = (V.sl false 33 (List.map E.Input t1_278))) → ((s.tm 5).nf = (V.sl false 2 (List.map E.Change t5_280))) → (OwnS s 5) → L.diff_Lists_l1 k0 n t0_276 t1_278 t5_280 = some r → awp Γ gl (.loop c_diff_Lists_l1) Q s := by
  intro n
  induction n with
  | zero => intro s t0_276 t1_278 t5_280 h275 h277 h279 h279o hD; rw [L.diff_Lists_l1] at hD; cases hD
  | succ n ih =>
    intro s t0_276 t1_278 t5_280 h275 h277 h279 h279o hD
    refine awp_roundK fun K hK => ?_
    rw [L.diff_Lists_l1] at hD
    refine x_seq ?_
    refine x_seq ?_
    refine x_start (b := false) ?_
    refine x_mv h275 fun v602 hv602 => ?_
    refine x_len hv602 ?_
    refine x_bin (show _ = (V.int .i64 ((t0_276.length : Nat) : Int)) from rfl) (show _ = (V.int .i64 0) from rfl) b_gtr ?_
    refine x_mv' (show _ = (V.bool (decide (0 < ((t0_276.length : Nat) : Int)))) from rfl) ?_
    by_cases hp603 : 0 < ((t0_276.length : Nat) : Int)
    · rw [if_pos hp603] at hD
      refine x_gn (show _ = (V.bool (decide (0 < ((t0_276.length : Nat) : Int)))) from rfl) (decide_eq_true hp603) ?_
      refine x_gn (show _ = (V.bool (decide (0 < ((t0_276.length : Nat) : Int)))) from rfl) (decide_eq_true hp603) ?_
      refine x_gn (show _ = (V.bool (decide (0 < ((t0_276.length : Nat) : Int)))) from rfl) (decide_eq_true hp603) ?_
      refine x_pickt' (show _ = (V.bool (decide (0 < ((t0_276.length : Nat) : Int)))) from rfl) (decide_eq_true hp603) (show _ = (V.bool true) from rfl) ?_
      refine x_done ?_
      refine x_tN ?_
      refine x_ct (show _ = (V.bool true) from rfl) rfl ?_
      refine x_skip ?_
      refine x_tN ?_
      refine ok.diff_Lists_j1 hC_path_Compare (fun s610 t0_605 t1_607 t5_609 h604 h606 h608 h608o hD => ?_) (fun _ hE => ?_) ?_ ?_ ?_ ?_ hD
      · refine x_tN ?_
        refine hK _ ?_
        refine ih _ _ _ _ ?_ ?_ ?_ ?_ hD
        · exact h604
        · exact h606
        · exact h608
        · exact h608o
      · refine x_tR ?_; exact hR _ hE
      · exact h275
      · exact h277
      · exact h279
      · exact h279o
    · rw [if_neg hp603] at hD
      refine x_gy (show _ = (V.bool (decide (0 < ((t0_276.length : Nat) : Int)))) from rfl) (decide_eq_false hp603) ?_
      refine x_mv h277 fun v611 hv611 => ?_
      refine x_gy (show _ = (V.bool (decide (0 < ((t0_276.length : Nat) : Int)))) from rfl) (decide_eq_false hp603) ?_
      refine x_len hv611 ?_
      refine x_gy (show _ = (V.bool (decide (0 < ((t0_276.length : Nat) : Int)))) from rfl) (decide_eq_false hp603) ?_
      refine x_bin (show _ = (V.int .i64 ((t1_278.length : Nat) : Int)) from rfl) (show _ = (V.int .i64 0) from rfl) b_gtr ?_
      refine x_pickf' (show _ = (V.bool (decide (0 < ((t0_276.length : Nat) : Int)))) from rfl) (decide_eq_false hp603) (show _ = (V.bool (decide (0 < ((t1_278.length : Nat) : Int)))) from rfl) ?_
      refine x_done ?_
      refine x_tN ?_
      by_cases hp612 : 0 < ((t1_278.length : Nat) : Int)
      · rw [if_pos hp612] at hD
        refine x_ct (show _ = (V.bool (decide (0 < ((t1_278.length : Nat) : Int)))) from rfl) (decide_eq_true hp612) ?_
        refine x_skip ?_
        refine x_tN ?_
        refine ok.diff_Lists_j1 hC_path_Compare (fun s619 t0_614 t1_616 t5_618 h613 h615 h617 h617o hD => ?_) (fun _ hE => ?_) ?_ ?_ ?_ ?_ hD
        · refine x_tN ?_
          refine hK _ ?_
          refine ih _ _ _ _ ?_ ?_ ?_ ?_ hD
          · exact h613
          · exact h615
          · exact h617
          · exact h617o
        · refine x_tR ?_; exact hR _ hE
        · exact h275
        · exact h277
        · exact h279
        · exact h279o
      · rw [if_neg hp612] at hD
        refine x_cf (show _ = (V.bool (decide (0 < ((t1_278.length : Nat) : Int)))) from rfl) (decide_eq_false hp612) ?_
        refine x_exitc ?_
        refine x_tE ?_
        refine x_tE ?_
        refine hk0 _ _ ?_ ?_ hD
        · exact h279
        · exact h279o
def g.diff_Lists (p0 : (List T.Input)) (p1 : (List T.Input)) : Option (List T.Change) :=
  L.diff_Lists_l1 (fun (t5_625 : (List T.Change)) => some t5_625) fuel p0 p1 []
theorem ok.diff_Lists {Γ : Abs.Spec} {gl : Glob} (hC_path_Compare : CallsX Γ K.path_Compare) {r : (List T.Change)} {p0 : (List T.Input)} {p1 : (List T.Input)} {v : List V}
    (hv : nfL v = [(V.sl false 33 (List.map E.Input p0)), (V.sl false 33 (List.map E.Input p1))]) (hD : g.diff_Lists p0 p1 = some r) : awp Γ gl c_diff_Lists (endQ [.t 4] true (V.sl false 2 (List.map E.Change r))) (St.init v) := by
  obtain ⟨v0, v, rfl, h0, hv⟩ := nfL_cons hv
  obtain ⟨v1, v, rfl, h1, hv⟩ := nfL_cons hv
  obtain rfl := nfL_nil hv
  have hR : ∀ s, EndsX [.t 4] true (V.sl false 2 (List.map E.Change r)) s → endQ [.t 4] true (V.sl false 2 (List.map E.Change r)) .ret s := fun _ h => h
  unfold g.diff_Lists at hD
  unfold c_diff_Lists
  refine x_seq ?_
  refine x_start (b := false) ?_
  refine x_mv' (y := V.sl true 2 []) rfl ?_
  refine x_done ?_
  refine x_tN ?_
  refine x_seq ?_
  refine x_start (b := false) ?_
  refine x_mv' (y := V.sl true 2 []) rfl ?_
  refine x_done ?_
  refine x_tN ?_
  refine x_seq ?_
  refine x_block ?_
  refine ok.diff_Lists_l1 hC_path_Compare (fun s628 t5_625 h624 h624o hD => ?_) (fun _ hE => ?_) _ _ _ _ _ ?_ ?_ ?_ ?_ hD
  · refine x_bE ?_
    refine x_tN ?_
    refine x_seq ?_
    refine x_start (b := false) ?_
    refine x_mvo h624 fun v626 ov626 hv626 hwv626 => ?_
    refine x_mvo hv626 fun v627 ov627 hv627 hwv627 => ?_
    refine x_done ?_
    refine x_tN ?_
    refine x_retc ?_
    obtain rfl := Option.some.inj hD
    exact hR _ (ends_t hv627 (fun _ => (hwv627 (hwv626 h624o))))
  · refine x_bR ?_; refine x_tR ?_; exact hR _ hE
  · exact h0
  · exact h1
  · exact (show V.nf _ = (V.sl false 2 (List.map E.Change [])) from rfl)
  · exact (Or.inr ⟨2, rfl⟩)
def K.diff_Lists : FC := fc F.diff_Lists (fun _ => true) true (fun (a : ((List T.Input) × (List T.Input))) => [(V.sl false 33 (List.map E.Input a.1)), (V.sl false 33 (List.map E.Input a.2))]) (fun (y : (List T.Change)) => (V.sl false 2 (List.map E.Change y))) (fun a => g.diff_Lists a.1 a.2)
  (fun a => (cleanL_mk (E.LInput_clean _) (cleanL_mk (E.LInput_clean _) rfl)))
  (fun y => (E.LChange_clean _))
  (fun ⟨a0, a1⟩ ⟨b0, b1⟩ h => by
    obtain ⟨h0, h⟩ := List.cons.inj h
    obtain rfl : a0 = b0 := E.LInput_inj h0
    obtain ⟨h0, h⟩ := List.cons.inj h
    obtain rfl : a1 = b1 := E.LInput_inj h0
    rfl)
theorem H.diff_Lists (w : World) (hw : EnvOK w) : K.diff_Lists.Holds (cxD w) :=
  FC.holds_of (cs := [K.path_Compare]) (glD w) mixed cf_diff_Lists (fun _ _ ⟨_, _, h, _⟩ => by subst h; exact Nat.le_of_ble_eq_true rfl) fun v y ⟨a, r, hv, hD, hy⟩ => by
    subst hy
    exact ok.diff_Lists (specOf_calls (H.path_Compare w hw) (fun _ _ ⟨_, _, h, _⟩ => by subst h; rfl)) hv hD
theorem ld_Input_0_33 (x : T.Input) : ldCells (some 33) (C.Input x) 0 = some (V.agg (C.Input x)) := by
  exact ld_all (C.Input_len x)
def c_seicheref09_At_l1 : ACode := (.seq (.region [
  ⟨(some 10), (.bin .lss .no (.tmp 9) (.tmp 8)), none, []⟩] false) (.seq (.cond (.tmp 10) .skip (.exit 0)) (.seq (.block 1 (.seq (.region [
  ⟨(some 11), (.mv (.tmp 9)), none, []⟩, 
  ⟨(some 12), (.iaddr 33 (.tmp 7) (.tmp 9)), none, []⟩, 
  ⟨(some 13), (.load (some 33) (.tmp 12)), none, []⟩, 
  ⟨(some 6), (.new ((.str []) :: repl 32 (.int .u8 0))), none, []⟩, 
  ⟨(some 5), (.mv (.tmp 11)), none, []⟩, 
  ⟨none, (.store 33 (.tmp 6) (.tmp 13)), none, []⟩] false) (.seq (.region [
  ⟨(some 14), (.faddr 0 (.tmp 6)), none, []⟩, 
  ⟨(some 15), (.load none (.tmp 14)), none, []⟩, 
  ⟨(some 16), (.mv (.tmp 1)), none, []⟩, 
  ⟨(some 17), (.bin .eql .no (.tmp 15) (.tmp 16)), none, []⟩] false) (.cond (.tmp 17) (.seq (.region [
  ⟨(some 18), (.mv (.tmp 5)), none, []⟩, 
  ⟨(some 4), (.mv (.tmp 18)), none, []⟩] false) .ret) .skip)))) (.region [
  ⟨(some 19), (.bin .add .no (.tmp 9) (.const (.int .i64 1))), none, []⟩, 
  ⟨(some 9), (.mv (.tmp 19)), none, []⟩] false))))
def c_seicheref09_At : ACode := (.seq (.region [
  ⟨(some 4), (.mv (.const (.int .i64 0))), none, []⟩] false) (.seq (.seq (.region [
  ⟨(some 7), (.mv (.tmp 0)), none, []⟩, 
  ⟨(some 8), (.len false (.tmp 7)), none, []⟩, 
  ⟨(some 9), (.mv (.const (.int .i64 0))), none, []⟩] false) (.block 0 (.loop c_seicheref09_At_l1))) (.seq (.region [
  ⟨(some 4), (.mv (.const (.int .i64 (-1)))), none, []⟩] false) .ret)))
theorem cf_seicheref09_At : cFn Go.Proofs.Tryd.prog F.seicheref09_At = some ⟨20, c_seicheref09_At, [.t 4]⟩ := by kernel_rfl
def L.seicheref09_At_l1 (t1_5 : Bytes) (k0 : Option Int) : List T.Input → Nat → Option Int
  | [], k4 =>
    k0
  | a22 :: rest, k4 =>
    if a22.Path = t1_5 then
      some ((k4 : Nat) : Int)
    else
      L.seicheref09_At_l1 t1_5 k0 rest (k4 + 1)
theorem ok.seicheref09_At_l1 {Γ : Abs.Spec} {gl : Glob} {Q : Ex → St → Prop} {r : Int} {t1_5 : Bytes} {l3 : List T.Input} {k0 : Option Int}
    (hk0 : ∀ (s : St), k0 = some r → Q (.exit 0) s)
    (hR : ∀ s, EndsX [.t 4] false (V.int .i64 r) s → Q .ret s)
    (hlen : l3.length ≤ Lim) : ∀ (rest : List T.Input) (k4 : Nat) (s : St), l3.drop k4 = rest → k4 ≤ l3.length →
    ((s.tm 7).nf = V.sl false 33 (List.map E.Input l3)) → (s.tm 8 = V.int .i64 ((l3.length : Nat) : Int)) → (s.tm 9 = V.int .i64 ((k4 : Nat) : Int)) → (s.tm 1 = (V.str t1_5)) →
    L.seicheref09_At_l1 t1_5 k0 rest k4 = some r → awp Γ gl (.loop c_seicheref09_At_l1) Q s := by
  intro rest
  induction rest with
  | nil =>
    intro k4 s hdrop hkl hX hN hI h21 hD
    have hkz := drop_nil hdrop hkl
    have hp0 : ¬ (((k4 : Nat) : Int) < ((l3.length : Nat) : Int)) := by omega
    refine awp_roundK fun K hK => ?_
    rw [L.seicheref09_At_l1] at hD
    refine x_seq ?_
    refine x_start (b := false) ?_
    refine x_bin hI hN b_lss ?_
    refine x_done ?_
    refine x_tN ?_
    refine x_seq ?_
    refine x_cf (show _ = (V.bool (decide (((k4 : Nat) : Int) < ((l3.length : Nat) : Int)))) from rfl) (decide_eq_false hp0) ?_
    refine x_exitc ?_
    refine x_tE ?_
    refine x_tE ?_
    refine hk0 _ hD
  | cons a22 rest ih =>
    intro k4 s hdrop hkl hX hN hI h21 hD
    obtain ⟨hlt, -, hget, hdrop1, -⟩ := drop_cons hdrop
    have hp1 : ((k4 : Nat) : Int) < ((l3.length : Nat) : Int) := by omega
    have hwk := wi_succ (k := k4) (by unfold Lim at hlen; omega)
    refine awp_roundK fun K hK => ?_
    rw [L.seicheref09_At_l1] at hD
    refine x_seq ?_
    refine x_start (b := false) ?_
    refine x_bin hI hN b_lss ?_
    refine x_done ?_
    refine x_tN ?_
    refine x_seq ?_
    refine x_ct (show _ = (V.bool (decide (((k4 : Nat) : Int) < ((l3.length : Nat) : Int)))) from rfl) (decide_eq_true hp1) ?_
    refine x_skip ?_
    refine x_tN ?_
    refine x_seq ?_
    refine x_block ?_
    refine x_seq ?_
    refine x_start (b := false) ?_
    refine x_mv' hI ?_
    refine x_iaddr hX hI (at_k hget) fun v27 (hv27 : v27.nf = V.el (C.Input a22) 0) => ?_
    refine x_load_el hv27 (ld_Input_0_33 a22) fun v28 hv28 => ?_
    refine x_new (l := (C.Input ({ Path := [], Id := (Arr.zero 32) } : T.Input))) (by kernel_rfl) fun i29 hidi29 hci29 => ?_
    refine x_mv' (show _ = (V.int .i64 ((k4 : Nat) : Int)) from rfl) ?_
    refine x_store (ws := (C.Input a22)) (l' := (C.Input a22)) (show _ = (V.ptr i29 0) from rfl) hci29 (cells_of rfl hv28) ⟨(C.Input_len a22), (C.Input_sc a22), le_len (C.Input_len ({ Path := [], Id := (Arr.zero 32) } : T.Input)) (by decide)⟩ (setAt_full (Eq.trans (C.Input_len a22) (Eq.symm (C.Input_len ({ Path := [], Id := (Arr.zero 32) } : T.Input))))) fun csv30 ysv30 hcsv30 hnv30 hcv30 hsv30 => ?_
    refine x_done ?_
    refine x_tN ?_
    refine x_seq ?_
    refine x_start (b := false) ?_
    refine x_faddr (show _ = (V.ptr i29 0) from rfl) ?_
    refine x_load (show _ = (V.ptr i29 0) from rfl) hcv30 (ld_Input_0_n a22) fun v32 hv32 => ?_
    refine x_mv' h21 ?_
    refine x_bin (nf_str hv32) (show _ = (V.str t1_5) from rfl) s_eql ?_
    refine x_done ?_
    refine x_tN ?_
    by_cases hp33 : a22.Path = t1_5
    · rw [if_pos hp33] at hD
      refine x_ct (show _ = (V.bool (decide (a22.Path = t1_5))) from rfl) (decide_eq_true hp33) ?_
      refine x_seq ?_
      refine x_start (b := false) ?_
      refine x_mv' (show _ = (V.int .i64 ((k4 : Nat) : Int)) from rfl) ?_
      refine x_mv' (show _ = (V.int .i64 ((k4 : Nat) : Int)) from rfl) ?_
      refine x_done ?_
      refine x_tN ?_
      refine x_retc ?_
      refine x_bR ?_
      refine x_tR ?_
      refine x_tR ?_
      obtain rfl := Option.some.inj hD
      exact hR _ (ends_t (nf_of rfl (show _ = (V.int .i64 ((k4 : Nat) : Int)) from rfl)) (fun h => nomatch h))
    · rw [if_neg hp33] at hD
      refine x_cf (show _ = (V.bool (decide (a22.Path = t1_5))) from rfl) (decide_eq_false hp33) ?_
      refine x_skip ?_
      refine x_bN ?_
      refine x_tN ?_
      refine x_start (b := false) ?_
      refine x_bin hI (show _ = (V.int .i64 1) from rfl) b_add ?_
      refine x_mv' (show _ = (V.int .i64 (wi (((k4 : Nat) : Int) + 1))) from rfl) ?_
      refine x_done ?_
      refine x_tN ?_
      refine hK _ ?_
      refine ih (k4 + 1) _ hdrop1 hlt ?_ ?_ ?_ ?_ hD
      · exact hX
      · exact hN
      · exact (Eq.trans (show _ = (V.int .i64 (wi (((k4 : Nat) : Int) + 1))) from rfl) (congrArg (V.int .i64) hwk))
      · exact h21
def g.seicheref09_At (p0 : (List T.Input)) (p1 : Bytes) : Option Int :=
  if p0.length ≤ Lim then L.seicheref09_At_l1 p1 (some (-1)) p0 0 else none
theorem ok.seicheref09_At {Γ : Abs.Spec} {gl : Glob} {r : Int} {p0 : (List T.Input)} {p1 : Bytes} {v : List V}
    (hv : nfL v = [(V.sl false 33 (List.map E.Input p0)), (V.str p1)]) (hD : g.seicheref09_At p0 p1 = some r) : awp Γ gl c_seicheref09_At (endQ [.t 4] false (V.int .i64 r)) (St.init v) := by
  obtain ⟨v0, v, rfl, h0, hv⟩ := nfL_cons hv
  obtain ⟨v1, v, rfl, h1, hv⟩ := nfL_cons hv
  obtain rfl := nfL_nil hv
  have hR : ∀ s, EndsX [.t 4] false (V.int .i64 r) s → endQ [.t 4] false (V.int .i64 r) .ret s := fun _ h => h
  unfold g.seicheref09_At at hD
  unfold c_seicheref09_At
  refine x_seq ?_
  refine x_start (b := false) ?_
  refine x_mv' (show _ = (V.int .i64 0) from rfl) ?_
  refine x_done ?_
  refine x_tN ?_
  refine x_seq ?_
  refine x_seq ?_
  refine x_start (b := false) ?_
  refine x_mv h0 fun v2 hv2 => ?_
  refine x_len hv2 ?_
  refine x_mv' (show _ = (V.int .i64 0) from rfl) ?_
  refine x_done ?_
  refine x_tN ?_
  refine x_block ?_
  by_cases hlen35 : p0.length ≤ Lim
  · rw [if_pos hlen35] at hD
    refine ok.seicheref09_At_l1 (t1_5 := p1) (l3 := p0) (fun s34 hD => ?_) (fun _ hE => ?_) hlen35 _ 0 _ rfl (Nat.zero_le _) ?_ ?_ ?_ ?_ hD
    · refine x_bE ?_
      refine x_tN ?_
      refine x_seq ?_
      refine x_start (b := false) ?_
      refine x_mv' (show _ = (V.int .i64 (-1)) from rfl) ?_
      refine x_done ?_
      refine x_tN ?_
      refine x_retc ?_
      obtain rfl := Option.some.inj hD
      exact hR _ (ends_t (nf_of rfl (show _ = (V.int .i64 (-1)) from rfl)) (fun h => nomatch h))
    · refine x_bR ?_; refine x_tR ?_; exact hR _ hE
    · exact hv2
    · exact (show _ = (V.int .i64 ((p0.length : Nat) : Int)) from rfl)
    · exact (show _ = (V.int .i64 0) from rfl)
    · exact (nf_str h1)
  · rw [if_neg hlen35] at hD; cases hD
def K.seicheref09_At : FC := fc F.seicheref09_At (fun _ => true) false (fun (a : ((List T.Input) × Bytes)) => [(V.sl false 33 (List.map E.Input a.1)), (V.str a.2)]) (fun (y : Int) => (V.int .i64 y)) (fun a => g.seicheref09_At a.1 a.2)
  (fun a => (cleanL_mk (E.LInput_clean _) (cleanL_mk rfl rfl)))
  (fun y => rfl)
  (fun ⟨a0, a1⟩ ⟨b0, b1⟩ h => by
    obtain ⟨h0, h⟩ := List.cons.inj h
    obtain rfl : a0 = b0 := E.LInput_inj h0
    obtain ⟨h0, h⟩ := List.cons.inj h
    obtain rfl : a1 = b1 := V.str.inj h0
    rfl)
theorem H.seicheref09_At (w : World) (_hw : EnvOK w) : K.seicheref09_At.Holds (cxD w) :=
  FC.holds_of (cs := []) (glD w) mixed cf_seicheref09_At (fun _ _ ⟨_, _, h, _⟩ => by subst h; exact Nat.le_of_ble_eq_true rfl) fun v y ⟨a, r, hv, hD, hy⟩ => by
    subst hy
    exact ok.seicheref09_At hv hD
def c_seicheref09_Rises_l1 : ACode := (.seq (.region [
  ⟨(some 7), (.bin .lss .no (.tmp 6) (.tmp 5)), none, []⟩] false) (.seq (.cond (.tmp 7) .skip (.exit 0)) (.seq (.block 1 (.seq (.region [
  ⟨(some 8), (.mv (.tmp 6)), none, []⟩, 
  ⟨(some 3), (.mv (.tmp 8)), none, []⟩] false) (.seq (.region [
  ⟨(some 9), (.mv (.tmp 3)), none, []⟩, 
  ⟨(some 10), (.bin .gtr .no (.tmp 9) (.const (.int .i64 0))), none, []⟩, 
  ⟨(some 11), (.mv (.tmp 10)), none, []⟩, 
  ⟨(some 12), (.mv (.tmp 0)), (some (11, true)), []⟩, 
  ⟨(some 13), (.mv (.tmp 3)), (some (11, true)), []⟩, 
  ⟨(some 14), (.bin .sub .no (.tmp 13) (.const (.int .i64 1))), (some (11, true)), []⟩, 
  ⟨(some 15), (.iaddr 33 (.tmp 12) (.tmp 14)), (some (11, true)), []⟩, 
  ⟨(some 16), (.faddr 0 (.tmp 15)), (some (11, true)), []⟩, 
  ⟨(some 17), (.load none (.tmp 16)), (some (11, true)), []⟩, 
  ⟨(some 18), (.mv (.tmp 0)), (some (11, true)), []⟩, 
  ⟨(some 19), (.mv (.tmp 3)), (some (11, true)), []⟩, 
  ⟨(some 20), (.iaddr 33 (.tmp 18) (.tmp 19)), (some (11, true)), []⟩, 
  ⟨(some 21), (.faddr 0 (.tmp 20)), (some (11, true)), []⟩, 
  ⟨(some 22), (.load none (.tmp 21)), (some (11, true)), []⟩, 
  ⟨(some 23), (.call F.seicheref06_Compare [(.tmp 17), (.tmp 22)]), (some (11, true)), []⟩, 
  ⟨(some 24), (.bin .geq .no (.tmp 23) (.const (.int .i64 0))), (some (11, true)), []⟩, 
  ⟨(some 25), (.pick (.tmp 11) (.tmp 24) (.const (.bool false))), none, []⟩] true) (.cond (.tmp 25) (.seq (.region [
  ⟨(some 2), (.mv (.const (.bool false))), none, []⟩] false) .ret) .skip)))) (.region [
  ⟨(some 26), (.bin .add .no (.tmp 6) (.const (.int .i64 1))), none, []⟩, 
  ⟨(some 6), (.mv (.tmp 26)), none, []⟩] false))))
def c_seicheref09_Rises : ACode := (.seq (.region [
  ⟨(some 2), (.mv (.const (.bool false))), none, []⟩] false) (.seq (.seq (.region [
  ⟨(some 4), (.mv (.tmp 0)), none, []⟩, 
  ⟨(some 5), (.len false (.tmp 4)), none, []⟩, 
  ⟨(some 6), (.mv (.const (.int .i64 0))), none, []⟩] false) (.block 0 (.loop c_seicheref09_Rises_l1))) (.seq (.region [
  ⟨(some 2), (.mv (.const (.bool true))), none, []⟩] false) .ret)))
theorem cf_seicheref09_Rises : cFn Go.Proofs.Tryd.prog F.seicheref09_Rises = some ⟨27, c_seicheref09_Rises, [.t 2]⟩ := by kernel_rfl
def L.seicheref09_Rises_l1 (l3 : List T.Input) (k0 : Option Bool) : List T.Input → Nat → Option Bool
  | [], k4 =>
    k0
  | a37 :: rest, k4 =>
    if 0 < ((k4 : Nat) : Int) then
      (at? l3 (wi (((k4 : Nat) : Int) - 1))).bind fun a54 =>
      (g.seicheref06_Compare a54.Path a37.Path).bind fun r64 =>
      if 0 ≤ r64 then
        some false
      else
        L.seicheref09_Rises_l1 l3 k0 rest (k4 + 1)
    else
      L.seicheref09_Rises_l1 l3 k0 rest (k4 + 1)
theorem ok.seicheref09_Rises_l1 {Γ : Abs.Spec} {gl : Glob} (hC_seicheref06_Compare : CallsX Γ K.seicheref06_Compare) {Q : Ex → St → Prop} {r : Bool} {l3 : List T.Input} {k0 : Option Bool}
    (hk0 : ∀ (s : St), k0 = some r → Q (.exit 0) s)
    (hR : ∀ s, EndsX [.t 2] false (V.bool r) s → Q .ret s)
    (hlen : l3.length ≤ Lim) : ∀ (rest : List T.Input) (k4 : Nat) (s : St), l3.drop k4 = rest → k4 ≤ l3.length →
    ((s.tm 0).nf = V.sl false 33 (List.map E.Input l3)) → (s.tm 5 = V.int .i64 ((l3.length : Nat) : Int)) → (s.tm 6 = V.int .i64 ((k4 : Nat) : Int)) →
    L.seicheref09_Rises_l1 l3 k0 rest k4 = some r → awp Γ gl (.loop c_seicheref09_Rises_l1) Q s := by
  intro rest
  induction rest with
  | nil =>
    intro k4 s hdrop hkl hX hN hI hD
    have hkz := drop_nil hdrop hkl
    have hp0 : ¬ (((k4 : Nat) : Int) < ((l3.length : Nat) : Int)) := by omega
    refine awp_roundK fun K hK => ?_
    rw [L.seicheref09_Rises_l1] at hD
    refine x_seq ?_
    refine x_start (b := false) ?_
    refine x_bin hI hN b_lss ?_
    refine x_done ?_
    refine x_tN ?_
    refine x_seq ?_
    refine x_cf (show _ = (V.bool (decide (((k4 : Nat) : Int) < ((l3.length : Nat) : Int)))) from rfl) (decide_eq_false hp0) ?_
    refine x_exitc ?_
    refine x_tE ?_
    refine x_tE ?_
    refine hk0 _ hD
  | cons a37 rest ih =>
    intro k4 s hdrop hkl hX hN hI hD
    obtain ⟨hlt, -, hget, hdrop1, -⟩ := drop_cons hdrop
    have hp1 : ((k4 : Nat) : Int) < ((l3.length : Nat) : Int) := by omega
    have hwk := wi_succ (k := k4) (by unfold Lim at hlen; omega)
    refine awp_roundK fun K hK => ?_
    rw [L.seicheref09_Rises_l1] at hD
    refine x_seq ?_
    refine x_start (b := false) ?_
    refine x_bin hI hN b_lss ?_
    refine x_done ?_
    refine x_tN ?_
    refine x_seq ?_
    refine x_ct (show _ = (V.bool (decide (((k4 : Nat) : Int) < ((l3.length : Nat) : Int)))) from rfl) (decide_eq_true hp1) ?_
    refine x_skip ?_
    refine x_tN ?_
    refine x_seq ?_
    refine x_block ?_
    refine x_seq ?_
    refine x_start (b := false) ?_
    refine x_mv' hI ?_
    refine x_mv' (show _ = (V.int .i64 ((k4 : Nat) : Int)) from rfl) ?_
    refine x_done ?_
    refine x_tN ?_
    refine x_seq ?_
    refine x_start (b := true) ?_
    refine x_mv' (show _ = (V.int .i64 ((k4 : Nat) : Int)) from rfl) ?_
    refine x_bin (show _ = (V.int .i64 ((k4 : Nat) : Int)) from rfl) (show _ = (V.int .i64 0) from rfl) b_gtr ?_
    refine x_mv' (show _ = (V.bool (decide (0 < ((k4 : Nat) : Int)))) from rfl) ?_
    by_cases hp52 : 0 < ((k4 : Nat) : Int)
    · rw [if_pos hp52] at hD
      refine x_gy (show _ = (V.bool (decide (0 < ((k4 : Nat) : Int)))) from rfl) (decide_eq_true hp52) ?_
      refine x_mv hX fun v53 hv53 => ?_
      refine x_gy (show _ = (V.bool (decide (0 < ((k4 : Nat) : Int)))) from rfl) (decide_eq_true hp52) ?_
      refine x_mv' (show _ = (V.int .i64 ((k4 : Nat) : Int)) from rfl) ?_
      refine x_gy (show _ = (V.bool (decide (0 < ((k4 : Nat) : Int)))) from rfl) (decide_eq_true hp52) ?_
      refine x_bin (show _ = (V.int .i64 ((k4 : Nat) : Int)) from rfl) (show _ = (V.int .i64 1) from rfl) b_sub ?_
      refine x_gy (show _ = (V.bool (decide (0 < ((k4 : Nat) : Int)))) from rfl) (decide_eq_true hp52) ?_
      obtain ⟨a54, hx55, hD⟩ := Option.bind_eq_some_iff.1 hD
      refine x_iaddr hv53 (show _ = (V.int .i64 (wi (((k4 : Nat) : Int) - 1))) from rfl) hx55 fun v56 (hv56 : v56.nf = V.el (C.Input a54) 0) => ?_
      refine x_gy (show _ = (V.bool (decide (0 < ((k4 : Nat) : Int)))) from rfl) (decide_eq_true hp52) ?_
      refine x_faddr_el hv56 fun v57 (hv57 : v57.nf = V.el (C.Input a54) 0) => ?_
      refine x_gy (show _ = (V.bool (decide (0 < ((k4 : Nat) : Int)))) from rfl) (decide_eq_true hp52) ?_
      refine x_load_el hv57 (ld_Input_0_n a54) fun v58 hv58 => ?_
      refine x_gy (show _ = (V.bool (decide (0 < ((k4 : Nat) : Int)))) from rfl) (decide_eq_true hp52) ?_
      refine x_mv hX fun v59 hv59 => ?_
      refine x_gy (show _ = (V.bool (decide (0 < ((k4 : Nat) : Int)))) from rfl) (decide_eq_true hp52) ?_
      refine x_mv' (show _ = (V.int .i64 ((k4 : Nat) : Int)) from rfl) ?_
      refine x_gy (show _ = (V.bool (decide (0 < ((k4 : Nat) : Int)))) from rfl) (decide_eq_true hp52) ?_
      refine x_iaddr hv59 (show _ = (V.int .i64 ((k4 : Nat) : Int)) from rfl) (at_k hget) fun v60 (hv60 : v60.nf = V.el (C.Input a37) 0) => ?_
      refine x_gy (show _ = (V.bool (decide (0 < ((k4 : Nat) : Int)))) from rfl) (decide_eq_true hp52) ?_
      refine x_faddr_el hv60 fun v61 (hv61 : v61.nf = V.el (C.Input a37) 0) => ?_
      refine x_gy (show _ = (V.bool (decide (0 < ((k4 : Nat) : Int)))) from rfl) (decide_eq_true hp52) ?_
      refine x_load_el hv61 (ld_Input_0_n a37) fun v62 hv62 => ?_
      refine x_gy (show _ = (V.bool (decide (0 < ((k4 : Nat) : Int)))) from rfl) (decide_eq_true hp52) ?_
      obtain ⟨r64, hx65, hD⟩ := Option.bind_eq_some_iff.1 hD
      refine x_callF hC_seicheref06_Compare (a := (a54.Path, a37.Path)) (cons_eq (nf_of rfl (nf_str hv58)) (cons_eq (nf_of rfl (nf_str hv62)) rfl)) hx65 fun v63 ov63 (hv63 : v63.nf = (V.int .i64 r64)) hov63 => ?_
      refine x_gy (show _ = (V.bool (decide (0 < ((k4 : Nat) : Int)))) from rfl) (decide_eq_true hp52) ?_
      refine x_bin (nf_int hv63) (show _ = (V.int .i64 0) from rfl) b_geq ?_
      refine x_pickt' (show _ = (V.bool (decide (0 < ((k4 : Nat) : Int)))) from rfl) (decide_eq_true hp52) (show _ = (V.bool (decide (0 ≤ r64))) from rfl) ?_
      refine x_done ?_
      refine x_tN ?_
      by_cases hp66 : 0 ≤ r64
      · rw [if_pos hp66] at hD
        refine x_ct (show _ = (V.bool (decide (0 ≤ r64))) from rfl) (decide_eq_true hp66) ?_
        refine x_seq ?_
        refine x_start (b := false) ?_
        refine x_mv' (show _ = (V.bool false) from rfl) ?_
        refine x_done ?_
        refine x_tN ?_
        refine x_retc ?_
        refine x_bR ?_
        refine x_tR ?_
        refine x_tR ?_
        obtain rfl := Option.some.inj hD
        exact hR _ (ends_t (nf_of rfl (show _ = (V.bool false) from rfl)) (fun h => nomatch h))
      · rw [if_neg hp66] at hD
        refine x_cf (show _ = (V.bool (decide (0 ≤ r64))) from rfl) (decide_eq_false hp66) ?_
        refine x_skip ?_
        refine x_bN ?_
        refine x_tN ?_
        refine x_start (b := false) ?_
        refine x_bin hI (show _ = (V.int .i64 1) from rfl) b_add ?_
        refine x_mv' (show _ = (V.int .i64 (wi (((k4 : Nat) : Int) + 1))) from rfl) ?_
        refine x_done ?_
        refine x_tN ?_
        refine hK _ ?_
        refine ih (k4 + 1) _ hdrop1 hlt ?_ ?_ ?_ hD
        · exact hX
        · exact hN
        · exact (Eq.trans (show _ = (V.int .i64 (wi (((k4 : Nat) : Int) + 1))) from rfl) (congrArg (V.int .i64) hwk))
    · rw [if_neg hp52] at hD
      refine x_gn (show _ = (V.bool (decide (0 < ((k4 : Nat) : Int)))) from rfl) (decide_eq_false hp52) ?_
      refine x_gn (show _ = (V.bool (decide (0 < ((k4 : Nat) : Int)))) from rfl) (decide_eq_false hp52) ?_
      refine x_gn (show _ = (V.bool (decide (0 < ((k4 : Nat) : Int)))) from rfl) (decide_eq_false hp52) ?_
      refine x_gn (show _ = (V.bool (decide (0 < ((k4 : Nat) : Int)))) from rfl) (decide_eq_false hp52) ?_
      refine x_gn (show _ = (V.bool (decide (0 < ((k4 : Nat) : Int)))) from rfl) (decide_eq_false hp52) ?_
      refine x_gn (show _ = (V.bool (decide (0 < ((k4 : Nat) : Int)))) from rfl) (decide_eq_false hp52) ?_
      refine x_gn (show _ = (V.bool (decide (0 < ((k4 : Nat) : Int)))) from rfl) (decide_eq_false hp52) ?_
      refine x_gn (show _ = (V.bool (decide (0 < ((k4 : Nat) : Int)))) from rfl) (decide_eq_false hp52) ?_
      refine x_gn (show _ = (V.bool (decide (0 < ((k4 : Nat) : Int)))) from rfl) (decide_eq_false hp52) ?_
      refine x_gn (show _ = (V.bool (decide (0 < ((k4 : Nat) : Int)))) from rfl) (decide_eq_false hp52) ?_
      refine x_gn (show _ = (V.bool (decide (0 < ((k4 : Nat) : Int)))) from rfl) (decide_eq_false hp52) ?_
      refine x_gn (show _ = (V.bool (decide (0 < ((k4 : Nat) : Int)))) from rfl) (decide_eq_false hp52) ?_
      refine x_gn (show _ = (V.bool (decide (0 < ((k4 : Nat) : Int)))) from rfl) (decide_eq_false hp52) ?_
      refine x_pickf' (show _ = (V.bool (decide (0 < ((k4 : Nat) : Int)))) from rfl) (decide_eq_false hp52) (show _ = (V.bool false) from rfl) ?_
      refine x_done ?_
      refine x_tN ?_
      refine x_cf (show _ = (V.bool false) from rfl) rfl ?_
      refine x_skip ?_
      refine x_bN ?_
      refine x_tN ?_
      refine x_start (b := false) ?_
      refine x_bin hI (show _ = (V.int .i64 1) from rfl) b_add ?_
      refine x_mv' (show _ = (V.int .i64 (wi (((k4 : Nat) : Int) + 1))) from rfl) ?_
      refine x_done ?_
      refine x_tN ?_
      refine hK _ ?_
      refine ih (k4 + 1) _ hdrop1 hlt ?_ ?_ ?_ hD
      · exact hX
      · exact hN
      · exact (Eq.trans (show _ = (V.int .i64 (wi (((k4 : Nat) : Int) + 1))) from rfl) (congrArg (V.int .i64) hwk))
def g.seicheref09_Rises (p0 : (List T.Input)) : Option Bool :=
  if p0.length ≤ Lim then L.seicheref09_Rises_l1 p0 (some true) p0 0 else none
theorem ok.seicheref09_Rises {Γ : Abs.Spec} {gl : Glob} (hC_seicheref06_Compare : CallsX Γ K.seicheref06_Compare) {r : Bool} {p0 : (List T.Input)} {v : List V}
    (hv : nfL v = [(V.sl false 33 (List.map E.Input p0))]) (hD : g.seicheref09_Rises p0 = some r) : awp Γ gl c_seicheref09_Rises (endQ [.t 2] false (V.bool r)) (St.init v) := by
  obtain ⟨v0, v, rfl, h0, hv⟩ := nfL_cons hv
  obtain rfl := nfL_nil hv
  have hR : ∀ s, EndsX [.t 2] false (V.bool r) s → endQ [.t 2] false (V.bool r) .ret s := fun _ h => h
  unfold g.seicheref09_Rises at hD
  unfold c_seicheref09_Rises
  refine x_seq ?_
  refine x_start (b := false) ?_
  refine x_mv' (show _ = (V.bool false) from rfl) ?_
  refine x_done ?_
  refine x_tN ?_
  refine x_seq ?_
  refine x_seq ?_
  refine x_start (b := false) ?_
  refine x_mv h0 fun v2 hv2 => ?_
  refine x_len hv2 ?_
  refine x_mv' (show _ = (V.int .i64 0) from rfl) ?_
  refine x_done ?_
  refine x_tN ?_
  refine x_block ?_
  by_cases hlen68 : p0.length ≤ Lim
  · rw [if_pos hlen68] at hD
    refine ok.seicheref09_Rises_l1 (l3 := p0) hC_seicheref06_Compare (fun s67 hD => ?_) (fun _ hE => ?_) hlen68 _ 0 _ rfl (Nat.zero_le _) ?_ ?_ ?_ hD
    · refine x_bE ?_
      refine x_tN ?_
      refine x_seq ?_
      refine x_start (b := false) ?_
      refine x_mv' (show _ = (V.bool true) from rfl) ?_
      refine x_done ?_
      refine x_tN ?_
      refine x_retc ?_
      obtain rfl := Option.some.inj hD
      exact hR _ (ends_t (nf_of rfl (show _ = (V.bool true) from rfl)) (fun h => nomatch h))
    · refine x_bR ?_; refine x_tR ?_; exact hR _ hE
    · exact h0
    · exact (show _ = (V.int .i64 ((p0.length : Nat) : Int)) from rfl)
    · exact (show _ = (V.int .i64 0) from rfl)
  · rw [if_neg hlen68] at hD; cases hD
def K.seicheref09_Rises : FC := fc F.seicheref09_Rises (fun _ => true) false (fun (a : (List T.Input)) => [(V.sl false 33 (List.map E.Input a))]) (fun (y : Bool) => (V.bool y)) (fun a => g.seicheref09_Rises a)
  (fun a => (cleanL_mk (E.LInput_clean _) rfl))
  (fun y => rfl)
  (fun a0 b0 h => by
    obtain ⟨h0, h⟩ := List.cons.inj h
    obtain rfl : a0 = b0 := E.LInput_inj h0
    rfl)
theorem H.seicheref09_Rises (w : World) (hw : EnvOK w) : K.seicheref09_Rises.Holds (cxD w) :=
  FC.holds_of (cs := [K.seicheref06_Compare]) (glD w) mixed cf_seicheref09_Rises (fun _ _ ⟨_, _, h, _⟩ => by subst h; exact Nat.le_of_ble_eq_true rfl) fun v y ⟨a, r, hv, hD, hy⟩ => by
    subst hy
    exact ok.seicheref09_Rises (specOf_calls (H.seicheref06_Compare w hw) (fun _ _ ⟨_, _, h, _⟩ => by subst h; rfl)) hv hD
theorem ld_Change_0_2 (x : T.Change) : ldCells (some 2) (C.Change x) 0 = some (V.agg (C.Change x)) := by
  exact ld_all (C.Change_len x)
theorem eq_Change (a b : T.Change) : flatEq ([(none, true)] ++ [((some .i64), true)]) (C.Change a) (C.Change b) = some (decide (a = b)) := by
  have h := (flatEq_app (flatEq_str1 a.Path b.Path) (flatEq_int1 (k := .i64) (u := true) a.Kind b.Kind))
  refine Eq.trans h (congrArg some ?_)
  cases a; cases b
  simp only [T.Change.mk.injEq, Bool.decide_and, Bool.and_assoc]
def c_seicheref09_Same_l1 : ACode := (.seq (.region [
  ⟨(some 14), (.bin .lss .no (.tmp 13) (.tmp 12)), none, []⟩] false) (.seq (.cond (.tmp 14) .skip (.exit 0)) (.seq (.block 1 (.seq (.region [
  ⟨(some 15), (.mv (.tmp 13)), none, []⟩, 
  ⟨(some 5), (.mv (.tmp 15)), none, []⟩] false) (.seq (.region [
  ⟨(some 16), (.mv (.tmp 0)), none, []⟩, 
  ⟨(some 17), (.mv (.tmp 5)), none, []⟩, 
  ⟨(some 18), (.iaddr 2 (.tmp 16) (.tmp 17)), none, []⟩, 
  ⟨(some 19), (.load (some 2) (.tmp 18)), none, []⟩, 
  ⟨(some 20), (.mv (.tmp 1)), none, []⟩, 
  ⟨(some 21), (.mv (.tmp 5)), none, []⟩, 
  ⟨(some 22), (.iaddr 2 (.tmp 20) (.tmp 21)), none, []⟩, 
  ⟨(some 23), (.load (some 2) (.tmp 22)), none, []⟩, 
  ⟨(some 24), (.bin .neq (.flat [(none, true), ((some .i64), true)]) (.tmp 19) (.tmp 23)), none, []⟩] true) (.cond (.tmp 24) (.seq (.region [
  ⟨(some 4), (.mv (.const (.bool false))), none, []⟩] false) .ret) .skip)))) (.region [
  ⟨(some 25), (.bin .add .no (.tmp 13) (.const (.int .i64 1))), none, []⟩, 
  ⟨(some 13), (.mv (.tmp 25)), none, []⟩] false))))
def c_seicheref09_Same : ACode := (.seq (.region [
  ⟨(some 4), (.mv (.const (.bool false))), none, []⟩] false) (.seq (.seq (.region [
  ⟨(some 6), (.mv (.tmp 0)), none, []⟩, 
  ⟨(some 7), (.len false (.tmp 6)), none, []⟩, 
  ⟨(some 8), (.mv (.tmp 1)), none, []⟩, 
  ⟨(some 9), (.len false (.tmp 8)), none, []⟩, 
  ⟨(some 10), (.bin .neq .no (.tmp 7) (.tmp 9)), none, []⟩] false) (.cond (.tmp 10) (.seq (.region [
  ⟨(some 4), (.mv (.const (.bool false))), none, []⟩] false) .ret) .skip)) (.seq (.seq (.region [
  ⟨(some 11), (.mv (.tmp 0)), none, []⟩, 
  ⟨(some 12), (.len false (.tmp 11)), none, []⟩, 
  ⟨(some 13), (.mv (.const (.int .i64 0))), none, []⟩] false) (.block 0 (.loop c_seicheref09_Same_l1))) (.seq (.region [
  ⟨(some 4), (.mv (.const (.bool true))), none, []⟩] false) .ret))))
theorem cf_seicheref09_Same : cFn Go.Proofs.Tryd.prog F.seicheref09_Same = some ⟨26, c_seicheref09_Same, [.t 4]⟩ := by kernel_rfl
def L.seicheref09_Same_l1 (t1_15 : (List T.Change)) (k0 : Option Bool) : List T.Change → Nat → Option Bool
  | [], k14 =>
    k0
  | a38 :: rest, k14 =>
    (at? t1_15 ((k14 : Nat) : Int)).bind fun a51 =>
    if a38 = a51 then
      L.seicheref09_Same_l1 t1_15 k0 rest (k14 + 1)
    else
      some false
theorem ok.seicheref09_Same_l1 {Γ : Abs.Spec} {gl : Glob} {Q : Ex → St → Prop} {r : Bool} {t1_15 : (List T.Change)} {l13 : List T.Change} {k0 : Option Bool}
    (hk0 : ∀ (s : St), k0 = some r → Q (.exit 0) s)
    (hR : ∀ s, EndsX [.t 4] false (V.bool r) s → Q .ret s)
    (hlen : l13.length ≤ Lim) : ∀ (rest : List T.Change) (k14 : Nat) (s : St), l13.drop k14 = rest → k14 ≤ l13.length →
    ((s.tm 0).nf = V.sl false 2 (List.map E.Change l13)) → (s.tm 12 = V.int .i64 ((l13.length : Nat) : Int)) → (s.tm 13 = V.int .i64 ((k14 : Nat) : Int)) → ((s.tm 1).nf = (V.sl false 2 (List.map E.Change t1_15))) →
    L.seicheref09_Same_l1 t1_15 k0 rest k14 = some r → awp Γ gl (.loop c_seicheref09_Same_l1) Q s := by
  intro rest
  induction rest with
  | nil =>
    intro k14 s hdrop hkl hX hN hI h37 hD
    have hkz := drop_nil hdrop hkl
    have hp0 : ¬ (((k14 : Nat) : Int) < ((l13.length : Nat) : Int)) := by omega
    refine awp_roundK fun K hK => ?_
    rw [L.seicheref09_Same_l1] at hD
    refine x_seq ?_
    refine x_start (b := false) ?_
    refine x_bin hI hN b_lss ?_
    refine x_done ?_
    refine x_tN ?_
    refine x_seq ?_
    refine x_cf (show _ = (V.bool (decide (((k14 : Nat) : Int) < ((l13.length : Nat) : Int)))) from rfl) (decide_eq_false hp0) ?_
    refine x_exitc ?_
    refine x_tE ?_
    refine x_tE ?_
    refine hk0 _ hD
  | cons a38 rest ih =>
    intro k14 s hdrop hkl hX hN hI h37 hD
    obtain ⟨hlt, -, hget, hdrop1, -⟩ := drop_cons hdrop
    have hp1 : ((k14 : Nat) : Int) < ((l13.length : Nat) : Int) := by omega
    have hwk := wi_succ (k := k14) (by unfold Lim at hlen; omega)
    refine awp_roundK fun K hK => ?_
    rw [L.seicheref09_Same_l1] at hD
    refine x_seq ?_
    refine x_start (b := false) ?_
    refine x_bin hI hN b_lss ?_
    refine x_done ?_
    refine x_tN ?_
    refine x_seq ?_
    refine x_ct (show _ = (V.bool (decide (((k14 : Nat) : Int) < ((l13.length : Nat) : Int)))) from rfl) (decide_eq_true hp1) ?_
    refine x_skip ?_
    refine x_tN ?_
    refine x_seq ?_
    refine x_block ?_
    refine x_seq ?_
    refine x_start (b := false) ?_
    refine x_mv' hI ?_
    refine x_mv' (show _ = (V.int .i64 ((k14 : Nat) : Int)) from rfl) ?_
    refine x_done ?_
    refine x_tN ?_
    refine x_seq ?_
    refine x_start (b := true) ?_
    refine x_mv hX fun v47 hv47 => ?_
    refine x_mv' (show _ = (V.int .i64 ((k14 : Nat) : Int)) from rfl) ?_
    refine x_iaddr hv47 (show _ = (V.int .i64 ((k14 : Nat) : Int)) from rfl) (at_k hget) fun v48 (hv48 : v48.nf = V.el (C.Change a38) 0) => ?_
    refine x_load_el hv48 (ld_Change_0_2 a38) fun v49 hv49 => ?_
    refine x_mv h37 fun v50 hv50 => ?_
    refine x_mv' (show _ = (V.int .i64 ((k14 : Nat) : Int)) from rfl) ?_
    obtain ⟨a51, hx52, hD⟩ := Option.bind_eq_some_iff.1 hD
    refine x_iaddr hv50 (show _ = (V.int .i64 ((k14 : Nat) : Int)) from rfl) hx52 fun v53 (hv53 : v53.nf = V.el (C.Change a51) 0) => ?_
    refine x_load_el hv53 (ld_Change_0_2 a51) fun v54 hv54 => ?_
    refine x_fne hv49 hv54 (eq_Change _ _) ?_
    refine x_done ?_
    refine x_tN ?_
    by_cases hp55 : a38 = a51
    · rw [if_pos hp55] at hD
      refine x_cf (show _ = (V.bool (!(decide (a38 = a51)))) from rfl) (bnot_t (decide_eq_true hp55)) ?_
      refine x_skip ?_
      refine x_bN ?_
      refine x_tN ?_
      refine x_start (b := false) ?_
      refine x_bin hI (show _ = (V.int .i64 1) from rfl) b_add ?_
      refine x_mv' (show _ = (V.int .i64 (wi (((k14 : Nat) : Int) + 1))) from rfl) ?_
      refine x_done ?_
      refine x_tN ?_
      refine hK _ ?_
      refine ih (k14 + 1) _ hdrop1 hlt ?_ ?_ ?_ ?_ hD
      · exact hX
      · exact hN
      · exact (Eq.trans (show _ = (V.int .i64 (wi (((k14 : Nat) : Int) + 1))) from rfl) (congrArg (V.int .i64) hwk))
      · exact h37
    · rw [if_neg hp55] at hD
      refine x_ct (show _ = (V.bool (!(decide (a38 = a51)))) from rfl) (bnot_f (decide_eq_false hp55)) ?_
      refine x_seq ?_
      refine x_start (b := false) ?_
      refine x_mv' (show _ = (V.bool false) from rfl) ?_
      refine x_done ?_
      refine x_tN ?_
      refine x_retc ?_
      refine x_bR ?_
      refine x_tR ?_
      refine x_tR ?_
      obtain rfl := Option.some.inj hD
      exact hR _ (ends_t (nf_of rfl (show _ = (V.bool false) from rfl)) (fun h => nomatch h))
def g.seicheref09_Same (p0 : (List T.Change)) (p1 : (List T.Change)) : Option Bool :=
  if ((p0.length : Nat) : Int) = ((p1.length : Nat) : Int) then
    if p0.length ≤ Lim then L.seicheref09_Same_l1 p1 (some true) p0 0 else none
  else
    some false
theorem ok.seicheref09_Same {Γ : Abs.Spec} {gl : Glob} {r : Bool} {p0 : (List T.Change)} {p1 : (List T.Change)} {v : List V}
    (hv : nfL v = [(V.sl false 2 (List.map E.Change p0)), (V.sl false 2 (List.map E.Change p1))]) (hD : g.seicheref09_Same p0 p1 = some r) : awp Γ gl c_seicheref09_Same (endQ [.t 4] false (V.bool r)) (St.init v) := by
  obtain ⟨v0, v, rfl, h0, hv⟩ := nfL_cons hv
  obtain ⟨v1, v, rfl, h1, hv⟩ := nfL_cons hv
  obtain rfl := nfL_nil hv
  have hR : ∀ s, EndsX [.t 4] false (V.bool r) s → endQ [.t 4] false (V.bool r) .ret s := fun _ h => h
  unfold g.seicheref09_Same at hD
  unfold c_seicheref09_Same
  refine x_seq ?_
  refine x_start (b := false) ?_
  refine x_mv' (show _ = (V.bool false) from rfl) ?_
  refine x_done ?_
  refine x_tN ?_
  refine x_seq ?_
  refine x_seq ?_
  refine x_start (b := false) ?_
  refine x_mv h0 fun v8 hv8 => ?_
  refine x_len hv8 ?_
  refine x_mv h1 fun v9 hv9 => ?_
  refine x_len hv9 ?_
  refine x_bin (show _ = (V.int .i64 ((p0.length : Nat) : Int)) from rfl) (show _ = (V.int .i64 ((p1.length : Nat) : Int)) from rfl) b_neq ?_
  refine x_done ?_
  refine x_tN ?_
  by_cases hp10 : ((p0.length : Nat) : Int) = ((p1.length : Nat) : Int)
  · rw [if_pos hp10] at hD
    refine x_cf (show _ = (V.bool (!(decide (((p0.length : Nat) : Int) = ((p1.length : Nat) : Int))))) from rfl) (bnot_t (decide_eq_true hp10)) ?_
    refine x_skip ?_
    refine x_tN ?_
    refine x_seq ?_
    refine x_seq ?_
    refine x_start (b := false) ?_
    refine x_mv h0 fun v12 hv12 => ?_
    refine x_len hv12 ?_
    refine x_mv' (show _ = (V.int .i64 0) from rfl) ?_
    refine x_done ?_
    refine x_tN ?_
    refine x_block ?_
    by_cases hlen57 : p0.length ≤ Lim
    · rw [if_pos hlen57] at hD
      refine ok.seicheref09_Same_l1 (t1_15 := p1) (l13 := p0) (fun s56 hD => ?_) (fun _ hE => ?_) hlen57 _ 0 _ rfl (Nat.zero_le _) ?_ ?_ ?_ ?_ hD
      · refine x_bE ?_
        refine x_tN ?_
        refine x_seq ?_
        refine x_start (b := false) ?_
        refine x_mv' (show _ = (V.bool true) from rfl) ?_
        refine x_done ?_
        refine x_tN ?_
        refine x_retc ?_
        obtain rfl := Option.some.inj hD
        exact hR _ (ends_t (nf_of rfl (show _ = (V.bool true) from rfl)) (fun h => nomatch h))
      · refine x_bR ?_; refine x_tR ?_; exact hR _ hE
      · exact h0
      · exact (show _ = (V.int .i64 ((p0.length : Nat) : Int)) from rfl)
      · exact (show _ = (V.int .i64 0) from rfl)
      · exact h1
    · rw [if_neg hlen57] at hD; cases hD
  · rw [if_neg hp10] at hD
    refine x_ct (show _ = (V.bool (!(decide (((p0.length : Nat) : Int) = ((p1.length : Nat) : Int))))) from rfl) (bnot_f (decide_eq_false hp10)) ?_
    refine x_seq ?_
    refine x_start (b := false) ?_
    refine x_mv' (show _ = (V.bool false) from rfl) ?_
    refine x_done ?_
    refine x_tN ?_
    refine x_retc ?_
    refine x_tR ?_
    obtain rfl := Option.some.inj hD
    exact hR _ (ends_t (nf_of rfl (show _ = (V.bool false) from rfl)) (fun h => nomatch h))
def K.seicheref09_Same : FC := fc F.seicheref09_Same (fun _ => true) false (fun (a : ((List T.Change) × (List T.Change))) => [(V.sl false 2 (List.map E.Change a.1)), (V.sl false 2 (List.map E.Change a.2))]) (fun (y : Bool) => (V.bool y)) (fun a => g.seicheref09_Same a.1 a.2)
  (fun a => (cleanL_mk (E.LChange_clean _) (cleanL_mk (E.LChange_clean _) rfl)))
  (fun y => rfl)
  (fun ⟨a0, a1⟩ ⟨b0, b1⟩ h => by
    obtain ⟨h0, h⟩ := List.cons.inj h
    obtain rfl : a0 = b0 := E.LChange_inj h0
    obtain ⟨h0, h⟩ := List.cons.inj h
    obtain rfl : a1 = b1 := E.LChange_inj h0
    rfl)
theorem H.seicheref09_Same (w : World) (_hw : EnvOK w) : K.seicheref09_Same.Holds (cxD w) :=
  FC.holds_of (cs := []) (glD w) mixed cf_seicheref09_Same (fun _ _ ⟨_, _, h, _⟩ => by subst h; exact Nat.le_of_ble_eq_true rfl) fun v y ⟨a, r, hv, hD, hy⟩ => by
    subst hy
    exact ok.seicheref09_Same hv hD
theorem eq_Input (a b : T.Input) : flatEq ([(none, true)] ++ (repl 32 ((some .u8), true))) (C.Input a) (C.Input b) = some (decide (a = b)) := by
  have h := (flatEq_app (flatEq_str1 a.Path b.Path) (flatEq_arr true a.Id b.Id))
  refine Eq.trans h (congrArg some ?_)
  cases a; cases b
  simp only [T.Input.mk.injEq, Bool.decide_and, Bool.and_assoc]
def c_seicheref08_Same_l1 : ACode := (.seq (.region [
  ⟨(some 14), (.bin .lss .no (.tmp 13) (.tmp 12)), none, []⟩] false) (.seq (.cond (.tmp 14) .skip (.exit 0)) (.seq (.block 1 (.seq (.region [
  ⟨(some 15), (.mv (.tmp 13)), none, []⟩, 
  ⟨(some 5), (.mv (.tmp 15)), none, []⟩] false) (.seq (.region [
  ⟨(some 16), (.mv (.tmp 0)), none, []⟩, 
  ⟨(some 17), (.mv (.tmp 5)), none, []⟩, 
  ⟨(some 18), (.iaddr 33 (.tmp 16) (.tmp 17)), none, []⟩, 
  ⟨(some 19), (.load (some 33) (.tmp 18)), none, []⟩, 
  ⟨(some 20), (.mv (.tmp 1)), none, []⟩, 
  ⟨(some 21), (.mv (.tmp 5)), none, []⟩, 
  ⟨(some 22), (.iaddr 33 (.tmp 20) (.tmp 21)), none, []⟩, 
  ⟨(some 23), (.load (some 33) (.tmp 22)), none, []⟩, 
  ⟨(some 24), (.bin .neq (.flat ((none, true) :: repl 32 ((some .u8), true))) (.tmp 19) (.tmp 23)), none, []⟩] true) (.cond (.tmp 24) (.seq (.region [
  ⟨(some 4), (.mv (.const (.bool false))), none, []⟩] false) .ret) .skip)))) (.region [
  ⟨(some 25), (.bin .add .no (.tmp 13) (.const (.int .i64 1))), none, []⟩, 
  ⟨(some 13), (.mv (.tmp 25)), none, []⟩] false))))
def c_seicheref08_Same : ACode := (.seq (.region [
  ⟨(some 4), (.mv (.const (.bool false))), none, []⟩] false) (.seq (.seq (.region [
  ⟨(some 6), (.mv (.tmp 0)), none, []⟩, 
  ⟨(some 7), (.len false (.tmp 6)), none, []⟩, 
  ⟨(some 8), (.mv (.tmp 1)), none, []⟩, 
  ⟨(some 9), (.len false (.tmp 8)), none, []⟩, 
  ⟨(some 10), (.bin .neq .no (.tmp 7) (.tmp 9)), none, []⟩] false) (.cond (.tmp 10) (.seq (.region [
  ⟨(some 4), (.mv (.const (.bool false))), none, []⟩] false) .ret) .skip)) (.seq (.seq (.region [
  ⟨(some 11), (.mv (.tmp 0)), none, []⟩, 
  ⟨(some 12), (.len false (.tmp 11)), none, []⟩, 
  ⟨(some 13), (.mv (.const (.int .i64 0))), none, []⟩] false) (.block 0 (.loop c_seicheref08_Same_l1))) (.seq (.region [
  ⟨(some 4), (.mv (.const (.bool true))), none, []⟩] false) .ret))))
theorem cf_seicheref08_Same : cFn Go.Proofs.Tryd.prog F.seicheref08_Same = some ⟨26, c_seicheref08_Same, [.t 4]⟩ := by kernel_rfl
def L.seicheref08_Same_l1 (t1_15 : (List T.Input)) (k0 : Option Bool) : List T.Input → Nat → Option Bool
  | [], k14 =>
    k0
  | a38 :: rest, k14 =>
    (at? t1_15 ((k14 : Nat) : Int)).bind fun a51 =>
    if a38 = a51 then
      L.seicheref08_Same_l1 t1_15 k0 rest (k14 + 1)
    else
      some false
theorem ok.seicheref08_Same_l1 {Γ : Abs.Spec} {gl : Glob} {Q : Ex → St → Prop} {r : Bool} {t1_15 : (List T.Input)} {l13 : List T.Input} {k0 : Option Bool}
    (hk0 : ∀ (s : St), k0 = some r → Q (.exit 0) s)
    (hR : ∀ s, EndsX [.t 4] false (V.bool r) s → Q .ret s)
    (hlen : l13.length ≤ Lim) : ∀ (rest : List T.Input) (k14 : Nat) (s : St), l13.drop k14 = rest → k14 ≤ l13.length →
    ((s.tm 0).nf = V.sl false 33 (List.map E.Input l13)) → (s.tm 12 = V.int .i64 ((l13.length : Nat) : Int)) → (s.tm 13 = V.int .i64 ((k14 : Nat) : Int)) → ((s.tm 1).nf = (V.sl false 33 (List.map E.Input t1_15))) →
    L.seicheref08_Same_l1 t1_15 k0 rest k14 = some r → awp Γ gl (.loop c_seicheref08_Same_l1) Q s := by
  intro rest
  induction rest with
  | nil =>
    intro k14 s hdrop hkl hX hN hI h37 hD
    have hkz := drop_nil hdrop hkl
    have hp0 : ¬ (((k14 : Nat) : Int) < ((l13.length : Nat) : Int)) := by omega
    refine awp_roundK fun K hK => ?_
    rw [L.seicheref08_Same_l1] at hD
    refine x_seq ?_
    refine x_start (b := false) ?_
    refine x_bin hI hN b_lss ?_
    refine x_done ?_
    refine x_tN ?_
    refine x_seq ?_
    refine x_cf (show _ = (V.bool (decide (((k14 : Nat) : Int) < ((l13.length : Nat) : Int)))) from rfl) (decide_eq_false hp0) ?_
    refine x_exitc ?_
    refine x_tE ?_
    refine x_tE ?_
    refine hk0 _ hD
  | cons a38 rest ih =>
    intro k14 s hdrop hkl hX hN hI h37 hD
    obtain ⟨hlt, -, hget, hdrop1, -⟩ := drop_cons hdrop
    have hp1 : ((k14 : Nat) : Int) < ((l13.length : Nat) : Int) := by omega
    have hwk := wi_succ (k := k14) (by unfold Lim at hlen; omega)
    refine awp_roundK fun K hK => ?_
    rw [L.seicheref08_Same_l1] at hD
    refine x_seq ?_
    refine x_start (b := false) ?_
    refine x_bin hI hN b_lss ?_
    refine x_done ?_
    refine x_tN ?_
    refine x_seq ?_
    refine x_ct (show _ = (V.bool (decide (((k14 : Nat) : Int) < ((l13.length : Nat) : Int)))) from rfl) (decide_eq_true hp1) ?_
    refine x_skip ?_
    refine x_tN ?_
    refine x_seq ?_
    refine x_block ?_
    refine x_seq ?_
    refine x_start (b := false) ?_
    refine x_mv' hI ?_
    refine x_mv' (show _ = (V.int .i64 ((k14 : Nat) : Int)) from rfl) ?_
    refine x_done ?_
    refine x_tN ?_
    refine x_seq ?_
    refine x_start (b := true) ?_
    refine x_mv hX fun v47 hv47 => ?_
    refine x_mv' (show _ = (V.int .i64 ((k14 : Nat) : Int)) from rfl) ?_
    refine x_iaddr hv47 (show _ = (V.int .i64 ((k14 : Nat) : Int)) from rfl) (at_k hget) fun v48 (hv48 : v48.nf = V.el (C.Input a38) 0) => ?_
    refine x_load_el hv48 (ld_Input_0_33 a38) fun v49 hv49 => ?_
    refine x_mv h37 fun v50 hv50 => ?_
    refine x_mv' (show _ = (V.int .i64 ((k14 : Nat) : Int)) from rfl) ?_
    obtain ⟨a51, hx52, hD⟩ := Option.bind_eq_some_iff.1 hD
    refine x_iaddr hv50 (show _ = (V.int .i64 ((k14 : Nat) : Int)) from rfl) hx52 fun v53 (hv53 : v53.nf = V.el (C.Input a51) 0) => ?_
    refine x_load_el hv53 (ld_Input_0_33 a51) fun v54 hv54 => ?_
    refine x_fne hv49 hv54 (eq_Input _ _) ?_
    refine x_done ?_
    refine x_tN ?_
    by_cases hp55 : a38 = a51
    · rw [if_pos hp55] at hD
      refine x_cf (show _ = (V.bool (!(decide (a38 = a51)))) from rfl) (bnot_t (decide_eq_true hp55)) ?_
      refine x_skip ?_
      refine x_bN ?_
      refine x_tN ?_
      refine x_start (b := false) ?_
      refine x_bin hI (show _ = (V.int .i64 1) from rfl) b_add ?_
      refine x_mv' (show _ = (V.int .i64 (wi (((k14 : Nat) : Int) + 1))) from rfl) ?_
      refine x_done ?_
      refine x_tN ?_
      refine hK _ ?_
      refine ih (k14 + 1) _ hdrop1 hlt ?_ ?_ ?_ ?_ hD
      · exact hX
      · exact hN
      · exact (Eq.trans (show _ = (V.int .i64 (wi (((k14 : Nat) : Int) + 1))) from rfl) (congrArg (V.int .i64) hwk))
      · exact h37
    · rw [if_neg hp55] at hD
      refine x_ct (show _ = (V.bool (!(decide (a38 = a51)))) from rfl) (bnot_f (decide_eq_false hp55)) ?_
      refine x_seq ?_
      refine x_start (b := false) ?_
      refine x_mv' (show _ = (V.bool false) from rfl) ?_
      refine x_done ?_
      refine x_tN ?_
      refine x_retc ?_
      refine x_bR ?_
      refine x_tR ?_
      refine x_tR ?_
      obtain rfl := Option.some.inj hD
      exact hR _ (ends_t (nf_of rfl (show _ = (V.bool false) from rfl)) (fun h => nomatch h))
def g.seicheref08_Same (p0 : (List T.Input)) (p1 : (List T.Input)) : Option Bool :=
  if ((p0.length : Nat) : Int) = ((p1.length : Nat) : Int) then
    if p0.length ≤ Lim then L.seicheref08_Same_l1 p1 (some true) p0 0 else none
  else
    some false
theorem ok.seicheref08_Same {Γ : Abs.Spec} {gl : Glob} {r : Bool} {p0 : (List T.Input)} {p1 : (List T.Input)} {v : List V}
    (hv : nfL v = [(V.sl false 33 (List.map E.Input p0)), (V.sl false 33 (List.map E.Input p1))]) (hD : g.seicheref08_Same p0 p1 = some r) : awp Γ gl c_seicheref08_Same (endQ [.t 4] false (V.bool r)) (St.init v) := by
  obtain ⟨v0, v, rfl, h0, hv⟩ := nfL_cons hv
  obtain ⟨v1, v, rfl, h1, hv⟩ := nfL_cons hv
  obtain rfl := nfL_nil hv
  have hR : ∀ s, EndsX [.t 4] false (V.bool r) s → endQ [.t 4] false (V.bool r) .ret s := fun _ h => h
  unfold g.seicheref08_Same at hD
  unfold c_seicheref08_Same
  refine x_seq ?_
  refine x_start (b := false) ?_
  refine x_mv' (show _ = (V.bool false) from rfl) ?_
  refine x_done ?_
  refine x_tN ?_
  refine x_seq ?_
  refine x_seq ?_
  refine x_start (b := false) ?_
  refine x_mv h0 fun v8 hv8 => ?_
  refine x_len hv8 ?_
  refine x_mv h1 fun v9 hv9 => ?_
  refine x_len hv9 ?_
  refine x_bin (show _ = (V.int .i64 ((p0.length : Nat) : Int)) from rfl) (show _ = (V.int .i64 ((p1.length : Nat) : Int)) from rfl) b_neq ?_
  refine x_done ?_
  refine x_tN ?_
  by_cases hp10 : ((p0.length : Nat) : Int) = ((p1.length : Nat) : Int)
  · rw [if_pos hp10] at hD
    refine x_cf (show _ = (V.bool (!(decide (((p0.length : Nat) : Int) = ((p1.length : Nat) : Int))))) from rfl) (bnot_t (decide_eq_true hp10)) ?_
    refine x_skip ?_
    refine x_tN ?_
    refine x_seq ?_
    refine x_seq ?_
    refine x_start (b := false) ?_
    refine x_mv h0 fun v12 hv12 => ?_
    refine x_len hv12 ?_
    refine x_mv' (show _ = (V.int .i64 0) from rfl) ?_
    refine x_done ?_
    refine x_tN ?_
    refine x_block ?_
    by_cases hlen57 : p0.length ≤ Lim
    · rw [if_pos hlen57] at hD
      refine ok.seicheref08_Same_l1 (t1_15 := p1) (l13 := p0) (fun s56 hD => ?_) (fun _ hE => ?_) hlen57 _ 0 _ rfl (Nat.zero_le _) ?_ ?_ ?_ ?_ hD
      · refine x_bE ?_
        refine x_tN ?_
        refine x_seq ?_
        refine x_start (b := false) ?_
        refine x_mv' (show _ = (V.bool true) from rfl) ?_
        refine x_done ?_
        refine x_tN ?_
        refine x_retc ?_
        obtain rfl := Option.some.inj hD
        exact hR _ (ends_t (nf_of rfl (show _ = (V.bool true) from rfl)) (fun h => nomatch h))
      · refine x_bR ?_; refine x_tR ?_; exact hR _ hE
      · exact h0
      · exact (show _ = (V.int .i64 ((p0.length : Nat) : Int)) from rfl)
      · exact (show _ = (V.int .i64 0) from rfl)
      · exact h1
    · rw [if_neg hlen57] at hD; cases hD
  · rw [if_neg hp10] at hD
    refine x_ct (show _ = (V.bool (!(decide (((p0.length : Nat) : Int) = ((p1.length : Nat) : Int))))) from rfl) (bnot_f (decide_eq_false hp10)) ?_
    refine x_seq ?_
    refine x_start (b := false) ?_
    refine x_mv' (show _ = (V.bool false) from rfl) ?_
    refine x_done ?_
    refine x_tN ?_
    refine x_retc ?_
    refine x_tR ?_
    obtain rfl := Option.some.inj hD
    exact hR _ (ends_t (nf_of rfl (show _ = (V.bool false) from rfl)) (fun h => nomatch h))
def K.seicheref08_Same : FC := fc F.seicheref08_Same (fun _ => true) false (fun (a : ((List T.Input) × (List T.Input))) => [(V.sl false 33 (List.map E.Input a.1)), (V.sl false 33 (List.map E.Input a.2))]) (fun (y : Bool) => (V.bool y)) (fun a => g.seicheref08_Same a.1 a.2)
  (fun a => (cleanL_mk (E.LInput_clean _) (cleanL_mk (E.LInput_clean _) rfl)))
  (fun y => rfl)
  (fun ⟨a0, a1⟩ ⟨b0, b1⟩ h => by
    obtain ⟨h0, h⟩ := List.cons.inj h
    obtain rfl : a0 = b0 := E.LInput_inj h0
    obtain ⟨h0, h⟩ := List.cons.inj h
    obtain rfl : a1 = b1 := E.LInput_inj h0
    rfl)
theorem H.seicheref08_Same (w : World) (_hw : EnvOK w) : K.seicheref08_Same.Holds (cxD w) :=
  FC.holds_of (cs := []) (glD w) mixed cf_seicheref08_Same (fun _ _ ⟨_, _, h, _⟩ => by subst h; exact Nat.le_of_ble_eq_true rfl) fun v y ⟨a, r, hv, hD, hy⟩ => by
    subst hy
    exact ok.seicheref08_Same hv hD
theorem ld_Change_0_n (x : T.Change) : ldCells none (C.Change x) 0 = some (V.str x.Path) := by
  unfold C.Change
  rw [ld_left (le_len (show [(V.str x.Path)].length = 1 from rfl) (by decide))]
  exact (show _ = some (V.str x.Path) from rfl)
def c_seicheref09_Of_l1 : ACode := (.seq (.region [
  ⟨(some 15), (.bin .lss .no (.tmp 14) (.tmp 13)), none, []⟩] false) (.seq (.cond (.tmp 15) .skip (.exit 0)) (.seq (.block 1 (.seq (.region [
  ⟨(some 16), (.iaddr 33 (.tmp 12) (.tmp 14)), none, []⟩, 
  ⟨(some 17), (.load (some 33) (.tmp 16)), none, []⟩, 
  ⟨(some 7), (.new ((.str []) :: repl 32 (.int .u8 0))), none, []⟩, 
  ⟨none, (.store 33 (.tmp 7) (.tmp 17)), none, []⟩] false) (.seq (.region [
  ⟨(some 18), (.mv (.tmp 1)), none, []⟩, 
  ⟨(some 19), (.faddr 0 (.tmp 7)), none, []⟩, 
  ⟨(some 20), (.load none (.tmp 19)), none, []⟩, 
  ⟨(some 21), (.call F.seicheref09_At [(.tmp 18), (.tmp 20)]), none, []⟩, 
  ⟨(some 8), (.mv (.tmp 21)), none, []⟩] false) (.seq (.region [
  ⟨(some 22), (.mv (.tmp 8)), none, []⟩, 
  ⟨(some 23), (.bin .lss .no (.tmp 22) (.const (.int .i64 0))), none, []⟩] false) (.cond (.tmp 23) (.region [
  ⟨(some 24), (.mvo 5), none, []⟩, 
  ⟨(some 25), (.faddr 0 (.tmp 7)), none, []⟩, 
  ⟨(some 26), (.load none (.tmp 25)), none, []⟩, 
  ⟨(some 27), (.build [(.str []), (.int .i64 0)] [(0, (1, (.tmp 26))), (1, (1, (.const (.int .i64 2))))]), none, []⟩, 
  ⟨(some 28), (.bsl 2 [(.tmp 27)]), none, []⟩, 
  ⟨(some 29), (.app 2 (.tmp 24) (.tmp 28)), none, []⟩, 
  ⟨(some 5), (.mvo 29), none, []⟩] false) (.seq (.region [
  ⟨(some 30), (.mv (.tmp 1)), none, []⟩, 
  ⟨(some 31), (.mv (.tmp 8)), none, []⟩, 
  ⟨(some 32), (.iaddr 33 (.tmp 30) (.tmp 31)), none, []⟩, 
  ⟨(some 33), (.faddr 1 (.tmp 32)), none, []⟩, 
  ⟨(some 34), (.load (some 32) (.tmp 33)), none, []⟩, 
  ⟨(some 35), (.faddr 1 (.tmp 7)), none, []⟩, 
  ⟨(some 36), (.load (some 32) (.tmp 35)), none, []⟩, 
  ⟨(some 37), (.bin .neq (.flat (repl 32 ((some .u8), true))) (.tmp 34) (.tmp 36)), none, []⟩] true) (.cond (.tmp 37) (.region [
  ⟨(some 38), (.mvo 5), none, []⟩, 
  ⟨(some 39), (.faddr 0 (.tmp 7)), none, []⟩, 
  ⟨(some 40), (.load none (.tmp 39)), none, []⟩, 
  ⟨(some 41), (.build [(.str []), (.int .i64 0)] [(0, (1, (.tmp 40))), (1, (1, (.const (.int .i64 3))))]), none, []⟩, 
  ⟨(some 42), (.bsl 2 [(.tmp 41)]), none, []⟩, 
  ⟨(some 43), (.app 2 (.tmp 38) (.tmp 42)), none, []⟩, 
  ⟨(some 5), (.mvo 43), none, []⟩] false) .skip))))))) (.region [
  ⟨(some 44), (.bin .add .no (.tmp 14) (.const (.int .i64 1))), none, []⟩, 
  ⟨(some 14), (.mv (.tmp 44)), none, []⟩] false))))
def c_seicheref09_Of_l3 : ACode := (.seq (.seq (.region [
  ⟨(some 58), (.mv (.tmp 11)), none, []⟩, 
  ⟨(some 59), (.bin .gtr .no (.tmp 58) (.const (.int .i64 0))), none, []⟩, 
  ⟨(some 60), (.mv (.tmp 59)), none, []⟩, 
  ⟨(some 61), (.mv (.tmp 5)), (some (60, true)), []⟩, 
  ⟨(some 62), (.mv (.tmp 11)), (some (60, true)), []⟩, 
  ⟨(some 63), (.bin .sub .no (.tmp 62) (.const (.int .i64 1))), (some (60, true)), []⟩, 
  ⟨(some 64), (.iaddr 2 (.tmp 61) (.tmp 63)), (some (60, true)), []⟩, 
  ⟨(some 65), (.faddr 0 (.tmp 64)), (some (60, true)), []⟩, 
  ⟨(some 66), (.load none (.tmp 65)), (some (60, true)), []⟩, 
  ⟨(some 67), (.faddr 0 (.tmp 10)), (some (60, true)), []⟩, 
  ⟨(some 68), (.load none (.tmp 67)), (some (60, true)), []⟩, 
  ⟨(some 69), (.call F.seicheref06_Compare [(.tmp 66), (.tmp 68)]), (some (60, true)), []⟩, 
  ⟨(some 70), (.bin .gtr .no (.tmp 69) (.const (.int .i64 0))), (some (60, true)), []⟩, 
  ⟨(some 71), (.pick (.tmp 60) (.tmp 70) (.const (.bool false))), none, []⟩] true) (.cond (.tmp 71) .skip (.exit 4))) (.block 5 (.region [
  ⟨(some 72), (.mv (.tmp 11)), none, []⟩, 
  ⟨(some 73), (.bin .sub .no (.tmp 72) (.const (.int .i64 1))), none, []⟩, 
  ⟨(some 11), (.mv (.tmp 73)), none, []⟩] false)))
def c_seicheref09_Of_l2 : ACode := (.seq (.region [
  ⟨(some 48), (.bin .lss .no (.tmp 47) (.tmp 46)), none, []⟩] false) (.seq (.cond (.tmp 48) .skip (.exit 2)) (.seq (.block 3 (.seq (.region [
  ⟨(some 49), (.iaddr 33 (.tmp 45) (.tmp 47)), none, []⟩, 
  ⟨(some 50), (.load (some 33) (.tmp 49)), none, []⟩, 
  ⟨(some 10), (.new ((.str []) :: repl 32 (.int .u8 0))), none, []⟩, 
  ⟨none, (.store 33 (.tmp 10) (.tmp 50)), none, []⟩] false) (.seq (.seq (.region [
  ⟨(some 51), (.mv (.tmp 0)), none, []⟩, 
  ⟨(some 52), (.faddr 0 (.tmp 10)), none, []⟩, 
  ⟨(some 53), (.load none (.tmp 52)), none, []⟩, 
  ⟨(some 54), (.call F.seicheref09_At [(.tmp 51), (.tmp 53)]), none, []⟩, 
  ⟨(some 55), (.bin .geq .no (.tmp 54) (.const (.int .i64 0))), none, []⟩] false) (.cond (.tmp 55) (.exit 3) .skip)) (.seq (.region [
  ⟨(some 56), (.mv (.tmp 5)), none, []⟩, 
  ⟨(some 57), (.len false (.tmp 56)), none, []⟩, 
  ⟨(some 11), (.mv (.tmp 57)), none, []⟩] false) (.seq (.block 4 (.loop c_seicheref09_Of_l3)) (.region [
  ⟨(some 74), (.bsl 2 []), none, []⟩, 
  ⟨(some 75), (.mv (.tmp 5)), none, []⟩, 
  ⟨(some 76), (.mv (.tmp 11)), none, []⟩, 
  ⟨(some 77), (.slc 2 (.tmp 75) none (some (.tmp 76)) none), none, []⟩, 
  ⟨(some 78), (.app 2 (.tmp 74) (.tmp 77)), none, []⟩, 
  ⟨(some 79), (.faddr 0 (.tmp 10)), none, []⟩, 
  ⟨(some 80), (.load none (.tmp 79)), none, []⟩, 
  ⟨(some 81), (.build [(.str []), (.int .i64 0)] [(0, (1, (.tmp 80))), (1, (1, (.const (.int .i64 1))))]), none, []⟩, 
  ⟨(some 82), (.bsl 2 [(.tmp 81)]), none, []⟩, 
  ⟨(some 83), (.app 2 (.tmp 78) (.tmp 82)), none, []⟩, 
  ⟨(some 84), (.mv (.tmp 5)), none, []⟩, 
  ⟨(some 85), (.mv (.tmp 11)), none, []⟩, 
  ⟨(some 86), (.slc 2 (.tmp 84) (some (.tmp 85)) none none), none, []⟩, 
  ⟨(some 87), (.app 2 (.tmp 83) (.tmp 86)), none, []⟩, 
  ⟨(some 5), (.mvo 87), none, []⟩] true)))))) (.region [
  ⟨(some 88), (.bin .add .no (.tmp 47) (.const (.int .i64 1))), none, []⟩, 
  ⟨(some 47), (.mv (.tmp 88)), none, []⟩] false))))
def c_seicheref09_Of : ACode := (.seq (.region [
  ⟨(some 4), (.mv (.const (.sl true 2 []))), none, []⟩] false) (.seq (.region [
  ⟨(some 5), (.mv (.const (.sl true 2 []))), none, []⟩] false) (.seq (.seq (.region [
  ⟨(some 12), (.mv (.tmp 0)), none, []⟩, 
  ⟨(some 13), (.len false (.tmp 12)), none, []⟩, 
  ⟨(some 14), (.mv (.const (.int .i64 0))), none, []⟩] false) (.block 0 (.loop c_seicheref09_Of_l1))) (.seq (.seq (.region [
  ⟨(some 45), (.mv (.tmp 1)), none, []⟩, 
  ⟨(some 46), (.len false (.tmp 45)), none, []⟩, 
  ⟨(some 47), (.mv (.const (.int .i64 0))), none, []⟩] false) (.block 2 (.loop c_seicheref09_Of_l2))) (.seq (.region [
  ⟨(some 89), (.mvo 5), none, []⟩, 
  ⟨(some 4), (.mvo 89), none, []⟩] false) .ret)))))
theorem cf_seicheref09_Of : cFn Go.Proofs.Tryd.prog F.seicheref09_Of = some ⟨90, c_seicheref09_Of, [.t 4]⟩ := by kernel_rfl
def L.seicheref09_Of_l1 (t1_71 : (List T.Input)) (k0 : (List T.Change) → Option (List T.Change)) : List T.Input → (List T.Change) → Option (List T.Change)
  | [], t5_132 =>
    k0 t5_132
  | a137 :: rest, t5_132 =>
    (g.seicheref09_At t1_71 a137.Path).bind fun r154 =>
    if r154 < 0 then
      (appL t5_132 ([({ Path := a137.Path, Kind := 2 } : T.Change)] : (List T.Change))).bind fun l161 =>
      L.seicheref09_Of_l1 t1_71 k0 rest l161
    else
      (at? t1_71 r154).bind fun a173 =>
      if a173.Id = a137.Id then
        L.seicheref09_Of_l1 t1_71 k0 rest t5_132
      else
        (appL t5_132 ([({ Path := a137.Path, Kind := 3 } : T.Change)] : (List T.Change))).bind fun l184 =>
        L.seicheref09_Of_l1 t1_71 k0 rest l184
theorem ok.seicheref09_Of_l1 {Γ : Abs.Spec} {gl : Glob} (hC_seicheref09_At : CallsX Γ K.seicheref09_At) (hC_seicheref06_Compare : CallsX Γ K.seicheref06_Compare) {Q : Ex → St → Prop} {r : (List T.Change)} {t1_71 : (List T.Input)} {l69 : List T.Input} {k0 : (List T.Change) → Option (List T.Change)}
    (hk0 : ∀ (s : St) (t5_195 : (List T.Change)), ((s.tm 0).nf = (V.sl false 33 (List.map E.Input l69))) → ((s.tm 1).nf = (V.sl false 33 (List.map E.Input t1_71))) → ((s.tm 5).nf = (V.sl false 2 (List.map E.Change t5_195))) → (OwnS s 5) → k0 t5_195 = some r → Q (.exit 0) s)
    (hR : ∀ s, EndsX [.t 4] true (V.sl false 2 (List.map E.Change r)) s → Q .ret s)
    (hlen : l69.length ≤ Lim) : ∀ (rest : List T.Input) (k70 : Nat) (s : St) (t5_132 : (List T.Change)), l69.drop k70 = rest → k70 ≤ l69.length →
    ((s.tm 12).nf = V.sl false 33 (List.map E.Input l69)) → (s.tm 13 = V.int .i64 ((l69.length : Nat) : Int)) → (s.tm 14 = V.int .i64 ((k70 : Nat) : Int)) → ((s.tm 0).nf = (V.sl false 33 (List.map E.Input l69))) → ((s.tm 1).nf = (V.sl false 33 (List.map E.Input t1_71))) → ((s.tm 5).nf = (V.sl false 2 (List.map E.Change t5_132))) → (OwnS s 5) →
    L.seicheref09_Of_l1 t1_71 k0 rest t5_132 = some r → awp Γ gl (.loop c_seicheref09_Of_l1) Q s := by
  intro rest
  induction rest with
  | nil =>
    intro k70 s t5_132 hdrop hkl hX hN hI h129 h130 h131 h131o hD
    have hkz := drop_nil hdrop hkl
    have hp0 : ¬ (((k70 : Nat) : Int) < ((l69.length : Nat) : Int)) := by omega
    refine awp_roundK fun K hK => ?_
    rw [L.seicheref09_Of_l1] at hD
    refine x_seq ?_
    refine x_start (b := false) ?_
    refine x_bin hI hN b_lss ?_
    refine x_done ?_
    refine x_tN ?_
    refine x_seq ?_
    refine x_cf (show _ = (V.bool (decide (((k70 : Nat) : Int) < ((l69.length : Nat) : Int)))) from rfl) (decide_eq_false hp0) ?_
    refine x_exitc ?_
    refine x_tE ?_
    refine x_tE ?_
    refine hk0 _ _ ?_ ?_ ?_ ?_ hD
    · exact h129
    · exact h130
    · exact h131
    · exact h131o
  | cons a137 rest ih =>
    intro k70 s t5_132 hdrop hkl hX hN hI h129 h130 h131 h131o hD
    obtain ⟨hlt, -, hget, hdrop1, -⟩ := drop_cons hdrop
    have hp1 : ((k70 : Nat) : Int) < ((l69.length : Nat) : Int) := by omega
    have hwk := wi_succ (k := k70) (by unfold Lim at hlen; omega)
    refine awp_roundK fun K hK => ?_
    rw [L.seicheref09_Of_l1] at hD
    refine x_seq ?_
    refine x_start (b := false) ?_
    refine x_bin hI hN b_lss ?_
    refine x_done ?_
    refine x_tN ?_
    refine x_seq ?_
    refine x_ct (show _ = (V.bool (decide (((k70 : Nat) : Int) < ((l69.length : Nat) : Int)))) from rfl) (decide_eq_true hp1) ?_
    refine x_skip ?_
    refine x_tN ?_
    refine x_seq ?_
    refine x_block ?_
    refine x_seq ?_
    refine x_start (b := false) ?_
    refine x_iaddr hX hI (at_k hget) fun v142 (hv142 : v142.nf = V.el (C.Input a137) 0) => ?_
    refine x_load_el hv142 (ld_Input_0_33 a137) fun v143 hv143 => ?_
    refine x_new (l := (C.Input ({ Path := [], Id := (Arr.zero 32) } : T.Input))) (by kernel_rfl) fun i144 hidi144 hci144 => ?_
    refine x_store (ws := (C.Input a137)) (l' := (C.Input a137)) (show _ = (V.ptr i144 0) from rfl) hci144 (cells_of rfl hv143) ⟨(C.Input_len a137), (C.Input_sc a137), le_len (C.Input_len ({ Path := [], Id := (Arr.zero 32) } : T.Input)) (by decide)⟩ (setAt_full (Eq.trans (C.Input_len a137) (Eq.symm (C.Input_len ({ Path := [], Id := (Arr.zero 32) } : T.Input))))) fun csv145 ysv145 hcsv145 hnv145 hcv145 hsv145 => ?_
    refine x_done ?_
    refine x_tN ?_
    refine x_seq ?_
    refine x_start (b := false) ?_
    refine x_mv h130 fun v151 hv151 => ?_
    refine x_faddr (show _ = (V.ptr i144 0) from rfl) ?_
    refine x_load (show _ = (V.ptr i144 0) from rfl) hcv145 (ld_Input_0_n a137) fun v152 hv152 => ?_
    obtain ⟨r154, hx155, hD⟩ := Option.bind_eq_some_iff.1 hD
    refine x_callF hC_seicheref09_At (a := (t1_71, a137.Path)) (cons_eq hv151 (cons_eq (nf_of rfl (nf_str hv152)) rfl)) hx155 fun v153 ov153 (hv153 : v153.nf = (V.int .i64 r154)) hov153 => ?_
    refine x_mv' (nf_int hv153) ?_
    refine x_done ?_
    refine x_tN ?_
    refine x_seq ?_
    refine x_start (b := false) ?_
    refine x_mv' (show _ = (V.int .i64 r154) from rfl) ?_
    refine x_bin (show _ = (V.int .i64 r154) from rfl) (show _ = (V.int .i64 0) from rfl) b_lss ?_
    refine x_done ?_
    refine x_tN ?_
    by_cases hp156 : r154 < 0
    · rw [if_pos hp156] at hD
      refine x_ct (show _ = (V.bool (decide (r154 < 0))) from rfl) (decide_eq_true hp156) ?_
      refine x_start (b := false) ?_
      refine x_mvo h131 fun v157 ov157 hv157 hwv157 => ?_
      refine x_faddr (show _ = (V.ptr i144 0) from rfl) ?_
      refine x_load (show _ = (V.ptr i144 0) from rfl) hcv145 (ld_Input_0_n a137) fun v158 hv158 => ?_
      refine x_build (ws := [(0, 1, (V.str a137.Path)), (1, 1, (V.int .i64 2))]) (l := C.Change ({ Path := a137.Path, Kind := 2 } : T.Change)) (part_eq (nf_of rfl (nf_str hv158)) (part_eq (nf_of rfl (show _ = (V.int .i64 2) from rfl)) rfl)) (fill_from (by kernel_rfl : _ = C.Change ({ Path := [], Kind := 0 } : T.Change)) (fill_step (set_Change_0_1 ({ Path := [], Kind := 0 } : T.Change) a137.Path) ⟨(show [(V.str a137.Path)].length = 1 from rfl), rfl, le_len (C.Change_len ({ Path := [], Kind := 0 } : T.Change)) (by decide)⟩ (fill_step (set_Change_1_1 ({ ({ Path := [], Kind := 0 } : T.Change) with Path := a137.Path } : T.Change) 2) ⟨(show [(V.int .i64 2)].length = 1 from rfl), rfl, le_len (C.Change_len ({ ({ Path := [], Kind := 0 } : T.Change) with Path := a137.Path } : T.Change)) (by decide)⟩ fill_nil))) fun v159 hv159 hnv159 => ?_
      refine x_bsl (E := E.Change) (l := ([({ Path := a137.Path, Kind := 2 } : T.Change)] : (List T.Change))) (cons_eq hv159 rfl) (fits_map (E := E.Change) (sz := 2) (fun x => E.Change_fit x) _) fun v160 ov160 hv160 hov160 => ?_
      obtain ⟨l161, hx162, hD⟩ := Option.bind_eq_some_iff.1 hD
      refine x_app hv157 (hwv157 h131o) (tail_sl hv160) hx162 fun v163 ov163 fv163 hv163 hov163 hfv163 => ?_
      refine x_mvo hv163 fun v164 ov164 hv164 hwv164 => ?_
      refine x_done ?_
      refine x_bN ?_
      refine x_tN ?_
      refine x_start (b := false) ?_
      refine x_bin hI (show _ = (V.int .i64 1) from rfl) b_add ?_
      refine x_mv' (show _ = (V.int .i64 (wi (((k70 : Nat) : Int) + 1))) from rfl) ?_
      refine x_done ?_
      refine x_tN ?_
      refine hK _ ?_
      refine ih (k70 + 1) _ _ hdrop1 hlt ?_ ?_ ?_ ?_ ?_ ?_ ?_ hD
      · exact hX
      · exact hN
      · exact (Eq.trans (show _ = (V.int .i64 (wi (((k70 : Nat) : Int) + 1))) from rfl) (congrArg (V.int .i64) hwk))
      · exact h129
      · exact h130
      · exact hv164
      · exact (hwv164 hov163)
    · rw [if_neg hp156] at hD
      refine x_cf (show _ = (V.bool (decide (r154 < 0))) from rfl) (decide_eq_false hp156) ?_
      refine x_seq ?_
      refine x_start (b := true) ?_
      refine x_mv h130 fun v172 hv172 => ?_
      refine x_mv' (show _ = (V.int .i64 r154) from rfl) ?_
      obtain ⟨a173, hx174, hD⟩ := Option.bind_eq_some_iff.1 hD
      refine x_iaddr hv172 (show _ = (V.int .i64 r154) from rfl) hx174 fun v175 (hv175 : v175.nf = V.el (C.Input a173) 0) => ?_
      refine x_faddr_el hv175 fun v176 (hv176 : v176.nf = V.el (C.Input a173) 1) => ?_
      refine x_load_el hv176 (ld_Input_1_32 a173) fun v177 hv177 => ?_
      refine x_faddr (show _ = (V.ptr i144 0) from rfl) ?_
      refine x_load (show _ = (V.ptr i144 1) from rfl) hcv145 (ld_Input_1_32 a137) fun v178 hv178 => ?_
      refine x_fne hv177 hv178 (flatEq_arr true _ _) ?_
      refine x_done ?_
      refine x_tN ?_
      by_cases hp179 : a173.Id = a137.Id
      · rw [if_pos hp179] at hD
        refine x_cf (show _ = (V.bool (!(decide (a173.Id = a137.Id)))) from rfl) (bnot_t (decide_eq_true hp179)) ?_
        refine x_skip ?_
        refine x_bN ?_
        refine x_tN ?_
        refine x_start (b := false) ?_
        refine x_bin hI (show _ = (V.int .i64 1) from rfl) b_add ?_
        refine x_mv' (show _ = (V.int .i64 (wi (((k70 : Nat) : Int) + 1))) from rfl) ?_
        refine x_done ?_
        refine x_tN ?_
        refine hK _ ?_
        refine ih (k70 + 1) _ _ hdrop1 hlt ?_ ?_ ?_ ?_ ?_ ?_ ?_ hD
        · exact hX
        · exact hN
        · exact (Eq.trans (show _ = (V.int .i64 (wi (((k70 : Nat) : Int) + 1))) from rfl) (congrArg (V.int .i64) hwk))
        · exact h129
        · exact h130
        · exact h131
        · exact h131o
      · rw [if_neg hp179] at hD
        refine x_ct (show _ = (V.bool (!(decide (a173.Id = a137.Id)))) from rfl) (bnot_f (decide_eq_false hp179)) ?_
        refine x_start (b := false) ?_
        refine x_mvo h131 fun v180 ov180 hv180 hwv180 => ?_
        refine x_faddr (show _ = (V.ptr i144 0) from rfl) ?_
        refine x_load (show _ = (V.ptr i144 0) from rfl) hcv145 (ld_Input_0_n a137) fun v181 hv181 => ?_
        refine x_build (ws := [(0, 1, (V.str a137.Path)), (1, 1, (V.int .i64 3))]) (l := C.Change ({ Path := a137.Path, Kind := 3 } : T.Change)) (part_eq (nf_of rfl (nf_str hv181)) (part_eq (nf_of rfl (show _ = (V.int .i64 3) from rfl)) rfl)) (fill_from (by kernel_rfl : _ = C.Change ({ Path := [], Kind := 0 } : T.Change)) (fill_step (set_Change_0_1 ({ Path := [], Kind := 0 } : T.Change) a137.Path) ⟨(show [(V.str a137.Path)].length = 1 from rfl), rfl, le_len (C.Change_len ({ Path := [], Kind := 0 } : T.Change)) (by decide)⟩ (fill_step (set_Change_1_1 ({ ({ Path := [], Kind := 0 } : T.Change) with Path := a137.Path } : T.Change) 3) ⟨(show [(V.int .i64 3)].length = 1 from rfl), rfl, le_len (C.Change_len ({ ({ Path := [], Kind := 0 } : T.Change) with Path := a137.Path } : T.Change)) (by decide)⟩ fill_nil))) fun v182 hv182 hnv182 => ?_
        refine x_bsl (E := E.Change) (l := ([({ Path := a137.Path, Kind := 3 } : T.Change)] : (List T.Change))) (cons_eq hv182 rfl) (fits_map (E := E.Change) (sz := 2) (fun x => E.Change_fit x) _) fun v183 ov183 hv183 hov183 => ?_
        obtain ⟨l184, hx185, hD⟩ := Option.bind_eq_some_iff.1 hD
        refine x_app hv180 (hwv180 h131o) (tail_sl hv183) hx185 fun v186 ov186 fv186 hv186 hov186 hfv186 => ?_
        refine x_mvo hv186 fun v187 ov187 hv187 hwv187 => ?_
        refine x_done ?_
        refine x_bN ?_
        refine x_tN ?_
        refine x_start (b := false) ?_
        refine x_bin hI (show _ = (V.int .i64 1) from rfl) b_add ?_
        refine x_mv' (show _ = (V.int .i64 (wi (((k70 : Nat) : Int) + 1))) from rfl) ?_
        refine x_done ?_
        refine x_tN ?_
        refine hK _ ?_
        refine ih (k70 + 1) _ _ hdrop1 hlt ?_ ?_ ?_ ?_ ?_ ?_ ?_ hD
        · exact hX
        · exact hN
        · exact (Eq.trans (show _ = (V.int .i64 (wi (((k70 : Nat) : Int) + 1))) from rfl) (congrArg (V.int .i64) hwk))
        · exact h129
        · exact h130
        · exact hv187
        · exact (hwv187 hov186)
def L.seicheref09_Of_l3 (t5_504 : (List T.Change)) (k0 : T.Input → Int → Option (List T.Change)) : Nat → T.Input → Int → Option (List T.Change)
  | 0, _, _ => none
  | n + 1, x561, t11_567 =>
    if 0 < t11_567 then
      (at? t5_504 (wi (t11_567 - 1))).bind fun a617 =>
      (g.seicheref06_Compare a617.Path x561.Path).bind fun r624 =>
      if 0 < r624 then
        L.seicheref09_Of_l3 t5_504 k0 n x561 (wi (t11_567 - 1))
      else
        k0 x561 t11_567
    else
      k0 x561 t11_567
theorem ok.seicheref09_Of_l3 {Γ : Abs.Spec} {gl : Glob} (hC_seicheref09_At : CallsX Γ K.seicheref09_At) (hC_seicheref06_Compare : CallsX Γ K.seicheref06_Compare) {Q : Ex → St → Prop} {r : (List T.Change)} {t0_204 : (List T.Input)} {l202 : List T.Input} {k203 : Nat} {t5_504 : (List T.Change)} {k0 : T.Input → Int → Option (List T.Change)}
    (hk0 : ∀ (s : St) (i638 : Nat) (x637 : T.Input) (t11_643 : Int), (i638 < s.nH) → (Cells s i638 (C.Input x637)) → ((s.tm 0).nf = (V.sl false 33 (List.map E.Input t0_204))) → ((s.tm 5).nf = (V.sl false 2 (List.map E.Change t5_504))) → (OwnS s 5) → (s.tm 10 = (V.ptr i638 0)) → (s.tm 11 = (V.int .i64 t11_643)) → ((s.tm 45).nf = (V.sl false 33 (List.map E.Input l202))) → (s.tm 46 = (V.int .i64 ((l202.length : Nat) : Int))) → (s.tm 47 = (V.int .i64 ((k203 : Nat) : Int))) → k0 x637 t11_643 = some r → Q (.exit 4) s)
    (hR : ∀ s, EndsX [.t 4] true (V.sl false 2 (List.map E.Change r)) s → Q .ret s) : ∀ (n : Nat) (s : St) (i562 : Nat) (x561 : T.Input) (t11_567 : Int),
    (i562 < s.nH) → (Cells s i562 (C.Input x561)) → ((s.tm 0).nf = (V.sl false 33 (List.map E.Input t0_204))) → ((s.tm 5).nf = (V.sl false 2 (List.map E.Change t5_504))) → (OwnS s 5) → (s.tm 10 = (V.ptr i562 0)) → (s.tm 11 = (V.int .i64 t11_567)) → ((s.tm 45).nf = (V.sl false 33 (List.map E.Input l202))) → (s.tm 46 = (V.int .i64 ((l202.length : Nat) : Int))) → (s.tm 47 = (V.int .i64 ((k203 : Nat) : Int))) → L.seicheref09_Of_l3 t5_504 k0 n x561 t11_567 = some r → awp Γ gl (.loop c_seicheref09_Of_l3) Q s := by
  intro n
  induction n with
  | zero => intro s i562 x561 t11_567 hli562 hci562 h563 h564 h564o h565 h566 h568 h569 h570 hD; rw [L.seicheref09_Of_l3] at hD; cases hD
  | succ n ih =>
    intro s i562 x561 t11_567 hli562 hci562 h563 h564 h564o h565 h566 h568 h569 h570 hD
    refine awp_roundK fun K hK => ?_
    rw [L.seicheref09_Of_l3] at hD
    refine x_seq ?_
    refine x_seq ?_
    refine x_start (b := true) ?_
    refine x_mv' h566 ?_
    refine x_bin (show _ = (V.int .i64 t11_567) from rfl) (show _ = (V.int .i64 0) from rfl) b_gtr ?_
    refine x_mv' (show _ = (V.bool (decide (0 < t11_567))) from rfl) ?_
    by_cases hp615 : 0 < t11_567
    · rw [if_pos hp615] at hD
      refine x_gy (show _ = (V.bool (decide (0 < t11_567))) from rfl) (decide_eq_true hp615) ?_
      refine x_mv h564 fun v616 hv616 => ?_
      refine x_gy (show _ = (V.bool (decide (0 < t11_567))) from rfl) (decide_eq_true hp615) ?_
      refine x_mv' h566 ?_
      refine x_gy (show _ = (V.bool (decide (0 < t11_567))) from rfl) (decide_eq_true hp615) ?_
      refine x_bin (show _ = (V.int .i64 t11_567) from rfl) (show _ = (V.int .i64 1) from rfl) b_sub ?_
      refine x_gy (show _ = (V.bool (decide (0 < t11_567))) from rfl) (decide_eq_true hp615) ?_
      obtain ⟨a617, hx618, hD⟩ := Option.bind_eq_some_iff.1 hD
      refine x_iaddr hv616 (show _ = (V.int .i64 (wi (t11_567 - 1))) from rfl) hx618 fun v619 (hv619 : v619.nf = V.el (C.Change a617) 0) => ?_
      refine x_gy (show _ = (V.bool (decide (0 < t11_567))) from rfl) (decide_eq_true hp615) ?_
      refine x_faddr_el hv619 fun v620 (hv620 : v620.nf = V.el (C.Change a617) 0) => ?_
      refine x_gy (show _ = (V.bool (decide (0 < t11_567))) from rfl) (decide_eq_true hp615) ?_
      refine x_load_el hv620 (ld_Change_0_n a617) fun v621 hv621 => ?_
      refine x_gy (show _ = (V.bool (decide (0 < t11_567))) from rfl) (decide_eq_true hp615) ?_
      refine x_faddr h565 ?_
      refine x_gy (show _ = (V.bool (decide (0 < t11_567))) from rfl) (decide_eq_true hp615) ?_
      refine x_load (show _ = (V.ptr i562 0) from rfl) hci562 (ld_Input_0_n x561) fun v622 hv622 => ?_
      refine x_gy (show _ = (V.bool (decide (0 < t11_567))) from rfl) (decide_eq_true hp615) ?_
      obtain ⟨r624, hx625, hD⟩ := Option.bind_eq_some_iff.1 hD
      refine x_callF hC_seicheref06_Compare (a := (a617.Path, x561.Path)) (cons_eq (nf_of rfl (nf_str hv621)) (cons_eq (nf_of rfl (nf_str hv622)) rfl)) hx625 fun v623 ov623 (hv623 : v623.nf = (V.int .i64 r624)) hov623 => ?_
      refine x_gy (show _ = (V.bool (decide (0 < t11_567))) from rfl) (decide_eq_true hp615) ?_
      refine x_bin (nf_int hv623) (show _ = (V.int .i64 0) from rfl) b_gtr ?_
      refine x_pickt' (show _ = (V.bool (decide (0 < t11_567))) from rfl) (decide_eq_true hp615) (show _ = (V.bool (decide (0 < r624))) from rfl) ?_
      refine x_done ?_
      refine x_tN ?_
      by_cases hp626 : 0 < r624
      · rw [if_pos hp626] at hD
        refine x_ct (show _ = (V.bool (decide (0 < r624))) from rfl) (decide_eq_true hp626) ?_
        refine x_skip ?_
        refine x_tN ?_
        refine x_block ?_
        refine x_start (b := false) ?_
        refine x_mv' h566 ?_
        refine x_bin (show _ = (V.int .i64 t11_567) from rfl) (show _ = (V.int .i64 1) from rfl) b_sub ?_
        refine x_mv' (show _ = (V.int .i64 (wi (t11_567 - 1))) from rfl) ?_
        refine x_done ?_
        refine x_bN ?_
        refine x_tN ?_
        refine hK _ ?_
        refine ih _ i562 _ _ ?_ ?_ ?_ ?_ ?_ ?_ ?_ ?_ ?_ ?_ hD
        · exact hli562
        · exact hci562
        · exact h563
        · exact h564
        · exact h564o
        · exact h565
        · exact (show _ = (V.int .i64 (wi (t11_567 - 1))) from rfl)
        · exact h568
        · exact h569
        · exact h570
      · rw [if_neg hp626] at hD
        refine x_cf (show _ = (V.bool (decide (0 < r624))) from rfl) (decide_eq_false hp626) ?_
        refine x_exitc ?_
        refine x_tE ?_
        refine x_tE ?_
        refine hk0 _ i562 _ _ ?_ ?_ ?_ ?_ ?_ ?_ ?_ ?_ ?_ ?_ hD
        · exact hli562
        · exact hci562
        · exact h563
        · exact h564
        · exact h564o
        · exact h565
        · exact h566
        · exact h568
        · exact h569
        · exact h570
    · rw [if_neg hp615] at hD
      refine x_gn (show _ = (V.bool (decide (0 < t11_567))) from rfl) (decide_eq_false hp615) ?_
      refine x_gn (show _ = (V.bool (decide (0 < t11_567))) from rfl) (decide_eq_false hp615) ?_
      refine x_gn (show _ = (V.bool (decide (0 < t11_567))) from rfl) (decide_eq_false hp615) ?_
      refine x_gn (show _ = (V.bool (decide (0 < t11_567))) from rfl) (decide_eq_false hp615) ?_
      refine x_gn (show _ = (V.bool (decide (0 < t11_567))) from rfl) (decide_eq_false hp615) ?_
      refine x_gn (show _ = (V.bool (decide (0 < t11_567))) from rfl) (decide_eq_false hp615) ?_
      refine x_gn (show _ = (V.bool (decide (0 < t11_567))) from rfl) (decide_eq_false hp615) ?_
      refine x_gn (show _ = (V.bool (decide (0 < t11_567))) from rfl) (decide_eq_false hp615) ?_
      refine x_gn (show _ = (V.bool (decide (0 < t11_567))) from rfl) (decide_eq_false hp615) ?_
      refine x_gn (show _ = (V.bool (decide (0 < t11_567))) from rfl) (decide_eq_false hp615) ?_
      refine x_pickf' (show _ = (V.bool (decide (0 < t11_567))) from rfl) (decide_eq_false hp615) (show _ = (V.bool false) from rfl) ?_
      refine x_done ?_
      refine x_tN ?_
      refine x_cf (show _ = (V.bool false) from rfl) rfl ?_
      refine x_exitc ?_
      refine x_tE ?_
      refine x_tE ?_
      refine hk0 _ i562 _ _ ?_ ?_ ?_ ?_ ?_ ?_ ?_ ?_ ?_ ?_ hD
      · exact hli562
      · exact hci562
      · exact h563
      · exact h564
      · exact h564o
      · exact h565
      · exact h566
      · exact h568
      · exact h569
      · exact h570
def L.seicheref09_Of_l2 (t0_204 : (List T.Input)) (k0 : (List T.Change) → Option (List T.Change)) : List T.Input → (List T.Change) → Option (List T.Change)
  | [], t5_401 =>
    k0 t5_401
  | a404 :: rest, t5_401 =>
    (g.seicheref09_At t0_204 a404.Path).bind fun r432 =>
    if 0 ≤ r432 then
      L.seicheref09_Of_l2 t0_204 k0 rest t5_401
    else
      L.seicheref09_Of_l3 t5_401 (fun (x647 : T.Input) (t11_653 : Int) => (cut t5_401 0 t11_653).bind fun q659 =>
      (appL ([] : (List T.Change)) q659).bind fun l662 =>
      (appL l662 ([({ Path := x647.Path, Kind := 1 } : T.Change)] : (List T.Change))).bind fun l668 =>
      (cut t5_401 t11_653 (t5_401.length : Nat)).bind fun q672 =>
      (appL l668 q672).bind fun l675 =>
      L.seicheref09_Of_l2 t0_204 k0 rest l675) fuel a404 ((t5_401.length : Nat) : Int)
theorem ok.seicheref09_Of_l2 {Γ : Abs.Spec} {gl : Glob} (hC_seicheref09_At : CallsX Γ K.seicheref09_At) (hC_seicheref06_Compare : CallsX Γ K.seicheref06_Compare) {Q : Ex → St → Prop} {r : (List T.Change)} {t0_204 : (List T.Input)} {l202 : List T.Input} {k0 : (List T.Change) → Option (List T.Change)}
    (hk0 : ∀ (s : St) (t5_683 : (List T.Change)), ((s.tm 5).nf = (V.sl false 2 (List.map E.Change t5_683))) → (OwnS s 5) → k0 t5_683 = some r → Q (.exit 2) s)
    (hR : ∀ s, EndsX [.t 4] true (V.sl false 2 (List.map E.Change r)) s → Q .ret s)
    (hlen : l202.length ≤ Lim) : ∀ (rest : List T.Input) (k203 : Nat) (s : St) (t5_401 : (List T.Change)), l202.drop k203 = rest → k203 ≤ l202.length →
    ((s.tm 45).nf = V.sl false 33 (List.map E.Input l202)) → (s.tm 46 = V.int .i64 ((l202.length : Nat) : Int)) → (s.tm 47 = V.int .i64 ((k203 : Nat) : Int)) → ((s.tm 0).nf = (V.sl false 33 (List.map E.Input t0_204))) → ((s.tm 5).nf = (V.sl false 2 (List.map E.Change t5_401))) → (OwnS s 5) →
    L.seicheref09_Of_l2 t0_204 k0 rest t5_401 = some r → awp Γ gl (.loop c_seicheref09_Of_l2) Q s := by
  intro rest
  induction rest with
  | nil =>
    intro k203 s t5_401 hdrop hkl hX hN hI h399 h400 h400o hD
    have hkz := drop_nil hdrop hkl
    have hp0 : ¬ (((k203 : Nat) : Int) < ((l202.length : Nat) : Int)) := by omega
    refine awp_roundK fun K hK => ?_
    rw [L.seicheref09_Of_l2] at hD
    refine x_seq ?_
    refine x_start (b := false) ?_
    refine x_bin hI hN b_lss ?_
    refine x_done ?_
    refine x_tN ?_
    refine x_seq ?_
    refine x_cf (show _ = (V.bool (decide (((k203 : Nat) : Int) < ((l202.length : Nat) : Int)))) from rfl) (decide_eq_false hp0) ?_
    refine x_exitc ?_
    refine x_tE ?_
    refine x_tE ?_
    refine hk0 _ _ ?_ ?_ hD
    · exact h400
    · exact h400o
  | cons a404 rest ih =>
    intro k203 s t5_401 hdrop hkl hX hN hI h399 h400 h400o hD
    obtain ⟨hlt, -, hget, hdrop1, -⟩ := drop_cons hdrop
    have hp1 : ((k203 : Nat) : Int) < ((l202.length : Nat) : Int) := by omega
    have hwk := wi_succ (k := k203) (by unfold Lim at hlen; omega)
    refine awp_roundK fun K hK => ?_
    rw [L.seicheref09_Of_l2] at hD
    refine x_seq ?_
    refine x_start (b := false) ?_
    refine x_bin hI hN b_lss ?_
    refine x_done ?_
    refine x_tN ?_
    refine x_seq ?_
    refine x_ct (show _ = (V.bool (decide (((k203 : Nat) : Int) < ((l202.length : Nat) : Int)))) from rfl) (decide_eq_true hp1) ?_
    refine x_skip ?_
    refine x_tN ?_
    refine x_seq ?_
    refine x_block ?_
    refine x_seq ?_
    refine x_start (b := false) ?_
    refine x_iaddr hX hI (at_k hget) fun v409 (hv409 : v409.nf = V.el (C.Input a404) 0) => ?_
    refine x_load_el hv409 (ld_Input_0_33 a404) fun v410 hv410 => ?_
    refine x_new (l := (C.Input ({ Path := [], Id := (Arr.zero 32) } : T.Input))) (by kernel_rfl) fun i411 hidi411 hci411 => ?_
    refine x_store (ws := (C.Input a404)) (l' := (C.Input a404)) (show _ = (V.ptr i411 0) from rfl) hci411 (cells_of rfl hv410) ⟨(C.Input_len a404), (C.Input_sc a404), le_len (C.Input_len ({ Path := [], Id := (Arr.zero 32) } : T.Input)) (by decide)⟩ (setAt_full (Eq.trans (C.Input_len a404) (Eq.symm (C.Input_len ({ Path := [], Id := (Arr.zero 32) } : T.Input))))) fun csv412 ysv412 hcsv412 hnv412 hcv412 hsv412 => ?_
    refine x_done ?_
    refine x_tN ?_
    refine x_seq ?_
    refine x_seq ?_
    refine x_start (b := false) ?_
    refine x_mv h399 fun v429 hv429 => ?_
    refine x_faddr (show _ = (V.ptr i411 0) from rfl) ?_
    refine x_load (show _ = (V.ptr i411 0) from rfl) hcv412 (ld_Input_0_n a404) fun v430 hv430 => ?_
    obtain ⟨r432, hx433, hD⟩ := Option.bind_eq_some_iff.1 hD
    refine x_callF hC_seicheref09_At (a := (t0_204, a404.Path)) (cons_eq hv429 (cons_eq (nf_of rfl (nf_str hv430)) rfl)) hx433 fun v431 ov431 (hv431 : v431.nf = (V.int .i64 r432)) hov431 => ?_
    refine x_bin (nf_int hv431) (show _ = (V.int .i64 0) from rfl) b_geq ?_
    refine x_done ?_
    refine x_tN ?_
    by_cases hp434 : 0 ≤ r432
    · rw [if_pos hp434] at hD
      refine x_ct (show _ = (V.bool (decide (0 ≤ r432))) from rfl) (decide_eq_true hp434) ?_
      refine x_exitc ?_
      refine x_tE ?_
      refine x_bE ?_
      refine x_tN ?_
      refine x_start (b := false) ?_
      refine x_bin hI (show _ = (V.int .i64 1) from rfl) b_add ?_
      refine x_mv' (show _ = (V.int .i64 (wi (((k203 : Nat) : Int) + 1))) from rfl) ?_
      refine x_done ?_
      refine x_tN ?_
      refine hK _ ?_
      refine ih (k203 + 1) _ _ hdrop1 hlt ?_ ?_ ?_ ?_ ?_ ?_ hD
      · exact hX
      · exact hN
      · exact (Eq.trans (show _ = (V.int .i64 (wi (((k203 : Nat) : Int) + 1))) from rfl) (congrArg (V.int .i64) hwk))
      · exact h399
      · exact h400
      · exact h400o
    · rw [if_neg hp434] at hD
      refine x_cf (show _ = (V.bool (decide (0 ≤ r432))) from rfl) (decide_eq_false hp434) ?_
      refine x_skip ?_
      refine x_tN ?_
      refine x_seq ?_
      refine x_start (b := false) ?_
      refine x_mv h400 fun v436 hv436 => ?_
      refine x_len hv436 ?_
      refine x_mv' (show _ = (V.int .i64 ((t5_401.length : Nat) : Int)) from rfl) ?_
      refine x_done ?_
      refine x_tN ?_
      refine x_seq ?_
      refine x_block ?_
      refine ok.seicheref09_Of_l3 (t0_204 := t0_204) (l202 := l202) (k203 := k203) (t5_504 := t5_401) hC_seicheref09_At hC_seicheref06_Compare (fun s679 i648 x647 t11_653 hli648 hci648 h649 h650 h650o h651 h652 h654 h655 h656 hD => ?_) (fun _ hE => ?_) _ _ i411 _ _ ?_ ?_ ?_ ?_ ?_ ?_ ?_ ?_ ?_ ?_ hD
      · refine x_bE ?_
        refine x_tN ?_
        refine x_start (b := true) ?_
        refine x_bsl (E := E.Change) (l := ([] : (List T.Change))) rfl (fits_map (E := E.Change) (sz := 2) (fun x => E.Change_fit x) _) fun v657 ov657 hv657 hov657 => ?_
        refine x_mv h650 fun v658 hv658 => ?_
        refine x_mv' h652 ?_
        obtain ⟨q659, hx660, hD⟩ := Option.bind_eq_some_iff.1 hD
        refine x_slc (ka := .i64) (kb := .i64) hv658 (Eq.refl (0 : Int)) (show _ = (V.int .i64 t11_653) from rfl) hx660 fun v661 hv661 => ?_
        obtain ⟨l662, hx663, hD⟩ := Option.bind_eq_some_iff.1 hD
        refine x_app hv657 hov657 (tail_sl hv661) hx663 fun v664 ov664 fv664 hv664 hov664 hfv664 => ?_
        refine x_faddr h651 ?_
        refine x_load (show _ = (V.ptr i648 0) from rfl) hci648 (ld_Input_0_n x647) fun v665 hv665 => ?_
        refine x_build (ws := [(0, 1, (V.str x647.Path)), (1, 1, (V.int .i64 1))]) (l := C.Change ({ Path := x647.Path, Kind := 1 } : T.Change)) (part_eq (nf_of rfl (nf_str hv665)) (part_eq (nf_of rfl (show _ = (V.int .i64 1) from rfl)) rfl)) (fill_from (by kernel_rfl : _ = C.Change ({ Path := [], Kind := 0 } : T.Change)) (fill_step (set_Change_0_1 ({ Path := [], Kind := 0 } : T.Change) x647.Path) ⟨(show [(V.str x647.Path)].length = 1 from rfl), rfl, le_len (C.Change_len ({ Path := [], Kind := 0 } : T.Change)) (by decide)⟩ (fill_step (set_Change_1_1 ({ ({ Path := [], Kind := 0 } : T.Change) with Path := x647.Path } : T.Change) 1) ⟨(show [(V.int .i64 1)].length = 1 from rfl), rfl, le_len (C.Change_len ({ ({ Path := [], Kind := 0 } : T.Change) with Path := x647.Path } : T.Change)) (by decide)⟩ fill_nil))) fun v666 hv666 hnv666 => ?_
        refine x_bsl (E := E.Change) (l := ([({ Path := x647.Path, Kind := 1 } : T.Change)] : (List T.Change))) (cons_eq hv666 rfl) (fits_map (E := E.Change) (sz := 2) (fun x => E.Change_fit x) _) fun v667 ov667 hv667 hov667 => ?_
        obtain ⟨l668, hx669, hD⟩ := Option.bind_eq_some_iff.1 hD
        refine x_app hv664 hov664 (tail_sl hv667) hx669 fun v670 ov670 fv670 hv670 hov670 hfv670 => ?_
        refine x_mv h650 fun v671 hv671 => ?_
        refine x_mv' h652 ?_
        obtain ⟨q672, hx673, hD⟩ := Option.bind_eq_some_iff.1 hD
        refine x_slc (ka := .i64) (kb := .i64) hv671 (show _ = (V.int .i64 t11_653) from rfl) rfl hx673 fun v674 hv674 => ?_
        obtain ⟨l675, hx676, hD⟩ := Option.bind_eq_some_iff.1 hD
        refine x_app hv670 hov670 (tail_sl hv674) hx676 fun v677 ov677 fv677 hv677 hov677 hfv677 => ?_
        refine x_mvo hv677 fun v678 ov678 hv678 hwv678 => ?_
        refine x_done ?_
        refine x_bN ?_
        refine x_tN ?_
        refine x_start (b := false) ?_
        refine x_bin h656 (show _ = (V.int .i64 1) from rfl) b_add ?_
        refine x_mv' (show _ = (V.int .i64 (wi (((k203 : Nat) : Int) + 1))) from rfl) ?_
        refine x_done ?_
        refine x_tN ?_
        refine hK _ ?_
        refine ih (k203 + 1) _ _ hdrop1 hlt ?_ ?_ ?_ ?_ ?_ ?_ hD
        · exact h654
        · exact h655
        · exact (Eq.trans (show _ = (V.int .i64 (wi (((k203 : Nat) : Int) + 1))) from rfl) (congrArg (V.int .i64) hwk))
        · exact h649
        · exact hv678
        · exact (hwv678 hov677)
      · refine x_bR ?_; refine x_tR ?_; refine x_bR ?_; refine x_tR ?_; refine x_tR ?_; exact hR _ hE
      · exact (Nat.lt_succ_of_le (Nat.le_of_eq hidi411))
      · exact hcv412
      · exact h399
      · exact h400
      · exact h400o
      · exact (show _ = (V.ptr i411 0) from rfl)
      · exact (show _ = (V.int .i64 ((t5_401.length : Nat) : Int)) from rfl)
      · exact hX
      · exact hN
      · exact hI
def g.seicheref09_Of (p0 : (List T.Input)) (p1 : (List T.Input)) : Option (List T.Change) :=
  if p0.length ≤ Lim then L.seicheref09_Of_l1 p1 (fun (t5_199 : (List T.Change)) => if p1.length ≤ Lim then L.seicheref09_Of_l2 p0 (fun (t5_685 : (List T.Change)) => some t5_685) p1 t5_199 else none) p0 [] else none
theorem ok.seicheref09_Of {Γ : Abs.Spec} {gl : Glob} (hC_seicheref09_At : CallsX Γ K.seicheref09_At) (hC_seicheref06_Compare : CallsX Γ K.seicheref06_Compare) {r : (List T.Change)} {p0 : (List T.Input)} {p1 : (List T.Input)} {v : List V}
    (hv : nfL v = [(V.sl false 33 (List.map E.Input p0)), (V.sl false 33 (List.map E.Input p1))]) (hD : g.seicheref09_Of p0 p1 = some r) : awp Γ gl c_seicheref09_Of (endQ [.t 4] true (V.sl false 2 (List.map E.Change r))) (St.init v) := by
  obtain ⟨v0, v, rfl, h0, hv⟩ := nfL_cons hv
  obtain ⟨v1, v, rfl, h1, hv⟩ := nfL_cons hv
  obtain rfl := nfL_nil hv
  have hR : ∀ s, EndsX [.t 4] true (V.sl false 2 (List.map E.Change r)) s → endQ [.t 4] true (V.sl false 2 (List.map E.Change r)) .ret s := fun _ h => h
  unfold g.seicheref09_Of at hD
  unfold c_seicheref09_Of
  refine x_seq ?_
  refine x_start (b := false) ?_
  refine x_mv' (y := V.sl true 2 []) rfl ?_
  refine x_done ?_
  refine x_tN ?_
  refine x_seq ?_
  refine x_start (b := false) ?_
  refine x_mv' (y := V.sl true 2 []) rfl ?_
  refine x_done ?_
  refine x_tN ?_
  refine x_seq ?_
  refine x_seq ?_
  refine x_start (b := false) ?_
  refine x_mv h0 fun v68 hv68 => ?_
  refine x_len hv68 ?_
  refine x_mv' (show _ = (V.int .i64 0) from rfl) ?_
  refine x_done ?_
  refine x_tN ?_
  refine x_block ?_
  by_cases hlen691 : p0.length ≤ Lim
  · rw [if_pos hlen691] at hD
    refine ok.seicheref09_Of_l1 (t1_71 := p1) (l69 := p0) hC_seicheref09_At hC_seicheref06_Compare (fun s690 t5_199 h196 h197 h198 h198o hD => ?_) (fun _ hE => ?_) hlen691 _ 0 _ _ rfl (Nat.zero_le _) ?_ ?_ ?_ ?_ ?_ ?_ ?_ hD
    · refine x_bE ?_
      refine x_tN ?_
      refine x_seq ?_
      refine x_seq ?_
      refine x_start (b := false) ?_
      refine x_mv h197 fun v201 hv201 => ?_
      refine x_len hv201 ?_
      refine x_mv' (show _ = (V.int .i64 0) from rfl) ?_
      refine x_done ?_
      refine x_tN ?_
      refine x_block ?_
      by_cases hlen689 : p1.length ≤ Lim
      · rw [if_pos hlen689] at hD
        refine ok.seicheref09_Of_l2 (t0_204 := p0) (l202 := p1) hC_seicheref09_At hC_seicheref06_Compare (fun s688 t5_685 h684 h684o hD => ?_) (fun _ hE => ?_) hlen689 _ 0 _ _ rfl (Nat.zero_le _) ?_ ?_ ?_ ?_ ?_ ?_ hD
        · refine x_bE ?_
          refine x_tN ?_
          refine x_seq ?_
          refine x_start (b := false) ?_
          refine x_mvo h684 fun v686 ov686 hv686 hwv686 => ?_
          refine x_mvo hv686 fun v687 ov687 hv687 hwv687 => ?_
          refine x_done ?_
          refine x_tN ?_
          refine x_retc ?_
          obtain rfl := Option.some.inj hD
          exact hR _ (ends_t hv687 (fun _ => (hwv687 (hwv686 h684o))))
        · refine x_bR ?_; refine x_tR ?_; exact hR _ hE
        · exact hv201
        · exact (show _ = (V.int .i64 ((p1.length : Nat) : Int)) from rfl)
        · exact (show _ = (V.int .i64 0) from rfl)
        · exact h196
        · exact h198
        · exact h198o
      · rw [if_neg hlen689] at hD; cases hD
    · refine x_bR ?_; refine x_tR ?_; exact hR _ hE
    · exact hv68
    · exact (show _ = (V.int .i64 ((p0.length : Nat) : Int)) from rfl)
    · exact (show _ = (V.int .i64 0) from rfl)
    · exact h0
    · exact h1
    · exact (show V.nf _ = (V.sl false 2 (List.map E.Change [])) from rfl)
    · exact (Or.inr ⟨2, rfl⟩)
  · rw [if_neg hlen691] at hD; cases hD
def K.seicheref09_Of : FC := fc F.seicheref09_Of (fun _ => true) true (fun (a : ((List T.Input) × (List T.Input))) => [(V.sl false 33 (List.map E.Input a.1)), (V.sl false 33 (List.map E.Input a.2))]) (fun (y : (List T.Change)) => (V.sl false 2 (List.map E.Change y))) (fun a => g.seicheref09_Of a.1 a.2)
  (fun a => (cleanL_mk (E.LInput_clean _) (cleanL_mk (E.LInput_clean _) rfl)))
  (fun y => (E.LChange_clean _))
  (fun ⟨a0, a1⟩ ⟨b0, b1⟩ h => by
    obtain ⟨h0, h⟩ := List.cons.inj h
    obtain rfl : a0 = b0 := E.LInput_inj h0
    obtain ⟨h0, h⟩ := List.cons.inj h
    obtain rfl : a1 = b1 := E.LInput_inj h0
    rfl)
theorem H.seicheref09_Of (w : World) (hw : EnvOK w) : K.seicheref09_Of.Holds (cxD w) :=
  FC.holds_of (cs := [K.seicheref09_At, K.seicheref06_Compare]) (glD w) mixed cf_seicheref09_Of (fun _ _ ⟨_, _, h, _⟩ => by subst h; exact Nat.le_of_ble_eq_true rfl) fun v y ⟨a, r, hv, hD, hy⟩ => by
    subst hy
    exact ok.seicheref09_Of (specOf_calls (H.seicheref09_At w hw) (fun _ _ ⟨_, _, h, _⟩ => by subst h; rfl)) (specOf_calls (H.seicheref06_Compare w hw) (fun _ _ ⟨_, _, h, _⟩ => by subst h; rfl)) hv hD
def c_seichelaw09_odd_l1 : ACode := (.seq (.region [
  ⟨(some 9), (.bin .lss .no (.tmp 8) (.tmp 7)), none, []⟩] false) (.seq (.cond (.tmp 9) .skip (.exit 0)) (.seq (.block 1 (.seq (.region [
  ⟨(some 10), (.iaddr 33 (.tmp 6) (.tmp 8)), none, []⟩, 
  ⟨(some 11), (.load (some 33) (.tmp 10)), none, []⟩, 
  ⟨(some 5), (.new ((.str []) :: repl 32 (.int .u8 0))), none, []⟩, 
  ⟨none, (.store 33 (.tmp 5) (.tmp 11)), none, []⟩] false) (.seq (.region [
  ⟨(some 12), (.mv (.tmp 3)), none, []⟩, 
  ⟨(some 13), (.faddr 0 (.tmp 5)), none, []⟩, 
  ⟨(some 14), (.load none (.tmp 13)), none, []⟩, 
  ⟨(some 15), (.len true (.tmp 14)), none, []⟩, 
  ⟨(some 16), (.bin .add .no (.tmp 12) (.tmp 15)), none, []⟩, 
  ⟨(some 3), (.mv (.tmp 16)), none, []⟩] false) (.seq (.region [
  ⟨(some 17), (.mv (.tmp 3)), none, []⟩, 
  ⟨(some 18), (.bin .gtr .no (.tmp 17) (.const (.int .i64 4096))), none, []⟩] false) (.cond (.tmp 18) (.seq (.region [
  ⟨(some 2), (.mv (.const (.bool true))), none, []⟩] false) .ret) .skip))))) (.region [
  ⟨(some 19), (.bin .add .no (.tmp 8) (.const (.int .i64 1))), none, []⟩, 
  ⟨(some 8), (.mv (.tmp 19)), none, []⟩] false))))
def c_seichelaw09_odd : ACode := (.seq (.region [
  ⟨(some 2), (.mv (.const (.bool false))), none, []⟩] false) (.seq (.region [
  ⟨(some 3), (.mv (.const (.int .i64 0))), none, []⟩] false) (.seq (.seq (.region [
  ⟨(some 6), (.mv (.tmp 0)), none, []⟩, 
  ⟨(some 7), (.len false (.tmp 6)), none, []⟩, 
  ⟨(some 8), (.mv (.const (.int .i64 0))), none, []⟩] false) (.block 0 (.loop c_seichelaw09_odd_l1))) (.seq (.region [
  ⟨(some 20), (.mv (.tmp 0)), none, []⟩, 
  ⟨(some 21), (.len false (.tmp 20)), none, []⟩, 
  ⟨(some 22), (.bin .gtr .no (.tmp 21) (.const (.int .i64 60))), none, []⟩, 
  ⟨(some 23), (.mv (.tmp 22)), none, []⟩, 
  ⟨(some 24), (.mv (.tmp 0)), (some (23, false)), []⟩, 
  ⟨(some 25), (.call F.seicheref09_Rises [(.tmp 24)]), (some (23, false)), []⟩, 
  ⟨(some 26), (.un .not (.tmp 25)), (some (23, false)), []⟩, 
  ⟨(some 27), (.pick (.tmp 23) (.const (.bool true)) (.tmp 26)), none, []⟩, 
  ⟨(some 2), (.mv (.tmp 27)), none, []⟩] false) .ret))))
theorem cf_seichelaw09_odd : cFn Go.Proofs.Tryd.prog F.seichelaw09_odd = some ⟨28, c_seichelaw09_odd, [.t 2]⟩ := by kernel_rfl
def L.seichelaw09_odd_l1 (k0 : Option Bool) : List T.Input → Int → Option Bool
  | [], t3_46 =>
    k0
  | a48 :: rest, t3_46 =>
    if 4096 < (wi (t3_46 + ((a48.Path.length : Nat) : Int))) then
      some true
    else
      L.seichelaw09_odd_l1 k0 rest (wi (t3_46 + ((a48.Path.length : Nat) : Int)))
theorem ok.seichelaw09_odd_l1 {Γ : Abs.Spec} {gl : Glob} (hC_seicheref09_Rises : CallsX Γ K.seicheref09_Rises) {Q : Ex → St → Prop} {r : Bool} {l25 : List T.Input} {k0 : Option Bool}
    (hk0 : ∀ (s : St), ((s.tm 0).nf = (V.sl false 33 (List.map E.Input l25))) → k0 = some r → Q (.exit 0) s)
    (hR : ∀ s, EndsX [.t 2] false (V.bool r) s → Q .ret s)
    (hlen : l25.length ≤ Lim) : ∀ (rest : List T.Input) (k26 : Nat) (s : St) (t3_46 : Int), l25.drop k26 = rest → k26 ≤ l25.length →
    ((s.tm 6).nf = V.sl false 33 (List.map E.Input l25)) → (s.tm 7 = V.int .i64 ((l25.length : Nat) : Int)) → (s.tm 8 = V.int .i64 ((k26 : Nat) : Int)) → ((s.tm 0).nf = (V.sl false 33 (List.map E.Input l25))) → (s.tm 3 = (V.int .i64 t3_46)) →
    L.seichelaw09_odd_l1 k0 rest t3_46 = some r → awp Γ gl (.loop c_seichelaw09_odd_l1) Q s := by
  intro rest
  induction rest with
  | nil =>
    intro k26 s t3_46 hdrop hkl hX hN hI h44 h45 hD
    have hkz := drop_nil hdrop hkl
    have hp0 : ¬ (((k26 : Nat) : Int) < ((l25.length : Nat) : Int)) := by omega
    refine awp_roundK fun K hK => ?_
    rw [L.seichelaw09_odd_l1] at hD
    refine x_seq ?_
    refine x_start (b := false) ?_
    refine x_bin hI hN b_lss ?_
    refine x_done ?_
    refine x_tN ?_
    refine x_seq ?_
    refine x_cf (show _ = (V.bool (decide (((k26 : Nat) : Int) < ((l25.length : Nat) : Int)))) from rfl) (decide_eq_false hp0) ?_
    refine x_exitc ?_
    refine x_tE ?_
    refine x_tE ?_
    refine hk0 _ ?_ hD
    · exact h44
  | cons a48 rest ih =>
    intro k26 s t3_46 hdrop hkl hX hN hI h44 h45 hD
    obtain ⟨hlt, -, hget, hdrop1, -⟩ := drop_cons hdrop
    have hp1 : ((k26 : Nat) : Int) < ((l25.length : Nat) : Int) := by omega
    have hwk := wi_succ (k := k26) (by unfold Lim at hlen; omega)
    refine awp_roundK fun K hK => ?_
    rw [L.seichelaw09_odd_l1] at hD
    refine x_seq ?_
    refine x_start (b := false) ?_
    refine x_bin hI hN b_lss ?_
    refine x_done ?_
    refine x_tN ?_
    refine x_seq ?_
    refine x_ct (show _ = (V.bool (decide (((k26 : Nat) : Int) < ((l25.length : Nat) : Int)))) from rfl) (decide_eq_true hp1) ?_
    refine x_skip ?_
    refine x_tN ?_
    refine x_seq ?_
    refine x_block ?_
    refine x_seq ?_
    refine x_start (b := false) ?_
    refine x_iaddr hX hI (at_k hget) fun v53 (hv53 : v53.nf = V.el (C.Input a48) 0) => ?_
    refine x_load_el hv53 (ld_Input_0_33 a48) fun v54 hv54 => ?_
    refine x_new (l := (C.Input ({ Path := [], Id := (Arr.zero 32) } : T.Input))) (by kernel_rfl) fun i55 hidi55 hci55 => ?_
    refine x_store (ws := (C.Input a48)) (l' := (C.Input a48)) (show _ = (V.ptr i55 0) from rfl) hci55 (cells_of rfl hv54) ⟨(C.Input_len a48), (C.Input_sc a48), le_len (C.Input_len ({ Path := [], Id := (Arr.zero 32) } : T.Input)) (by decide)⟩ (setAt_full (Eq.trans (C.Input_len a48) (Eq.symm (C.Input_len ({ Path := [], Id := (Arr.zero 32) } : T.Input))))) fun csv56 ysv56 hcsv56 hnv56 hcv56 hsv56 => ?_
    refine x_done ?_
    refine x_tN ?_
    refine x_seq ?_
    refine x_start (b := false) ?_
    refine x_mv' h45 ?_
    refine x_faddr (show _ = (V.ptr i55 0) from rfl) ?_
    refine x_load (show _ = (V.ptr i55 0) from rfl) hcv56 (ld_Input_0_n a48) fun v58 hv58 => ?_
    refine x_lens (nf_str hv58) ?_
    refine x_bin (show _ = (V.int .i64 t3_46) from rfl) (show _ = (V.int .i64 ((a48.Path.length : Nat) : Int)) from rfl) b_add ?_
    refine x_mv' (show _ = (V.int .i64 (wi (t3_46 + ((a48.Path.length : Nat) : Int)))) from rfl) ?_
    refine x_done ?_
    refine x_tN ?_
    refine x_seq ?_
    refine x_start (b := false) ?_
    refine x_mv' (show _ = (V.int .i64 (wi (t3_46 + ((a48.Path.length : Nat) : Int)))) from rfl) ?_
    refine x_bin (show _ = (V.int .i64 (wi (t3_46 + ((a48.Path.length : Nat) : Int)))) from rfl) (show _ = (V.int .i64 4096) from rfl) b_gtr ?_
    refine x_done ?_
    refine x_tN ?_
    by_cases hp59 : 4096 < (wi (t3_46 + ((a48.Path.length : Nat) : Int)))
    · rw [if_pos hp59] at hD
      refine x_ct (show _ = (V.bool (decide (4096 < (wi (t3_46 + ((a48.Path.length : Nat) : Int)))))) from rfl) (decide_eq_true hp59) ?_
      refine x_seq ?_
      refine x_start (b := false) ?_
      refine x_mv' (show _ = (V.bool true) from rfl) ?_
      refine x_done ?_
      refine x_tN ?_
      refine x_retc ?_
      refine x_bR ?_
      refine x_tR ?_
      refine x_tR ?_
      obtain rfl := Option.some.inj hD
      exact hR _ (ends_t (nf_of rfl (show _ = (V.bool true) from rfl)) (fun h => nomatch h))
    · rw [if_neg hp59] at hD
      refine x_cf (show _ = (V.bool (decide (4096 < (wi (t3_46 + ((a48.Path.length : Nat) : Int)))))) from rfl) (decide_eq_false hp59) ?_
      refine x_skip ?_
      refine x_bN ?_
      refine x_tN ?_
      refine x_start (b := false) ?_
      refine x_bin hI (show _ = (V.int .i64 1) from rfl) b_add ?_
      refine x_mv' (show _ = (V.int .i64 (wi (((k26 : Nat) : Int) + 1))) from rfl) ?_
      refine x_done ?_
      refine x_tN ?_
      refine hK _ ?_
      refine ih (k26 + 1) _ _ hdrop1 hlt ?_ ?_ ?_ ?_ ?_ hD
      · exact hX
      · exact hN
      · exact (Eq.trans (show _ = (V.int .i64 (wi (((k26 : Nat) : Int) + 1))) from rfl) (congrArg (V.int .i64) hwk))
      · exact h44
      · exact (show _ = (V.int .i64 (wi (t3_46 + ((a48.Path.length : Nat) : Int)))) from rfl)
def g.seichelaw09_odd (p0 : (List T.Input)) : Option Bool :=
  if p0.length ≤ Lim then L.seichelaw09_odd_l1 (if 60 < ((p0.length : Nat) : Int) then
    some true
  else
    (g.seicheref09_Rises p0).bind fun r67 =>
    some (!r67)) p0 0 else none
theorem ok.seichelaw09_odd {Γ : Abs.Spec} {gl : Glob} (hC_seicheref09_Rises : CallsX Γ K.seicheref09_Rises) {r : Bool} {p0 : (List T.Input)} {v : List V}
    (hv : nfL v = [(V.sl false 33 (List.map E.Input p0))]) (hD : g.seichelaw09_odd p0 = some r) : awp Γ gl c_seichelaw09_odd (endQ [.t 2] false (V.bool r)) (St.init v) := by
  obtain ⟨v0, v, rfl, h0, hv⟩ := nfL_cons hv
  obtain rfl := nfL_nil hv
  have hR : ∀ s, EndsX [.t 2] false (V.bool r) s → endQ [.t 2] false (V.bool r) .ret s := fun _ h => h
  unfold g.seichelaw09_odd at hD
  unfold c_seichelaw09_odd
  refine x_seq ?_
  refine x_start (b := false) ?_
  refine x_mv' (show _ = (V.bool false) from rfl) ?_
  refine x_done ?_
  refine x_tN ?_
  refine x_seq ?_
  refine x_start (b := false) ?_
  refine x_mv' (show _ = (V.int .i64 0) from rfl) ?_
  refine x_done ?_
  refine x_tN ?_
  refine x_seq ?_
  refine x_seq ?_
  refine x_start (b := false) ?_
  refine x_mv h0 fun v24 hv24 => ?_
  refine x_len hv24 ?_
  refine x_mv' (show _ = (V.int .i64 0) from rfl) ?_
  refine x_done ?_
  refine x_tN ?_
  refine x_block ?_
  by_cases hlen70 : p0.length ≤ Lim
  · rw [if_pos hlen70] at hD
    refine ok.seichelaw09_odd_l1 (l25 := p0) hC_seicheref09_Rises (fun s69 h62 hD => ?_) (fun _ hE => ?_) hlen70 _ 0 _ _ rfl (Nat.zero_le _) ?_ ?_ ?_ ?_ ?_ hD
    · refine x_bE ?_
      refine x_tN ?_
      refine x_seq ?_
      refine x_start (b := false) ?_
      refine x_mv h62 fun v63 hv63 => ?_
      refine x_len hv63 ?_
      refine x_bin (show _ = (V.int .i64 ((p0.length : Nat) : Int)) from rfl) (show _ = (V.int .i64 60) from rfl) b_gtr ?_
      refine x_mv' (show _ = (V.bool (decide (60 < ((p0.length : Nat) : Int)))) from rfl) ?_
      by_cases hp64 : 60 < ((p0.length : Nat) : Int)
      · rw [if_pos hp64] at hD
        refine x_gn (show _ = (V.bool (decide (60 < ((p0.length : Nat) : Int)))) from rfl) (decide_eq_true hp64) ?_
        refine x_gn (show _ = (V.bool (decide (60 < ((p0.length : Nat) : Int)))) from rfl) (decide_eq_true hp64) ?_
        refine x_gn (show _ = (V.bool (decide (60 < ((p0.length : Nat) : Int)))) from rfl) (decide_eq_true hp64) ?_
        refine x_pickt' (show _ = (V.bool (decide (60 < ((p0.length : Nat) : Int)))) from rfl) (decide_eq_true hp64) (show _ = (V.bool true) from rfl) ?_
        refine x_mv' (show _ = (V.bool true) from rfl) ?_
        refine x_done ?_
        refine x_tN ?_
        refine x_retc ?_
        obtain rfl := Option.some.inj hD
        exact hR _ (ends_t (nf_of rfl (show _ = (V.bool true) from rfl)) (fun h => nomatch h))
      · rw [if_neg hp64] at hD
        refine x_gy (show _ = (V.bool (decide (60 < ((p0.length : Nat) : Int)))) from rfl) (decide_eq_false hp64) ?_
        refine x_mv h62 fun v65 hv65 => ?_
        refine x_gy (show _ = (V.bool (decide (60 < ((p0.length : Nat) : Int)))) from rfl) (decide_eq_false hp64) ?_
        obtain ⟨r67, hx68, hD⟩ := Option.bind_eq_some_iff.1 hD
        refine x_callF hC_seicheref09_Rises (a := (p0)) (cons_eq hv65 rfl) hx68 fun v66 ov66 (hv66 : v66.nf = (V.bool r67)) hov66 => ?_
        refine x_gy (show _ = (V.bool (decide (60 < ((p0.length : Nat) : Int)))) from rfl) (decide_eq_false hp64) ?_
        refine x_un (nf_bool hv66) (aun_not _) ?_
        refine x_pickf' (show _ = (V.bool (decide (60 < ((p0.length : Nat) : Int)))) from rfl) (decide_eq_false hp64) (show _ = (V.bool (!r67)) from rfl) ?_
        refine x_mv' (show _ = (V.bool (!r67)) from rfl) ?_
        refine x_done ?_
        refine x_tN ?_
        refine x_retc ?_
        obtain rfl := Option.some.inj hD
        exact hR _ (ends_t (nf_of rfl (show _ = (V.bool (!r67)) from rfl)) (fun h => nomatch h))
    · refine x_bR ?_; refine x_tR ?_; exact hR _ hE
    · exact hv24
    · exact (show _ = (V.int .i64 ((p0.length : Nat) : Int)) from rfl)
    · exact (show _ = (V.int .i64 0) from rfl)
    · exact h0
    · exact (show _ = (V.int .i64 0) from rfl)
  · rw [if_neg hlen70] at hD; cases hD
def K.seichelaw09_odd : FC := fc F.seichelaw09_odd (fun _ => true) false (fun (a : (List T.Input)) => [(V.sl false 33 (List.map E.Input a))]) (fun (y : Bool) => (V.bool y)) (fun a => g.seichelaw09_odd a)
  (fun a => (cleanL_mk (E.LInput_clean _) rfl))
  (fun y => rfl)
  (fun a0 b0 h => by
    obtain ⟨h0, h⟩ := List.cons.inj h
    obtain rfl : a0 = b0 := E.LInput_inj h0
    rfl)
theorem H.seichelaw09_odd (w : World) (hw : EnvOK w) : K.seichelaw09_odd.Holds (cxD w) :=
  FC.holds_of (cs := [K.seicheref09_Rises]) (glD w) mixed cf_seichelaw09_odd (fun _ _ ⟨_, _, h, _⟩ => by subst h; exact Nat.le_of_ble_eq_true rfl) fun v y ⟨a, r, hv, hD, hy⟩ => by
    subst hy
    exact ok.seichelaw09_odd (specOf_calls (H.seicheref09_Rises w hw) (fun _ _ ⟨_, _, h, _⟩ => by subst h; rfl)) hv hD
theorem set_Input_0_1 (x : T.Input) (v : Bytes) : setAt (C.Input x) 0 [(V.str v)] = C.Input ({ x with Path := v } : T.Input) := by
  unfold C.Input
  rw [set_left (Nat.le_trans (Nat.le_of_eq (congrArg (0 + ·) (show [(V.str v)].length = 1 from rfl))) (le_len (show [(V.str x.Path)].length = 1 from rfl) (by decide)))]
  rw [(setAt_full (Eq.trans (show [(V.str v)].length = 1 from rfl) (Eq.symm (show [(V.str x.Path)].length = 1 from rfl))))]
def c_seichelaw09_alive : ACode := (.seq (.region [
  ⟨(some 0), (.mv (.const (.bool false))), none, []⟩] false) (.seq (.region [
  ⟨(some 2), (.build ((.str []) :: repl 32 (.int .u8 0)) [(0, (1, (.const (.str [97]))))]), none, []⟩, 
  ⟨(some 3), (.bsl 33 [(.tmp 2)]), none, []⟩, 
  ⟨(some 4), (.build ((.str []) :: repl 32 (.int .u8 0)) [(0, (1, (.const (.str [98]))))]), none, []⟩, 
  ⟨(some 5), (.bsl 33 [(.tmp 4)]), none, []⟩, 
  ⟨(some 6), (.call F.diff_Lists [(.tmp 3), (.tmp 5)]), none, []⟩, 
  ⟨(some 1), (.mvo 6), none, []⟩] false) (.seq (.region [
  ⟨(some 7), (.mv (.tmp 1)), none, []⟩, 
  ⟨(some 8), (.len false (.tmp 7)), none, []⟩, 
  ⟨(some 9), (.bin .eql .no (.tmp 8) (.const (.int .i64 2))), none, []⟩, 
  ⟨(some 10), (.mv (.tmp 9)), none, []⟩, 
  ⟨(some 11), (.mv (.tmp 1)), (some (10, true)), []⟩, 
  ⟨(some 12), (.iaddr 2 (.tmp 11) (.const (.int .i64 0))), (some (10, true)), []⟩, 
  ⟨(some 13), (.load (some 2) (.tmp 12)), (some (10, true)), []⟩, 
  ⟨(some 14), (.build [(.str []), (.int .i64 0)] [(0, (1, (.const (.str [97])))), (1, (1, (.const (.int .i64 2))))]), (some (10, true)), []⟩, 
  ⟨(some 15), (.bin .eql (.flat [(none, true), ((some .i64), true)]) (.tmp 13) (.tmp 14)), (some (10, true)), []⟩, 
  ⟨(some 16), (.pick (.tmp 10) (.tmp 15) (.const (.bool false))), none, []⟩, 
  ⟨(some 17), (.mv (.tmp 16)), none, []⟩, 
  ⟨(some 18), (.mv (.tmp 1)), (some (17, true)), []⟩, 
  ⟨(some 19), (.iaddr 2 (.tmp 18) (.const (.int .i64 1))), (some (17, true)), []⟩, 
  ⟨(some 20), (.load (some 2) (.tmp 19)), (some (17, true)), []⟩, 
  ⟨(some 21), (.build [(.str []), (.int .i64 0)] [(0, (1, (.const (.str [98])))), (1, (1, (.const (.int .i64 1))))]), (some (17, true)), []⟩, 
  ⟨(some 22), (.bin .eql (.flat [(none, true), ((some .i64), true)]) (.tmp 20) (.tmp 21)), (some (17, true)), []⟩, 
  ⟨(some 23), (.pick (.tmp 17) (.tmp 22) (.const (.bool false))), none, []⟩, 
  ⟨(some 0), (.mv (.tmp 23)), none, []⟩] false) .ret)))
theorem cf_seichelaw09_alive : cFn Go.Proofs.Tryd.prog F.seichelaw09_alive = some ⟨24, c_seichelaw09_alive, [.t 0]⟩ := by kernel_rfl
def g.seichelaw09_alive : Option Bool :=
  (g.diff_Lists ([({ Path := ([97] : Bytes), Id := (Arr.zero 32) } : T.Input)] : (List T.Input)) ([({ Path := ([98] : Bytes), Id := (Arr.zero 32) } : T.Input)] : (List T.Input))).bind fun r14 =>
  if ((r14.length : Nat) : Int) = 2 then
    (at? r14 0).bind fun a20 =>
    if a20 = ({ Path := ([97] : Bytes), Kind := 2 } : T.Change) then
      (at? r14 1).bind fun a27 =>
      some (decide (a27 = ({ Path := ([98] : Bytes), Kind := 1 } : T.Change)))
    else
      some false
  else
    some false
theorem ok.seichelaw09_alive {Γ : Abs.Spec} {gl : Glob} (hC_diff_Lists : CallsX Γ K.diff_Lists) {r : Bool} {v : List V}
    (hv : nfL v = []) (hD : g.seichelaw09_alive = some r) : awp Γ gl c_seichelaw09_alive (endQ [.t 0] false (V.bool r)) (St.init v) := by
  obtain rfl := nfL_nil hv
  have hR : ∀ s, EndsX [.t 0] false (V.bool r) s → endQ [.t 0] false (V.bool r) .ret s := fun _ h => h
  unfold g.seichelaw09_alive at hD
  unfold c_seichelaw09_alive
  refine x_seq ?_
  refine x_start (b := false) ?_
  refine x_mv' (show _ = (V.bool false) from rfl) ?_
  refine x_done ?_
  refine x_tN ?_
  refine x_seq ?_
  refine x_start (b := false) ?_
  refine x_build (ws := [(0, 1, (V.str ([97] : Bytes)))]) (l := C.Input ({ Path := ([97] : Bytes), Id := (Arr.zero 32) } : T.Input)) (part_eq (nf_of rfl (show _ = (V.str ([97] : Bytes)) from rfl)) rfl) (fill_from (by kernel_rfl : _ = C.Input ({ Path := [], Id := (Arr.zero 32) } : T.Input)) (fill_step (set_Input_0_1 ({ Path := [], Id := (Arr.zero 32) } : T.Input) ([97] : Bytes)) ⟨(show [(V.str ([97] : Bytes))].length = 1 from rfl), rfl, le_len (C.Input_len ({ Path := [], Id := (Arr.zero 32) } : T.Input)) (by decide)⟩ fill_nil)) fun v9 hv9 hnv9 => ?_
  refine x_bsl (E := E.Input) (l := ([({ Path := ([97] : Bytes), Id := (Arr.zero 32) } : T.Input)] : (List T.Input))) (cons_eq hv9 rfl) (fits_map (E := E.Input) (sz := 33) (fun x => E.Input_fit x) _) fun v10 ov10 hv10 hov10 => ?_
  refine x_build (ws := [(0, 1, (V.str ([98] : Bytes)))]) (l := C.Input ({ Path := ([98] : Bytes), Id := (Arr.zero 32) } : T.Input)) (part_eq (nf_of rfl (show _ = (V.str ([98] : Bytes)) from rfl)) rfl) (fill_from (by kernel_rfl : _ = C.Input ({ Path := [], Id := (Arr.zero 32) } : T.Input)) (fill_step (set_Input_0_1 ({ Path := [], Id := (Arr.zero 32) } : T.Input) ([98] : Bytes)) ⟨(show [(V.str ([98] : Bytes))].length = 1 from rfl), rfl, le_len (C.Input_len ({ Path := [], Id := (Arr.zero 32) } : T.Input)) (by decide)⟩ fill_nil)) fun v11 hv11 hnv11 => ?_
  refine x_bsl (E := E.Input) (l := ([({ Path := ([98] : Bytes), Id := (Arr.zero 32) } : T.Input)] : (List T.Input))) (cons_eq hv11 rfl) (fits_map (E := E.Input) (sz := 33) (fun x => E.Input_fit x) _) fun v12 ov12 hv12 hov12 => ?_
  obtain ⟨r14, hx15, hD⟩ := Option.bind_eq_some_iff.1 hD
  refine x_callF hC_diff_Lists (a := (([({ Path := ([97] : Bytes), Id := (Arr.zero 32) } : T.Input)] : (List T.Input)), ([({ Path := ([98] : Bytes), Id := (Arr.zero 32) } : T.Input)] : (List T.Input)))) (cons_eq hv10 (cons_eq hv12 rfl)) hx15 fun v13 ov13 (hv13 : v13.nf = (V.sl false 2 (List.map E.Change r14))) hov13 => ?_
  refine x_mvo hv13 fun v16 ov16 hv16 hwv16 => ?_
  refine x_done ?_
  refine x_tN ?_
  refine x_seq ?_
  refine x_start (b := false) ?_
  refine x_mv hv16 fun v17 hv17 => ?_
  refine x_len hv17 ?_
  refine x_bin (show _ = (V.int .i64 ((r14.length : Nat) : Int)) from rfl) (show _ = (V.int .i64 2) from rfl) b_eql ?_
  refine x_mv' (show _ = (V.bool (decide (((r14.length : Nat) : Int) = 2))) from rfl) ?_
  by_cases hp18 : ((r14.length : Nat) : Int) = 2
  · rw [if_pos hp18] at hD
    refine x_gy (show _ = (V.bool (decide (((r14.length : Nat) : Int) = 2))) from rfl) (decide_eq_true hp18) ?_
    refine x_mv hv16 fun v19 hv19 => ?_
    refine x_gy (show _ = (V.bool (decide (((r14.length : Nat) : Int) = 2))) from rfl) (decide_eq_true hp18) ?_
    obtain ⟨a20, hx21, hD⟩ := Option.bind_eq_some_iff.1 hD
    refine x_iaddr hv19 (show _ = (V.int .i64 0) from rfl) hx21 fun v22 (hv22 : v22.nf = V.el (C.Change a20) 0) => ?_
    refine x_gy (show _ = (V.bool (decide (((r14.length : Nat) : Int) = 2))) from rfl) (decide_eq_true hp18) ?_
    refine x_load_el hv22 (ld_Change_0_2 a20) fun v23 hv23 => ?_
    refine x_gy (show _ = (V.bool (decide (((r14.length : Nat) : Int) = 2))) from rfl) (decide_eq_true hp18) ?_
    refine x_build (ws := [(0, 1, (V.str ([97] : Bytes))), (1, 1, (V.int .i64 2))]) (l := C.Change ({ Path := ([97] : Bytes), Kind := 2 } : T.Change)) (part_eq (nf_of rfl (show _ = (V.str ([97] : Bytes)) from rfl)) (part_eq (nf_of rfl (show _ = (V.int .i64 2) from rfl)) rfl)) (fill_from (by kernel_rfl : _ = C.Change ({ Path := [], Kind := 0 } : T.Change)) (fill_step (set_Change_0_1 ({ Path := [], Kind := 0 } : T.Change) ([97] : Bytes)) ⟨(show [(V.str ([97] : Bytes))].length = 1 from rfl), rfl, le_len (C.Change_len ({ Path := [], Kind := 0 } : T.Change)) (by decide)⟩ (fill_step (set_Change_1_1 ({ ({ Path := [], Kind := 0 } : T.Change) with Path := ([97] : Bytes) } : T.Change) 2) ⟨(show [(V.int .i64 2)].length = 1 from rfl), rfl, le_len (C.Change_len ({ ({ Path := [], Kind := 0 } : T.Change) with Path := ([97] : Bytes) } : T.Change)) (by decide)⟩ fill_nil))) fun v24 hv24 hnv24 => ?_
    refine x_gy (show _ = (V.bool (decide (((r14.length : Nat) : Int) = 2))) from rfl) (decide_eq_true hp18) ?_
    refine x_feq hv23 hv24 (eq_Change _ _) ?_
    refine x_pickt' (show _ = (V.bool (decide (((r14.length : Nat) : Int) = 2))) from rfl) (decide_eq_true hp18) (show _ = (V.bool (decide (a20 = ({ Path := ([97] : Bytes), Kind := 2 } : T.Change)))) from rfl) ?_
    refine x_mv' (show _ = (V.bool (decide (a20 = ({ Path := ([97] : Bytes), Kind := 2 } : T.Change)))) from rfl) ?_
    by_cases hp25 : a20 = ({ Path := ([97] : Bytes), Kind := 2 } : T.Change)
    · rw [if_pos hp25] at hD
      refine x_gy (show _ = (V.bool (decide (a20 = ({ Path := ([97] : Bytes), Kind := 2 } : T.Change)))) from rfl) (decide_eq_true hp25) ?_
      refine x_mv hv16 fun v26 hv26 => ?_
      refine x_gy (show _ = (V.bool (decide (a20 = ({ Path := ([97] : Bytes), Kind := 2 } : T.Change)))) from rfl) (decide_eq_true hp25) ?_
      obtain ⟨a27, hx28, hD⟩ := Option.bind_eq_some_iff.1 hD
      refine x_iaddr hv26 (show _ = (V.int .i64 1) from rfl) hx28 fun v29 (hv29 : v29.nf = V.el (C.Change a27) 0) => ?_
      refine x_gy (show _ = (V.bool (decide (a20 = ({ Path := ([97] : Bytes), Kind := 2 } : T.Change)))) from rfl) (decide_eq_true hp25) ?_
      refine x_load_el hv29 (ld_Change_0_2 a27) fun v30 hv30 => ?_
      refine x_gy (show _ = (V.bool (decide (a20 = ({ Path := ([97] : Bytes), Kind := 2 } : T.Change)))) from rfl) (decide_eq_true hp25) ?_
      refine x_build (ws := [(0, 1, (V.str ([98] : Bytes))), (1, 1, (V.int .i64 1))]) (l := C.Change ({ Path := ([98] : Bytes), Kind := 1 } : T.Change)) (part_eq (nf_of rfl (show _ = (V.str ([98] : Bytes)) from rfl)) (part_eq (nf_of rfl (show _ = (V.int .i64 1) from rfl)) rfl)) (fill_from (by kernel_rfl : _ = C.Change ({ Path := [], Kind := 0 } : T.Change)) (fill_step (set_Change_0_1 ({ Path := [], Kind := 0 } : T.Change) ([98] : Bytes)) ⟨(show [(V.str ([98] : Bytes))].length = 1 from rfl), rfl, le_len (C.Change_len ({ Path := [], Kind := 0 } : T.Change)) (by decide)⟩ (fill_step (set_Change_1_1 ({ ({ Path := [], Kind := 0 } : T.Change) with Path := ([98] : Bytes) } : T.Change) 1) ⟨(show [(V.int .i64 1)].length = 1 from rfl), rfl, le_len (C.Change_len ({ ({ Path := [], Kind := 0 } : T.Change) with Path := ([98] : Bytes) } : T.Change)) (by decide)⟩ fill_nil))) fun v31 hv31 hnv31 => ?_
      refine x_gy (show _ = (V.bool (decide (a20 = ({ Path := ([97] : Bytes), Kind := 2 } : T.Change)))) from rfl) (decide_eq_true hp25) ?_
      refine x_feq hv30 hv31 (eq_Change _ _) ?_
      refine x_pickt' (show _ = (V.bool (decide (a20 = ({ Path := ([97] : Bytes), Kind := 2 } : T.Change)))) from rfl) (decide_eq_true hp25) (show _ = (V.bool (decide (a27 = ({ Path := ([98] : Bytes), Kind := 1 } : T.Change)))) from rfl) ?_
      refine x_mv' (show _ = (V.bool (decide (a27 = ({ Path := ([98] : Bytes), Kind := 1 } : T.Change)))) from rfl) ?_
      refine x_done ?_
      refine x_tN ?_
      refine x_retc ?_
      obtain rfl := Option.some.inj hD
      exact hR _ (ends_t (nf_of rfl (show _ = (V.bool (decide (a27 = ({ Path := ([98] : Bytes), Kind := 1 } : T.Change)))) from rfl)) (fun h => nomatch h))
    · rw [if_neg hp25] at hD
      refine x_gn (show _ = (V.bool (decide (a20 = ({ Path := ([97] : Bytes), Kind := 2 } : T.Change)))) from rfl) (decide_eq_false hp25) ?_
      refine x_gn (show _ = (V.bool (decide (a20 = ({ Path := ([97] : Bytes), Kind := 2 } : T.Change)))) from rfl) (decide_eq_false hp25) ?_
      refine x_gn (show _ = (V.bool (decide (a20 = ({ Path := ([97] : Bytes), Kind := 2 } : T.Change)))) from rfl) (decide_eq_false hp25) ?_
      refine x_gn (show _ = (V.bool (decide (a20 = ({ Path := ([97] : Bytes), Kind := 2 } : T.Change)))) from rfl) (decide_eq_false hp25) ?_
      refine x_gn (show _ = (V.bool (decide (a20 = ({ Path := ([97] : Bytes), Kind := 2 } : T.Change)))) from rfl) (decide_eq_false hp25) ?_
      refine x_pickf' (show _ = (V.bool (decide (a20 = ({ Path := ([97] : Bytes), Kind := 2 } : T.Change)))) from rfl) (decide_eq_false hp25) (show _ = (V.bool false) from rfl) ?_
      refine x_mv' (show _ = (V.bool false) from rfl) ?_
      refine x_done ?_
      refine x_tN ?_
      refine x_retc ?_
      obtain rfl := Option.some.inj hD
      exact hR _ (ends_t (nf_of rfl (show _ = (V.bool false) from rfl)) (fun h => nomatch h))
  · rw [if_neg hp18] at hD
    refine x_gn (show _ = (V.bool (decide (((r14.length : Nat) : Int) = 2))) from rfl) (decide_eq_false hp18) ?_
    refine x_gn (show _ = (V.bool (decide (((r14.length : Nat) : Int) = 2))) from rfl) (decide_eq_false hp18) ?_
    refine x_gn (show _ = (V.bool (decide (((r14.length : Nat) : Int) = 2))) from rfl) (decide_eq_false hp18) ?_
    refine x_gn (show _ = (V.bool (decide (((r14.length : Nat) : Int) = 2))) from rfl) (decide_eq_false hp18) ?_
    refine x_gn (show _ = (V.bool (decide (((r14.length : Nat) : Int) = 2))) from rfl) (decide_eq_false hp18) ?_
    refine x_pickf' (show _ = (V.bool (decide (((r14.length : Nat) : Int) = 2))) from rfl) (decide_eq_false hp18) (show _ = (V.bool false) from rfl) ?_
    refine x_mv' (show _ = (V.bool false) from rfl) ?_
    refine x_gn (show _ = (V.bool false) from rfl) rfl ?_
    refine x_gn (show _ = (V.bool false) from rfl) rfl ?_
    refine x_gn (show _ = (V.bool false) from rfl) rfl ?_
    refine x_gn (show _ = (V.bool false) from rfl) rfl ?_
    refine x_gn (show _ = (V.bool false) from rfl) rfl ?_
    refine x_pickf' (show _ = (V.bool false) from rfl) rfl (show _ = (V.bool false) from rfl) ?_
    refine x_mv' (show _ = (V.bool false) from rfl) ?_
    refine x_done ?_
    refine x_tN ?_
    refine x_retc ?_
    obtain rfl := Option.some.inj hD
    exact hR _ (ends_t (nf_of rfl (show _ = (V.bool false) from rfl)) (fun h => nomatch h))
def K.seichelaw09_alive : FC := fc F.seichelaw09_alive (fun _ => true) false (fun (a : Unit) => []) (fun (y : Bool) => (V.bool y)) (fun a => g.seichelaw09_alive)
  (fun a => rfl)
  (fun y => rfl)
  (fun _ _ _ => rfl)
theorem H.seichelaw09_alive (w : World) (hw : EnvOK w) : K.seichelaw09_alive.Holds (cxD w) :=
  FC.holds_of (cs := [K.diff_Lists]) (glD w) mixed cf_seichelaw09_alive (fun _ _ ⟨_, _, h, _⟩ => by subst h; exact Nat.le_of_ble_eq_true rfl) fun v y ⟨a, r, hv, hD, hy⟩ => by
    subst hy
    exact ok.seichelaw09_alive (specOf_calls (H.diff_Lists w hw) (fun _ _ ⟨_, _, h, _⟩ => by subst h; rfl)) hv hD
def c_seichelaw09_DiffJoins_l2 : ACode := (.seq (.region [
  ⟨(some 43), (.bin .lss .no (.tmp 42) (.tmp 41)), none, []⟩] false) (.seq (.cond (.tmp 43) .skip (.exit 2)) (.seq (.block 3 (.seq (.region [
  ⟨(some 44), (.iaddr 2 (.tmp 40) (.tmp 42)), none, []⟩, 
  ⟨(some 45), (.load (some 2) (.tmp 44)), none, []⟩, 
  ⟨(some 12), (.new [(.str []), (.int .i64 0)]), none, []⟩, 
  ⟨none, (.store 2 (.tmp 12) (.tmp 45)), none, []⟩] false) (.region [
  ⟨(some 46), (.mv (.tmp 10)), none, []⟩, 
  ⟨(some 47), (.mv (.tmp 46)), none, []⟩, 
  ⟨(some 48), (.faddr 0 (.tmp 9)), (some (47, false)), []⟩, 
  ⟨(some 49), (.load none (.tmp 48)), (some (47, false)), []⟩, 
  ⟨(some 50), (.faddr 0 (.tmp 12)), (some (47, false)), []⟩, 
  ⟨(some 51), (.load none (.tmp 50)), (some (47, false)), []⟩, 
  ⟨(some 52), (.bin .eql .no (.tmp 49) (.tmp 51)), (some (47, false)), []⟩, 
  ⟨(some 53), (.pick (.tmp 47) (.const (.bool true)) (.tmp 52)), none, []⟩, 
  ⟨(some 10), (.mv (.tmp 53)), none, []⟩] false))) (.region [
  ⟨(some 54), (.bin .add .no (.tmp 42) (.const (.int .i64 1))), none, []⟩, 
  ⟨(some 42), (.mv (.tmp 54)), none, []⟩] false))))
def c_seichelaw09_DiffJoins_l1 : ACode := (.seq (.region [
  ⟨(some 37), (.bin .lss .no (.tmp 36) (.tmp 35)), none, []⟩] false) (.seq (.cond (.tmp 37) .skip (.exit 0)) (.seq (.block 1 (.seq (.region [
  ⟨(some 38), (.iaddr 2 (.tmp 34) (.tmp 36)), none, []⟩, 
  ⟨(some 39), (.load (some 2) (.tmp 38)), none, []⟩, 
  ⟨(some 9), (.new [(.str []), (.int .i64 0)]), none, []⟩, 
  ⟨none, (.store 2 (.tmp 9) (.tmp 39)), none, []⟩] false) (.seq (.region [
  ⟨(some 10), (.mv (.const (.bool false))), none, []⟩] false) (.seq (.seq (.region [
  ⟨(some 40), (.mv (.tmp 7)), none, []⟩, 
  ⟨(some 41), (.len false (.tmp 40)), none, []⟩, 
  ⟨(some 42), (.mv (.const (.int .i64 0))), none, []⟩] false) (.block 2 (.loop c_seichelaw09_DiffJoins_l2))) (.seq (.region [
  ⟨(some 55), (.mv (.tmp 10)), none, []⟩, 
  ⟨(some 56), (.un .not (.tmp 55)), none, []⟩] false) (.cond (.tmp 56) (.seq (.region [
  ⟨(some 6), (.mv (.const (.bool false))), none, []⟩] false) .ret) .skip)))))) (.region [
  ⟨(some 57), (.bin .add .no (.tmp 36) (.const (.int .i64 1))), none, []⟩, 
  ⟨(some 36), (.mv (.tmp 57)), none, []⟩] false))))
def c_seichelaw09_DiffJoins : ACode := (.seq (.region [
  ⟨(some 6), (.mv (.const (.bool false))), none, []⟩] false) (.seq (.seq (.region [
  ⟨(some 13), (.call F.seichelaw09_alive []), none, []⟩, 
  ⟨(some 14), (.un .not (.tmp 13)), none, []⟩] false) (.cond (.tmp 14) (.seq (.region [
  ⟨(some 6), (.mv (.const (.bool false))), none, []⟩] false) .ret) .skip)) (.seq (.seq (.region [
  ⟨(some 15), (.mv (.tmp 0)), none, []⟩, 
  ⟨(some 16), (.call F.seichelaw09_odd [(.tmp 15)]), none, []⟩, 
  ⟨(some 17), (.mv (.tmp 16)), none, []⟩, 
  ⟨(some 18), (.mv (.tmp 1)), (some (17, false)), []⟩, 
  ⟨(some 19), (.call F.seichelaw09_odd [(.tmp 18)]), (some (17, false)), []⟩, 
  ⟨(some 20), (.pick (.tmp 17) (.const (.bool true)) (.tmp 19)), none, []⟩, 
  ⟨(some 21), (.mv (.tmp 20)), none, []⟩, 
  ⟨(some 22), (.mv (.tmp 2)), (some (21, false)), []⟩, 
  ⟨(some 23), (.call F.seichelaw09_odd [(.tmp 22)]), (some (21, false)), []⟩, 
  ⟨(some 24), (.pick (.tmp 21) (.const (.bool true)) (.tmp 23)), none, []⟩] false) (.cond (.tmp 24) (.seq (.region [
  ⟨(some 6), (.mv (.const (.bool true))), none, []⟩] false) .ret) .skip)) (.seq (.region [
  ⟨(some 25), (.mv (.tmp 0)), none, []⟩, 
  ⟨(some 26), (.mv (.tmp 1)), none, []⟩, 
  ⟨(some 27), (.call F.diff_Lists [(.tmp 25), (.tmp 26)]), none, []⟩, 
  ⟨(some 28), (.mv (.tmp 1)), none, []⟩, 
  ⟨(some 29), (.mv (.tmp 2)), none, []⟩, 
  ⟨(some 30), (.call F.diff_Lists [(.tmp 28), (.tmp 29)]), none, []⟩, 
  ⟨(some 31), (.app 2 (.tmp 27) (.tmp 30)), none, []⟩, 
  ⟨(some 7), (.mvo 31), none, []⟩] false) (.seq (.seq (.region [
  ⟨(some 32), (.mv (.tmp 0)), none, []⟩, 
  ⟨(some 33), (.mv (.tmp 2)), none, []⟩, 
  ⟨(some 34), (.call F.diff_Lists [(.tmp 32), (.tmp 33)]), none, []⟩, 
  ⟨(some 35), (.len false (.tmp 34)), none, []⟩, 
  ⟨(some 36), (.mv (.const (.int .i64 0))), none, []⟩] false) (.block 0 (.loop c_seichelaw09_DiffJoins_l1))) (.seq (.region [
  ⟨(some 6), (.mv (.const (.bool true))), none, []⟩] false) .ret))))))
theorem cf_seichelaw09_DiffJoins : cFn Go.Proofs.Tryd.prog F.seichelaw09_DiffJoins = some ⟨58, c_seichelaw09_DiffJoins, [.t 6]⟩ := by kernel_rfl
def L.seichelaw09_DiffJoins_l2 (k0 : Bool → Option Bool) : List T.Change → T.Change → Bool → Option Bool
  | [], x263, t10_268 =>
    k0 t10_268
  | a278 :: rest, x263, t10_268 =>
    if t10_268 = true then
      L.seichelaw09_DiffJoins_l2 k0 rest x263 true
    else
      L.seichelaw09_DiffJoins_l2 k0 rest x263 (decide (x263.Path = a278.Path))
theorem ok.seichelaw09_DiffJoins_l2 {Γ : Abs.Spec} {gl : Glob} (hC_seichelaw09_alive : CallsX Γ K.seichelaw09_alive) (hC_seichelaw09_odd : CallsX Γ K.seichelaw09_odd) (hC_diff_Lists : CallsX Γ K.diff_Lists) {Q : Ex → St → Prop} {r : Bool} {t7_113 : (List T.Change)} {l111 : List T.Change} {k112 : Nat} {l238 : List T.Change} {k0 : Bool → Option Bool}
    (hk0 : ∀ (s : St) (t10_298 : Bool), ((s.tm 7).nf = (V.sl false 2 (List.map E.Change t7_113))) → (OwnS s 7) → (s.tm 10 = (V.bool t10_298)) → ((s.tm 34).nf = (V.sl false 2 (List.map E.Change l111))) → (s.tm 35 = (V.int .i64 ((l111.length : Nat) : Int))) → (s.tm 36 = (V.int .i64 ((k112 : Nat) : Int))) → k0 t10_298 = some r → Q (.exit 2) s)
    (hR : ∀ s, EndsX [.t 6] false (V.bool r) s → Q .ret s)
    (hlen : l238.length ≤ Lim) : ∀ (rest : List T.Change) (k239 : Nat) (s : St) (i264 : Nat) (x263 : T.Change) (t10_268 : Bool), l238.drop k239 = rest → k239 ≤ l238.length →
    ((s.tm 40).nf = V.sl false 2 (List.map E.Change l238)) → (s.tm 41 = V.int .i64 ((l238.length : Nat) : Int)) → (s.tm 42 = V.int .i64 ((k239 : Nat) : Int)) → (i264 < s.nH) → (Cells s i264 (C.Change x263)) → ((s.tm 7).nf = (V.sl false 2 (List.map E.Change t7_113))) → (OwnS s 7) → (s.tm 9 = (V.ptr i264 0)) → (s.tm 10 = (V.bool t10_268)) → ((s.tm 34).nf = (V.sl false 2 (List.map E.Change l111))) → (s.tm 35 = (V.int .i64 ((l111.length : Nat) : Int))) → (s.tm 36 = (V.int .i64 ((k112 : Nat) : Int))) →
    L.seichelaw09_DiffJoins_l2 k0 rest x263 t10_268 = some r → awp Γ gl (.loop c_seichelaw09_DiffJoins_l2) Q s := by
  intro rest
  induction rest with
  | nil =>
    intro k239 s i264 x263 t10_268 hdrop hkl hX hN hI hli264 hci264 h265 h265o h266 h267 h269 h270 h271 hD
    have hkz := drop_nil hdrop hkl
    have hp0 : ¬ (((k239 : Nat) : Int) < ((l238.length : Nat) : Int)) := by omega
    refine awp_roundK fun K hK => ?_
    rw [L.seichelaw09_DiffJoins_l2] at hD
    refine x_seq ?_
    refine x_start (b := false) ?_
    refine x_bin hI hN b_lss ?_
    refine x_done ?_
    refine x_tN ?_
    refine x_seq ?_
    refine x_cf (show _ = (V.bool (decide (((k239 : Nat) : Int) < ((l238.length : Nat) : Int)))) from rfl) (decide_eq_false hp0) ?_
    refine x_exitc ?_
    refine x_tE ?_
    refine x_tE ?_
    refine hk0 _ _ ?_ ?_ ?_ ?_ ?_ ?_ hD
    · exact h265
    · exact h265o
    · exact h267
    · exact h269
    · exact h270
    · exact h271
  | cons a278 rest ih =>
    intro k239 s i264 x263 t10_268 hdrop hkl hX hN hI hli264 hci264 h265 h265o h266 h267 h269 h270 h271 hD
    obtain ⟨hlt, -, hget, hdrop1, -⟩ := drop_cons hdrop
    have hp1 : ((k239 : Nat) : Int) < ((l238.length : Nat) : Int) := by omega
    have hwk := wi_succ (k := k239) (by unfold Lim at hlen; omega)
    refine awp_roundK fun K hK => ?_
    rw [L.seichelaw09_DiffJoins_l2] at hD
    refine x_seq ?_
    refine x_start (b := false) ?_
    refine x_bin hI hN b_lss ?_
    refine x_done ?_
    refine x_tN ?_
    refine x_seq ?_
    refine x_ct (show _ = (V.bool (decide (((k239 : Nat) : Int) < ((l238.length : Nat) : Int)))) from rfl) (decide_eq_true hp1) ?_
    refine x_skip ?_
    refine x_tN ?_
    refine x_seq ?_
    refine x_block ?_
    refine x_seq ?_
    refine x_start (b := false) ?_
    refine x_iaddr hX hI (at_k hget) fun v283 (hv283 : v283.nf = V.el (C.Change a278) 0) => ?_
    refine x_load_el hv283 (ld_Change_0_2 a278) fun v284 hv284 => ?_
    refine x_new (l := (C.Change ({ Path := [], Kind := 0 } : T.Change))) (by kernel_rfl) fun i285 hidi285 hci285 => ?_
    refine x_store (ws := (C.Change a278)) (l' := (C.Change a278)) (show _ = (V.ptr i285 0) from rfl) hci285 (cells_of rfl hv284) ⟨(C.Change_len a278), (C.Change_sc a278), le_len (C.Change_len ({ Path := [], Kind := 0 } : T.Change)) (by decide)⟩ (setAt_full (Eq.trans (C.Change_len a278) (Eq.symm (C.Change_len ({ Path := [], Kind := 0 } : T.Change))))) fun csv286 ysv286 hcsv286 hnv286 hcv286 hsv286 => ?_
    refine x_done ?_
    refine x_tN ?_
    refine x_start (b := false) ?_
    refine x_mv' h267 ?_
    refine x_mv' (show _ = (V.bool t10_268) from rfl) ?_
    by_cases hp287 : t10_268 = true
    · rw [if_pos hp287] at hD
      refine x_gn (show _ = (V.bool t10_268) from rfl) hp287 ?_
      refine x_gn (show _ = (V.bool t10_268) from rfl) hp287 ?_
      refine x_gn (show _ = (V.bool t10_268) from rfl) hp287 ?_
      refine x_gn (show _ = (V.bool t10_268) from rfl) hp287 ?_
      refine x_gn (show _ = (V.bool t10_268) from rfl) hp287 ?_
      refine x_pickt' (show _ = (V.bool t10_268) from rfl) hp287 (show _ = (V.bool true) from rfl) ?_
      refine x_mv' (show _ = (V.bool true) from rfl) ?_
      refine x_done ?_
      refine x_bN ?_
      refine x_tN ?_
      refine x_start (b := false) ?_
      refine x_bin hI (show _ = (V.int .i64 1) from rfl) b_add ?_
      refine x_mv' (show _ = (V.int .i64 (wi (((k239 : Nat) : Int) + 1))) from rfl) ?_
      refine x_done ?_
      refine x_tN ?_
      refine hK _ ?_
      refine ih (k239 + 1) _ i264 _ _ hdrop1 hlt ?_ ?_ ?_ ?_ ?_ ?_ ?_ ?_ ?_ ?_ ?_ ?_ hD
      · exact hX
      · exact hN
      · exact (Eq.trans (show _ = (V.int .i64 (wi (((k239 : Nat) : Int) + 1))) from rfl) (congrArg (V.int .i64) hwk))
      · exact (Nat.lt_succ_of_lt hli264)
      · exact (cells_setOb (Nat.ne_of_lt (Nat.lt_of_lt_of_eq hli264 hidi285.symm)) (cells_new hli264 hci264))
      · exact h265
      · exact h265o
      · exact h266
      · exact (show _ = (V.bool true) from rfl)
      · exact h269
      · exact h270
      · exact h271
    · rw [if_neg hp287] at hD
      refine x_gy (show _ = (V.bool t10_268) from rfl) (Bool.eq_false_iff.2 hp287) ?_
      refine x_faddr h266 ?_
      refine x_gy (show _ = (V.bool t10_268) from rfl) (Bool.eq_false_iff.2 hp287) ?_
      refine x_load (show _ = (V.ptr i264 0) from rfl) (cells_setOb (Nat.ne_of_lt (Nat.lt_of_lt_of_eq hli264 hidi285.symm)) (cells_new hli264 hci264)) (ld_Change_0_n x263) fun v288 hv288 => ?_
      refine x_gy (show _ = (V.bool t10_268) from rfl) (Bool.eq_false_iff.2 hp287) ?_
      refine x_faddr (show _ = (V.ptr i285 0) from rfl) ?_
      refine x_gy (show _ = (V.bool t10_268) from rfl) (Bool.eq_false_iff.2 hp287) ?_
      refine x_load (show _ = (V.ptr i285 0) from rfl) hcv286 (ld_Change_0_n a278) fun v289 hv289 => ?_
      refine x_gy (show _ = (V.bool t10_268) from rfl) (Bool.eq_false_iff.2 hp287) ?_
      refine x_bin (nf_str hv288) (nf_str hv289) s_eql ?_
      refine x_pickf' (show _ = (V.bool t10_268) from rfl) (Bool.eq_false_iff.2 hp287) (show _ = (V.bool (decide (x263.Path = a278.Path))) from rfl) ?_
      refine x_mv' (show _ = (V.bool (decide (x263.Path = a278.Path))) from rfl) ?_
      refine x_done ?_
      refine x_bN ?_
      refine x_tN ?_
      refine x_start (b := false) ?_
      refine x_bin hI (show _ = (V.int .i64 1) from rfl) b_add ?_
      refine x_mv' (show _ = (V.int .i64 (wi (((k239 : Nat) : Int) + 1))) from rfl) ?_
      refine x_done ?_
      refine x_tN ?_
      refine hK _ ?_
      refine ih (k239 + 1) _ i264 _ _ hdrop1 hlt ?_ ?_ ?_ ?_ ?_ ?_ ?_ ?_ ?_ ?_ ?_ ?_ hD
      · exact hX
      · exact hN
      · exact (Eq.trans (show _ = (V.int .i64 (wi (((k239 : Nat) : Int) + 1))) from rfl) (congrArg (V.int .i64) hwk))
      · exact (Nat.lt_succ_of_lt hli264)
      · exact (cells_setOb (Nat.ne_of_lt (Nat.lt_of_lt_of_eq hli264 hidi285.symm)) (cells_new hli264 hci264))
      · exact h265
      · exact h265o
      · exact h266
      · exact (show _ = (V.bool (decide (x263.Path = a278.Path))) from rfl)
      · exact h269
      · exact h270
      · exact h271
def L.seichelaw09_DiffJoins_l1 (t7_113 : (List T.Change)) (k0 : Option Bool) : List T.Change → Option Bool
  | [] =>
    k0
  | a194 :: rest =>
    if t7_113.length ≤ Lim then L.seichelaw09_DiffJoins_l2 (fun (t10_304 : Bool) => if t10_304 = true then
      L.seichelaw09_DiffJoins_l1 t7_113 k0 rest
    else
      some false) t7_113 a194 false else none
theorem ok.seichelaw09_DiffJoins_l1 {Γ : Abs.Spec} {gl : Glob} (hC_seichelaw09_alive : CallsX Γ K.seichelaw09_alive) (hC_seichelaw09_odd : CallsX Γ K.seichelaw09_odd) (hC_diff_Lists : CallsX Γ K.diff_Lists) {Q : Ex → St → Prop} {r : Bool} {t7_113 : (List T.Change)} {l111 : List T.Change} {k0 : Option Bool}
    (hk0 : ∀ (s : St), k0 = some r → Q (.exit 0) s)
    (hR : ∀ s, EndsX [.t 6] false (V.bool r) s → Q .ret s)
    (hlen : l111.length ≤ Lim) : ∀ (rest : List T.Change) (k112 : Nat) (s : St), l111.drop k112 = rest → k112 ≤ l111.length →
    ((s.tm 34).nf = V.sl false 2 (List.map E.Change l111)) → (s.tm 35 = V.int .i64 ((l111.length : Nat) : Int)) → (s.tm 36 = V.int .i64 ((k112 : Nat) : Int)) → ((s.tm 7).nf = (V.sl false 2 (List.map E.Change t7_113))) → (OwnS s 7) →
    L.seichelaw09_DiffJoins_l1 t7_113 k0 rest = some r → awp Γ gl (.loop c_seichelaw09_DiffJoins_l1) Q s := by
  intro rest
  induction rest with
  | nil =>
    intro k112 s hdrop hkl hX hN hI h193 h193o hD
    have hkz := drop_nil hdrop hkl
    have hp0 : ¬ (((k112 : Nat) : Int) < ((l111.length : Nat) : Int)) := by omega
    refine awp_roundK fun K hK => ?_
    rw [L.seichelaw09_DiffJoins_l1] at hD
    refine x_seq ?_
    refine x_start (b := false) ?_
    refine x_bin hI hN b_lss ?_
    refine x_done ?_
    refine x_tN ?_
    refine x_seq ?_
    refine x_cf (show _ = (V.bool (decide (((k112 : Nat) : Int) < ((l111.length : Nat) : Int)))) from rfl) (decide_eq_false hp0) ?_
    refine x_exitc ?_
    refine x_tE ?_
    refine x_tE ?_
    refine hk0 _ hD
  | cons a194 rest ih =>
    intro k112 s hdrop hkl hX hN hI h193 h193o hD
    obtain ⟨hlt, -, hget, hdrop1, -⟩ := drop_cons hdrop
    have hp1 : ((k112 : Nat) : Int) < ((l111.length : Nat) : Int) := by omega
    have hwk := wi_succ (k := k112) (by unfold Lim at hlen; omega)
    refine awp_roundK fun K hK => ?_
    rw [L.seichelaw09_DiffJoins_l1] at hD
    refine x_seq ?_
    refine x_start (b := false) ?_
    refine x_bin hI hN b_lss ?_
    refine x_done ?_
    refine x_tN ?_
    refine x_seq ?_
    refine x_ct (show _ = (V.bool (decide (((k112 : Nat) : Int) < ((l111.length : Nat) : Int)))) from rfl) (decide_eq_true hp1) ?_
    refine x_skip ?_
    refine x_tN ?_
    refine x_seq ?_
    refine x_block ?_
    refine x_seq ?_
    refine x_start (b := false) ?_
    refine x_iaddr hX hI (at_k hget) fun v199 (hv199 : v199.nf = V.el (C.Change a194) 0) => ?_
    refine x_load_el hv199 (ld_Change_0_2 a194) fun v200 hv200 => ?_
    refine x_new (l := (C.Change ({ Path := [], Kind := 0 } : T.Change))) (by kernel_rfl) fun i201 hidi201 hci201 => ?_
    refine x_store (ws := (C.Change a194)) (l' := (C.Change a194)) (show _ = (V.ptr i201 0) from rfl) hci201 (cells_of rfl hv200) ⟨(C.Change_len a194), (C.Change_sc a194), le_len (C.Change_len ({ Path := [], Kind := 0 } : T.Change)) (by decide)⟩ (setAt_full (Eq.trans (C.Change_len a194) (Eq.symm (C.Change_len ({ Path := [], Kind := 0 } : T.Change))))) fun csv202 ysv202 hcsv202 hnv202 hcv202 hsv202 => ?_
    refine x_done ?_
    refine x_tN ?_
    refine x_seq ?_
    refine x_start (b := false) ?_
    refine x_mv' (show _ = (V.bool false) from rfl) ?_
    refine x_done ?_
    refine x_tN ?_
    refine x_seq ?_
    refine x_seq ?_
    refine x_start (b := false) ?_
    refine x_mv h193 fun v237 hv237 => ?_
    refine x_len hv237 ?_
    refine x_mv' (show _ = (V.int .i64 0) from rfl) ?_
    refine x_done ?_
    refine x_tN ?_
    refine x_block ?_
    by_cases hlen310 : t7_113.length ≤ Lim
    · rw [if_pos hlen310] at hD
      refine ok.seichelaw09_DiffJoins_l2 (t7_113 := t7_113) (l111 := l111) (k112 := k112) (l238 := t7_113) hC_seichelaw09_alive hC_seichelaw09_odd hC_diff_Lists (fun s309 t10_304 h302 h302o h303 h305 h306 h307 hD => ?_) (fun _ hE => ?_) hlen310 _ 0 _ i201 _ _ rfl (Nat.zero_le _) ?_ ?_ ?_ ?_ ?_ ?_ ?_ ?_ ?_ ?_ ?_ ?_ hD
      · refine x_bE ?_
        refine x_tN ?_
        refine x_seq ?_
        refine x_start (b := false) ?_
        refine x_mv' h303 ?_
        refine x_un (show _ = (V.bool t10_304) from rfl) (aun_not _) ?_
        refine x_done ?_
        refine x_tN ?_
        by_cases hp308 : t10_304 = true
        · rw [if_pos hp308] at hD
          refine x_cf (show _ = (V.bool (!t10_304)) from rfl) (bnot_t hp308) ?_
          refine x_skip ?_
          refine x_bN ?_
          refine x_tN ?_
          refine x_start (b := false) ?_
          refine x_bin h307 (show _ = (V.int .i64 1) from rfl) b_add ?_
          refine x_mv' (show _ = (V.int .i64 (wi (((k112 : Nat) : Int) + 1))) from rfl) ?_
          refine x_done ?_
          refine x_tN ?_
          refine hK _ ?_
          refine ih (k112 + 1) _ hdrop1 hlt ?_ ?_ ?_ ?_ ?_ hD
          · exact h305
          · exact h306
          · exact (Eq.trans (show _ = (V.int .i64 (wi (((k112 : Nat) : Int) + 1))) from rfl) (congrArg (V.int .i64) hwk))
          · exact h302
          · exact h302o
        · rw [if_neg hp308] at hD
          refine x_ct (show _ = (V.bool (!t10_304)) from rfl) (bnot_f (Bool.eq_false_iff.2 hp308)) ?_
          refine x_seq ?_
          refine x_start (b := false) ?_
          refine x_mv' (show _ = (V.bool false) from rfl) ?_
          refine x_done ?_
          refine x_tN ?_
          refine x_retc ?_
          refine x_bR ?_
          refine x_tR ?_
          refine x_tR ?_
          obtain rfl := Option.some.inj hD
          exact hR _ (ends_t (nf_of rfl (show _ = (V.bool false) from rfl)) (fun h => nomatch h))
      · refine x_bR ?_; refine x_tR ?_; refine x_bR ?_; refine x_tR ?_; refine x_tR ?_; exact hR _ hE
      · exact hv237
      · exact (show _ = (V.int .i64 ((t7_113.length : Nat) : Int)) from rfl)
      · exact (show _ = (V.int .i64 0) from rfl)
      · exact (Nat.lt_succ_of_le (Nat.le_of_eq hidi201))
      · exact hcv202
      · exact h193
      · exact h193o
      · exact (show _ = (V.ptr i201 0) from rfl)
      · exact (show _ = (V.bool false) from rfl)
      · exact hX
      · exact hN
      · exact hI
    · rw [if_neg hlen310] at hD; cases hD
def g.seichelaw09_DiffJoins (p0 : (List T.Input)) (p1 : (List T.Input)) (p2 : (List T.Input)) : Option Bool :=
  (g.seichelaw09_alive).bind fun r12 =>
  if r12 = true then
    (g.seichelaw09_odd p0).bind fun r60 =>
    if r60 = true then
      some true
    else
      (g.seichelaw09_odd p1).bind fun r65 =>
      if r65 = true then
        some true
      else
        (g.seichelaw09_odd p2).bind fun r70 =>
        if r70 = true then
          some true
        else
          (g.diff_Lists p0 p1).bind fun r90 =>
          (g.diff_Lists p1 p2).bind fun r95 =>
          (appL r90 r95).bind fun l97 =>
          (g.diff_Lists p0 p2).bind fun r109 =>
          if r109.length ≤ Lim then L.seichelaw09_DiffJoins_l1 l97 (some true) r109 else none
  else
    some false
theorem ok.seichelaw09_DiffJoins {Γ : Abs.Spec} {gl : Glob} (hC_seichelaw09_alive : CallsX Γ K.seichelaw09_alive) (hC_seichelaw09_odd : CallsX Γ K.seichelaw09_odd) (hC_diff_Lists : CallsX Γ K.diff_Lists) {r : Bool} {p0 : (List T.Input)} {p1 : (List T.Input)} {p2 : (List T.Input)} {v : List V}
    (hv : nfL v = [(V.sl false 33 (List.map E.Input p0)), (V.sl false 33 (List.map E.Input p1)), (V.sl false 33 (List.map E.Input p2))]) (hD : g.seichelaw09_DiffJoins p0 p1 p2 = some r) : awp Γ gl c_seichelaw09_DiffJoins (endQ [.t 6] false (V.bool r)) (St.init v) := by
  obtain ⟨v0, v, rfl, h0, hv⟩ := nfL_cons hv
  obtain ⟨v1, v, rfl, h1, hv⟩ := nfL_cons hv
  obtain ⟨v2, v, rfl, h2, hv⟩ := nfL_cons hv
  obtain rfl := nfL_nil hv
  have hR : ∀ s, EndsX [.t 6] false (V.bool r) s → endQ [.t 6] false (V.bool r) .ret s := fun _ h => h
  unfold g.seichelaw09_DiffJoins at hD
  unfold c_seichelaw09_DiffJoins
  refine x_seq ?_
  refine x_start (b := false) ?_
  refine x_mv' (show _ = (V.bool false) from rfl) ?_
  refine x_done ?_
  refine x_tN ?_
  refine x_seq ?_
  refine x_seq ?_
  refine x_start (b := false) ?_
  obtain ⟨r12, hx13, hD⟩ := Option.bind_eq_some_iff.1 hD
  refine x_callF hC_seichelaw09_alive (a := ()) rfl hx13 fun v11 ov11 (hv11 : v11.nf = (V.bool r12)) hov11 => ?_
  refine x_un (nf_bool hv11) (aun_not _) ?_
  refine x_done ?_
  refine x_tN ?_
  by_cases hp14 : r12 = true
  · rw [if_pos hp14] at hD
    refine x_cf (show _ = (V.bool (!r12)) from rfl) (bnot_t hp14) ?_
    refine x_skip ?_
    refine x_tN ?_
    refine x_seq ?_
    refine x_seq ?_
    refine x_start (b := false) ?_
    refine x_mv h0 fun v58 hv58 => ?_
    obtain ⟨r60, hx61, hD⟩ := Option.bind_eq_some_iff.1 hD
    refine x_callF hC_seichelaw09_odd (a := (p0)) (cons_eq hv58 rfl) hx61 fun v59 ov59 (hv59 : v59.nf = (V.bool r60)) hov59 => ?_
    refine x_mv' (nf_bool hv59) ?_
    by_cases hp62 : r60 = true
    · rw [if_pos hp62] at hD
      refine x_gn (show _ = (V.bool r60) from rfl) hp62 ?_
      refine x_gn (show _ = (V.bool r60) from rfl) hp62 ?_
      refine x_pickt' (show _ = (V.bool r60) from rfl) hp62 (show _ = (V.bool true) from rfl) ?_
      refine x_mv' (show _ = (V.bool true) from rfl) ?_
      refine x_gn (show _ = (V.bool true) from rfl) rfl ?_
      refine x_gn (show _ = (V.bool true) from rfl) rfl ?_
      refine x_pickt' (show _ = (V.bool true) from rfl) rfl (show _ = (V.bool true) from rfl) ?_
      refine x_done ?_
      refine x_tN ?_
      refine x_ct (show _ = (V.bool true) from rfl) rfl ?_
      refine x_seq ?_
      refine x_start (b := false) ?_
      refine x_mv' (show _ = (V.bool true) from rfl) ?_
      refine x_done ?_
      refine x_tN ?_
      refine x_retc ?_
      refine x_tR ?_
      obtain rfl := Option.some.inj hD
      exact hR _ (ends_t (nf_of rfl (show _ = (V.bool true) from rfl)) (fun h => nomatch h))
    · rw [if_neg hp62] at hD
      refine x_gy (show _ = (V.bool r60) from rfl) (Bool.eq_false_iff.2 hp62) ?_
      refine x_mv h1 fun v63 hv63 => ?_
      refine x_gy (show _ = (V.bool r60) from rfl) (Bool.eq_false_iff.2 hp62) ?_
      obtain ⟨r65, hx66, hD⟩ := Option.bind_eq_some_iff.1 hD
      refine x_callF hC_seichelaw09_odd (a := (p1)) (cons_eq hv63 rfl) hx66 fun v64 ov64 (hv64 : v64.nf = (V.bool r65)) hov64 => ?_
      refine x_pickf' (show _ = (V.bool r60) from rfl) (Bool.eq_false_iff.2 hp62) (nf_bool hv64) ?_
      refine x_mv' (show _ = (V.bool r65) from rfl) ?_
      by_cases hp67 : r65 = true
      · rw [if_pos hp67] at hD
        refine x_gn (show _ = (V.bool r65) from rfl) hp67 ?_
        refine x_gn (show _ = (V.bool r65) from rfl) hp67 ?_
        refine x_pickt' (show _ = (V.bool r65) from rfl) hp67 (show _ = (V.bool true) from rfl) ?_
        refine x_done ?_
        refine x_tN ?_
        refine x_ct (show _ = (V.bool true) from rfl) rfl ?_
        refine x_seq ?_
        refine x_start (b := false) ?_
        refine x_mv' (show _ = (V.bool true) from rfl) ?_
        refine x_done ?_
        refine x_tN ?_
        refine x_retc ?_
        refine x_tR ?_
        obtain rfl := Option.some.inj hD
        exact hR _ (ends_t (nf_of rfl (show _ = (V.bool true) from rfl)) (fun h => nomatch h))
      · rw [if_neg hp67] at hD
        refine x_gy (show _ = (V.bool r65) from rfl) (Bool.eq_false_iff.2 hp67) ?_
        refine x_mv h2 fun v68 hv68 => ?_
        refine x_gy (show _ = (V.bool r65) from rfl) (Bool.eq_false_iff.2 hp67) ?_
        obtain ⟨r70, hx71, hD⟩ := Option.bind_eq_some_iff.1 hD
        refine x_callF hC_seichelaw09_odd (a := (p2)) (cons_eq hv68 rfl) hx71 fun v69 ov69 (hv69 : v69.nf = (V.bool r70)) hov69 => ?_
        refine x_pickf' (show _ = (V.bool r65) from rfl) (Bool.eq_false_iff.2 hp67) (nf_bool hv69) ?_
        refine x_done ?_
        refine x_tN ?_
        by_cases hp72 : r70 = true
        · rw [if_pos hp72] at hD
          refine x_ct (show _ = (V.bool r70) from rfl) hp72 ?_
          refine x_seq ?_
          refine x_start (b := false) ?_
          refine x_mv' (show _ = (V.bool true) from rfl) ?_
          refine x_done ?_
          refine x_tN ?_
          refine x_retc ?_
          refine x_tR ?_
          obtain rfl := Option.some.inj hD
          exact hR _ (ends_t (nf_of rfl (show _ = (V.bool true) from rfl)) (fun h => nomatch h))
        · rw [if_neg hp72] at hD
          refine x_cf (show _ = (V.bool r70) from rfl) (Bool.eq_false_iff.2 hp72) ?_
          refine x_skip ?_
          refine x_tN ?_
          refine x_seq ?_
          refine x_start (b := false) ?_
          refine x_mv h0 fun v87 hv87 => ?_
          refine x_mv h1 fun v88 hv88 => ?_
          obtain ⟨r90, hx91, hD⟩ := Option.bind_eq_some_iff.1 hD
          refine x_callF hC_diff_Lists (a := (p0, p1)) (cons_eq hv87 (cons_eq hv88 rfl)) hx91 fun v89 ov89 (hv89 : v89.nf = (V.sl false 2 (List.map E.Change r90))) hov89 => ?_
          refine x_mv h1 fun v92 hv92 => ?_
          refine x_mv h2 fun v93 hv93 => ?_
          obtain ⟨r95, hx96, hD⟩ := Option.bind_eq_some_iff.1 hD
          refine x_callF hC_diff_Lists (a := (p1, p2)) (cons_eq hv92 (cons_eq hv93 rfl)) hx96 fun v94 ov94 (hv94 : v94.nf = (V.sl false 2 (List.map E.Change r95))) hov94 => ?_
          obtain ⟨l97, hx98, hD⟩ := Option.bind_eq_some_iff.1 hD
          refine x_app hv89 (hov89 rfl) (tail_sl hv94) hx98 fun v99 ov99 fv99 hv99 hov99 hfv99 => ?_
          refine x_mvo hv99 fun v100 ov100 hv100 hwv100 => ?_
          refine x_done ?_
          refine x_tN ?_
          refine x_seq ?_
          refine x_seq ?_
          refine x_start (b := false) ?_
          refine x_mv h0 fun v106 hv106 => ?_
          refine x_mv h2 fun v107 hv107 => ?_
          obtain ⟨r109, hx110, hD⟩ := Option.bind_eq_some_iff.1 hD
          refine x_callF hC_diff_Lists (a := (p0, p2)) (cons_eq hv106 (cons_eq hv107 rfl)) hx110 fun v108 ov108 (hv108 : v108.nf = (V.sl false 2 (List.map E.Change r109))) hov108 => ?_
          refine x_len hv108 ?_
          refine x_mv' (show _ = (V.int .i64 0) from rfl) ?_
          refine x_done ?_
          refine x_tN ?_
          refine x_block ?_
          by_cases hlen312 : r109.length ≤ Lim
          · rw [if_pos hlen312] at hD
            refine ok.seichelaw09_DiffJoins_l1 (t7_113 := l97) (l111 := r109) hC_seichelaw09_alive hC_seichelaw09_odd hC_diff_Lists (fun s311 hD => ?_) (fun _ hE => ?_) hlen312 _ 0 _ rfl (Nat.zero_le _) ?_ ?_ ?_ ?_ ?_ hD
            · refine x_bE ?_
              refine x_tN ?_
              refine x_seq ?_
              refine x_start (b := false) ?_
              refine x_mv' (show _ = (V.bool true) from rfl) ?_
              refine x_done ?_
              refine x_tN ?_
              refine x_retc ?_
              obtain rfl := Option.some.inj hD
              exact hR _ (ends_t (nf_of rfl (show _ = (V.bool true) from rfl)) (fun h => nomatch h))
            · refine x_bR ?_; refine x_tR ?_; exact hR _ hE
            · exact hv108
            · exact (show _ = (V.int .i64 ((r109.length : Nat) : Int)) from rfl)
            · exact (show _ = (V.int .i64 0) from rfl)
            · exact hv100
            · exact (hwv100 hov99)
          · rw [if_neg hlen312] at hD; cases hD
  · rw [if_neg hp14] at hD
    refine x_ct (show _ = (V.bool (!r12)) from rfl) (bnot_f (Bool.eq_false_iff.2 hp14)) ?_
    refine x_seq ?_
    refine x_start (b := false) ?_
    refine x_mv' (show _ = (V.bool false) from rfl) ?_
    refine x_done ?_
    refine x_tN ?_
    refine x_retc ?_
    refine x_tR ?_
    obtain rfl := Option.some.inj hD
    exact hR _ (ends_t (nf_of rfl (show _ = (V.bool false) from rfl)) (fun h => nomatch h))
def K.seichelaw09_DiffJoins : FC := fc F.seichelaw09_DiffJoins (fun _ => true) false (fun (a : ((List T.Input) × (List T.Input) × (List T.Input))) => [(V.sl false 33 (List.map E.Input a.1)), (V.sl false 33 (List.map E.Input a.2.1)), (V.sl false 33 (List.map E.Input a.2.2))]) (fun (y : Bool) => (V.bool y)) (fun a => g.seichelaw09_DiffJoins a.1 a.2.1 a.2.2)
  (fun a => (cleanL_mk (E.LInput_clean _) (cleanL_mk (E.LInput_clean _) (cleanL_mk (E.LInput_clean _) rfl))))
  (fun y => rfl)
  (fun ⟨a0, a1, a2⟩ ⟨b0, b1, b2⟩ h => by
    obtain ⟨h0, h⟩ := List.cons.inj h
    obtain rfl : a0 = b0 := E.LInput_inj h0
    obtain ⟨h0, h⟩ := List.cons.inj h
    obtain rfl : a1 = b1 := E.LInput_inj h0
    obtain ⟨h0, h⟩ := List.cons.inj h
    obtain rfl : a2 = b2 := E.LInput_inj h0
    rfl)
theorem H.seichelaw09_DiffJoins (w : World) (hw : EnvOK w) : K.seichelaw09_DiffJoins.Holds (cxD w) :=
  FC.holds_of (cs := [K.seichelaw09_alive, K.seichelaw09_odd, K.diff_Lists]) (glD w) mixed cf_seichelaw09_DiffJoins (fun _ _ ⟨_, _, h, _⟩ => by subst h; exact Nat.le_of_ble_eq_true rfl) fun v y ⟨a, r, hv, hD, hy⟩ => by
    subst hy
    exact ok.seichelaw09_DiffJoins (specOf_calls (H.seichelaw09_alive w hw) (fun _ _ ⟨_, _, h, _⟩ => by subst h; rfl)) (specOf_calls (H.seichelaw09_odd w hw) (fun _ _ ⟨_, _, h, _⟩ => by subst h; rfl)) (specOf_calls (H.diff_Lists w hw) (fun _ _ ⟨_, _, h, _⟩ => by subst h; rfl)) hv hD
end Go.Proofs.YtainplhaaklpeaaDoor
