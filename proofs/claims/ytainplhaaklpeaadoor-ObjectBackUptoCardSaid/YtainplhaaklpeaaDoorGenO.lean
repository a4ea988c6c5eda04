/-
  Functions of the program as Lean functions over plain data, and the proofs that the loaded code comes to them. Printed by a program of this seat (wip/gen/gen.py).
-/
import Derived.Test.YtainplhaaklpeaaDoorProg
import Derived.Test.YtainplhaaklpeaaDoorGenT
namespace Go.Proofs.YtainplhaaklpeaaDoor
open Go.Abs Go.RowKit

def F.seichelaw07_ObjectTrees : Nat := 6
def F.seichelaw07_ObjectLess : Nat := 7
def F.seichelaw07_alive : Nat := 21
def F.seichelaw07_greatTree : Nat := 22
def F.object_PutTree : Nat := 23
def F.seicheref07_GoodTree : Nat := 24
def F.object_GoodTree : Nat := 25
def F.seicheref07_Tree : Nat := 26
def F.object_GetTree : Nat := 27
def F.seicheref07_GetTree : Nat := 28
def F.seicheref07_SameTree : Nat := 29
def F.object_GoodCommit : Nat := 49
def F.object_id : Nat := 69
def F.seicheref07_digest : Nat := 71
def E.A32_u8 (x : (Arr 32)) : V := .agg (encB x.1)
theorem E.A32_u8_clean (x : (Arr 32)) : (E.A32_u8 x).clean = true := cleanL_encB _
theorem E.A32_u8_inj {a b : (Arr 32)} (h : E.A32_u8 a = E.A32_u8 b) : a = b := by
  simp only [E.A32_u8, V.agg.injEq] at h
  exact Subtype.ext (encB_inj h)
theorem E.A32_u8_fit (x : (Arr 32)) : (E.A32_u8 x).cells.length = 32 ∧ (E.A32_u8 x).cells.all V.sc = true := ⟨enc_len x, encB_sc x.1⟩
def c_object_id : ACode := (.seq (.region [
  ⟨(some 2), (.new (repl 32 (.int .u8 0))), none, []⟩, 
  ⟨(some 3), (.mv (.const (.bool false))), none, []⟩] false) (.seq (.seq (.region [
  ⟨(some 4), (.mv (.tmp 0)), none, []⟩, 
  ⟨(some 5), (.len true (.tmp 4)), none, []⟩, 
  ⟨(some 6), (.bin .neq .no (.tmp 5) (.const (.int .i64 32))), none, []⟩] false) (.cond (.tmp 6) (.seq (.region [
  ⟨(some 7), (.build (repl 32 (.int .u8 0)) []), none, []⟩, 
  ⟨none, (.store 32 (.tmp 2) (.tmp 7)), none, []⟩, 
  ⟨(some 3), (.mv (.const (.bool false))), none, []⟩] false) .ret) .skip)) (.seq (.region [
  ⟨(some 8), (.mv (.tmp 0)), none, []⟩, 
  ⟨(some 9), (.s2b (.tmp 8)), none, []⟩, 
  ⟨(some 10), (.s2a 32 (.tmp 9)), none, []⟩, 
  ⟨(some 11), (.load (some 32) (.tmp 10)), none, []⟩, 
  ⟨none, (.store 32 (.tmp 2) (.tmp 11)), none, []⟩, 
  ⟨(some 3), (.mv (.const (.bool true))), none, []⟩] false) .ret)))
theorem cf_object_id : cFn Go.Proofs.Tryd.prog F.object_id = some ⟨12, c_object_id, [.c 2 (some 32), .t 3]⟩ := by kernel_rfl
def g.object_id (p0 : Bytes) : Option ((Arr 32) × Bool) :=
  if ((p0.length : Nat) : Int) = 32 then
    (toArr 32 p0).bind fun a9 =>
    some (a9, true)
  else
    some ((Arr.zero 32), false)
theorem ok.object_id {Γ : Abs.Spec} {gl : Glob} {r : ((Arr 32) × Bool)} {p0 : Bytes} {v : List V}
    (hv : nfL v = [(V.str p0)]) (hD : g.object_id p0 = some r) : awp Γ gl c_object_id (endQ [.c 2 (some 32), .t 3] false (V.tup [(V.agg (encB (r.1).1)), (V.bool r.2)])) (St.init v) := by
  obtain ⟨v0, v, rfl, h0, hv⟩ := nfL_cons hv
  obtain rfl := nfL_nil hv
  have hR : ∀ s, EndsX [.c 2 (some 32), .t 3] false (V.tup [(V.agg (encB (r.1).1)), (V.bool r.2)]) s → endQ [.c 2 (some 32), .t 3] false (V.tup [(V.agg (encB (r.1).1)), (V.bool r.2)]) .ret s := fun _ h => h
  unfold g.object_id at hD
  unfold c_object_id
  refine x_seq ?_
  refine x_start (b := false) ?_
  refine x_new (l := (encB ((Arr.zero 32)).1)) (nf_zero _) fun i2 hidi2 hci2 => ?_
  refine x_mv' (show _ = (V.bool false) from rfl) ?_
  refine x_done ?_
  refine x_tN ?_
  refine x_seq ?_
  refine x_seq ?_
  refine x_start (b := false) ?_
  refine x_mv' (nf_str h0) ?_
  refine x_lens (show _ = (V.str p0) from rfl) ?_
  refine x_bin (show _ = (V.int .i64 ((p0.length : Nat) : Int)) from rfl) (show _ = (V.int .i64 32) from rfl) b_neq ?_
  refine x_done ?_
  refine x_tN ?_
  by_cases hp6 : ((p0.length : Nat) : Int) = 32
  · rw [if_pos hp6] at hD
    refine x_cf (show _ = (V.bool (!(decide (((p0.length : Nat) : Int) = 32)))) from rfl) (bnot_t (decide_eq_true hp6)) ?_
    refine x_skip ?_
    refine x_tN ?_
    refine x_seq ?_
    refine x_start (b := false) ?_
    refine x_mv' (nf_str h0) ?_
    refine x_s2b (show _ = (V.str p0) from rfl) fun v7 ov7 hv7 hov7 => ?_
    obtain ⟨a9, hx10, hD⟩ := Option.bind_eq_some_iff.1 hD
    refine x_s2a hv7 (toArr_le hx10) (toArr_ne hx10 (by decide)) fun v8 hv80 => ?_
    have hv8 : v8.nf = V.el (encB (a9).1) 0 := by rw [hv80, toArr_eq hx10]; rfl
    refine x_load_el hv8 (ld_arr a9) fun v11 hv11 => ?_
    refine x_store (ws := (encB (a9).1)) (l' := (encB (a9).1)) (show _ = (V.ptr i2 0) from rfl) hci2 (cells_of rfl hv11) ⟨(enc_len a9), (encB_sc a9.1), le_len (enc_len (Arr.zero 32)) (by decide)⟩ (setAt_full (Eq.trans (enc_len a9) (Eq.symm (enc_len (Arr.zero 32))))) fun csv12 ysv12 hcsv12 hnv12 hcv12 hsv12 => ?_
    refine x_mv' (show _ = (V.bool true) from rfl) ?_
    refine x_done ?_
    refine x_tN ?_
    refine x_retc ?_
    obtain rfl := Option.some.inj hD
    exact hR _ (ends_tup (rvs_cons (rv_c (show _ = (V.ptr i2 0) from rfl) hcv12 (ld_arr a9)) (rvs_cons (rv_t (nf_of rfl (show _ = (V.bool true) from rfl))) rvs_nil)) (by decide))
  · rw [if_neg hp6] at hD
    refine x_ct (show _ = (V.bool (!(decide (((p0.length : Nat) : Int) = 32)))) from rfl) (bnot_f (decide_eq_false hp6)) ?_
    refine x_seq ?_
    refine x_start (b := false) ?_
    refine x_build (ws := []) (l := encB ((Arr.zero 32)).1) rfl (by rw [nf_zero]; rfl) fun v13 hv13 _ => ?_
    refine x_store (ws := (encB ((Arr.zero 32)).1)) (l' := (encB ((Arr.zero 32)).1)) (show _ = (V.ptr i2 0) from rfl) hci2 (cells_of rfl hv13) ⟨(enc_len (Arr.zero 32)), (encB_sc (Arr.zero 32).1), le_len (enc_len (Arr.zero 32)) (by decide)⟩ (setAt_full (Eq.trans (enc_len (Arr.zero 32)) (Eq.symm (enc_len (Arr.zero 32))))) fun csv14 ysv14 hcsv14 hnv14 hcv14 hsv14 => ?_
    refine x_mv' (show _ = (V.bool false) from rfl) ?_
    refine x_done ?_
    refine x_tN ?_
    refine x_retc ?_
    refine x_tR ?_
    obtain rfl := Option.some.inj hD
    exact hR _ (ends_tup (rvs_cons (rv_c (show _ = (V.ptr i2 0) from rfl) hcv14 (ld_arr (Arr.zero 32))) (rvs_cons (rv_t (nf_of rfl (show _ = (V.bool false) from rfl))) rvs_nil)) (by decide))
def K.object_id : FC := fc F.object_id (fun _ => true) false (fun (a : Bytes) => [(V.str a)]) (fun (y : ((Arr 32) × Bool)) => (V.tup [(V.agg (encB (y.1).1)), (V.bool y.2)])) (fun a => g.object_id a)
  (fun a => (cleanL_mk rfl rfl))
  (fun y => (cleanL_mk (E.A32_u8_clean _) (cleanL_mk rfl rfl)))
  (fun a0 b0 h => by
    obtain ⟨h0, h⟩ := List.cons.inj h
    obtain rfl : a0 = b0 := V.str.inj h0
    rfl)
theorem H.object_id (w : World) (_hw : EnvOK w) : K.object_id.Holds (cxD w) :=
  FC.holds_of (cs := []) (glD w) mixed cf_object_id (fun _ _ ⟨_, _, h, _⟩ => by subst h; exact Nat.le_of_ble_eq_true rfl) fun v y ⟨a, r, hv, hD, hy⟩ => by
    subst hy
    exact ok.object_id hv hD
structure T.Entry where
  Name : Bytes
  Tree : Bool
  Id : (Arr 32)
  deriving DecidableEq
def C.Entry (x : T.Entry) : List V := [(V.str x.Name)] ++ [(V.bool x.Tree)] ++ (encB (x.Id).1)
def E.Entry (x : T.Entry) : V := .agg (C.Entry x)
theorem C.Entry_len (x : T.Entry) : (C.Entry x).length = 34 := (len_app (len_app (show [(V.str x.Name)].length = 1 from rfl) (show [(V.bool x.Tree)].length = 1 from rfl)) (enc_len x.Id))
theorem C.Entry_sc (x : T.Entry) : (C.Entry x).all V.sc = true := (sc_app (sc_app rfl rfl) (encB_sc x.Id.1))
theorem E.Entry_clean (x : T.Entry) : (E.Entry x).clean = true := (clean_app (clean_app (cleanL_mk rfl rfl) (cleanL_mk rfl rfl)) (cleanL_encB _))
theorem E.Entry_inj {a b : T.Entry} (h : E.Entry a = E.Entry b) : a = b := by
  obtain ⟨a0, a1, a2⟩ := a
  obtain ⟨b0, b1, b2⟩ := b
  simp only [E.Entry, V.agg.injEq] at h
  dsimp only [C.Entry] at h
  have h2 := append_inj_r h (by rw [encB_length, encB_length, Arr.h, Arr.h])
  have h := append_inj_l h (by rw [encB_length, encB_length, Arr.h, Arr.h])
  have e2 : a2 = b2 := Subtype.ext (encB_inj h2)
  have h1 := append_inj_r h (by rfl)
  have h := append_inj_l h (by rfl)
  have e1 : a1 = b1 := V.bool.inj (List.cons.inj h1).1
  have h0 := h
  have e0 : a0 = b0 := V.str.inj (List.cons.inj h0).1
  subst e0; subst e1; subst e2; rfl
theorem E.Entry_fit (x : T.Entry) : (E.Entry x).cells.length = 34 ∧ (E.Entry x).cells.all V.sc = true := ⟨C.Entry_len x, C.Entry_sc x⟩
theorem ld_Entry_0_34 (x : T.Entry) : ldCells (some 34) (C.Entry x) 0 = some (V.agg (C.Entry x)) := by
  exact ld_all (C.Entry_len x)
theorem ld_Entry_0_n (x : T.Entry) : ldCells none (C.Entry x) 0 = some (V.str x.Name) := by
  unfold C.Entry
  rw [ld_left (le_len (len_app (show [(V.str x.Name)].length = 1 from rfl) (show [(V.bool x.Tree)].length = 1 from rfl)) (by decide))]
  rw [ld_left (le_len (show [(V.str x.Name)].length = 1 from rfl) (by decide))]
  exact (show _ = some (V.str x.Name) from rfl)
def E.LEntry (l : (List T.Entry)) : V := .sl false 34 (l.map E.Entry)
theorem E.LEntry_clean (l : (List T.Entry)) : (E.LEntry l).clean = true := cleanL_map (fun x => E.Entry_clean x) l
theorem E.LEntry_inj {a b : (List T.Entry)} (h : E.LEntry a = E.LEntry b) : a = b := by
  simp only [E.LEntry, V.sl.injEq, true_and] at h
  exact map_inj (fun x y h => E.Entry_inj h) h
theorem E.LEntry_fit (l : (List T.Entry)) : (E.LEntry l).cells.length = 1 ∧ (E.LEntry l).cells.all V.sc = true := ⟨rfl, rfl⟩
def c_object_GoodTree_l1 : ACode := (.seq (.region [
  ⟨(some 8), (.bin .lss .no (.tmp 7) (.tmp 6)), none, []⟩] false) (.seq (.cond (.tmp 8) .skip (.exit 0)) (.seq (.block 1 (.seq (.region [
  ⟨(some 9), (.mv (.tmp 7)), none, []⟩, 
  ⟨(some 10), (.iaddr 34 (.tmp 5) (.tmp 7)), none, []⟩, 
  ⟨(some 11), (.load (some 34) (.tmp 10)), none, []⟩, 
  ⟨(some 4), (.new ((.str []) :: (.bool false) :: repl 32 (.int .u8 0))), none, []⟩, 
  ⟨(some 3), (.mv (.tmp 9)), none, []⟩, 
  ⟨none, (.store 34 (.tmp 4) (.tmp 11)), none, []⟩] false) (.seq (.region [
  ⟨(some 12), (.faddr 0 (.tmp 4)), none, []⟩, 
  ⟨(some 13), (.load none (.tmp 12)), none, []⟩, 
  ⟨(some 14), (.call F.path_Good [(.tmp 13)]), none, []⟩, 
  ⟨(some 15), (.un .not (.tmp 14)), none, []⟩, 
  ⟨(some 16), (.mv (.tmp 15)), none, []⟩, 
  ⟨(some 17), (.faddr 0 (.tmp 4)), (some (16, false)), []⟩, 
  ⟨(some 18), (.load none (.tmp 17)), (some (16, false)), []⟩, 
  ⟨(some 19), (.call F.path_Dir [(.tmp 18)]), (some (16, false)), []⟩, 
  ⟨(some 20), (.bin .neq .no (.tmp 19) (.const (.str []))), (some (16, false)), []⟩, 
  ⟨(some 21), (.pick (.tmp 16) (.const (.bool true)) (.tmp 20)), none, []⟩, 
  ⟨(some 22), (.mv (.tmp 21)), none, []⟩, 
  ⟨(some 23), (.mv (.tmp 3)), (some (22, false)), []⟩, 
  ⟨(some 24), (.bin .gtr .no (.tmp 23) (.const (.int .i64 0))), (some (22, false)), []⟩, 
  ⟨(some 25), (.mv (.tmp 24)), (some (22, false)), []⟩, 
  ⟨(some 26), (.mv (.tmp 0)), (some (25, true)), []⟩, 
  ⟨(some 27), (.mv (.tmp 3)), (some (25, true)), []⟩, 
  ⟨(some 28), (.bin .sub .no (.tmp 27) (.const (.int .i64 1))), (some (25, true)), []⟩, 
  ⟨(some 29), (.iaddr 34 (.tmp 26) (.tmp 28)), (some (25, true)), []⟩, 
  ⟨(some 30), (.faddr 0 (.tmp 29)), (some (25, true)), []⟩, 
  ⟨(some 31), (.load none (.tmp 30)), (some (25, true)), []⟩, 
  ⟨(some 32), (.faddr 0 (.tmp 4)), (some (25, true)), []⟩, 
  ⟨(some 33), (.load none (.tmp 32)), (some (25, true)), []⟩, 
  ⟨(some 34), (.bin .geq .no (.tmp 31) (.tmp 33)), (some (25, true)), []⟩, 
  ⟨(some 35), (.pick (.tmp 25) (.tmp 34) (.const (.bool false))), (some (22, false)), []⟩, 
  ⟨(some 36), (.pick (.tmp 22) (.const (.bool true)) (.tmp 35)), none, []⟩] true) (.cond (.tmp 36) (.seq (.region [
  ⟨(some 2), (.mv (.const (.bool false))), none, []⟩] false) .ret) .skip)))) (.region [
  ⟨(some 37), (.bin .add .no (.tmp 7) (.const (.int .i64 1))), none, []⟩, 
  ⟨(some 7), (.mv (.tmp 37)), none, []⟩] false))))
def c_object_GoodTree : ACode := (.seq (.region [
  ⟨(some 2), (.mv (.const (.bool false))), none, []⟩] false) (.seq (.seq (.region [
  ⟨(some 5), (.mv (.tmp 0)), none, []⟩, 
  ⟨(some 6), (.len false (.tmp 5)), none, []⟩, 
  ⟨(some 7), (.mv (.const (.int .i64 0))), none, []⟩] false) (.block 0 (.loop c_object_GoodTree_l1))) (.seq (.region [
  ⟨(some 38), (.mv (.tmp 0)), none, []⟩, 
  ⟨(some 39), (.len false (.tmp 38)), none, []⟩, 
  ⟨(some 40), (.bin .leq .no (.tmp 39) (.const (.int .i64 512))), none, []⟩, 
  ⟨(some 2), (.mv (.tmp 40)), none, []⟩] false) .ret)))
theorem cf_object_GoodTree : cFn Go.Proofs.Tryd.prog F.object_GoodTree = some ⟨41, c_object_GoodTree, [.t 2]⟩ := by kernel_rfl
def L.object_GoodTree_l1 (l57 : List T.Entry) (k0 : Option Bool) : List T.Entry → Nat → Option Bool
  | [], k58 =>
    k0
  | a110 :: rest, k58 =>
    (g.path_Good a110.Name).bind fun r139 =>
    if r139 = true then
      (g.path_Dir a110.Name).bind fun r144 =>
      if r144 = ([] : Bytes) then
        if 0 < ((k58 : Nat) : Int) then
          (at? l57 (wi (((k58 : Nat) : Int) - 1))).bind fun a149 =>
          if (Op.bytesLess a149.Name a110.Name) = true then
            L.object_GoodTree_l1 l57 k0 rest (k58 + 1)
          else
            some false
        else
          L.object_GoodTree_l1 l57 k0 rest (k58 + 1)
      else
        some false
    else
      some false
theorem ok.object_GoodTree_l1 {Γ : Abs.Spec} {gl : Glob} (hC_path_Good : CallsX Γ K.path_Good) (hC_path_Dir : CallsX Γ K.path_Dir) {Q : Ex → St → Prop} {r : Bool} {l57 : List T.Entry} {k0 : Option Bool}
    (hk0 : ∀ (s : St), ((s.tm 0).nf = (V.sl false 34 (List.map E.Entry l57))) → k0 = some r → Q (.exit 0) s)
    (hR : ∀ s, EndsX [.t 2] false (V.bool r) s → Q .ret s)
    (hlen : l57.length ≤ Lim) : ∀ (rest : List T.Entry) (k58 : Nat) (s : St), l57.drop k58 = rest → k58 ≤ l57.length →
    ((s.tm 5).nf = V.sl false 34 (List.map E.Entry l57)) → (s.tm 6 = V.int .i64 ((l57.length : Nat) : Int)) → (s.tm 7 = V.int .i64 ((k58 : Nat) : Int)) → ((s.tm 0).nf = (V.sl false 34 (List.map E.Entry l57))) →
    L.object_GoodTree_l1 l57 k0 rest k58 = some r → awp Γ gl (.loop c_object_GoodTree_l1) Q s := by
  intro rest
  induction rest with
  | nil =>
    intro k58 s hdrop hkl hX hN hI h108 hD
    have hkz := drop_nil hdrop hkl
    have hp0 : ¬ (((k58 : Nat) : Int) < ((l57.length : Nat) : Int)) := by omega
    refine awp_roundK fun K hK => ?_
    rw [L.object_GoodTree_l1] at hD
    refine x_seq ?_
    refine x_start (b := false) ?_
    refine x_bin hI hN b_lss ?_
    refine x_done ?_
    refine x_tN ?_
    refine x_seq ?_
    refine x_cf (show _ = (V.bool (decide (((k58 : Nat) : Int) < ((l57.length : Nat) : Int)))) from rfl) (decide_eq_false hp0) ?_
    refine x_exitc ?_
    refine x_tE ?_
    refine x_tE ?_
    refine hk0 _ ?_ hD
    · exact h108
  | cons a110 rest ih =>
    intro k58 s hdrop hkl hX hN hI h108 hD
    obtain ⟨hlt, -, hget, hdrop1, -⟩ := drop_cons hdrop
    have hp1 : ((k58 : Nat) : Int) < ((l57.length : Nat) : Int) := by omega
    have hwk := wi_succ (k := k58) (by unfold Lim at hlen; omega)
    refine awp_roundK fun K hK => ?_
    rw [L.object_GoodTree_l1] at hD
    refine x_seq ?_
    refine x_start (b := false) ?_
    refine x_bin hI hN b_lss ?_
    refine x_done ?_
    refine x_tN ?_
    refine x_seq ?_
    refine x_ct (show _ = (V.bool (decide (((k58 : Nat) : Int) < ((l57.length : Nat) : Int)))) from rfl) (decide_eq_true hp1) ?_
    refine x_skip ?_
    refine x_tN ?_
    refine x_seq ?_
    refine x_block ?_
    refine x_seq ?_
    refine x_start (b := false) ?_
    refine x_mv' hI ?_
    refine x_iaddr hX hI (at_k hget) fun v115 (hv115 : v115.nf = V.el (C.Entry a110) 0) => ?_
    refine x_load_el hv115 (ld_Entry_0_34 a110) fun v116 hv116 => ?_
    refine x_new (l := (C.Entry ({ Name := [], Tree := false, Id := (Arr.zero 32) } : T.Entry))) (by kernel_rfl) fun i117 hidi117 hci117 => ?_
    refine x_mv' (show _ = (V.int .i64 ((k58 : Nat) : Int)) from rfl) ?_
    refine x_store (ws := (C.Entry a110)) (l' := (C.Entry a110)) (show _ = (V.ptr i117 0) from rfl) hci117 (cells_of rfl hv116) ⟨(C.Entry_len a110), (C.Entry_sc a110), le_len (C.Entry_len ({ Name := [], Tree := false, Id := (Arr.zero 32) } : T.Entry)) (by decide)⟩ (setAt_full (Eq.trans (C.Entry_len a110) (Eq.symm (C.Entry_len ({ Name := [], Tree := false, Id := (Arr.zero 32) } : T.Entry))))) fun csv118 ysv118 hcsv118 hnv118 hcv118 hsv118 => ?_
    refine x_done ?_
    refine x_tN ?_
    refine x_seq ?_
    refine x_start (b := true) ?_
    refine x_faddr (show _ = (V.ptr i117 0) from rfl) ?_
    refine x_load (show _ = (V.ptr i117 0) from rfl) hcv118 (ld_Entry_0_n a110) fun v137 hv137 => ?_
    obtain ⟨r139, hx140, hD⟩ := Option.bind_eq_some_iff.1 hD
    refine x_callF hC_path_Good (a := (a110.Name)) (cons_eq (nf_of rfl (nf_str hv137)) rfl) hx140 fun v138 ov138 (hv138 : v138.nf = (V.bool r139)) hov138 => ?_
    refine x_un (nf_bool hv138) (aun_not _) ?_
    refine x_mv' (show _ = (V.bool (!r139)) from rfl) ?_
    by_cases hp141 : r139 = true
    · rw [if_pos hp141] at hD
      refine x_gy (show _ = (V.bool (!r139)) from rfl) (bnot_t hp141) ?_
      refine x_faddr (show _ = (V.ptr i117 0) from rfl) ?_
      refine x_gy (show _ = (V.bool (!r139)) from rfl) (bnot_t hp141) ?_
      refine x_load (show _ = (V.ptr i117 0) from rfl) hcv118 (ld_Entry_0_n a110) fun v142 hv142 => ?_
      refine x_gy (show _ = (V.bool (!r139)) from rfl) (bnot_t hp141) ?_
      obtain ⟨r144, hx145, hD⟩ := Option.bind_eq_some_iff.1 hD
      refine x_callF hC_path_Dir (a := (a110.Name)) (cons_eq (nf_of rfl (nf_str hv142)) rfl) hx145 fun v143 ov143 (hv143 : v143.nf = (V.str r144)) hov143 => ?_
      refine x_gy (show _ = (V.bool (!r139)) from rfl) (bnot_t hp141) ?_
      refine x_bin (nf_str hv143) (show _ = (V.str ([] : Bytes)) from rfl) s_neq ?_
      refine x_pickf' (show _ = (V.bool (!r139)) from rfl) (bnot_t hp141) (show _ = (V.bool (!(decide (r144 = ([] : Bytes))))) from rfl) ?_
      refine x_mv' (show _ = (V.bool (!(decide (r144 = ([] : Bytes))))) from rfl) ?_
      by_cases hp146 : r144 = ([] : Bytes)
      · rw [if_pos hp146] at hD
        refine x_gy (show _ = (V.bool (!(decide (r144 = ([] : Bytes))))) from rfl) (bnot_t (decide_eq_true hp146)) ?_
        refine x_mv' (show _ = (V.int .i64 ((k58 : Nat) : Int)) from rfl) ?_
        refine x_gy (show _ = (V.bool (!(decide (r144 = ([] : Bytes))))) from rfl) (bnot_t (decide_eq_true hp146)) ?_
        refine x_bin (show _ = (V.int .i64 ((k58 : Nat) : Int)) from rfl) (show _ = (V.int .i64 0) from rfl) b_gtr ?_
        refine x_gy (show _ = (V.bool (!(decide (r144 = ([] : Bytes))))) from rfl) (bnot_t (decide_eq_true hp146)) ?_
        refine x_mv' (show _ = (V.bool (decide (0 < ((k58 : Nat) : Int)))) from rfl) ?_
        by_cases hp147 : 0 < ((k58 : Nat) : Int)
        · rw [if_pos hp147] at hD
          refine x_gy (show _ = (V.bool (decide (0 < ((k58 : Nat) : Int)))) from rfl) (decide_eq_true hp147) ?_
          refine x_mv h108 fun v148 hv148 => ?_
          refine x_gy (show _ = (V.bool (decide (0 < ((k58 : Nat) : Int)))) from rfl) (decide_eq_true hp147) ?_
          refine x_mv' (show _ = (V.int .i64 ((k58 : Nat) : Int)) from rfl) ?_
          refine x_gy (show _ = (V.bool (decide (0 < ((k58 : Nat) : Int)))) from rfl) (decide_eq_true hp147) ?_
          refine x_bin (show _ = (V.int .i64 ((k58 : Nat) : Int)) from rfl) (show _ = (V.int .i64 1) from rfl) b_sub ?_
          refine x_gy (show _ = (V.bool (decide (0 < ((k58 : Nat) : Int)))) from rfl) (decide_eq_true hp147) ?_
          obtain ⟨a149, hx150, hD⟩ := Option.bind_eq_some_iff.1 hD
          refine x_iaddr hv148 (show _ = (V.int .i64 (wi (((k58 : Nat) : Int) - 1))) from rfl) hx150 fun v151 (hv151 : v151.nf = V.el (C.Entry a149) 0) => ?_
          refine x_gy (show _ = (V.bool (decide (0 < ((k58 : Nat) : Int)))) from rfl) (decide_eq_true hp147) ?_
          refine x_faddr_el hv151 fun v152 (hv152 : v152.nf = V.el (C.Entry a149) 0) => ?_
          refine x_gy (show _ = (V.bool (decide (0 < ((k58 : Nat) : Int)))) from rfl) (decide_eq_true hp147) ?_
          refine x_load_el hv152 (ld_Entry_0_n a149) fun v153 hv153 => ?_
          refine x_gy (show _ = (V.bool (decide (0 < ((k58 : Nat) : Int)))) from rfl) (decide_eq_true hp147) ?_
          refine x_faddr (show _ = (V.ptr i117 0) from rfl) ?_
          refine x_gy (show _ = (V.bool (decide (0 < ((k58 : Nat) : Int)))) from rfl) (decide_eq_true hp147) ?_
          refine x_load (show _ = (V.ptr i117 0) from rfl) hcv118 (ld_Entry_0_n a110) fun v154 hv154 => ?_
          refine x_gy (show _ = (V.bool (decide (0 < ((k58 : Nat) : Int)))) from rfl) (decide_eq_true hp147) ?_
          refine x_bin (nf_str hv153) (nf_str hv154) s_geq ?_
          refine x_gy (show _ = (V.bool (!(decide (r144 = ([] : Bytes))))) from rfl) (bnot_t (decide_eq_true hp146)) ?_
          refine x_pickt' (show _ = (V.bool (decide (0 < ((k58 : Nat) : Int)))) from rfl) (decide_eq_true hp147) (show _ = (V.bool (!(Op.bytesLess a149.Name a110.Name))) from rfl) ?_
          refine x_pickf' (show _ = (V.bool (!(decide (r144 = ([] : Bytes))))) from rfl) (bnot_t (decide_eq_true hp146)) (show _ = (V.bool (!(Op.bytesLess a149.Name a110.Name))) from rfl) ?_
          refine x_done ?_
          refine x_tN ?_
          by_cases hp155 : (Op.bytesLess a149.Name a110.Name) = true
          · rw [if_pos hp155] at hD
            refine x_cf (show _ = (V.bool (!(Op.bytesLess a149.Name a110.Name))) from rfl) (bnot_t hp155) ?_
            refine x_skip ?_
            refine x_bN ?_
            refine x_tN ?_
            refine x_start (b := false) ?_
            refine x_bin hI (show _ = (V.int .i64 1) from rfl) b_add ?_
            refine x_mv' (show _ = (V.int .i64 (wi (((k58 : Nat) : Int) + 1))) from rfl) ?_
            refine x_done ?_
            refine x_tN ?_
            refine hK _ ?_
            refine ih (k58 + 1) _ hdrop1 hlt ?_ ?_ ?_ ?_ hD
            · exact hX
            · exact hN
            · exact (Eq.trans (show _ = (V.int .i64 (wi (((k58 : Nat) : Int) + 1))) from rfl) (congrArg (V.int .i64) hwk))
            · exact h108
          · rw [if_neg hp155] at hD
            refine x_ct (show _ = (V.bool (!(Op.bytesLess a149.Name a110.Name))) from rfl) (bnot_f (Bool.eq_false_iff.2 hp155)) ?_
            refine x_seq ?_
            refine x_start (b := false) ?_
            refine x_mv' (show _ = (V.bool false) from rfl) ?_
            refine x_done ?_
            refine x_tN ?_
            refine x_retc ?_
            refine x_bR ?_
            refine x_tR ?_
            refine x_tR ?_
            obtain rfl := Option.some.inj hD
            exact hR _ (ends_t (nf_of rfl (show _ = (V.bool false) from rfl)) (fun h => nomatch h))
        · rw [if_neg hp147] at hD
          refine x_gn (show _ = (V.bool (decide (0 < ((k58 : Nat) : Int)))) from rfl) (decide_eq_false hp147) ?_
          refine x_gn (show _ = (V.bool (decide (0 < ((k58 : Nat) : Int)))) from rfl) (decide_eq_false hp147) ?_
          refine x_gn (show _ = (V.bool (decide (0 < ((k58 : Nat) : Int)))) from rfl) (decide_eq_false hp147) ?_
          refine x_gn (show _ = (V.bool (decide (0 < ((k58 : Nat) : Int)))) from rfl) (decide_eq_false hp147) ?_
          refine x_gn (show _ = (V.bool (decide (0 < ((k58 : Nat) : Int)))) from rfl) (decide_eq_false hp147) ?_
          refine x_gn (show _ = (V.bool (decide (0 < ((k58 : Nat) : Int)))) from rfl) (decide_eq_false hp147) ?_
          refine x_gn (show _ = (V.bool (decide (0 < ((k58 : Nat) : Int)))) from rfl) (decide_eq_false hp147) ?_
          refine x_gn (show _ = (V.bool (decide (0 < ((k58 : Nat) : Int)))) from rfl) (decide_eq_false hp147) ?_
          refine x_gn (show _ = (V.bool (decide (0 < ((k58 : Nat) : Int)))) from rfl) (decide_eq_false hp147) ?_
          refine x_gy (show _ = (V.bool (!(decide (r144 = ([] : Bytes))))) from rfl) (bnot_t (decide_eq_true hp146)) ?_
          refine x_pickf' (show _ = (V.bool (decide (0 < ((k58 : Nat) : Int)))) from rfl) (decide_eq_false hp147) (show _ = (V.bool false) from rfl) ?_
          refine x_pickf' (show _ = (V.bool (!(decide (r144 = ([] : Bytes))))) from rfl) (bnot_t (decide_eq_true hp146)) (show _ = (V.bool false) from rfl) ?_
          refine x_done ?_
          refine x_tN ?_
          refine x_cf (show _ = (V.bool false) from rfl) rfl ?_
          refine x_skip ?_
          refine x_bN ?_
          refine x_tN ?_
          refine x_start (b := false) ?_
          refine x_bin hI (show _ = (V.int .i64 1) from rfl) b_add ?_
          refine x_mv' (show _ = (V.int .i64 (wi (((k58 : Nat) : Int) + 1))) from rfl) ?_
          refine x_done ?_
          refine x_tN ?_
          refine hK _ ?_
          refine ih (k58 + 1) _ hdrop1 hlt ?_ ?_ ?_ ?_ hD
          · exact hX
          · exact hN
          · exact (Eq.trans (show _ = (V.int .i64 (wi (((k58 : Nat) : Int) + 1))) from rfl) (congrArg (V.int .i64) hwk))
          · exact h108
      · rw [if_neg hp146] at hD
        refine x_gn (show _ = (V.bool (!(decide (r144 = ([] : Bytes))))) from rfl) (bnot_f (decide_eq_false hp146)) ?_
        refine x_gn (show _ = (V.bool (!(decide (r144 = ([] : Bytes))))) from rfl) (bnot_f (decide_eq_false hp146)) ?_
        refine x_gn (show _ = (V.bool (!(decide (r144 = ([] : Bytes))))) from rfl) (bnot_f (decide_eq_false hp146)) ?_
        refine x_gnil (show _ = Nil from rfl) ?_
        refine x_gnil (show _ = Nil from rfl) ?_
        refine x_gnil (show _ = Nil from rfl) ?_
        refine x_gnil (show _ = Nil from rfl) ?_
        refine x_gnil (show _ = Nil from rfl) ?_
        refine x_gnil (show _ = Nil from rfl) ?_
        refine x_gnil (show _ = Nil from rfl) ?_
        refine x_gnil (show _ = Nil from rfl) ?_
        refine x_gnil (show _ = Nil from rfl) ?_
        refine x_gn (show _ = (V.bool (!(decide (r144 = ([] : Bytes))))) from rfl) (bnot_f (decide_eq_false hp146)) ?_
        refine x_pickt' (show _ = (V.bool (!(decide (r144 = ([] : Bytes))))) from rfl) (bnot_f (decide_eq_false hp146)) (show _ = (V.bool true) from rfl) ?_
        refine x_done ?_
        refine x_tN ?_
        refine x_ct (show _ = (V.bool true) from rfl) rfl ?_
        refine x_seq ?_
        refine x_start (b := false) ?_
        refine x_mv' (show _ = (V.bool false) from rfl) ?_
        refine x_done ?_
        refine x_tN ?_
        refine x_retc ?_
        refine x_bR ?_
        refine x_tR ?_
        refine x_tR ?_
        obtain rfl := Option.some.inj hD
        exact hR _ (ends_t (nf_of rfl (show _ = (V.bool false) from rfl)) (fun h => nomatch h))
    · rw [if_neg hp141] at hD
      refine x_gn (show _ = (V.bool (!r139)) from rfl) (bnot_f (Bool.eq_false_iff.2 hp141)) ?_
      refine x_gn (show _ = (V.bool (!r139)) from rfl) (bnot_f (Bool.eq_false_iff.2 hp141)) ?_
      refine x_gn (show _ = (V.bool (!r139)) from rfl) (bnot_f (Bool.eq_false_iff.2 hp141)) ?_
      refine x_gn (show _ = (V.bool (!r139)) from rfl) (bnot_f (Bool.eq_false_iff.2 hp141)) ?_
      refine x_pickt' (show _ = (V.bool (!r139)) from rfl) (bnot_f (Bool.eq_false_iff.2 hp141)) (show _ = (V.bool true) from rfl) ?_
      refine x_mv' (show _ = (V.bool true) from rfl) ?_
      refine x_gn (show _ = (V.bool true) from rfl) rfl ?_
      refine x_gn (show _ = (V.bool true) from rfl) rfl ?_
      refine x_gn (show _ = (V.bool true) from rfl) rfl ?_
      refine x_gnil (show _ = Nil from rfl) ?_
      refine x_gnil (show _ = Nil from rfl) ?_
      refine x_gnil (show _ = Nil from rfl) ?_
      refine x_gnil (show _ = Nil from rfl) ?_
      refine x_gnil (show _ = Nil from rfl) ?_
      refine x_gnil (show _ = Nil from rfl) ?_
      refine x_gnil (show _ = Nil from rfl) ?_
      refine x_gnil (show _ = Nil from rfl) ?_
      refine x_gnil (show _ = Nil from rfl) ?_
      refine x_gn (show _ = (V.bool true) from rfl) rfl ?_
      refine x_pickt' (show _ = (V.bool true) from rfl) rfl (show _ = (V.bool true) from rfl) ?_
      refine x_done ?_
      refine x_tN ?_
      refine x_ct (show _ = (V.bool true) from rfl) rfl ?_
      refine x_seq ?_
      refine x_start (b := false) ?_
      refine x_mv' (show _ = (V.bool false) from rfl) ?_
      refine x_done ?_
      refine x_tN ?_
      refine x_retc ?_
      refine x_bR ?_
      refine x_tR ?_
      refine x_tR ?_
      obtain rfl := Option.some.inj hD
      exact hR _ (ends_t (nf_of rfl (show _ = (V.bool false) from rfl)) (fun h => nomatch h))
def g.object_GoodTree (p0 : (List T.Entry)) : Option Bool :=
  if p0.length ≤ Lim then L.object_GoodTree_l1 p0 (some (decide (((p0.length : Nat) : Int) ≤ 512))) p0 0 else none
theorem ok.object_GoodTree {Γ : Abs.Spec} {gl : Glob} (hC_path_Good : CallsX Γ K.path_Good) (hC_path_Dir : CallsX Γ K.path_Dir) {r : Bool} {p0 : (List T.Entry)} {v : List V}
    (hv : nfL v = [(V.sl false 34 (List.map E.Entry p0))]) (hD : g.object_GoodTree p0 = some r) : awp Γ gl c_object_GoodTree (endQ [.t 2] false (V.bool r)) (St.init v) := by
  obtain ⟨v0, v, rfl, h0, hv⟩ := nfL_cons hv
  obtain rfl := nfL_nil hv
  have hR : ∀ s, EndsX [.t 2] false (V.bool r) s → endQ [.t 2] false (V.bool r) .ret s := fun _ h => h
  unfold g.object_GoodTree at hD
  unfold c_object_GoodTree
  refine x_seq ?_
  refine x_start (b := false) ?_
  refine x_mv' (show _ = (V.bool false) from rfl) ?_
  refine x_done ?_
  refine x_tN ?_
  refine x_seq ?_
  refine x_seq ?_
  refine x_start (b := false) ?_
  refine x_mv h0 fun v56 hv56 => ?_
  refine x_len hv56 ?_
  refine x_mv' (show _ = (V.int .i64 0) from rfl) ?_
  refine x_done ?_
  refine x_tN ?_
  refine x_block ?_
  by_cases hlen161 : p0.length ≤ Lim
  · rw [if_pos hlen161] at hD
    refine ok.object_GoodTree_l1 (l57 := p0) hC_path_Good hC_path_Dir (fun s160 h158 hD => ?_) (fun _ hE => ?_) hlen161 _ 0 _ rfl (Nat.zero_le _) ?_ ?_ ?_ ?_ hD
    · refine x_bE ?_
      refine x_tN ?_
      refine x_seq ?_
      refine x_start (b := false) ?_
      refine x_mv h158 fun v159 hv159 => ?_
      refine x_len hv159 ?_
      refine x_bin (show _ = (V.int .i64 ((p0.length : Nat) : Int)) from rfl) (show _ = (V.int .i64 512) from rfl) b_leq ?_
      refine x_mv' (show _ = (V.bool (decide (((p0.length : Nat) : Int) ≤ 512))) from rfl) ?_
      refine x_done ?_
      refine x_tN ?_
      refine x_retc ?_
      obtain rfl := Option.some.inj hD
      exact hR _ (ends_t (nf_of rfl (show _ = (V.bool (decide (((p0.length : Nat) : Int) ≤ 512))) from rfl)) (fun h => nomatch h))
    · refine x_bR ?_; refine x_tR ?_; exact hR _ hE
    · exact hv56
    · exact (show _ = (V.int .i64 ((p0.length : Nat) : Int)) from rfl)
    · exact (show _ = (V.int .i64 0) from rfl)
    · exact h0
  · rw [if_neg hlen161] at hD; cases hD
def K.object_GoodTree : FC := fc F.object_GoodTree (fun _ => true) false (fun (a : (List T.Entry)) => [(V.sl false 34 (List.map E.Entry a))]) (fun (y : Bool) => (V.bool y)) (fun a => g.object_GoodTree a)
  (fun a => (cleanL_mk (E.LEntry_clean _) rfl))
  (fun y => rfl)
  (fun a0 b0 h => by
    obtain ⟨h0, h⟩ := List.cons.inj h
    obtain rfl : a0 = b0 := E.LEntry_inj h0
    rfl)
theorem H.object_GoodTree (w : World) (hw : EnvOK w) : K.object_GoodTree.Holds (cxD w) :=
  FC.holds_of (cs := [K.path_Good, K.path_Dir]) (glD w) mixed cf_object_GoodTree (fun _ _ ⟨_, _, h, _⟩ => by subst h; exact Nat.le_of_ble_eq_true rfl) fun v y ⟨a, r, hv, hD, hy⟩ => by
    subst hy
    exact ok.object_GoodTree (specOf_calls (H.path_Good w hw) (fun _ _ ⟨_, _, h, _⟩ => by subst h; rfl)) (specOf_calls (H.path_Dir w hw) (fun _ _ ⟨_, _, h, _⟩ => by subst h; rfl)) hv hD
theorem ld_Entry_1_n (x : T.Entry) : ldCells none (C.Entry x) 1 = some (V.bool x.Tree) := by
  unfold C.Entry
  rw [ld_left (le_len (len_app (show [(V.str x.Name)].length = 1 from rfl) (show [(V.bool x.Tree)].length = 1 from rfl)) (by decide))]
  rw [ld_right 1 (show [(V.str x.Name)].length = 1 from rfl)]
  exact (show _ = some (V.bool x.Tree) from rfl)
theorem ld_Entry_2_32 (x : T.Entry) : ldCells (some 32) (C.Entry x) 2 = some (V.agg (encB (x.Id).1)) := by
  unfold C.Entry
  rw [ld_right 2 (len_app (show [(V.str x.Name)].length = 1 from rfl) (show [(V.bool x.Tree)].length = 1 from rfl))]
  exact (ld_arr x.Id)
def c_object_PutTree_j1 : ACode := (.region [
  ⟨(some 19), (.mvo 4), none, []⟩, 
  ⟨(some 20), (.mv (.tmp 7)), none, []⟩, 
  ⟨(some 21), (.faddr 0 (.tmp 6)), none, []⟩, 
  ⟨(some 22), (.load none (.tmp 21)), none, []⟩, 
  ⟨(some 23), (.faddr 2 (.tmp 6)), none, []⟩, 
  ⟨(some 24), (.slca 32 1 (.tmp 23) none none none), none, []⟩, 
  ⟨(some 25), (.b2s (.tmp 24)), none, []⟩, 
  ⟨(some 26), (.bsl 1 [(.tmp 20), (.tmp 22), (.tmp 25)]), none, []⟩, 
  ⟨(some 27), (.app 1 (.tmp 19) (.tmp 26)), none, []⟩, 
  ⟨(some 4), (.mvo 27), none, []⟩] true)
def c_object_PutTree_l1 : ACode := (.seq (.region [
  ⟨(some 14), (.bin .lss .no (.tmp 13) (.tmp 12)), none, []⟩] false) (.seq (.cond (.tmp 14) .skip (.exit 0)) (.seq (.block 1 (.seq (.region [
  ⟨(some 15), (.iaddr 34 (.tmp 11) (.tmp 13)), none, []⟩, 
  ⟨(some 16), (.load (some 34) (.tmp 15)), none, []⟩, 
  ⟨(some 6), (.new ((.str []) :: (.bool false) :: repl 32 (.int .u8 0))), none, []⟩, 
  ⟨none, (.store 34 (.tmp 6) (.tmp 16)), none, []⟩] false) (.seq (.region [
  ⟨(some 7), (.mv (.const (.str [98, 108, 111, 98]))), none, []⟩] false) (.seq (.seq (.region [
  ⟨(some 17), (.faddr 1 (.tmp 6)), none, []⟩, 
  ⟨(some 18), (.load none (.tmp 17)), none, []⟩] false) (.cond (.tmp 18) (.region [
  ⟨(some 7), (.mv (.const (.str [116, 114, 101, 101]))), none, []⟩] false) .skip)) c_object_PutTree_j1)))) (.region [
  ⟨(some 28), (.bin .add .no (.tmp 13) (.const (.int .i64 1))), none, []⟩, 
  ⟨(some 13), (.mv (.tmp 28)), none, []⟩] false))))
def c_object_PutTree : ACode := (.seq (.region [
  ⟨(some 2), (.mv (.const (.str []))), none, []⟩, 
  ⟨(some 3), (.mv (.const (.int .i64 0))), none, []⟩] false) (.seq (.seq (.region [
  ⟨(some 8), (.mv (.tmp 0)), none, []⟩, 
  ⟨(some 9), (.call F.object_GoodTree [(.tmp 8)]), none, []⟩, 
  ⟨(some 10), (.un .not (.tmp 9)), none, []⟩] false) (.cond (.tmp 10) (.seq (.region [
  ⟨(some 2), (.mv (.const (.str []))), none, []⟩, 
  ⟨(some 3), (.mv (.const (.int .i64 1))), none, []⟩] false) .ret) .skip)) (.seq (.region [
  ⟨(some 4), (.mv (.const (.sl true 1 []))), none, []⟩] false) (.seq (.seq (.region [
  ⟨(some 11), (.mv (.tmp 0)), none, []⟩, 
  ⟨(some 12), (.len false (.tmp 11)), none, []⟩, 
  ⟨(some 13), (.mv (.const (.int .i64 0))), none, []⟩] false) (.block 0 (.loop c_object_PutTree_l1))) (.seq (.region [
  ⟨(some 29), (.mv (.tmp 4)), none, []⟩, 
  ⟨(some 30), (.call F.code_Join [(.tmp 29)]), none, []⟩, 
  ⟨(some 2), (.mv (.tmp 30)), none, []⟩, 
  ⟨(some 3), (.mv (.const (.int .i64 0))), none, []⟩] false) .ret)))))
theorem cf_object_PutTree : cFn Go.Proofs.Tryd.prog F.object_PutTree = some ⟨31, c_object_PutTree, [.t 2, .t 3]⟩ := by kernel_rfl
def L.object_PutTree_j1 (k0 : (List Bytes) → Option (Bytes × Int)) (x134 : T.Entry) (t4_137 : (List Bytes)) (t7_140 : Bytes) : Option (Bytes × Int) :=
  (appL t4_137 ([t7_140, x134.Name, (x134.Id).1] : (List Bytes))).bind fun l147 =>
  k0 l147
theorem ok.object_PutTree_j1 {Γ : Abs.Spec} {gl : Glob} (hC_object_GoodTree : CallsX Γ K.object_GoodTree) (hC_code_Join : CallsX Γ K.code_Join) {Q : Ex → St → Prop} {r : (Bytes × Int)} {l63 : List T.Entry} {k64 : Nat} {k0 : (List Bytes) → Option (Bytes × Int)}
    (hk0 : ∀ (s : St) (t4_167 : (List Bytes)), ((s.tm 4).nf = (V.sl false 1 (List.map V.str t4_167))) → (OwnS s 4) → ((s.tm 11).nf = (V.sl false 34 (List.map E.Entry l63))) → (s.tm 12 = (V.int .i64 ((l63.length : Nat) : Int))) → (s.tm 13 = (V.int .i64 ((k64 : Nat) : Int))) → k0 t4_167 = some r → Q .normal s)
    (hR : ∀ s, EndsX [.t 2, .t 3] false (V.tup [(V.str r.1), (V.int .i64 r.2)]) s → Q .ret s)
    {s : St} {i135 : Nat} {x134 : T.Entry} {t4_137 : (List Bytes)} {t7_140 : Bytes} (hli135 : i135 < s.nH) (hci135 : Cells s i135 (C.Entry x134)) (h136 : (s.tm 4).nf = (V.sl false 1 (List.map V.str t4_137))) (h136o : OwnS s 4) (h138 : s.tm 6 = (V.ptr i135 0)) (h139 : s.tm 7 = (V.str t7_140)) (h141 : (s.tm 11).nf = (V.sl false 34 (List.map E.Entry l63))) (h142 : s.tm 12 = (V.int .i64 ((l63.length : Nat) : Int))) (h143 : s.tm 13 = (V.int .i64 ((k64 : Nat) : Int)))
    (hD : L.object_PutTree_j1 k0 x134 t4_137 t7_140 = some r) : awp Γ gl c_object_PutTree_j1 Q s := by
  unfold L.object_PutTree_j1 at hD
  refine x_start (b := true) ?_
  refine x_mvo h136 fun v144 ov144 hv144 hwv144 => ?_
  refine x_mv' h139 ?_
  refine x_faddr h138 ?_
  refine x_load (show _ = (V.ptr i135 0) from rfl) hci135 (ld_Entry_0_n x134) fun v145 hv145 => ?_
  refine x_faddr h138 ?_
  refine x_slca (show _ = (V.ptr i135 2) from rfl) ?_
  refine x_b2sO (show _ = (V.osl i135 2 32 32 1) from rfl) hci135 (ld_le (ld_Entry_2_32 x134)) (ld_take (ld_Entry_2_32 x134)) ?_
  refine x_bsl (E := V.str) (l := ([t7_140, x134.Name, (x134.Id).1] : (List Bytes))) (cons_eq (nf_of rfl (show _ = (V.str t7_140) from rfl)) (cons_eq (nf_of rfl (nf_str hv145)) (cons_eq (nf_of rfl (show _ = (V.str (x134.Id).1) from rfl)) rfl))) (fits_map (E := V.str) (sz := 1) (fun x => ⟨rfl, rfl⟩) _) fun v146 ov146 hv146 hov146 => ?_
  obtain ⟨l147, hx148, hD⟩ := Option.bind_eq_some_iff.1 hD
  refine x_app hv144 (hwv144 h136o) (tail_sl hv146) hx148 fun v149 ov149 fv149 hv149 hov149 hfv149 => ?_
  refine x_mvo hv149 fun v150 ov150 hv150 hwv150 => ?_
  refine x_done ?_
  refine hk0 _ _ ?_ ?_ ?_ ?_ ?_ hD
  · exact hv150
  · exact (hwv150 hov149)
  · exact h141
  · exact h142
  · exact h143
def L.object_PutTree_l1 (k0 : (List Bytes) → Option (Bytes × Int)) : List T.Entry → (List Bytes) → Option (Bytes × Int)
  | [], t4_102 =>
    k0 t4_102
  | a105 :: rest, t4_102 =>
    if a105.Tree = true then
      L.object_PutTree_j1 (fun (t4_175 : (List Bytes)) => L.object_PutTree_l1 k0 rest t4_175) a105 t4_102 ([116, 114, 101, 101] : Bytes)
    else
      L.object_PutTree_j1 (fun (t4_181 : (List Bytes)) => L.object_PutTree_l1 k0 rest t4_181) a105 t4_102 ([98, 108, 111, 98] : Bytes)
theorem ok.object_PutTree_l1 {Γ : Abs.Spec} {gl : Glob} (hC_object_GoodTree : CallsX Γ K.object_GoodTree) (hC_code_Join : CallsX Γ K.code_Join) {Q : Ex → St → Prop} {r : (Bytes × Int)} {l63 : List T.Entry} {k0 : (List Bytes) → Option (Bytes × Int)}
    (hk0 : ∀ (s : St) (t4_189 : (List Bytes)), ((s.tm 4).nf = (V.sl false 1 (List.map V.str t4_189))) → (OwnS s 4) → k0 t4_189 = some r → Q (.exit 0) s)
    (hR : ∀ s, EndsX [.t 2, .t 3] false (V.tup [(V.str r.1), (V.int .i64 r.2)]) s → Q .ret s)
    (hlen : l63.length ≤ Lim) : ∀ (rest : List T.Entry) (k64 : Nat) (s : St) (t4_102 : (List Bytes)), l63.drop k64 = rest → k64 ≤ l63.length →
    ((s.tm 11).nf = V.sl false 34 (List.map E.Entry l63)) → (s.tm 12 = V.int .i64 ((l63.length : Nat) : Int)) → (s.tm 13 = V.int .i64 ((k64 : Nat) : Int)) → ((s.tm 4).nf = (V.sl false 1 (List.map V.str t4_102))) → (OwnS s 4) →
    L.object_PutTree_l1 k0 rest t4_102 = some r → awp Γ gl (.loop c_object_PutTree_l1) Q s := by
  intro rest
  induction rest with
  | nil =>
    intro k64 s t4_102 hdrop hkl hX hN hI h101 h101o hD
    have hkz := drop_nil hdrop hkl
    have hp0 : ¬ (((k64 : Nat) : Int) < ((l63.length : Nat) : Int)) := by omega
    refine awp_roundK fun K hK => ?_
    rw [L.object_PutTree_l1] at hD
    refine x_seq ?_
    refine x_start (b := false) ?_
    refine x_bin hI hN b_lss ?_
    refine x_done ?_
    refine x_tN ?_
    refine x_seq ?_
    refine x_cf (show _ = (V.bool (decide (((k64 : Nat) : Int) < ((l63.length : Nat) : Int)))) from rfl) (decide_eq_false hp0) ?_
    refine x_exitc ?_
    refine x_tE ?_
    refine x_tE ?_
    refine hk0 _ _ ?_ ?_ hD
    · exact h101
    · exact h101o
  | cons a105 rest ih =>
    intro k64 s t4_102 hdrop hkl hX hN hI h101 h101o hD
    obtain ⟨hlt, -, hget, hdrop1, -⟩ := drop_cons hdrop
    have hp1 : ((k64 : Nat) : Int) < ((l63.length : Nat) : Int) := by omega
    have hwk := wi_succ (k := k64) (by unfold Lim at hlen; omega)
    refine awp_roundK fun K hK => ?_
    rw [L.object_PutTree_l1] at hD
    refine x_seq ?_
    refine x_start (b := false) ?_
    refine x_bin hI hN b_lss ?_
    refine x_done ?_
    refine x_tN ?_
    refine x_seq ?_
    refine x_ct (show _ = (V.bool (decide (((k64 : Nat) : Int) < ((l63.length : Nat) : Int)))) from rfl) (decide_eq_true hp1) ?_
    refine x_skip ?_
    refine x_tN ?_
    refine x_seq ?_
    refine x_block ?_
    refine x_seq ?_
    refine x_start (b := false) ?_
    refine x_iaddr hX hI (at_k hget) fun v110 (hv110 : v110.nf = V.el (C.Entry a105) 0) => ?_
    refine x_load_el hv110 (ld_Entry_0_34 a105) fun v111 hv111 => ?_
    refine x_new (l := (C.Entry ({ Name := [], Tree := false, Id := (Arr.zero 32) } : T.Entry))) (by kernel_rfl) fun i112 hidi112 hci112 => ?_
    refine x_store (ws := (C.Entry a105)) (l' := (C.Entry a105)) (show _ = (V.ptr i112 0) from rfl) hci112 (cells_of rfl hv111) ⟨(C.Entry_len a105), (C.Entry_sc a105), le_len (C.Entry_len ({ Name := [], Tree := false, Id := (Arr.zero 32) } : T.Entry)) (by decide)⟩ (setAt_full (Eq.trans (C.Entry_len a105) (Eq.symm (C.Entry_len ({ Name := [], Tree := false, Id := (Arr.zero 32) } : T.Entry))))) fun csv113 ysv113 hcsv113 hnv113 hcv113 hsv113 => ?_
    refine x_done ?_
    refine x_tN ?_
    refine x_seq ?_
    refine x_start (b := false) ?_
    refine x_mv' (show _ = (V.str ([98, 108, 111, 98] : Bytes)) from rfl) ?_
    refine x_done ?_
    refine x_tN ?_
    refine x_seq ?_
    refine x_seq ?_
    refine x_start (b := false) ?_
    refine x_faddr (show _ = (V.ptr i112 0) from rfl) ?_
    refine x_load (show _ = (V.ptr i112 1) from rfl) hcv113 (ld_Entry_1_n a105) fun v172 hv172 => ?_
    refine x_done ?_
    refine x_tN ?_
    by_cases hp173 : a105.Tree = true
    · rw [if_pos hp173] at hD
      refine x_ct (nf_bool hv172) hp173 ?_
      refine x_start (b := false) ?_
      refine x_mv' (show _ = (V.str ([116, 114, 101, 101] : Bytes)) from rfl) ?_
      refine x_done ?_
      refine x_tN ?_
      refine ok.object_PutTree_j1 (l63 := l63) (k64 := k64) (i135 := i112) hC_object_GoodTree hC_code_Join (fun s179 t4_175 h174 h174o h176 h177 h178 hD => ?_) (fun _ hE => ?_) ?_ ?_ ?_ ?_ ?_ ?_ ?_ ?_ ?_ hD
      · refine x_bN ?_
        refine x_tN ?_
        refine x_start (b := false) ?_
        refine x_bin h178 (show _ = (V.int .i64 1) from rfl) b_add ?_
        refine x_mv' (show _ = (V.int .i64 (wi (((k64 : Nat) : Int) + 1))) from rfl) ?_
        refine x_done ?_
        refine x_tN ?_
        refine hK _ ?_
        refine ih (k64 + 1) _ _ hdrop1 hlt ?_ ?_ ?_ ?_ ?_ hD
        · exact h176
        · exact h177
        · exact (Eq.trans (show _ = (V.int .i64 (wi (((k64 : Nat) : Int) + 1))) from rfl) (congrArg (V.int .i64) hwk))
        · exact h174
        · exact h174o
      · refine x_bR ?_; refine x_tR ?_; refine x_tR ?_; exact hR _ hE
      · exact (Nat.lt_succ_of_le (Nat.le_of_eq hidi112))
      · exact hcv113
      · exact h101
      · exact h101o
      · exact (show _ = (V.ptr i112 0) from rfl)
      · exact (show _ = (V.str ([116, 114, 101, 101] : Bytes)) from rfl)
      · exact hX
      · exact hN
      · exact hI
    · rw [if_neg hp173] at hD
      refine x_cf (nf_bool hv172) (Bool.eq_false_iff.2 hp173) ?_
      refine x_skip ?_
      refine x_tN ?_
      refine ok.object_PutTree_j1 (l63 := l63) (k64 := k64) (i135 := i112) hC_object_GoodTree hC_code_Join (fun s185 t4_181 h180 h180o h182 h183 h184 hD => ?_) (fun _ hE => ?_) ?_ ?_ ?_ ?_ ?_ ?_ ?_ ?_ ?_ hD
      · refine x_bN ?_
        refine x_tN ?_
        refine x_start (b := false) ?_
        refine x_bin h184 (show _ = (V.int .i64 1) from rfl) b_add ?_
        refine x_mv' (show _ = (V.int .i64 (wi (((k64 : Nat) : Int) + 1))) from rfl) ?_
        refine x_done ?_
        refine x_tN ?_
        refine hK _ ?_
        refine ih (k64 + 1) _ _ hdrop1 hlt ?_ ?_ ?_ ?_ ?_ hD
        · exact h182
        · exact h183
        · exact (Eq.trans (show _ = (V.int .i64 (wi (((k64 : Nat) : Int) + 1))) from rfl) (congrArg (V.int .i64) hwk))
        · exact h180
        · exact h180o
      · refine x_bR ?_; refine x_tR ?_; refine x_tR ?_; exact hR _ hE
      · exact (Nat.lt_succ_of_le (Nat.le_of_eq hidi112))
      · exact hcv113
      · exact h101
      · exact h101o
      · exact (show _ = (V.ptr i112 0) from rfl)
      · exact (show _ = (V.str ([98, 108, 111, 98] : Bytes)) from rfl)
      · exact hX
      · exact hN
      · exact hI
def g.object_PutTree (p0 : (List T.Entry)) : Option (Bytes × Int) :=
  (g.object_GoodTree p0).bind fun r16 =>
  if r16 = true then
    if p0.length ≤ Lim then L.object_PutTree_l1 (fun (t4_191 : (List Bytes)) => (g.code_Join t4_191).bind fun r194 =>
    some (r194, 0)) p0 [] else none
  else
    some (([] : Bytes), 1)
theorem ok.object_PutTree {Γ : Abs.Spec} {gl : Glob} (hC_object_GoodTree : CallsX Γ K.object_GoodTree) (hC_code_Join : CallsX Γ K.code_Join) {r : (Bytes × Int)} {p0 : (List T.Entry)} {v : List V}
    (hv : nfL v = [(V.sl false 34 (List.map E.Entry p0))]) (hD : g.object_PutTree p0 = some r) : awp Γ gl c_object_PutTree (endQ [.t 2, .t 3] false (V.tup [(V.str r.1), (V.int .i64 r.2)])) (St.init v) := by
  obtain ⟨v0, v, rfl, h0, hv⟩ := nfL_cons hv
  obtain rfl := nfL_nil hv
  have hR : ∀ s, EndsX [.t 2, .t 3] false (V.tup [(V.str r.1), (V.int .i64 r.2)]) s → endQ [.t 2, .t 3] false (V.tup [(V.str r.1), (V.int .i64 r.2)]) .ret s := fun _ h => h
  unfold g.object_PutTree at hD
  unfold c_object_PutTree
  refine x_seq ?_
  refine x_start (b := false) ?_
  refine x_mv' (show _ = (V.str ([] : Bytes)) from rfl) ?_
  refine x_mv' (show _ = (V.int .i64 0) from rfl) ?_
  refine x_done ?_
  refine x_tN ?_
  refine x_seq ?_
  refine x_seq ?_
  refine x_start (b := false) ?_
  refine x_mv h0 fun v14 hv14 => ?_
  obtain ⟨r16, hx17, hD⟩ := Option.bind_eq_some_iff.1 hD
  refine x_callF hC_object_GoodTree (a := (p0)) (cons_eq hv14 rfl) hx17 fun v15 ov15 (hv15 : v15.nf = (V.bool r16)) hov15 => ?_
  refine x_un (nf_bool hv15) (aun_not _) ?_
  refine x_done ?_
  refine x_tN ?_
  by_cases hp18 : r16 = true
  · rw [if_pos hp18] at hD
    refine x_cf (show _ = (V.bool (!r16)) from rfl) (bnot_t hp18) ?_
    refine x_skip ?_
    refine x_tN ?_
    refine x_seq ?_
    refine x_start (b := false) ?_
    refine x_mv' (y := V.sl true 1 []) rfl ?_
    refine x_done ?_
    refine x_tN ?_
    refine x_seq ?_
    refine x_seq ?_
    refine x_start (b := false) ?_
    refine x_mv h0 fun v62 hv62 => ?_
    refine x_len hv62 ?_
    refine x_mv' (show _ = (V.int .i64 0) from rfl) ?_
    refine x_done ?_
    refine x_tN ?_
    refine x_block ?_
    by_cases hlen197 : p0.length ≤ Lim
    · rw [if_pos hlen197] at hD
      refine ok.object_PutTree_l1 (l63 := p0) hC_object_GoodTree hC_code_Join (fun s196 t4_191 h190 h190o hD => ?_) (fun _ hE => ?_) hlen197 _ 0 _ _ rfl (Nat.zero_le _) ?_ ?_ ?_ ?_ ?_ hD
      · refine x_bE ?_
        refine x_tN ?_
        refine x_seq ?_
        refine x_start (b := false) ?_
        refine x_mv h190 fun v192 hv192 => ?_
        obtain ⟨r194, hx195, hD⟩ := Option.bind_eq_some_iff.1 hD
        refine x_callF hC_code_Join (a := (t4_191)) (cons_eq hv192 rfl) hx195 fun v193 ov193 (hv193 : v193.nf = (V.str r194)) hov193 => ?_
        refine x_mv' (nf_str hv193) ?_
        refine x_mv' (show _ = (V.int .i64 0) from rfl) ?_
        refine x_done ?_
        refine x_tN ?_
        refine x_retc ?_
        obtain rfl := Option.some.inj hD
        exact hR _ (ends_tup (rvs_cons (rv_t (nf_of rfl (show _ = (V.str r194) from rfl))) (rvs_cons (rv_t (nf_of rfl (show _ = (V.int .i64 0) from rfl))) rvs_nil)) (by decide))
      · refine x_bR ?_; refine x_tR ?_; exact hR _ hE
      · exact hv62
      · exact (show _ = (V.int .i64 ((p0.length : Nat) : Int)) from rfl)
      · exact (show _ = (V.int .i64 0) from rfl)
      · exact (show V.nf _ = (V.sl false 1 (List.map V.str [])) from rfl)
      · exact (Or.inr ⟨1, rfl⟩)
    · rw [if_neg hlen197] at hD; cases hD
  · rw [if_neg hp18] at hD
    refine x_ct (show _ = (V.bool (!r16)) from rfl) (bnot_f (Bool.eq_false_iff.2 hp18)) ?_
    refine x_seq ?_
    refine x_start (b := false) ?_
    refine x_mv' (show _ = (V.str ([] : Bytes)) from rfl) ?_
    refine x_mv' (show _ = (V.int .i64 1) from rfl) ?_
    refine x_done ?_
    refine x_tN ?_
    refine x_retc ?_
    refine x_tR ?_
    obtain rfl := Option.some.inj hD
    exact hR _ (ends_tup (rvs_cons (rv_t (nf_of rfl (show _ = (V.str ([] : Bytes)) from rfl))) (rvs_cons (rv_t (nf_of rfl (show _ = (V.int .i64 1) from rfl))) rvs_nil)) (by decide))
def K.object_PutTree : FC := fc F.object_PutTree (fun _ => true) false (fun (a : (List T.Entry)) => [(V.sl false 34 (List.map E.Entry a))]) (fun (y : (Bytes × Int)) => (V.tup [(V.str y.1), (V.int .i64 y.2)])) (fun a => g.object_PutTree a)
  (fun a => (cleanL_mk (E.LEntry_clean _) rfl))
  (fun y => (cleanL_mk rfl (cleanL_mk rfl rfl)))
  (fun a0 b0 h => by
    obtain ⟨h0, h⟩ := List.cons.inj h
    obtain rfl : a0 = b0 := E.LEntry_inj h0
    rfl)
theorem H.object_PutTree (w : World) (hw : EnvOK w) : K.object_PutTree.Holds (cxD w) :=
  FC.holds_of (cs := [K.object_GoodTree, K.code_Join]) (glD w) mixed cf_object_PutTree (fun _ _ ⟨_, _, h, _⟩ => by subst h; exact Nat.le_of_ble_eq_true rfl) fun v y ⟨a, r, hv, hD, hy⟩ => by
    subst hy
    exact ok.object_PutTree (specOf_calls (H.object_GoodTree w hw) (fun _ _ ⟨_, _, h, _⟩ => by subst h; rfl)) (specOf_calls (H.code_Join w hw) (fun _ _ ⟨_, _, h, _⟩ => by subst h; rfl)) hv hD
theorem set_Entry_0_1 (x : T.Entry) (v : Bytes) : setAt (C.Entry x) 0 [(V.str v)] = C.Entry ({ x with Name := v } : T.Entry) := by
  unfold C.Entry
  rw [set_left (Nat.le_trans (Nat.le_of_eq (congrArg (0 + ·) (show [(V.str v)].length = 1 from rfl))) (le_len (len_app (show [(V.str x.Name)].length = 1 from rfl) (show [(V.bool x.Tree)].length = 1 from rfl)) (by decide)))]
  rw [set_left (Nat.le_trans (Nat.le_of_eq (congrArg (0 + ·) (show [(V.str v)].length = 1 from rfl))) (le_len (show [(V.str x.Name)].length = 1 from rfl) (by decide)))]
  rw [(setAt_full (Eq.trans (show [(V.str v)].length = 1 from rfl) (Eq.symm (show [(V.str x.Name)].length = 1 from rfl))))]
theorem set_Entry_1_1 (x : T.Entry) (v : Bool) : setAt (C.Entry x) 1 [(V.bool v)] = C.Entry ({ x with Tree := v } : T.Entry) := by
  unfold C.Entry
  rw [set_left (Nat.le_trans (Nat.le_of_eq (congrArg (1 + ·) (show [(V.bool v)].length = 1 from rfl))) (le_len (len_app (show [(V.str x.Name)].length = 1 from rfl) (show [(V.bool x.Tree)].length = 1 from rfl)) (by decide)))]
  rw [set_right 1 (show [(V.str x.Name)].length = 1 from rfl)]
  rw [(setAt_full (Eq.trans (show [(V.bool v)].length = 1 from rfl) (Eq.symm (show [(V.bool x.Tree)].length = 1 from rfl))))]
theorem set_Entry_2_32 (x : T.Entry) (v : (Arr 32)) : setAt (C.Entry x) 2 (encB (v).1) = C.Entry ({ x with Id := v } : T.Entry) := by
  unfold C.Entry
  rw [set_right 2 (len_app (show [(V.str x.Name)].length = 1 from rfl) (show [(V.bool x.Tree)].length = 1 from rfl))]
  rw [(setAt_full (Eq.trans (enc_len v) (Eq.symm (enc_len x.Id))))]
def c_object_GetTree_j1 : ACode := (.region [
  ⟨(some 25), (.mv (.tmp 4)), none, []⟩, 
  ⟨(some 26), (.slc 1 (.tmp 25) (some (.const (.int .i64 3))) none none), none, []⟩, 
  ⟨(some 4), (.mvo 26), none, []⟩] false)
def c_object_GetTree_j2 : ACode := (.region [
  ⟨(some 48), (.mvo 6), none, []⟩, 
  ⟨(some 49), (.mv (.tmp 4)), none, []⟩, 
  ⟨(some 50), (.iaddr 1 (.tmp 49) (.const (.int .i64 1))), none, []⟩, 
  ⟨(some 51), (.load none (.tmp 50)), none, []⟩, 
  ⟨(some 52), (.mv (.tmp 4)), none, []⟩, 
  ⟨(some 53), (.iaddr 1 (.tmp 52) (.const (.int .i64 0))), none, []⟩, 
  ⟨(some 54), (.load none (.tmp 53)), none, []⟩, 
  ⟨(some 55), (.bin .eql .no (.tmp 54) (.const (.str [116, 114, 101, 101]))), none, []⟩, 
  ⟨(some 56), (.load (some 32) (.tmp 7)), none, []⟩, 
  ⟨(some 57), (.build ((.str []) :: (.bool false) :: repl 32 (.int .u8 0)) [(0, (1, (.tmp 51))), (1, (1, (.tmp 55))), (2, (32, (.tmp 56)))]), none, []⟩, 
  ⟨(some 58), (.bsl 34 [(.tmp 57)]), none, []⟩, 
  ⟨(some 59), (.app 34 (.tmp 48) (.tmp 58)), none, []⟩, 
  ⟨(some 6), (.mvo 59), none, []⟩] true)
def c_object_GetTree_l1 : ACode := (.seq (.seq (.region [
  ⟨(some 22), (.mv (.tmp 4)), none, []⟩, 
  ⟨(some 23), (.len false (.tmp 22)), none, []⟩, 
  ⟨(some 24), (.bin .gtr .no (.tmp 23) (.const (.int .i64 0))), none, []⟩] false) (.cond (.tmp 24) .skip (.exit 0))) (.seq (.block 1 (.seq (.region [
  ⟨(some 28), (.mv (.tmp 4)), none, []⟩, 
  ⟨(some 29), (.iaddr 1 (.tmp 28) (.const (.int .i64 2))), none, []⟩, 
  ⟨(some 30), (.load none (.tmp 29)), none, []⟩, 
  ⟨(some 31), (.call F.object_id [(.tmp 30)]), none, []⟩, 
  ⟨(some 27), (.mv (.tmp 31)), none, []⟩, 
  ⟨(some 32), (.ext (.tmp 27) 0), none, []⟩, 
  ⟨(some 33), (.ext (.tmp 27) 1), none, []⟩, 
  ⟨(some 7), (.new (repl 32 (.int .u8 0))), none, []⟩, 
  ⟨none, (.store 32 (.tmp 7) (.tmp 32)), none, []⟩, 
  ⟨(some 8), (.mv (.tmp 33)), none, []⟩] false) (.seq (.seq (.region [
  ⟨(some 34), (.mv (.tmp 8)), none, []⟩, 
  ⟨(some 35), (.un .not (.tmp 34)), none, []⟩, 
  ⟨(some 36), (.mv (.tmp 35)), none, []⟩, 
  ⟨(some 37), (.mv (.tmp 4)), (some (36, false)), []⟩, 
  ⟨(some 38), (.iaddr 1 (.tmp 37) (.const (.int .i64 0))), (some (36, false)), []⟩, 
  ⟨(some 39), (.load none (.tmp 38)), (some (36, false)), []⟩, 
  ⟨(some 40), (.bin .neq .no (.tmp 39) (.const (.str [98, 108, 111, 98]))), (some (36, false)), []⟩, 
  ⟨(some 41), (.mv (.tmp 40)), (some (36, false)), []⟩, 
  ⟨(some 42), (.mv (.tmp 4)), (some (41, true)), []⟩, 
  ⟨(some 43), (.iaddr 1 (.tmp 42) (.const (.int .i64 0))), (some (41, true)), []⟩, 
  ⟨(some 44), (.load none (.tmp 43)), (some (41, true)), []⟩, 
  ⟨(some 45), (.bin .neq .no (.tmp 44) (.const (.str [116, 114, 101, 101]))), (some (41, true)), []⟩, 
  ⟨(some 46), (.pick (.tmp 41) (.tmp 45) (.const (.bool false))), (some (36, false)), []⟩, 
  ⟨(some 47), (.pick (.tmp 36) (.const (.bool true)) (.tmp 46)), none, []⟩] false) (.cond (.tmp 47) (.seq (.region [
  ⟨(some 2), (.mv (.const (.sl true 34 []))), none, []⟩, 
  ⟨(some 3), (.mv (.const (.int .i64 4))), none, []⟩] false) .ret) .skip)) c_object_GetTree_j2))) c_object_GetTree_j1))
def c_object_GetTree : ACode := (.seq (.region [
  ⟨(some 2), (.mv (.const (.sl true 34 []))), none, []⟩, 
  ⟨(some 3), (.mv (.const (.int .i64 0))), none, []⟩] false) (.seq (.region [
  ⟨(some 10), (.mv (.tmp 0)), none, []⟩, 
  ⟨(some 11), (.call F.code_Split [(.tmp 10)]), none, []⟩, 
  ⟨(some 9), (.mv (.tmp 11)), none, []⟩, 
  ⟨(some 12), (.ext (.tmp 9) 0), none, []⟩, 
  ⟨(some 13), (.ext (.tmp 9) 1), none, []⟩, 
  ⟨(some 4), (.mvo 12), none, []⟩, 
  ⟨(some 5), (.mv (.tmp 13)), none, []⟩] false) (.seq (.seq (.region [
  ⟨(some 14), (.mv (.tmp 5)), none, []⟩, 
  ⟨(some 15), (.bin .neq .no (.tmp 14) (.const (.int .i64 0))), none, []⟩, 
  ⟨(some 16), (.mv (.tmp 15)), none, []⟩, 
  ⟨(some 17), (.mv (.tmp 4)), (some (16, false)), []⟩, 
  ⟨(some 18), (.len false (.tmp 17)), (some (16, false)), []⟩, 
  ⟨(some 19), (.bin .rem .no (.tmp 18) (.const (.int .i64 3))), (some (16, false)), []⟩, 
  ⟨(some 20), (.bin .neq .no (.tmp 19) (.const (.int .i64 0))), (some (16, false)), []⟩, 
  ⟨(some 21), (.pick (.tmp 16) (.const (.bool true)) (.tmp 20)), none, []⟩] false) (.cond (.tmp 21) (.seq (.region [
  ⟨(some 2), (.mv (.const (.sl true 34 []))), none, []⟩, 
  ⟨(some 3), (.mv (.const (.int .i64 4))), none, []⟩] false) .ret) .skip)) (.seq (.region [
  ⟨(some 6), (.mv (.const (.sl true 34 []))), none, []⟩] false) (.seq (.block 0 (.loop c_object_GetTree_l1)) (.seq (.seq (.region [
  ⟨(some 60), (.mv (.tmp 6)), none, []⟩, 
  ⟨(some 61), (.call F.object_GoodTree [(.tmp 60)]), none, []⟩, 
  ⟨(some 62), (.un .not (.tmp 61)), none, []⟩] false) (.cond (.tmp 62) (.seq (.region [
  ⟨(some 2), (.mv (.const (.sl true 34 []))), none, []⟩, 
  ⟨(some 3), (.mv (.const (.int .i64 4))), none, []⟩] false) .ret) .skip)) (.seq (.region [
  ⟨(some 63), (.mvo 6), none, []⟩, 
  ⟨(some 2), (.mvo 63), none, []⟩, 
  ⟨(some 3), (.mv (.const (.int .i64 0))), none, []⟩] false) .ret)))))))
theorem cf_object_GetTree : cFn Go.Proofs.Tryd.prog F.object_GetTree = some ⟨64, c_object_GetTree, [.t 2, .t 3]⟩ := by kernel_rfl
def L.object_GetTree_j1 (k0 : (List Bytes) → (List T.Entry) → Option ((List T.Entry) × Int)) (t4_547 : (List Bytes)) (t6_549 : (List T.Entry)) : Option ((List T.Entry) × Int) :=
  (cut t4_547 3 (t4_547.length : Nat)).bind fun q551 =>
  k0 q551 t6_549
theorem ok.object_GetTree_j1 {Γ : Abs.Spec} {gl : Glob} (hC_code_Split : CallsX Γ K.code_Split) (hC_object_id : CallsX Γ K.object_id) (hC_object_GoodTree : CallsX Γ K.object_GoodTree) {Q : Ex → St → Prop} {r : ((List T.Entry) × Int)} {k0 : (List Bytes) → (List T.Entry) → Option ((List T.Entry) × Int)}
    (hk0 : ∀ (s : St) (t4_568 : (List Bytes)) (t6_570 : (List T.Entry)), ((s.tm 4).nf = (V.sl false 1 (List.map V.str t4_568))) → ((s.tm 6).nf = (V.sl false 34 (List.map E.Entry t6_570))) → (OwnS s 6) → k0 t4_568 t6_570 = some r → Q .normal s)
    (hR : ∀ s, EndsX [.t 2, .t 3] false (V.tup [(V.sl false 34 (List.map E.Entry r.1)), (V.int .i64 r.2)]) s → Q .ret s)
    {s : St} {t4_547 : (List Bytes)} {t6_549 : (List T.Entry)} (h546 : (s.tm 4).nf = (V.sl false 1 (List.map V.str t4_547))) (h548 : (s.tm 6).nf = (V.sl false 34 (List.map E.Entry t6_549))) (h548o : OwnS s 6)
    (hD : L.object_GetTree_j1 k0 t4_547 t6_549 = some r) : awp Γ gl c_object_GetTree_j1 Q s := by
  unfold L.object_GetTree_j1 at hD
  refine x_start (b := false) ?_
  refine x_mv h546 fun v550 hv550 => ?_
  obtain ⟨q551, hx552, hD⟩ := Option.bind_eq_some_iff.1 hD
  refine x_slc (ka := .i64) (kb := .i64) hv550 (show _ = (V.int .i64 3) from rfl) rfl hx552 fun v553 hv553 => ?_
  refine x_mvo hv553 fun v554 ov554 hv554 hwv554 => ?_
  refine x_done ?_
  refine hk0 _ _ _ ?_ ?_ ?_ hD
  · exact hv554
  · exact h548
  · exact h548o
def L.object_GetTree_j2 (k0 : (List Bytes) → (List T.Entry) → Option ((List T.Entry) × Int)) (x625 : (Arr 32)) (t4_628 : (List Bytes)) (t6_630 : (List T.Entry)) : Option ((List T.Entry) × Int) :=
  (at? t4_628 1).bind fun a634 =>
  (at? t4_628 0).bind fun a639 =>
  (appL t6_630 ([({ Name := a634, Tree := (decide (a639 = ([116, 114, 101, 101] : Bytes))), Id := x625 } : T.Entry)] : (List T.Entry))).bind fun l646 =>
  k0 t4_628 l646
theorem ok.object_GetTree_j2 {Γ : Abs.Spec} {gl : Glob} (hC_code_Split : CallsX Γ K.code_Split) (hC_object_id : CallsX Γ K.object_id) (hC_object_GoodTree : CallsX Γ K.object_GoodTree) {Q : Ex → St → Prop} {r : ((List T.Entry) × Int)} {k0 : (List Bytes) → (List T.Entry) → Option ((List T.Entry) × Int)}
    (hk0 : ∀ (s : St) (t4_663 : (List Bytes)) (t6_665 : (List T.Entry)), ((s.tm 4).nf = (V.sl false 1 (List.map V.str t4_663))) → ((s.tm 6).nf = (V.sl false 34 (List.map E.Entry t6_665))) → (OwnS s 6) → k0 t4_663 t6_665 = some r → Q .normal s)
    (hR : ∀ s, EndsX [.t 2, .t 3] false (V.tup [(V.sl false 34 (List.map E.Entry r.1)), (V.int .i64 r.2)]) s → Q .ret s)
    {s : St} {i626 : Nat} {x625 : (Arr 32)} {t4_628 : (List Bytes)} {t6_630 : (List T.Entry)} (hli626 : i626 < s.nH) (hci626 : Cells s i626 (encB (x625).1)) (h627 : (s.tm 4).nf = (V.sl false 1 (List.map V.str t4_628))) (h629 : (s.tm 6).nf = (V.sl false 34 (List.map E.Entry t6_630))) (h629o : OwnS s 6) (h631 : s.tm 7 = (V.ptr i626 0))
    (hD : L.object_GetTree_j2 k0 x625 t4_628 t6_630 = some r) : awp Γ gl c_object_GetTree_j2 Q s := by
  unfold L.object_GetTree_j2 at hD
  refine x_start (b := true) ?_
  refine x_mvo h629 fun v632 ov632 hv632 hwv632 => ?_
  refine x_mv h627 fun v633 hv633 => ?_
  obtain ⟨a634, hx635, hD⟩ := Option.bind_eq_some_iff.1 hD
  refine x_iaddr hv633 (show _ = (V.int .i64 1) from rfl) hx635 fun v636 (hv636 : v636.nf = V.el [(V.str a634)] 0) => ?_
  refine x_load_el hv636 (show _ = some (V.str a634) from rfl) fun v637 hv637 => ?_
  refine x_mv h627 fun v638 hv638 => ?_
  obtain ⟨a639, hx640, hD⟩ := Option.bind_eq_some_iff.1 hD
  refine x_iaddr hv638 (show _ = (V.int .i64 0) from rfl) hx640 fun v641 (hv641 : v641.nf = V.el [(V.str a639)] 0) => ?_
  refine x_load_el hv641 (show _ = some (V.str a639) from rfl) fun v642 hv642 => ?_
  refine x_bin (nf_str hv642) (show _ = (V.str ([116, 114, 101, 101] : Bytes)) from rfl) s_eql ?_
  refine x_load h631 hci626 (ld_arr x625) fun v643 hv643 => ?_
  refine x_build (ws := [(0, 1, (V.str a634)), (1, 1, (V.bool (decide (a639 = ([116, 114, 101, 101] : Bytes))))), (2, 32, (V.agg (encB (x625).1)))]) (l := C.Entry ({ Name := a634, Tree := (decide (a639 = ([116, 114, 101, 101] : Bytes))), Id := x625 } : T.Entry)) (part_eq (nf_of rfl (nf_str hv637)) (part_eq (nf_of rfl (show _ = (V.bool (decide (a639 = ([116, 114, 101, 101] : Bytes)))) from rfl)) (part_eq hv643 rfl))) (fill_from (by kernel_rfl : _ = C.Entry ({ Name := [], Tree := false, Id := (Arr.zero 32) } : T.Entry)) (fill_step (set_Entry_0_1 ({ Name := [], Tree := false, Id := (Arr.zero 32) } : T.Entry) a634) ⟨(show [(V.str a634)].length = 1 from rfl), rfl, le_len (C.Entry_len ({ Name := [], Tree := false, Id := (Arr.zero 32) } : T.Entry)) (by decide)⟩ (fill_step (set_Entry_1_1 ({ ({ Name := [], Tree := false, Id := (Arr.zero 32) } : T.Entry) with Name := a634 } : T.Entry) (decide (a639 = ([116, 114, 101, 101] : Bytes)))) ⟨(show [(V.bool (decide (a639 = ([116, 114, 101, 101] : Bytes))))].length = 1 from rfl), rfl, le_len (C.Entry_len ({ ({ Name := [], Tree := false, Id := (Arr.zero 32) } : T.Entry) with Name := a634 } : T.Entry)) (by decide)⟩ (fill_step (set_Entry_2_32 ({ ({ ({ Name := [], Tree := false, Id := (Arr.zero 32) } : T.Entry) with Name := a634 } : T.Entry) with Tree := (decide (a639 = ([116, 114, 101, 101] : Bytes))) } : T.Entry) x625) ⟨(enc_len x625), (encB_sc x625.1), le_len (C.Entry_len ({ ({ ({ Name := [], Tree := false, Id := (Arr.zero 32) } : T.Entry) with Name := a634 } : T.Entry) with Tree := (decide (a639 = ([116, 114, 101, 101] : Bytes))) } : T.Entry)) (by decide)⟩ fill_nil)))) fun v644 hv644 hnv644 => ?_
  refine x_bsl (E := E.Entry) (l := ([({ Name := a634, Tree := (decide (a639 = ([116, 114, 101, 101] : Bytes))), Id := x625 } : T.Entry)] : (List T.Entry))) (cons_eq hv644 rfl) (fits_map (E := E.Entry) (sz := 34) (fun x => E.Entry_fit x) _) fun v645 ov645 hv645 hov645 => ?_
  obtain ⟨l646, hx647, hD⟩ := Option.bind_eq_some_iff.1 hD
  refine x_app hv632 (hwv632 h629o) (tail_sl hv645) hx647 fun v648 ov648 fv648 hv648 hov648 hfv648 => ?_
  refine x_mvo hv648 fun v649 ov649 hv649 hwv649 => ?_
  refine x_done ?_
  refine hk0 _ _ _ ?_ ?_ ?_ hD
  · exact h627
  · exact hv649
  · exact (hwv649 hov648)
def L.object_GetTree_l1 (k0 : (List T.Entry) → Option ((List T.Entry) × Int)) : Nat → (List Bytes) → (List T.Entry) → Option ((List T.Entry) × Int)
  | 0, _, _ => none
  | n + 1, t4_438, t6_440 =>
    if 0 < ((t4_438.length : Nat) : Int) then
      (at? t4_438 2).bind fun a585 =>
      (g.object_id a585).bind fun r590 =>
      if r590.2 = true then
        (at? t4_438 0).bind fun a678 =>
        if a678 = ([98, 108, 111, 98] : Bytes) then
          L.object_GetTree_j2 (fun (t4_684 : (List Bytes)) (t6_686 : (List T.Entry)) => L.object_GetTree_j1 (fun (t4_688 : (List Bytes)) (t6_690 : (List T.Entry)) => L.object_GetTree_l1 k0 n t4_688 t6_690) t4_684 t6_686) r590.1 t4_438 t6_440
        else
          if a678 = ([116, 114, 101, 101] : Bytes) then
            L.object_GetTree_j2 (fun (t4_698 : (List Bytes)) (t6_700 : (List T.Entry)) => L.object_GetTree_j1 (fun (t4_702 : (List Bytes)) (t6_704 : (List T.Entry)) => L.object_GetTree_l1 k0 n t4_702 t6_704) t4_698 t6_700) r590.1 t4_438 t6_440
          else
            some ([], 4)
      else
        some ([], 4)
    else
      k0 t6_440
theorem ok.object_GetTree_l1 {Γ : Abs.Spec} {gl : Glob} (hC_code_Split : CallsX Γ K.code_Split) (hC_object_id : CallsX Γ K.object_id) (hC_object_GoodTree : CallsX Γ K.object_GoodTree) {Q : Ex → St → Prop} {r : ((List T.Entry) × Int)} {k0 : (List T.Entry) → Option ((List T.Entry) × Int)}
    (hk0 : ∀ (s : St) (t6_710 : (List T.Entry)), ((s.tm 6).nf = (V.sl false 34 (List.map E.Entry t6_710))) → (OwnS s 6) → k0 t6_710 = some r → Q (.exit 0) s)
    (hR : ∀ s, EndsX [.t 2, .t 3] false (V.tup [(V.sl false 34 (List.map E.Entry r.1)), (V.int .i64 r.2)]) s → Q .ret s) : ∀ (n : Nat) (s : St) (t4_438 : (List Bytes)) (t6_440 : (List T.Entry)),
    ((s.tm 4).nf = (V.sl false 1 (List.map V.str t4_438))) → ((s.tm 6).nf = (V.sl false 34 (List.map E.Entry t6_440))) → (OwnS s 6) → L.object_GetTree_l1 k0 n t4_438 t6_440 = some r → awp Γ gl (.loop c_object_GetTree_l1) Q s := by
  intro n
  induction n with
  | zero => intro s t4_438 t6_440 h437 h439 h439o hD; rw [L.object_GetTree_l1] at hD; cases hD
  | succ n ih =>
    intro s t4_438 t6_440 h437 h439 h439o hD
    refine awp_roundK fun K hK => ?_
    rw [L.object_GetTree_l1] at hD
    refine x_seq ?_
    refine x_seq ?_
    refine x_start (b := false) ?_
    refine x_mv h437 fun v447 hv447 => ?_
    refine x_len hv447 ?_
    refine x_bin (show _ = (V.int .i64 ((t4_438.length : Nat) : Int)) from rfl) (show _ = (V.int .i64 0) from rfl) b_gtr ?_
    refine x_done ?_
    refine x_tN ?_
    by_cases hp448 : 0 < ((t4_438.length : Nat) : Int)
    · rw [if_pos hp448] at hD
      refine x_ct (show _ = (V.bool (decide (0 < ((t4_438.length : Nat) : Int)))) from rfl) (decide_eq_true hp448) ?_
      refine x_skip ?_
      refine x_tN ?_
      refine x_seq ?_
      refine x_block ?_
      refine x_seq ?_
      refine x_start (b := false) ?_
      refine x_mv h437 fun v584 hv584 => ?_
      obtain ⟨a585, hx586, hD⟩ := Option.bind_eq_some_iff.1 hD
      refine x_iaddr hv584 (show _ = (V.int .i64 2) from rfl) hx586 fun v587 (hv587 : v587.nf = V.el [(V.str a585)] 0) => ?_
      refine x_load_el hv587 (show _ = some (V.str a585) from rfl) fun v588 hv588 => ?_
      obtain ⟨r590, hx591, hD⟩ := Option.bind_eq_some_iff.1 hD
      refine x_callF hC_object_id (a := (a585)) (cons_eq (nf_of rfl (nf_str hv588)) rfl) hx591 fun v589 ov589 (hv589 : v589.nf = (V.tup [(V.agg (encB (r590.1).1)), (V.bool r590.2)])) hov589 => ?_
      refine x_mv hv589 fun v592 hv592 => ?_
      refine x_ext hv592 (show _ = some (V.agg (encB (r590.1).1)) from rfl) fun v593 hv593 => ?_
      refine x_ext hv592 (show _ = some (V.bool r590.2) from rfl) fun v594 hv594 => ?_
      refine x_new (l := (encB ((Arr.zero 32)).1)) (nf_zero _) fun i595 hidi595 hci595 => ?_
      refine x_store (ws := (encB (r590.1).1)) (l' := (encB (r590.1).1)) (show _ = (V.ptr i595 0) from rfl) hci595 (cells_of rfl hv593) ⟨(enc_len r590.1), (encB_sc r590.1.1), le_len (enc_len (Arr.zero 32)) (by decide)⟩ (setAt_full (Eq.trans (enc_len r590.1) (Eq.symm (enc_len (Arr.zero 32))))) fun csv596 ysv596 hcsv596 hnv596 hcv596 hsv596 => ?_
      refine x_mv' (nf_bool hv594) ?_
      refine x_done ?_
      refine x_tN ?_
      refine x_seq ?_
      refine x_seq ?_
      refine x_start (b := false) ?_
      refine x_mv' (show _ = (V.bool r590.2) from rfl) ?_
      refine x_un (show _ = (V.bool r590.2) from rfl) (aun_not _) ?_
      refine x_mv' (show _ = (V.bool (!r590.2)) from rfl) ?_
      by_cases hp676 : r590.2 = true
      · rw [if_pos hp676] at hD
        refine x_gy (show _ = (V.bool (!r590.2)) from rfl) (bnot_t hp676) ?_
        refine x_mv h437 fun v677 hv677 => ?_
        refine x_gy (show _ = (V.bool (!r590.2)) from rfl) (bnot_t hp676) ?_
        obtain ⟨a678, hx679, hD⟩ := Option.bind_eq_some_iff.1 hD
        refine x_iaddr hv677 (show _ = (V.int .i64 0) from rfl) hx679 fun v680 (hv680 : v680.nf = V.el [(V.str a678)] 0) => ?_
        refine x_gy (show _ = (V.bool (!r590.2)) from rfl) (bnot_t hp676) ?_
        refine x_load_el hv680 (show _ = some (V.str a678) from rfl) fun v681 hv681 => ?_
        refine x_gy (show _ = (V.bool (!r590.2)) from rfl) (bnot_t hp676) ?_
        refine x_bin (nf_str hv681) (show _ = (V.str ([98, 108, 111, 98] : Bytes)) from rfl) s_neq ?_
        refine x_gy (show _ = (V.bool (!r590.2)) from rfl) (bnot_t hp676) ?_
        refine x_mv' (show _ = (V.bool (!(decide (a678 = ([98, 108, 111, 98] : Bytes))))) from rfl) ?_
        by_cases hp682 : a678 = ([98, 108, 111, 98] : Bytes)
        · rw [if_pos hp682] at hD
          refine x_gn (show _ = (V.bool (!(decide (a678 = ([98, 108, 111, 98] : Bytes))))) from rfl) (bnot_t (decide_eq_true hp682)) ?_
          refine x_gn (show _ = (V.bool (!(decide (a678 = ([98, 108, 111, 98] : Bytes))))) from rfl) (bnot_t (decide_eq_true hp682)) ?_
          refine x_gn (show _ = (V.bool (!(decide (a678 = ([98, 108, 111, 98] : Bytes))))) from rfl) (bnot_t (decide_eq_true hp682)) ?_
          refine x_gn (show _ = (V.bool (!(decide (a678 = ([98, 108, 111, 98] : Bytes))))) from rfl) (bnot_t (decide_eq_true hp682)) ?_
          refine x_gy (show _ = (V.bool (!r590.2)) from rfl) (bnot_t hp676) ?_
          refine x_pickf' (show _ = (V.bool (!(decide (a678 = ([98, 108, 111, 98] : Bytes))))) from rfl) (bnot_t (decide_eq_true hp682)) (show _ = (V.bool false) from rfl) ?_
          refine x_pickf' (show _ = (V.bool (!r590.2)) from rfl) (bnot_t hp676) (show _ = (V.bool false) from rfl) ?_
          refine x_done ?_
          refine x_tN ?_
          refine x_cf (show _ = (V.bool false) from rfl) rfl ?_
          refine x_skip ?_
          refine x_tN ?_
          refine ok.object_GetTree_j2 (i626 := i595) hC_code_Split hC_object_id hC_object_GoodTree (fun s692 t4_684 t6_686 h683 h685 h685o hD => ?_) (fun _ hE => ?_) ?_ ?_ ?_ ?_ ?_ ?_ hD
          · refine x_bN ?_
            refine x_tN ?_
            refine ok.object_GetTree_j1 hC_code_Split hC_object_id hC_object_GoodTree (fun s691 t4_688 t6_690 h687 h689 h689o hD => ?_) (fun _ hE => ?_) ?_ ?_ ?_ hD
            · refine x_tN ?_
              refine hK _ ?_
              refine ih _ _ _ ?_ ?_ ?_ hD
              · exact h687
              · exact h689
              · exact h689o
            · refine x_tR ?_; exact hR _ hE
            · exact h683
            · exact h685
            · exact h685o
          · refine x_bR ?_; refine x_tR ?_; refine x_tR ?_; exact hR _ hE
          · exact (Nat.lt_succ_of_le (Nat.le_of_eq hidi595))
          · exact hcv596
          · exact h437
          · exact h439
          · exact h439o
          · exact (show _ = (V.ptr i595 0) from rfl)
        · rw [if_neg hp682] at hD
          refine x_gy (show _ = (V.bool (!(decide (a678 = ([98, 108, 111, 98] : Bytes))))) from rfl) (bnot_f (decide_eq_false hp682)) ?_
          refine x_mv h437 fun v693 hv693 => ?_
          refine x_gy (show _ = (V.bool (!(decide (a678 = ([98, 108, 111, 98] : Bytes))))) from rfl) (bnot_f (decide_eq_false hp682)) ?_
          refine x_iaddr hv693 (show _ = (V.int .i64 0) from rfl) hx679 fun v694 (hv694 : v694.nf = V.el [(V.str a678)] 0) => ?_
          refine x_gy (show _ = (V.bool (!(decide (a678 = ([98, 108, 111, 98] : Bytes))))) from rfl) (bnot_f (decide_eq_false hp682)) ?_
          refine x_load_el hv694 (show _ = some (V.str a678) from rfl) fun v695 hv695 => ?_
          refine x_gy (show _ = (V.bool (!(decide (a678 = ([98, 108, 111, 98] : Bytes))))) from rfl) (bnot_f (decide_eq_false hp682)) ?_
          refine x_bin (nf_str hv695) (show _ = (V.str ([116, 114, 101, 101] : Bytes)) from rfl) s_neq ?_
          refine x_gy (show _ = (V.bool (!r590.2)) from rfl) (bnot_t hp676) ?_
          refine x_pickt' (show _ = (V.bool (!(decide (a678 = ([98, 108, 111, 98] : Bytes))))) from rfl) (bnot_f (decide_eq_false hp682)) (show _ = (V.bool (!(decide (a678 = ([116, 114, 101, 101] : Bytes))))) from rfl) ?_
          refine x_pickf' (show _ = (V.bool (!r590.2)) from rfl) (bnot_t hp676) (show _ = (V.bool (!(decide (a678 = ([116, 114, 101, 101] : Bytes))))) from rfl) ?_
          refine x_done ?_
          refine x_tN ?_
          by_cases hp696 : a678 = ([116, 114, 101, 101] : Bytes)
          · rw [if_pos hp696] at hD
            refine x_cf (show _ = (V.bool (!(decide (a678 = ([116, 114, 101, 101] : Bytes))))) from rfl) (bnot_t (decide_eq_true hp696)) ?_
            refine x_skip ?_
            refine x_tN ?_
            refine ok.object_GetTree_j2 (i626 := i595) hC_code_Split hC_object_id hC_object_GoodTree (fun s706 t4_698 t6_700 h697 h699 h699o hD => ?_) (fun _ hE => ?_) ?_ ?_ ?_ ?_ ?_ ?_ hD
            · refine x_bN ?_
              refine x_tN ?_
              refine ok.object_GetTree_j1 hC_code_Split hC_object_id hC_object_GoodTree (fun s705 t4_702 t6_704 h701 h703 h703o hD => ?_) (fun _ hE => ?_) ?_ ?_ ?_ hD
              · refine x_tN ?_
                refine hK _ ?_
                refine ih _ _ _ ?_ ?_ ?_ hD
                · exact h701
                · exact h703
                · exact h703o
              · refine x_tR ?_; exact hR _ hE
              · exact h697
              · exact h699
              · exact h699o
            · refine x_bR ?_; refine x_tR ?_; refine x_tR ?_; exact hR _ hE
            · exact (Nat.lt_succ_of_le (Nat.le_of_eq hidi595))
            · exact hcv596
            · exact h437
            · exact h439
            · exact h439o
            · exact (show _ = (V.ptr i595 0) from rfl)
          · rw [if_neg hp696] at hD
            refine x_ct (show _ = (V.bool (!(decide (a678 = ([116, 114, 101, 101] : Bytes))))) from rfl) (bnot_f (decide_eq_false hp696)) ?_
            refine x_seq ?_
            refine x_start (b := false) ?_
            refine x_mv' (y := V.sl true 34 []) rfl ?_
            refine x_mv' (show _ = (V.int .i64 4) from rfl) ?_
            refine x_done ?_
            refine x_tN ?_
            refine x_retc ?_
            refine x_tR ?_
            refine x_bR ?_
            refine x_tR ?_
            refine x_tR ?_
            obtain rfl := Option.some.inj hD
            exact hR _ (ends_tup (rvs_cons (rv_t (show V.nf _ = (V.sl false 34 (List.map E.Entry [])) from rfl)) (rvs_cons (rv_t (nf_of rfl (show _ = (V.int .i64 4) from rfl))) rvs_nil)) (by decide))
      · rw [if_neg hp676] at hD
        refine x_gn (show _ = (V.bool (!r590.2)) from rfl) (bnot_f (Bool.eq_false_iff.2 hp676)) ?_
        refine x_gn (show _ = (V.bool (!r590.2)) from rfl) (bnot_f (Bool.eq_false_iff.2 hp676)) ?_
        refine x_gn (show _ = (V.bool (!r590.2)) from rfl) (bnot_f (Bool.eq_false_iff.2 hp676)) ?_
        refine x_gn (show _ = (V.bool (!r590.2)) from rfl) (bnot_f (Bool.eq_false_iff.2 hp676)) ?_
        refine x_gn (show _ = (V.bool (!r590.2)) from rfl) (bnot_f (Bool.eq_false_iff.2 hp676)) ?_
        refine x_gnil (show _ = Nil from rfl) ?_
        refine x_gnil (show _ = Nil from rfl) ?_
        refine x_gnil (show _ = Nil from rfl) ?_
        refine x_gnil (show _ = Nil from rfl) ?_
        refine x_gn (show _ = (V.bool (!r590.2)) from rfl) (bnot_f (Bool.eq_false_iff.2 hp676)) ?_
        refine x_pickt' (show _ = (V.bool (!r590.2)) from rfl) (bnot_f (Bool.eq_false_iff.2 hp676)) (show _ = (V.bool true) from rfl) ?_
        refine x_done ?_
        refine x_tN ?_
        refine x_ct (show _ = (V.bool true) from rfl) rfl ?_
        refine x_seq ?_
        refine x_start (b := false) ?_
        refine x_mv' (y := V.sl true 34 []) rfl ?_
        refine x_mv' (show _ = (V.int .i64 4) from rfl) ?_
        refine x_done ?_
        refine x_tN ?_
        refine x_retc ?_
        refine x_tR ?_
        refine x_bR ?_
        refine x_tR ?_
        refine x_tR ?_
        obtain rfl := Option.some.inj hD
        exact hR _ (ends_tup (rvs_cons (rv_t (show V.nf _ = (V.sl false 34 (List.map E.Entry [])) from rfl)) (rvs_cons (rv_t (nf_of rfl (show _ = (V.int .i64 4) from rfl))) rvs_nil)) (by decide))
    · rw [if_neg hp448] at hD
      refine x_cf (show _ = (V.bool (decide (0 < ((t4_438.length : Nat) : Int)))) from rfl) (decide_eq_false hp448) ?_
      refine x_exitc ?_
      refine x_tE ?_
      refine x_tE ?_
      refine hk0 _ _ ?_ ?_ hD
      · exact h439
      · exact h439o
def g.object_GetTree (p0 : Bytes) : Option ((List T.Entry) × Int) :=
  (g.code_Split p0).bind fun r9 =>
  if r9.2 = 0 then
    if (Int.tmod ((r9.1.length : Nat) : Int) 3) = 0 then
      L.object_GetTree_l1 (fun (t6_712 : (List T.Entry)) => (g.object_GoodTree t6_712).bind fun r719 =>
      if r719 = true then
        some (t6_712, 0)
      else
        some ([], 4)) fuel r9.1 []
    else
      some ([], 4)
  else
    some ([], 4)
theorem ok.object_GetTree {Γ : Abs.Spec} {gl : Glob} (hC_code_Split : CallsX Γ K.code_Split) (hC_object_id : CallsX Γ K.object_id) (hC_object_GoodTree : CallsX Γ K.object_GoodTree) {r : ((List T.Entry) × Int)} {p0 : Bytes} {v : List V}
    (hv : nfL v = [(V.str p0)]) (hD : g.object_GetTree p0 = some r) : awp Γ gl c_object_GetTree (endQ [.t 2, .t 3] false (V.tup [(V.sl false 34 (List.map E.Entry r.1)), (V.int .i64 r.2)])) (St.init v) := by
  obtain ⟨v0, v, rfl, h0, hv⟩ := nfL_cons hv
  obtain rfl := nfL_nil hv
  have hR : ∀ s, EndsX [.t 2, .t 3] false (V.tup [(V.sl false 34 (List.map E.Entry r.1)), (V.int .i64 r.2)]) s → endQ [.t 2, .t 3] false (V.tup [(V.sl false 34 (List.map E.Entry r.1)), (V.int .i64 r.2)]) .ret s := fun _ h => h
  unfold g.object_GetTree at hD
  unfold c_object_GetTree
  refine x_seq ?_
  refine x_start (b := false) ?_
  refine x_mv' (y := V.sl true 34 []) rfl ?_
  refine x_mv' (show _ = (V.int .i64 0) from rfl) ?_
  refine x_done ?_
  refine x_tN ?_
  refine x_seq ?_
  refine x_start (b := false) ?_
  refine x_mv' (nf_str h0) ?_
  obtain ⟨r9, hx10, hD⟩ := Option.bind_eq_some_iff.1 hD
  refine x_callF hC_code_Split (a := (p0)) (cons_eq (nf_of rfl (show _ = (V.str p0) from rfl)) rfl) hx10 fun v8 ov8 (hv8 : v8.nf = (V.tup [(V.sl false 1 (List.map V.str r9.1)), (V.int .i64 r9.2)])) hov8 => ?_
  refine x_mv hv8 fun v11 hv11 => ?_
  refine x_ext hv11 (show _ = some (V.sl false 1 (List.map V.str r9.1)) from rfl) fun v12 hv12 => ?_
  refine x_ext hv11 (show _ = some (V.int .i64 r9.2) from rfl) fun v13 hv13 => ?_
  refine x_mvo hv12 fun v14 ov14 hv14 hwv14 => ?_
  refine x_mv' (nf_int hv13) ?_
  refine x_done ?_
  refine x_tN ?_
  refine x_seq ?_
  refine x_seq ?_
  refine x_start (b := false) ?_
  refine x_mv' (show _ = (V.int .i64 r9.2) from rfl) ?_
  refine x_bin (show _ = (V.int .i64 r9.2) from rfl) (show _ = (V.int .i64 0) from rfl) b_neq ?_
  refine x_mv' (show _ = (V.bool (!(decide (r9.2 = 0)))) from rfl) ?_
  by_cases hp22 : r9.2 = 0
  · rw [if_pos hp22] at hD
    refine x_gy (show _ = (V.bool (!(decide (r9.2 = 0)))) from rfl) (bnot_t (decide_eq_true hp22)) ?_
    refine x_mv hv14 fun v23 hv23 => ?_
    refine x_gy (show _ = (V.bool (!(decide (r9.2 = 0)))) from rfl) (bnot_t (decide_eq_true hp22)) ?_
    refine x_len hv23 ?_
    refine x_gy (show _ = (V.bool (!(decide (r9.2 = 0)))) from rfl) (bnot_t (decide_eq_true hp22)) ?_
    refine x_bin (show _ = (V.int .i64 ((r9.1.length : Nat) : Int)) from rfl) (show _ = (V.int .i64 3) from rfl) (b_rem.trans (if_neg (by decide))) ?_
    refine x_gy (show _ = (V.bool (!(decide (r9.2 = 0)))) from rfl) (bnot_t (decide_eq_true hp22)) ?_
    refine x_bin (show _ = (V.int .i64 (Int.tmod ((r9.1.length : Nat) : Int) 3)) from rfl) (show _ = (V.int .i64 0) from rfl) b_neq ?_
    refine x_pickf' (show _ = (V.bool (!(decide (r9.2 = 0)))) from rfl) (bnot_t (decide_eq_true hp22)) (show _ = (V.bool (!(decide ((Int.tmod ((r9.1.length : Nat) : Int) 3) = 0)))) from rfl) ?_
    refine x_done ?_
    refine x_tN ?_
    by_cases hp24 : (Int.tmod ((r9.1.length : Nat) : Int) 3) = 0
    · rw [if_pos hp24] at hD
      refine x_cf (show _ = (V.bool (!(decide ((Int.tmod ((r9.1.length : Nat) : Int) 3) = 0)))) from rfl) (bnot_t (decide_eq_true hp24)) ?_
      refine x_skip ?_
      refine x_tN ?_
      refine x_seq ?_
      refine x_start (b := false) ?_
      refine x_mv' (y := V.sl true 34 []) rfl ?_
      refine x_done ?_
      refine x_tN ?_
      refine x_seq ?_
      refine x_block ?_
      refine ok.object_GetTree_l1 hC_code_Split hC_object_id hC_object_GoodTree (fun s724 t6_712 h711 h711o hD => ?_) (fun _ hE => ?_) _ _ _ _ ?_ ?_ ?_ hD
      · refine x_bE ?_
        refine x_tN ?_
        refine x_seq ?_
        refine x_seq ?_
        refine x_start (b := false) ?_
        refine x_mv h711 fun v717 hv717 => ?_
        obtain ⟨r719, hx720, hD⟩ := Option.bind_eq_some_iff.1 hD
        refine x_callF hC_object_GoodTree (a := (t6_712)) (cons_eq hv717 rfl) hx720 fun v718 ov718 (hv718 : v718.nf = (V.bool r719)) hov718 => ?_
        refine x_un (nf_bool hv718) (aun_not _) ?_
        refine x_done ?_
        refine x_tN ?_
        by_cases hp721 : r719 = true
        · rw [if_pos hp721] at hD
          refine x_cf (show _ = (V.bool (!r719)) from rfl) (bnot_t hp721) ?_
          refine x_skip ?_
          refine x_tN ?_
          refine x_seq ?_
          refine x_start (b := false) ?_
          refine x_mvo h711 fun v722 ov722 hv722 hwv722 => ?_
          refine x_mvo hv722 fun v723 ov723 hv723 hwv723 => ?_
          refine x_mv' (show _ = (V.int .i64 0) from rfl) ?_
          refine x_done ?_
          refine x_tN ?_
          refine x_retc ?_
          obtain rfl := Option.some.inj hD
          exact hR _ (ends_tup (rvs_cons (rv_t hv723) (rvs_cons (rv_t (nf_of rfl (show _ = (V.int .i64 0) from rfl))) rvs_nil)) (by decide))
        · rw [if_neg hp721] at hD
          refine x_ct (show _ = (V.bool (!r719)) from rfl) (bnot_f (Bool.eq_false_iff.2 hp721)) ?_
          refine x_seq ?_
          refine x_start (b := false) ?_
          refine x_mv' (y := V.sl true 34 []) rfl ?_
          refine x_mv' (show _ = (V.int .i64 4) from rfl) ?_
          refine x_done ?_
          refine x_tN ?_
          refine x_retc ?_
          refine x_tR ?_
          obtain rfl := Option.some.inj hD
          exact hR _ (ends_tup (rvs_cons (rv_t (show V.nf _ = (V.sl false 34 (List.map E.Entry [])) from rfl)) (rvs_cons (rv_t (nf_of rfl (show _ = (V.int .i64 4) from rfl))) rvs_nil)) (by decide))
      · refine x_bR ?_; refine x_tR ?_; exact hR _ hE
      · exact hv14
      · exact (show V.nf _ = (V.sl false 34 (List.map E.Entry [])) from rfl)
      · exact (Or.inr ⟨34, rfl⟩)
    · rw [if_neg hp24] at hD
      refine x_ct (show _ = (V.bool (!(decide ((Int.tmod ((r9.1.length : Nat) : Int) 3) = 0)))) from rfl) (bnot_f (decide_eq_false hp24)) ?_
      refine x_seq ?_
      refine x_start (b := false) ?_
      refine x_mv' (y := V.sl true 34 []) rfl ?_
      refine x_mv' (show _ = (V.int .i64 4) from rfl) ?_
      refine x_done ?_
      refine x_tN ?_
      refine x_retc ?_
      refine x_tR ?_
      obtain rfl := Option.some.inj hD
      exact hR _ (ends_tup (rvs_cons (rv_t (show V.nf _ = (V.sl false 34 (List.map E.Entry [])) from rfl)) (rvs_cons (rv_t (nf_of rfl (show _ = (V.int .i64 4) from rfl))) rvs_nil)) (by decide))
  · rw [if_neg hp22] at hD
    refine x_gn (show _ = (V.bool (!(decide (r9.2 = 0)))) from rfl) (bnot_f (decide_eq_false hp22)) ?_
    refine x_gn (show _ = (V.bool (!(decide (r9.2 = 0)))) from rfl) (bnot_f (decide_eq_false hp22)) ?_
    refine x_gn (show _ = (V.bool (!(decide (r9.2 = 0)))) from rfl) (bnot_f (decide_eq_false hp22)) ?_
    refine x_gn (show _ = (V.bool (!(decide (r9.2 = 0)))) from rfl) (bnot_f (decide_eq_false hp22)) ?_
    refine x_pickt' (show _ = (V.bool (!(decide (r9.2 = 0)))) from rfl) (bnot_f (decide_eq_false hp22)) (show _ = (V.bool true) from rfl) ?_
    refine x_done ?_
    refine x_tN ?_
    refine x_ct (show _ = (V.bool true) from rfl) rfl ?_
    refine x_seq ?_
    refine x_start (b := false) ?_
    refine x_mv' (y := V.sl true 34 []) rfl ?_
    refine x_mv' (show _ = (V.int .i64 4) from rfl) ?_
    refine x_done ?_
    refine x_tN ?_
    refine x_retc ?_
    refine x_tR ?_
    obtain rfl := Option.some.inj hD
    exact hR _ (ends_tup (rvs_cons (rv_t (show V.nf _ = (V.sl false 34 (List.map E.Entry [])) from rfl)) (rvs_cons (rv_t (nf_of rfl (show _ = (V.int .i64 4) from rfl))) rvs_nil)) (by decide))
def K.object_GetTree : FC := fc F.object_GetTree (fun _ => true) false (fun (a : Bytes) => [(V.str a)]) (fun (y : ((List T.Entry) × Int)) => (V.tup [(V.sl false 34 (List.map E.Entry y.1)), (V.int .i64 y.2)])) (fun a => g.object_GetTree a)
  (fun a => (cleanL_mk rfl rfl))
  (fun y => (cleanL_mk (E.LEntry_clean _) (cleanL_mk rfl rfl)))
  (fun a0 b0 h => by
    obtain ⟨h0, h⟩ := List.cons.inj h
    obtain rfl : a0 = b0 := V.str.inj h0
    rfl)
theorem H.object_GetTree (w : World) (hw : EnvOK w) : K.object_GetTree.Holds (cxD w) :=
  FC.holds_of (cs := [K.code_Split, K.object_id, K.object_GoodTree]) (glD w) mixed cf_object_GetTree (fun _ _ ⟨_, _, h, _⟩ => by subst h; exact Nat.le_of_ble_eq_true rfl) fun v y ⟨a, r, hv, hD, hy⟩ => by
    subst hy
    exact ok.object_GetTree (specOf_calls (H.code_Split w hw) (fun _ _ ⟨_, _, h, _⟩ => by subst h; rfl)) (specOf_calls (H.object_id w hw) (fun _ _ ⟨_, _, h, _⟩ => by subst h; rfl)) (specOf_calls (H.object_GoodTree w hw) (fun _ _ ⟨_, _, h, _⟩ => by subst h; rfl)) hv hD
def c_seicheref07_digest_l1 : ACode := (.seq (.region [
  ⟨(some 6), (.bin .lss .no (.tmp 5) (.const (.int .i64 32))), none, []⟩] false) (.seq (.cond (.tmp 6) .skip (.exit 0)) (.seq (.block 1 (.seq (.region [
  ⟨(some 7), (.mv (.tmp 5)), none, []⟩, 
  ⟨(some 4), (.mv (.tmp 7)), none, []⟩] false) (.region [
  ⟨(some 8), (.mv (.tmp 4)), none, []⟩, 
  ⟨(some 9), (.mv (.tmp 0)), none, []⟩, 
  ⟨(some 10), (.mv (.tmp 4)), none, []⟩, 
  ⟨(some 11), (.idx (.tmp 9) (.tmp 10)), none, []⟩, 
  ⟨(some 12), (.iarr 32 1 (.tmp 3) (.tmp 8)), none, []⟩, 
  ⟨none, (.store 1 (.tmp 12) (.tmp 11)), none, []⟩] false))) (.region [
  ⟨(some 13), (.bin .add .no (.tmp 5) (.const (.int .i64 1))), none, []⟩, 
  ⟨(some 5), (.mv (.tmp 13)), none, []⟩] false))))
def c_seicheref07_digest : ACode := (.seq (.region [
  ⟨(some 2), (.new (repl 32 (.int .u8 0))), none, []⟩] false) (.seq (.region [
  ⟨(some 3), (.new (repl 32 (.int .u8 0))), none, []⟩] false) (.seq (.seq (.region [
  ⟨(some 5), (.mv (.const (.int .i64 0))), none, []⟩] false) (.block 0 (.loop c_seicheref07_digest_l1))) (.seq (.region [
  ⟨(some 14), (.load (some 32) (.tmp 3)), none, []⟩, 
  ⟨none, (.store 32 (.tmp 2) (.tmp 14)), none, []⟩] false) .ret))))
theorem cf_seicheref07_digest : cFn Go.Proofs.Tryd.prog F.seicheref07_digest = some ⟨15, c_seicheref07_digest, [.c 2 (some 32)]⟩ := by kernel_rfl
def L.seicheref07_digest_l1 (t0_28 : Bytes) (k0 : (Arr 32) → (Arr 32) → Option (Arr 32)) : Nat → (Arr 32) → (Arr 32) → Int → Option (Arr 32)
  | 0, _, _, _ => none
  | n + 1, x45, x47, t5_53 =>
    if t5_53 < 32 then
      (at? t0_28 t5_53).bind fun b62 =>
      (inR 32 t5_53).bind fun u64 =>
      L.seicheref07_digest_l1 t0_28 k0 n x45 (Arr.set x47 t5_53 b62) (wi (t5_53 + 1))
    else
      k0 x45 x47
theorem ok.seicheref07_digest_l1 {Γ : Abs.Spec} {gl : Glob} {Q : Ex → St → Prop} {r : (Arr 32)} {t0_28 : Bytes} {k0 : (Arr 32) → (Arr 32) → Option (Arr 32)}
    (hk0 : ∀ (s : St) (i74 : Nat) (i76 : Nat) (x73 : (Arr 32)) (x75 : (Arr 32)), (i74 < s.nH) → (Cells s i74 (encB (x73).1)) → (i76 < s.nH) → (Cells s i76 (encB (x75).1)) → (i74 ≠ i76) → (s.tm 2 = (V.ptr i74 0)) → (s.tm 3 = (V.ptr i76 0)) → k0 x73 x75 = some r → Q (.exit 0) s)
    (hR : ∀ s, EndsX [.c 2 (some 32)] false (V.agg (encB (r).1)) s → Q .ret s) : ∀ (n : Nat) (s : St) (i46 : Nat) (i48 : Nat) (x45 : (Arr 32)) (x47 : (Arr 32)) (t5_53 : Int),
    (i46 < s.nH) → (Cells s i46 (encB (x45).1)) → (i48 < s.nH) → (Cells s i48 (encB (x47).1)) → (i46 ≠ i48) → (s.tm 0 = (V.str t0_28)) → (s.tm 2 = (V.ptr i46 0)) → (s.tm 3 = (V.ptr i48 0)) → (s.tm 5 = (V.int .i64 t5_53)) → L.seicheref07_digest_l1 t0_28 k0 n x45 x47 t5_53 = some r → awp Γ gl (.loop c_seicheref07_digest_l1) Q s := by
  intro n
  induction n with
  | zero => intro s i46 i48 x45 x47 t5_53 hli46 hci46 hli48 hci48 hnei46i48 h49 h50 h51 h52 hD; rw [L.seicheref07_digest_l1] at hD; cases hD
  | succ n ih =>
    intro s i46 i48 x45 x47 t5_53 hli46 hci46 hli48 hci48 hnei46i48 h49 h50 h51 h52 hD
    refine awp_roundK fun K hK => ?_
    rw [L.seicheref07_digest_l1] at hD
    refine x_seq ?_
    refine x_start (b := false) ?_
    refine x_bin h52 (show _ = (V.int .i64 32) from rfl) b_lss ?_
    refine x_done ?_
    refine x_tN ?_
    refine x_seq ?_
    by_cases hp61 : t5_53 < 32
    · rw [if_pos hp61] at hD
      refine x_ct (show _ = (V.bool (decide (t5_53 < 32))) from rfl) (decide_eq_true hp61) ?_
      refine x_skip ?_
      refine x_tN ?_
      refine x_seq ?_
      refine x_block ?_
      refine x_seq ?_
      refine x_start (b := false) ?_
      refine x_mv' h52 ?_
      refine x_mv' (show _ = (V.int .i64 t5_53) from rfl) ?_
      refine x_done ?_
      refine x_tN ?_
      refine x_start (b := false) ?_
      refine x_mv' (show _ = (V.int .i64 t5_53) from rfl) ?_
      refine x_mv' h49 ?_
      refine x_mv' (show _ = (V.int .i64 t5_53) from rfl) ?_
      obtain ⟨b62, hx63, hD⟩ := Option.bind_eq_some_iff.1 hD
      refine x_idx (show _ = (V.str t0_28) from rfl) (show _ = (V.int .i64 t5_53) from rfl) hx63 ?_
      obtain ⟨u64, hx65, hD⟩ := Option.bind_eq_some_iff.1 hD
      refine x_iarr h51 (show _ = (V.int .i64 t5_53) from rfl) (inR_ok hx65) ?_
      refine x_store (ws := [(V.int .u8 ((b62 : UInt8).toNat : Int))]) (l' := encB ((Arr.set x47 t5_53 b62)).1) (show _ = (V.ptr i48 (0 + (t5_53).toNat * 1)) from rfl) hci48 (cells_of rfl (nf_of rfl (show _ = (V.int .u8 ((b62 : UInt8).toNat : Int)) from rfl))) (set_ok (inR_ok hx65)) (set_arr (inR_ok hx65)) fun csv66 ysv66 hcsv66 hnv66 hcv66 _ => ?_
      refine x_done ?_
      refine x_bN ?_
      refine x_tN ?_
      refine x_start (b := false) ?_
      refine x_bin h52 (show _ = (V.int .i64 1) from rfl) b_add ?_
      refine x_mv' (show _ = (V.int .i64 (wi (t5_53 + 1))) from rfl) ?_
      refine x_done ?_
      refine x_tN ?_
      refine hK _ ?_
      refine ih _ i46 i48 _ _ _ ?_ ?_ ?_ ?_ ?_ ?_ ?_ ?_ ?_ hD
      · exact hli46
      · exact (cells_setOb hnei46i48 hci46)
      · exact hli48
      · exact hcv66
      · exact hnei46i48
      · exact h49
      · exact h50
      · exact h51
      · exact (show _ = (V.int .i64 (wi (t5_53 + 1))) from rfl)
    · rw [if_neg hp61] at hD
      refine x_cf (show _ = (V.bool (decide (t5_53 < 32))) from rfl) (decide_eq_false hp61) ?_
      refine x_exitc ?_
      refine x_tE ?_
      refine x_tE ?_
      refine hk0 _ i46 i48 _ _ ?_ ?_ ?_ ?_ ?_ ?_ ?_ hD
      · exact hli46
      · exact hci46
      · exact hli48
      · exact hci48
      · exact hnei46i48
      · exact h50
      · exact h51
def g.seicheref07_digest (p0 : Bytes) : Option (Arr 32) :=
  L.seicheref07_digest_l1 p0 (fun (x79 : (Arr 32)) (x81 : (Arr 32)) => some x81) fuel (Arr.zero 32) (Arr.zero 32) 0
theorem ok.seicheref07_digest {Γ : Abs.Spec} {gl : Glob} {r : (Arr 32)} {p0 : Bytes} {v : List V}
    (hv : nfL v = [(V.str p0)]) (hD : g.seicheref07_digest p0 = some r) : awp Γ gl c_seicheref07_digest (endQ [.c 2 (some 32)] false (V.agg (encB (r).1))) (St.init v) := by
  obtain ⟨v0, v, rfl, h0, hv⟩ := nfL_cons hv
  obtain rfl := nfL_nil hv
  have hR : ∀ s, EndsX [.c 2 (some 32)] false (V.agg (encB (r).1)) s → endQ [.c 2 (some 32)] false (V.agg (encB (r).1)) .ret s := fun _ h => h
  unfold g.seicheref07_digest at hD
  unfold c_seicheref07_digest
  refine x_seq ?_
  refine x_start (b := false) ?_
  refine x_new (l := (encB ((Arr.zero 32)).1)) (nf_zero _) fun i2 hidi2 hci2 => ?_
  refine x_done ?_
  refine x_tN ?_
  refine x_seq ?_
  refine x_start (b := false) ?_
  refine x_new (l := (encB ((Arr.zero 32)).1)) (nf_zero _) fun i4 hidi4 hci4 => ?_
  refine x_done ?_
  refine x_tN ?_
  refine x_seq ?_
  refine x_seq ?_
  refine x_start (b := false) ?_
  refine x_mv' (show _ = (V.int .i64 0) from rfl) ?_
  refine x_done ?_
  refine x_tN ?_
  refine x_block ?_
  refine ok.seicheref07_digest_l1 (t0_28 := p0) (fun s87 i80 i82 x79 x81 hli80 hci80 hli82 hci82 hnei80i82 h83 h84 hD => ?_) (fun _ hE => ?_) _ _ i2 i4 _ _ _ ?_ ?_ ?_ ?_ ?_ ?_ ?_ ?_ ?_ hD
  · refine x_bE ?_
    refine x_tN ?_
    refine x_seq ?_
    refine x_start (b := false) ?_
    refine x_load h84 hci82 (ld_arr x81) fun v85 hv85 => ?_
    refine x_store (ws := (encB (x81).1)) (l' := (encB (x81).1)) h83 hci80 (cells_of rfl hv85) ⟨(enc_len x81), (encB_sc x81.1), le_len (enc_len x79) (by decide)⟩ (setAt_full (Eq.trans (enc_len x81) (Eq.symm (enc_len x79)))) fun csv86 ysv86 hcsv86 hnv86 hcv86 hsv86 => ?_
    refine x_done ?_
    refine x_tN ?_
    refine x_retc ?_
    obtain rfl := Option.some.inj hD
    exact hR _ (ends_one (rv_c h83 hcv86 (ld_arr x81)))
  · refine x_bR ?_; refine x_tR ?_; exact hR _ hE
  · exact (Nat.lt_succ_of_lt (Nat.lt_succ_of_le (Nat.le_of_eq hidi2)))
  · exact (cells_new (Nat.lt_succ_of_le (Nat.le_of_eq hidi2)) hci2)
  · exact (Nat.lt_succ_of_le (Nat.le_of_eq hidi4))
  · exact hci4
  · exact (Nat.ne_of_lt (Nat.lt_of_lt_of_eq (Nat.lt_succ_of_le (Nat.le_of_eq hidi2)) hidi4.symm))
  · exact (nf_str h0)
  · exact (show _ = (V.ptr i2 0) from rfl)
  · exact (show _ = (V.ptr i4 0) from rfl)
  · exact (show _ = (V.int .i64 0) from rfl)
def K.seicheref07_digest : FC := fc F.seicheref07_digest (fun _ => true) false (fun (a : Bytes) => [(V.str a)]) (fun (y : (Arr 32)) => (V.agg (encB (y).1))) (fun a => g.seicheref07_digest a)
  (fun a => (cleanL_mk rfl rfl))
  (fun y => (E.A32_u8_clean _))
  (fun a0 b0 h => by
    obtain ⟨h0, h⟩ := List.cons.inj h
    obtain rfl : a0 = b0 := V.str.inj h0
    rfl)
theorem H.seicheref07_digest (w : World) (_hw : EnvOK w) : K.seicheref07_digest.Holds (cxD w) :=
  FC.holds_of (cs := []) (glD w) mixed cf_seicheref07_digest (fun _ _ ⟨_, _, h, _⟩ => by subst h; exact Nat.le_of_ble_eq_true rfl) fun v y ⟨a, r, hv, hD, hy⟩ => by
    subst hy
    exact ok.seicheref07_digest hv hD
def c_seicheref07_GoodTree_l1 : ACode := (.seq (.region [
  ⟨(some 8), (.bin .lss .no (.tmp 7) (.tmp 6)), none, []⟩] false) (.seq (.cond (.tmp 8) .skip (.exit 0)) (.seq (.block 1 (.seq (.region [
  ⟨(some 9), (.mv (.tmp 7)), none, []⟩, 
  ⟨(some 10), (.iaddr 34 (.tmp 5) (.tmp 7)), none, []⟩, 
  ⟨(some 11), (.load (some 34) (.tmp 10)), none, []⟩, 
  ⟨(some 4), (.new ((.str []) :: (.bool false) :: repl 32 (.int .u8 0))), none, []⟩, 
  ⟨(some 3), (.mv (.tmp 9)), none, []⟩, 
  ⟨none, (.store 34 (.tmp 4) (.tmp 11)), none, []⟩] false) (.seq (.seq (.region [
  ⟨(some 12), (.faddr 0 (.tmp 4)), none, []⟩, 
  ⟨(some 13), (.load none (.tmp 12)), none, []⟩, 
  ⟨(some 14), (.call F.seicheref06_Good [(.tmp 13)]), none, []⟩, 
  ⟨(some 15), (.un .not (.tmp 14)), none, []⟩, 
  ⟨(some 16), (.mv (.tmp 15)), none, []⟩, 
  ⟨(some 17), (.faddr 0 (.tmp 4)), (some (16, false)), []⟩, 
  ⟨(some 18), (.load none (.tmp 17)), (some (16, false)), []⟩, 
  ⟨(some 19), (.call F.seicheref06_Parts [(.tmp 18)]), (some (16, false)), []⟩, 
  ⟨(some 20), (.len false (.tmp 19)), (some (16, false)), []⟩, 
  ⟨(some 21), (.bin .neq .no (.tmp 20) (.const (.int .i64 1))), (some (16, false)), []⟩, 
  ⟨(some 22), (.pick (.tmp 16) (.const (.bool true)) (.tmp 21)), none, []⟩] false) (.cond (.tmp 22) (.seq (.region [
  ⟨(some 2), (.mv (.const (.bool false))), none, []⟩] false) .ret) .skip)) (.seq (.region [
  ⟨(some 23), (.mv (.tmp 3)), none, []⟩, 
  ⟨(some 24), (.bin .gtr .no (.tmp 23) (.const (.int .i64 0))), none, []⟩, 
  ⟨(some 25), (.mv (.tmp 24)), none, []⟩, 
  ⟨(some 26), (.mv (.tmp 0)), (some (25, true)), []⟩, 
  ⟨(some 27), (.mv (.tmp 3)), (some (25, true)), []⟩, 
  ⟨(some 28), (.bin .sub .no (.tmp 27) (.const (.int .i64 1))), (some (25, true)), []⟩, 
  ⟨(some 29), (.iaddr 34 (.tmp 26) (.tmp 28)), (some (25, true)), []⟩, 
  ⟨(some 30), (.faddr 0 (.tmp 29)), (some (25, true)), []⟩, 
  ⟨(some 31), (.load none (.tmp 30)), (some (25, true)), []⟩, 
  ⟨(some 32), (.faddr 0 (.tmp 4)), (some (25, true)), []⟩, 
  ⟨(some 33), (.load none (.tmp 32)), (some (25, true)), []⟩, 
  ⟨(some 34), (.bin .geq .no (.tmp 31) (.tmp 33)), (some (25, true)), []⟩, 
  ⟨(some 35), (.pick (.tmp 25) (.tmp 34) (.const (.bool false))), none, []⟩] true) (.cond (.tmp 35) (.seq (.region [
  ⟨(some 2), (.mv (.const (.bool false))), none, []⟩] false) .ret) .skip))))) (.region [
  ⟨(some 36), (.bin .add .no (.tmp 7) (.const (.int .i64 1))), none, []⟩, 
  ⟨(some 7), (.mv (.tmp 36)), none, []⟩] false))))
def c_seicheref07_GoodTree : ACode := (.seq (.region [
  ⟨(some 2), (.mv (.const (.bool false))), none, []⟩] false) (.seq (.seq (.region [
  ⟨(some 5), (.mv (.tmp 0)), none, []⟩, 
  ⟨(some 6), (.len false (.tmp 5)), none, []⟩, 
  ⟨(some 7), (.mv (.const (.int .i64 0))), none, []⟩] false) (.block 0 (.loop c_seicheref07_GoodTree_l1))) (.seq (.region [
  ⟨(some 37), (.mv (.tmp 0)), none, []⟩, 
  ⟨(some 38), (.len false (.tmp 37)), none, []⟩, 
  ⟨(some 39), (.bin .leq .no (.tmp 38) (.const (.int .i64 512))), none, []⟩, 
  ⟨(some 2), (.mv (.tmp 39)), none, []⟩] false) .ret)))
theorem cf_seicheref07_GoodTree : cFn Go.Proofs.Tryd.prog F.seicheref07_GoodTree = some ⟨40, c_seicheref07_GoodTree, [.t 2]⟩ := by kernel_rfl
def L.seicheref07_GoodTree_l1 (l75 : List T.Entry) (k0 : Option Bool) : List T.Entry → Nat → Option Bool
  | [], k76 =>
    k0
  | a146 :: rest, k76 =>
    (g.seicheref06_Good a146.Name).bind fun r185 =>
    if r185 = true then
      (g.seicheref06_Parts a146.Name).bind fun r190 =>
      if ((r190.length : Nat) : Int) = 1 then
        if 0 < ((k76 : Nat) : Int) then
          (at? l75 (wi (((k76 : Nat) : Int) - 1))).bind fun a203 =>
          if (Op.bytesLess a203.Name a146.Name) = true then
            L.seicheref07_GoodTree_l1 l75 k0 rest (k76 + 1)
          else
            some false
        else
          L.seicheref07_GoodTree_l1 l75 k0 rest (k76 + 1)
      else
        some false
    else
      some false
theorem ok.seicheref07_GoodTree_l1 {Γ : Abs.Spec} {gl : Glob} (hC_seicheref06_Good : CallsX Γ K.seicheref06_Good) (hC_seicheref06_Parts : CallsX Γ K.seicheref06_Parts) {Q : Ex → St → Prop} {r : Bool} {l75 : List T.Entry} {k0 : Option Bool}
    (hk0 : ∀ (s : St), ((s.tm 0).nf = (V.sl false 34 (List.map E.Entry l75))) → k0 = some r → Q (.exit 0) s)
    (hR : ∀ s, EndsX [.t 2] false (V.bool r) s → Q .ret s)
    (hlen : l75.length ≤ Lim) : ∀ (rest : List T.Entry) (k76 : Nat) (s : St), l75.drop k76 = rest → k76 ≤ l75.length →
    ((s.tm 5).nf = V.sl false 34 (List.map E.Entry l75)) → (s.tm 6 = V.int .i64 ((l75.length : Nat) : Int)) → (s.tm 7 = V.int .i64 ((k76 : Nat) : Int)) → ((s.tm 0).nf = (V.sl false 34 (List.map E.Entry l75))) →
    L.seicheref07_GoodTree_l1 l75 k0 rest k76 = some r → awp Γ gl (.loop c_seicheref07_GoodTree_l1) Q s := by
  intro rest
  induction rest with
  | nil =>
    intro k76 s hdrop hkl hX hN hI h144 hD
    have hkz := drop_nil hdrop hkl
    have hp0 : ¬ (((k76 : Nat) : Int) < ((l75.length : Nat) : Int)) := by omega
    refine awp_roundK fun K hK => ?_
    rw [L.seicheref07_GoodTree_l1] at hD
    refine x_seq ?_
    refine x_start (b := false) ?_
    refine x_bin hI hN b_lss ?_
    refine x_done ?_
    refine x_tN ?_
    refine x_seq ?_
    refine x_cf (show _ = (V.bool (decide (((k76 : Nat) : Int) < ((l75.length : Nat) : Int)))) from rfl) (decide_eq_false hp0) ?_
    refine x_exitc ?_
    refine x_tE ?_
    refine x_tE ?_
    refine hk0 _ ?_ hD
    · exact h144
  | cons a146 rest ih =>
    intro k76 s hdrop hkl hX hN hI h144 hD
    obtain ⟨hlt, -, hget, hdrop1, -⟩ := drop_cons hdrop
    have hp1 : ((k76 : Nat) : Int) < ((l75.length : Nat) : Int) := by omega
    have hwk := wi_succ (k := k76) (by unfold Lim at hlen; omega)
    refine awp_roundK fun K hK => ?_
    rw [L.seicheref07_GoodTree_l1] at hD
    refine x_seq ?_
    refine x_start (b := false) ?_
    refine x_bin hI hN b_lss ?_
    refine x_done ?_
    refine x_tN ?_
    refine x_seq ?_
    refine x_ct (show _ = (V.bool (decide (((k76 : Nat) : Int) < ((l75.length : Nat) : Int)))) from rfl) (decide_eq_true hp1) ?_
    refine x_skip ?_
    refine x_tN ?_
    refine x_seq ?_
    refine x_block ?_
    refine x_seq ?_
    refine x_start (b := false) ?_
    refine x_mv' hI ?_
    refine x_iaddr hX hI (at_k hget) fun v151 (hv151 : v151.nf = V.el (C.Entry a146) 0) => ?_
    refine x_load_el hv151 (ld_Entry_0_34 a146) fun v152 hv152 => ?_
    refine x_new (l := (C.Entry ({ Name := [], Tree := false, Id := (Arr.zero 32) } : T.Entry))) (by kernel_rfl) fun i153 hidi153 hci153 => ?_
    refine x_mv' (show _ = (V.int .i64 ((k76 : Nat) : Int)) from rfl) ?_
    refine x_store (ws := (C.Entry a146)) (l' := (C.Entry a146)) (show _ = (V.ptr i153 0) from rfl) hci153 (cells_of rfl hv152) ⟨(C.Entry_len a146), (C.Entry_sc a146), le_len (C.Entry_len ({ Name := [], Tree := false, Id := (Arr.zero 32) } : T.Entry)) (by decide)⟩ (setAt_full (Eq.trans (C.Entry_len a146) (Eq.symm (C.Entry_len ({ Name := [], Tree := false, Id := (Arr.zero 32) } : T.Entry))))) fun csv154 ysv154 hcsv154 hnv154 hcv154 hsv154 => ?_
    refine x_done ?_
    refine x_tN ?_
    refine x_seq ?_
    refine x_seq ?_
    refine x_start (b := false) ?_
    refine x_faddr (show _ = (V.ptr i153 0) from rfl) ?_
    refine x_load (show _ = (V.ptr i153 0) from rfl) hcv154 (ld_Entry_0_n a146) fun v183 hv183 => ?_
    obtain ⟨r185, hx186, hD⟩ := Option.bind_eq_some_iff.1 hD
    refine x_callF hC_seicheref06_Good (a := (a146.Name)) (cons_eq (nf_of rfl (nf_str hv183)) rfl) hx186 fun v184 ov184 (hv184 : v184.nf = (V.bool r185)) hov184 => ?_
    refine x_un (nf_bool hv184) (aun_not _) ?_
    refine x_mv' (show _ = (V.bool (!r185)) from rfl) ?_
    by_cases hp187 : r185 = true
    · rw [if_pos hp187] at hD
      refine x_gy (show _ = (V.bool (!r185)) from rfl) (bnot_t hp187) ?_
      refine x_faddr (show _ = (V.ptr i153 0) from rfl) ?_
      refine x_gy (show _ = (V.bool (!r185)) from rfl) (bnot_t hp187) ?_
      refine x_load (show _ = (V.ptr i153 0) from rfl) hcv154 (ld_Entry_0_n a146) fun v188 hv188 => ?_
      refine x_gy (show _ = (V.bool (!r185)) from rfl) (bnot_t hp187) ?_
      obtain ⟨r190, hx191, hD⟩ := Option.bind_eq_some_iff.1 hD
      refine x_callF hC_seicheref06_Parts (a := (a146.Name)) (cons_eq (nf_of rfl (nf_str hv188)) rfl) hx191 fun v189 ov189 (hv189 : v189.nf = (V.sl false 1 (List.map V.str r190))) hov189 => ?_
      refine x_gy (show _ = (V.bool (!r185)) from rfl) (bnot_t hp187) ?_
      refine x_len hv189 ?_
      refine x_gy (show _ = (V.bool (!r185)) from rfl) (bnot_t hp187) ?_
      refine x_bin (show _ = (V.int .i64 ((r190.length : Nat) : Int)) from rfl) (show _ = (V.int .i64 1) from rfl) b_neq ?_
      refine x_pickf' (show _ = (V.bool (!r185)) from rfl) (bnot_t hp187) (show _ = (V.bool (!(decide (((r190.length : Nat) : Int) = 1)))) from rfl) ?_
      refine x_done ?_
      refine x_tN ?_
      by_cases hp192 : ((r190.length : Nat) : Int) = 1
      · rw [if_pos hp192] at hD
        refine x_cf (show _ = (V.bool (!(decide (((r190.length : Nat) : Int) = 1)))) from rfl) (bnot_t (decide_eq_true hp192)) ?_
        refine x_skip ?_
        refine x_tN ?_
        refine x_seq ?_
        refine x_start (b := true) ?_
        refine x_mv' (show _ = (V.int .i64 ((k76 : Nat) : Int)) from rfl) ?_
        refine x_bin (show _ = (V.int .i64 ((k76 : Nat) : Int)) from rfl) (show _ = (V.int .i64 0) from rfl) b_gtr ?_
        refine x_mv' (show _ = (V.bool (decide (0 < ((k76 : Nat) : Int)))) from rfl) ?_
        by_cases hp201 : 0 < ((k76 : Nat) : Int)
        · rw [if_pos hp201] at hD
          refine x_gy (show _ = (V.bool (decide (0 < ((k76 : Nat) : Int)))) from rfl) (decide_eq_true hp201) ?_
          refine x_mv h144 fun v202 hv202 => ?_
          refine x_gy (show _ = (V.bool (decide (0 < ((k76 : Nat) : Int)))) from rfl) (decide_eq_true hp201) ?_
          refine x_mv' (show _ = (V.int .i64 ((k76 : Nat) : Int)) from rfl) ?_
          refine x_gy (show _ = (V.bool (decide (0 < ((k76 : Nat) : Int)))) from rfl) (decide_eq_true hp201) ?_
          refine x_bin (show _ = (V.int .i64 ((k76 : Nat) : Int)) from rfl) (show _ = (V.int .i64 1) from rfl) b_sub ?_
          refine x_gy (show _ = (V.bool (decide (0 < ((k76 : Nat) : Int)))) from rfl) (decide_eq_true hp201) ?_
          obtain ⟨a203, hx204, hD⟩ := Option.bind_eq_some_iff.1 hD
          refine x_iaddr hv202 (show _ = (V.int .i64 (wi (((k76 : Nat) : Int) - 1))) from rfl) hx204 fun v205 (hv205 : v205.nf = V.el (C.Entry a203) 0) => ?_
          refine x_gy (show _ = (V.bool (decide (0 < ((k76 : Nat) : Int)))) from rfl) (decide_eq_true hp201) ?_
          refine x_faddr_el hv205 fun v206 (hv206 : v206.nf = V.el (C.Entry a203) 0) => ?_
          refine x_gy (show _ = (V.bool (decide (0 < ((k76 : Nat) : Int)))) from rfl) (decide_eq_true hp201) ?_
          refine x_load_el hv206 (ld_Entry_0_n a203) fun v207 hv207 => ?_
          refine x_gy (show _ = (V.bool (decide (0 < ((k76 : Nat) : Int)))) from rfl) (decide_eq_true hp201) ?_
          refine x_faddr (show _ = (V.ptr i153 0) from rfl) ?_
          refine x_gy (show _ = (V.bool (decide (0 < ((k76 : Nat) : Int)))) from rfl) (decide_eq_true hp201) ?_
          refine x_load (show _ = (V.ptr i153 0) from rfl) hcv154 (ld_Entry_0_n a146) fun v208 hv208 => ?_
          refine x_gy (show _ = (V.bool (decide (0 < ((k76 : Nat) : Int)))) from rfl) (decide_eq_true hp201) ?_
          refine x_bin (nf_str hv207) (nf_str hv208) s_geq ?_
          refine x_pickt' (show _ = (V.bool (decide (0 < ((k76 : Nat) : Int)))) from rfl) (decide_eq_true hp201) (show _ = (V.bool (!(Op.bytesLess a203.Name a146.Name))) from rfl) ?_
          refine x_done ?_
          refine x_tN ?_
          by_cases hp209 : (Op.bytesLess a203.Name a146.Name) = true
          · rw [if_pos hp209] at hD
            refine x_cf (show _ = (V.bool (!(Op.bytesLess a203.Name a146.Name))) from rfl) (bnot_t hp209) ?_
            refine x_skip ?_
            refine x_bN ?_
            refine x_tN ?_
            refine x_start (b := false) ?_
            refine x_bin hI (show _ = (V.int .i64 1) from rfl) b_add ?_
            refine x_mv' (show _ = (V.int .i64 (wi (((k76 : Nat) : Int) + 1))) from rfl) ?_
            refine x_done ?_
            refine x_tN ?_
            refine hK _ ?_
            refine ih (k76 + 1) _ hdrop1 hlt ?_ ?_ ?_ ?_ hD
            · exact hX
            · exact hN
            · exact (Eq.trans (show _ = (V.int .i64 (wi (((k76 : Nat) : Int) + 1))) from rfl) (congrArg (V.int .i64) hwk))
            · exact h144
          · rw [if_neg hp209] at hD
            refine x_ct (show _ = (V.bool (!(Op.bytesLess a203.Name a146.Name))) from rfl) (bnot_f (Bool.eq_false_iff.2 hp209)) ?_
            refine x_seq ?_
            refine x_start (b := false) ?_
            refine x_mv' (show _ = (V.bool false) from rfl) ?_
            refine x_done ?_
            refine x_tN ?_
            refine x_retc ?_
            refine x_bR ?_
            refine x_tR ?_
            refine x_tR ?_
            obtain rfl := Option.some.inj hD
            exact hR _ (ends_t (nf_of rfl (show _ = (V.bool false) from rfl)) (fun h => nomatch h))
        · rw [if_neg hp201] at hD
          refine x_gn (show _ = (V.bool (decide (0 < ((k76 : Nat) : Int)))) from rfl) (decide_eq_false hp201) ?_
          refine x_gn (show _ = (V.bool (decide (0 < ((k76 : Nat) : Int)))) from rfl) (decide_eq_false hp201) ?_
          refine x_gn (show _ = (V.bool (decide (0 < ((k76 : Nat) : Int)))) from rfl) (decide_eq_false hp201) ?_
          refine x_gn (show _ = (V.bool (decide (0 < ((k76 : Nat) : Int)))) from rfl) (decide_eq_false hp201) ?_
          refine x_gn (show _ = (V.bool (decide (0 < ((k76 : Nat) : Int)))) from rfl) (decide_eq_false hp201) ?_
          refine x_gn (show _ = (V.bool (decide (0 < ((k76 : Nat) : Int)))) from rfl) (decide_eq_false hp201) ?_
          refine x_gn (show _ = (V.bool (decide (0 < ((k76 : Nat) : Int)))) from rfl) (decide_eq_false hp201) ?_
          refine x_gn (show _ = (V.bool (decide (0 < ((k76 : Nat) : Int)))) from rfl) (decide_eq_false hp201) ?_
          refine x_gn (show _ = (V.bool (decide (0 < ((k76 : Nat) : Int)))) from rfl) (decide_eq_false hp201) ?_
          refine x_pickf' (show _ = (V.bool (decide (0 < ((k76 : Nat) : Int)))) from rfl) (decide_eq_false hp201) (show _ = (V.bool false) from rfl) ?_
          refine x_done ?_
          refine x_tN ?_
          refine x_cf (show _ = (V.bool false) from rfl) rfl ?_
          refine x_skip ?_
          refine x_bN ?_
          refine x_tN ?_
          refine x_start (b := false) ?_
          refine x_bin hI (show _ = (V.int .i64 1) from rfl) b_add ?_
          refine x_mv' (show _ = (V.int .i64 (wi (((k76 : Nat) : Int) + 1))) from rfl) ?_
          refine x_done ?_
          refine x_tN ?_
          refine hK _ ?_
          refine ih (k76 + 1) _ hdrop1 hlt ?_ ?_ ?_ ?_ hD
          · exact hX
          · exact hN
          · exact (Eq.trans (show _ = (V.int .i64 (wi (((k76 : Nat) : Int) + 1))) from rfl) (congrArg (V.int .i64) hwk))
          · exact h144
      · rw [if_neg hp192] at hD
        refine x_ct (show _ = (V.bool (!(decide (((r190.length : Nat) : Int) = 1)))) from rfl) (bnot_f (decide_eq_false hp192)) ?_
        refine x_seq ?_
        refine x_start (b := false) ?_
        refine x_mv' (show _ = (V.bool false) from rfl) ?_
        refine x_done ?_
        refine x_tN ?_
        refine x_retc ?_
        refine x_tR ?_
        refine x_bR ?_
        refine x_tR ?_
        refine x_tR ?_
        obtain rfl := Option.some.inj hD
        exact hR _ (ends_t (nf_of rfl (show _ = (V.bool false) from rfl)) (fun h => nomatch h))
    · rw [if_neg hp187] at hD
      refine x_gn (show _ = (V.bool (!r185)) from rfl) (bnot_f (Bool.eq_false_iff.2 hp187)) ?_
      refine x_gn (show _ = (V.bool (!r185)) from rfl) (bnot_f (Bool.eq_false_iff.2 hp187)) ?_
      refine x_gn (show _ = (V.bool (!r185)) from rfl) (bnot_f (Bool.eq_false_iff.2 hp187)) ?_
      refine x_gn (show _ = (V.bool (!r185)) from rfl) (bnot_f (Bool.eq_false_iff.2 hp187)) ?_
      refine x_gn (show _ = (V.bool (!r185)) from rfl) (bnot_f (Bool.eq_false_iff.2 hp187)) ?_
      refine x_pickt' (show _ = (V.bool (!r185)) from rfl) (bnot_f (Bool.eq_false_iff.2 hp187)) (show _ = (V.bool true) from rfl) ?_
      refine x_done ?_
      refine x_tN ?_
      refine x_ct (show _ = (V.bool true) from rfl) rfl ?_
      refine x_seq ?_
      refine x_start (b := false) ?_
      refine x_mv' (show _ = (V.bool false) from rfl) ?_
      refine x_done ?_
      refine x_tN ?_
      refine x_retc ?_
      refine x_tR ?_
      refine x_bR ?_
      refine x_tR ?_
      refine x_tR ?_
      obtain rfl := Option.some.inj hD
      exact hR _ (ends_t (nf_of rfl (show _ = (V.bool false) from rfl)) (fun h => nomatch h))
def g.seicheref07_GoodTree (p0 : (List T.Entry)) : Option Bool :=
  if p0.length ≤ Lim then L.seicheref07_GoodTree_l1 p0 (some (decide (((p0.length : Nat) : Int) ≤ 512))) p0 0 else none
theorem ok.seicheref07_GoodTree {Γ : Abs.Spec} {gl : Glob} (hC_seicheref06_Good : CallsX Γ K.seicheref06_Good) (hC_seicheref06_Parts : CallsX Γ K.seicheref06_Parts) {r : Bool} {p0 : (List T.Entry)} {v : List V}
    (hv : nfL v = [(V.sl false 34 (List.map E.Entry p0))]) (hD : g.seicheref07_GoodTree p0 = some r) : awp Γ gl c_seicheref07_GoodTree (endQ [.t 2] false (V.bool r)) (St.init v) := by
  obtain ⟨v0, v, rfl, h0, hv⟩ := nfL_cons hv
  obtain rfl := nfL_nil hv
  have hR : ∀ s, EndsX [.t 2] false (V.bool r) s → endQ [.t 2] false (V.bool r) .ret s := fun _ h => h
  unfold g.seicheref07_GoodTree at hD
  unfold c_seicheref07_GoodTree
  refine x_seq ?_
  refine x_start (b := false) ?_
  refine x_mv' (show _ = (V.bool false) from rfl) ?_
  refine x_done ?_
  refine x_tN ?_
  refine x_seq ?_
  refine x_seq ?_
  refine x_start (b := false) ?_
  refine x_mv h0 fun v74 hv74 => ?_
  refine x_len hv74 ?_
  refine x_mv' (show _ = (V.int .i64 0) from rfl) ?_
  refine x_done ?_
  refine x_tN ?_
  refine x_block ?_
  by_cases hlen215 : p0.length ≤ Lim
  · rw [if_pos hlen215] at hD
    refine ok.seicheref07_GoodTree_l1 (l75 := p0) hC_seicheref06_Good hC_seicheref06_Parts (fun s214 h212 hD => ?_) (fun _ hE => ?_) hlen215 _ 0 _ rfl (Nat.zero_le _) ?_ ?_ ?_ ?_ hD
    · refine x_bE ?_
      refine x_tN ?_
      refine x_seq ?_
      refine x_start (b := false) ?_
      refine x_mv h212 fun v213 hv213 => ?_
      refine x_len hv213 ?_
      refine x_bin (show _ = (V.int .i64 ((p0.length : Nat) : Int)) from rfl) (show _ = (V.int .i64 512) from rfl) b_leq ?_
      refine x_mv' (show _ = (V.bool (decide (((p0.length : Nat) : Int) ≤ 512))) from rfl) ?_
      refine x_done ?_
      refine x_tN ?_
      refine x_retc ?_
      obtain rfl := Option.some.inj hD
      exact hR _ (ends_t (nf_of rfl (show _ = (V.bool (decide (((p0.length : Nat) : Int) ≤ 512))) from rfl)) (fun h => nomatch h))
    · refine x_bR ?_; refine x_tR ?_; exact hR _ hE
    · exact hv74
    · exact (show _ = (V.int .i64 ((p0.length : Nat) : Int)) from rfl)
    · exact (show _ = (V.int .i64 0) from rfl)
    · exact h0
  · rw [if_neg hlen215] at hD; cases hD
def K.seicheref07_GoodTree : FC := fc F.seicheref07_GoodTree (fun _ => true) false (fun (a : (List T.Entry)) => [(V.sl false 34 (List.map E.Entry a))]) (fun (y : Bool) => (V.bool y)) (fun a => g.seicheref07_GoodTree a)
  (fun a => (cleanL_mk (E.LEntry_clean _) rfl))
  (fun y => rfl)
  (fun a0 b0 h => by
    obtain ⟨h0, h⟩ := List.cons.inj h
    obtain rfl : a0 = b0 := E.LEntry_inj h0
    rfl)
theorem H.seicheref07_GoodTree (w : World) (hw : EnvOK w) : K.seicheref07_GoodTree.Holds (cxD w) :=
  FC.holds_of (cs := [K.seicheref06_Good, K.seicheref06_Parts]) (glD w) mixed cf_seicheref07_GoodTree (fun _ _ ⟨_, _, h, _⟩ => by subst h; exact Nat.le_of_ble_eq_true rfl) fun v y ⟨a, r, hv, hD, hy⟩ => by
    subst hy
    exact ok.seicheref07_GoodTree (specOf_calls (H.seicheref06_Good w hw) (fun _ _ ⟨_, _, h, _⟩ => by subst h; rfl)) (specOf_calls (H.seicheref06_Parts w hw) (fun _ _ ⟨_, _, h, _⟩ => by subst h; rfl)) hv hD
def c_seicheref07_Tree_j1 : ACode := (.region [
  ⟨(some 20), (.mvo 3), none, []⟩, 
  ⟨(some 21), (.faddr 0 (.tmp 5)), none, []⟩, 
  ⟨(some 22), (.load none (.tmp 21)), none, []⟩, 
  ⟨(some 23), (.faddr 2 (.tmp 5)), none, []⟩, 
  ⟨(some 24), (.slca 32 1 (.tmp 23) none none none), none, []⟩, 
  ⟨(some 25), (.b2s (.tmp 24)), none, []⟩, 
  ⟨(some 26), (.bsl 1 [(.tmp 22), (.tmp 25)]), none, []⟩, 
  ⟨(some 27), (.app 1 (.tmp 20) (.tmp 26)), none, []⟩, 
  ⟨(some 3), (.mvo 27), none, []⟩] true)
def c_seicheref07_Tree_l1 : ACode := (.seq (.region [
  ⟨(some 9), (.bin .lss .no (.tmp 8) (.tmp 7)), none, []⟩] false) (.seq (.cond (.tmp 9) .skip (.exit 0)) (.seq (.block 1 (.seq (.region [
  ⟨(some 10), (.iaddr 34 (.tmp 6) (.tmp 8)), none, []⟩, 
  ⟨(some 11), (.load (some 34) (.tmp 10)), none, []⟩, 
  ⟨(some 5), (.new ((.str []) :: (.bool false) :: repl 32 (.int .u8 0))), none, []⟩, 
  ⟨none, (.store 34 (.tmp 5) (.tmp 11)), none, []⟩] false) (.seq (.seq (.region [
  ⟨(some 12), (.faddr 1 (.tmp 5)), none, []⟩, 
  ⟨(some 13), (.load none (.tmp 12)), none, []⟩] false) (.cond (.tmp 13) (.region [
  ⟨(some 14), (.mvo 3), none, []⟩, 
  ⟨(some 15), (.bsl 1 [(.const (.str [116, 114, 101, 101]))]), none, []⟩, 
  ⟨(some 16), (.app 1 (.tmp 14) (.tmp 15)), none, []⟩, 
  ⟨(some 3), (.mvo 16), none, []⟩] false) (.region [
  ⟨(some 17), (.mvo 3), none, []⟩, 
  ⟨(some 18), (.bsl 1 [(.const (.str [98, 108, 111, 98]))]), none, []⟩, 
  ⟨(some 19), (.app 1 (.tmp 17) (.tmp 18)), none, []⟩, 
  ⟨(some 3), (.mvo 19), none, []⟩] false))) c_seicheref07_Tree_j1))) (.region [
  ⟨(some 28), (.bin .add .no (.tmp 8) (.const (.int .i64 1))), none, []⟩, 
  ⟨(some 8), (.mv (.tmp 28)), none, []⟩] false))))
def c_seicheref07_Tree : ACode := (.seq (.region [
  ⟨(some 2), (.mv (.const (.str []))), none, []⟩] false) (.seq (.region [
  ⟨(some 3), (.mv (.const (.sl true 1 []))), none, []⟩] false) (.seq (.seq (.region [
  ⟨(some 6), (.mv (.tmp 0)), none, []⟩, 
  ⟨(some 7), (.len false (.tmp 6)), none, []⟩, 
  ⟨(some 8), (.mv (.const (.int .i64 0))), none, []⟩] false) (.block 0 (.loop c_seicheref07_Tree_l1))) (.seq (.region [
  ⟨(some 29), (.mv (.tmp 3)), none, []⟩, 
  ⟨(some 30), (.call F.seicheref01_Join [(.tmp 29)]), none, []⟩, 
  ⟨(some 2), (.mv (.tmp 30)), none, []⟩] false) .ret))))
theorem cf_seicheref07_Tree : cFn Go.Proofs.Tryd.prog F.seicheref07_Tree = some ⟨31, c_seicheref07_Tree, [.t 2]⟩ := by kernel_rfl
def L.seicheref07_Tree_j1 (k0 : (List Bytes) → Option Bytes) (x170 : T.Entry) (t3_173 : (List Bytes)) : Option Bytes :=
  (appL t3_173 ([x170.Name, (x170.Id).1] : (List Bytes))).bind fun l181 =>
  k0 l181
theorem ok.seicheref07_Tree_j1 {Γ : Abs.Spec} {gl : Glob} (hC_seicheref01_Join : CallsX Γ K.seicheref01_Join) {Q : Ex → St → Prop} {r : Bytes} {l67 : List T.Entry} {k68 : Nat} {k0 : (List Bytes) → Option Bytes}
    (hk0 : ∀ (s : St) (t3_201 : (List Bytes)), ((s.tm 3).nf = (V.sl false 1 (List.map V.str t3_201))) → (OwnS s 3) → ((s.tm 6).nf = (V.sl false 34 (List.map E.Entry l67))) → (s.tm 7 = (V.int .i64 ((l67.length : Nat) : Int))) → (s.tm 8 = (V.int .i64 ((k68 : Nat) : Int))) → k0 t3_201 = some r → Q .normal s)
    (hR : ∀ s, EndsX [.t 2] false (V.str r) s → Q .ret s)
    {s : St} {i171 : Nat} {x170 : T.Entry} {t3_173 : (List Bytes)} (hli171 : i171 < s.nH) (hci171 : Cells s i171 (C.Entry x170)) (h172 : (s.tm 3).nf = (V.sl false 1 (List.map V.str t3_173))) (h172o : OwnS s 3) (h174 : s.tm 5 = (V.ptr i171 0)) (h175 : (s.tm 6).nf = (V.sl false 34 (List.map E.Entry l67))) (h176 : s.tm 7 = (V.int .i64 ((l67.length : Nat) : Int))) (h177 : s.tm 8 = (V.int .i64 ((k68 : Nat) : Int)))
    (hD : L.seicheref07_Tree_j1 k0 x170 t3_173 = some r) : awp Γ gl c_seicheref07_Tree_j1 Q s := by
  unfold L.seicheref07_Tree_j1 at hD
  refine x_start (b := true) ?_
  refine x_mvo h172 fun v178 ov178 hv178 hwv178 => ?_
  refine x_faddr h174 ?_
  refine x_load (show _ = (V.ptr i171 0) from rfl) hci171 (ld_Entry_0_n x170) fun v179 hv179 => ?_
  refine x_faddr h174 ?_
  refine x_slca (show _ = (V.ptr i171 2) from rfl) ?_
  refine x_b2sO (show _ = (V.osl i171 2 32 32 1) from rfl) hci171 (ld_le (ld_Entry_2_32 x170)) (ld_take (ld_Entry_2_32 x170)) ?_
  refine x_bsl (E := V.str) (l := ([x170.Name, (x170.Id).1] : (List Bytes))) (cons_eq (nf_of rfl (nf_str hv179)) (cons_eq (nf_of rfl (show _ = (V.str (x170.Id).1) from rfl)) rfl)) (fits_map (E := V.str) (sz := 1) (fun x => ⟨rfl, rfl⟩) _) fun v180 ov180 hv180 hov180 => ?_
  obtain ⟨l181, hx182, hD⟩ := Option.bind_eq_some_iff.1 hD
  refine x_app hv178 (hwv178 h172o) (tail_sl hv180) hx182 fun v183 ov183 fv183 hv183 hov183 hfv183 => ?_
  refine x_mvo hv183 fun v184 ov184 hv184 hwv184 => ?_
  refine x_done ?_
  refine hk0 _ _ ?_ ?_ ?_ ?_ ?_ hD
  · exact hv184
  · exact (hwv184 hov183)
  · exact h175
  · exact h176
  · exact h177
def L.seicheref07_Tree_l1 (k0 : (List Bytes) → Option Bytes) : List T.Entry → (List Bytes) → Option Bytes
  | [], t3_128 =>
    k0 t3_128
  | a131 :: rest, t3_128 =>
    if a131.Tree = true then
      (appL t3_128 ([([116, 114, 101, 101] : Bytes)] : (List Bytes))).bind fun l210 =>
      L.seicheref07_Tree_j1 (fun (t3_215 : (List Bytes)) => L.seicheref07_Tree_l1 k0 rest t3_215) a131 l210
    else
      (appL t3_128 ([([98, 108, 111, 98] : Bytes)] : (List Bytes))).bind fun l222 =>
      L.seicheref07_Tree_j1 (fun (t3_227 : (List Bytes)) => L.seicheref07_Tree_l1 k0 rest t3_227) a131 l222
theorem ok.seicheref07_Tree_l1 {Γ : Abs.Spec} {gl : Glob} (hC_seicheref01_Join : CallsX Γ K.seicheref01_Join) {Q : Ex → St → Prop} {r : Bytes} {l67 : List T.Entry} {k0 : (List Bytes) → Option Bytes}
    (hk0 : ∀ (s : St) (t3_235 : (List Bytes)), ((s.tm 3).nf = (V.sl false 1 (List.map V.str t3_235))) → (OwnS s 3) → k0 t3_235 = some r → Q (.exit 0) s)
    (hR : ∀ s, EndsX [.t 2] false (V.str r) s → Q .ret s)
    (hlen : l67.length ≤ Lim) : ∀ (rest : List T.Entry) (k68 : Nat) (s : St) (t3_128 : (List Bytes)), l67.drop k68 = rest → k68 ≤ l67.length →
    ((s.tm 6).nf = V.sl false 34 (List.map E.Entry l67)) → (s.tm 7 = V.int .i64 ((l67.length : Nat) : Int)) → (s.tm 8 = V.int .i64 ((k68 : Nat) : Int)) → ((s.tm 3).nf = (V.sl false 1 (List.map V.str t3_128))) → (OwnS s 3) →
    L.seicheref07_Tree_l1 k0 rest t3_128 = some r → awp Γ gl (.loop c_seicheref07_Tree_l1) Q s := by
  intro rest
  induction rest with
  | nil =>
    intro k68 s t3_128 hdrop hkl hX hN hI h127 h127o hD
    have hkz := drop_nil hdrop hkl
    have hp0 : ¬ (((k68 : Nat) : Int) < ((l67.length : Nat) : Int)) := by omega
    refine awp_roundK fun K hK => ?_
    rw [L.seicheref07_Tree_l1] at hD
    refine x_seq ?_
    refine x_start (b := false) ?_
    refine x_bin hI hN b_lss ?_
    refine x_done ?_
    refine x_tN ?_
    refine x_seq ?_
    refine x_cf (show _ = (V.bool (decide (((k68 : Nat) : Int) < ((l67.length : Nat) : Int)))) from rfl) (decide_eq_false hp0) ?_
    refine x_exitc ?_
    refine x_tE ?_
    refine x_tE ?_
    refine hk0 _ _ ?_ ?_ hD
    · exact h127
    · exact h127o
  | cons a131 rest ih =>
    intro k68 s t3_128 hdrop hkl hX hN hI h127 h127o hD
    obtain ⟨hlt, -, hget, hdrop1, -⟩ := drop_cons hdrop
    have hp1 : ((k68 : Nat) : Int) < ((l67.length : Nat) : Int) := by omega
    have hwk := wi_succ (k := k68) (by unfold Lim at hlen; omega)
    refine awp_roundK fun K hK => ?_
    rw [L.seicheref07_Tree_l1] at hD
    refine x_seq ?_
    refine x_start (b := false) ?_
    refine x_bin hI hN b_lss ?_
    refine x_done ?_
    refine x_tN ?_
    refine x_seq ?_
    refine x_ct (show _ = (V.bool (decide (((k68 : Nat) : Int) < ((l67.length : Nat) : Int)))) from rfl) (decide_eq_true hp1) ?_
    refine x_skip ?_
    refine x_tN ?_
    refine x_seq ?_
    refine x_block ?_
    refine x_seq ?_
    refine x_start (b := false) ?_
    refine x_iaddr hX hI (at_k hget) fun v136 (hv136 : v136.nf = V.el (C.Entry a131) 0) => ?_
    refine x_load_el hv136 (ld_Entry_0_34 a131) fun v137 hv137 => ?_
    refine x_new (l := (C.Entry ({ Name := [], Tree := false, Id := (Arr.zero 32) } : T.Entry))) (by kernel_rfl) fun i138 hidi138 hci138 => ?_
    refine x_store (ws := (C.Entry a131)) (l' := (C.Entry a131)) (show _ = (V.ptr i138 0) from rfl) hci138 (cells_of rfl hv137) ⟨(C.Entry_len a131), (C.Entry_sc a131), le_len (C.Entry_len ({ Name := [], Tree := false, Id := (Arr.zero 32) } : T.Entry)) (by decide)⟩ (setAt_full (Eq.trans (C.Entry_len a131) (Eq.symm (C.Entry_len ({ Name := [], Tree := false, Id := (Arr.zero 32) } : T.Entry))))) fun csv139 ysv139 hcsv139 hnv139 hcv139 hsv139 => ?_
    refine x_done ?_
    refine x_tN ?_
    refine x_seq ?_
    refine x_seq ?_
    refine x_start (b := false) ?_
    refine x_faddr (show _ = (V.ptr i138 0) from rfl) ?_
    refine x_load (show _ = (V.ptr i138 1) from rfl) hcv139 (ld_Entry_1_n a131) fun v206 hv206 => ?_
    refine x_done ?_
    refine x_tN ?_
    by_cases hp207 : a131.Tree = true
    · rw [if_pos hp207] at hD
      refine x_ct (nf_bool hv206) hp207 ?_
      refine x_start (b := false) ?_
      refine x_mvo h127 fun v208 ov208 hv208 hwv208 => ?_
      refine x_bsl (E := V.str) (l := ([([116, 114, 101, 101] : Bytes)] : (List Bytes))) (cons_eq (nf_of rfl (show _ = (V.str ([116, 114, 101, 101] : Bytes)) from rfl)) rfl) (fits_map (E := V.str) (sz := 1) (fun x => ⟨rfl, rfl⟩) _) fun v209 ov209 hv209 hov209 => ?_
      obtain ⟨l210, hx211, hD⟩ := Option.bind_eq_some_iff.1 hD
      refine x_app hv208 (hwv208 h127o) (tail_sl hv209) hx211 fun v212 ov212 fv212 hv212 hov212 hfv212 => ?_
      refine x_mvo hv212 fun v213 ov213 hv213 hwv213 => ?_
      refine x_done ?_
      refine x_tN ?_
      refine ok.seicheref07_Tree_j1 (l67 := l67) (k68 := k68) (i171 := i138) hC_seicheref01_Join (fun s219 t3_215 h214 h214o h216 h217 h218 hD => ?_) (fun _ hE => ?_) ?_ ?_ ?_ ?_ ?_ ?_ ?_ ?_ hD
      · refine x_bN ?_
        refine x_tN ?_
        refine x_start (b := false) ?_
        refine x_bin h218 (show _ = (V.int .i64 1) from rfl) b_add ?_
        refine x_mv' (show _ = (V.int .i64 (wi (((k68 : Nat) : Int) + 1))) from rfl) ?_
        refine x_done ?_
        refine x_tN ?_
        refine hK _ ?_
        refine ih (k68 + 1) _ _ hdrop1 hlt ?_ ?_ ?_ ?_ ?_ hD
        · exact h216
        · exact h217
        · exact (Eq.trans (show _ = (V.int .i64 (wi (((k68 : Nat) : Int) + 1))) from rfl) (congrArg (V.int .i64) hwk))
        · exact h214
        · exact h214o
      · refine x_bR ?_; refine x_tR ?_; refine x_tR ?_; exact hR _ hE
      · exact (Nat.lt_succ_of_le (Nat.le_of_eq hidi138))
      · exact hcv139
      · exact hv213
      · exact (hwv213 hov212)
      · exact (show _ = (V.ptr i138 0) from rfl)
      · exact hX
      · exact hN
      · exact hI
    · rw [if_neg hp207] at hD
      refine x_cf (nf_bool hv206) (Bool.eq_false_iff.2 hp207) ?_
      refine x_start (b := false) ?_
      refine x_mvo h127 fun v220 ov220 hv220 hwv220 => ?_
      refine x_bsl (E := V.str) (l := ([([98, 108, 111, 98] : Bytes)] : (List Bytes))) (cons_eq (nf_of rfl (show _ = (V.str ([98, 108, 111, 98] : Bytes)) from rfl)) rfl) (fits_map (E := V.str) (sz := 1) (fun x => ⟨rfl, rfl⟩) _) fun v221 ov221 hv221 hov221 => ?_
      obtain ⟨l222, hx223, hD⟩ := Option.bind_eq_some_iff.1 hD
      refine x_app hv220 (hwv220 h127o) (tail_sl hv221) hx223 fun v224 ov224 fv224 hv224 hov224 hfv224 => ?_
      refine x_mvo hv224 fun v225 ov225 hv225 hwv225 => ?_
      refine x_done ?_
      refine x_tN ?_
      refine ok.seicheref07_Tree_j1 (l67 := l67) (k68 := k68) (i171 := i138) hC_seicheref01_Join (fun s231 t3_227 h226 h226o h228 h229 h230 hD => ?_) (fun _ hE => ?_) ?_ ?_ ?_ ?_ ?_ ?_ ?_ ?_ hD
      · refine x_bN ?_
        refine x_tN ?_
        refine x_start (b := false) ?_
        refine x_bin h230 (show _ = (V.int .i64 1) from rfl) b_add ?_
        refine x_mv' (show _ = (V.int .i64 (wi (((k68 : Nat) : Int) + 1))) from rfl) ?_
        refine x_done ?_
        refine x_tN ?_
        refine hK _ ?_
        refine ih (k68 + 1) _ _ hdrop1 hlt ?_ ?_ ?_ ?_ ?_ hD
        · exact h228
        · exact h229
        · exact (Eq.trans (show _ = (V.int .i64 (wi (((k68 : Nat) : Int) + 1))) from rfl) (congrArg (V.int .i64) hwk))
        · exact h226
        · exact h226o
      · refine x_bR ?_; refine x_tR ?_; refine x_tR ?_; exact hR _ hE
      · exact (Nat.lt_succ_of_le (Nat.le_of_eq hidi138))
      · exact hcv139
      · exact hv225
      · exact (hwv225 hov224)
      · exact (show _ = (V.ptr i138 0) from rfl)
      · exact hX
      · exact hN
      · exact hI
def g.seicheref07_Tree (p0 : (List T.Entry)) : Option Bytes :=
  if p0.length ≤ Lim then L.seicheref07_Tree_l1 (fun (t3_237 : (List Bytes)) => (g.seicheref01_Join t3_237).bind fun r240 =>
  some r240) p0 [] else none
theorem ok.seicheref07_Tree {Γ : Abs.Spec} {gl : Glob} (hC_seicheref01_Join : CallsX Γ K.seicheref01_Join) {r : Bytes} {p0 : (List T.Entry)} {v : List V}
    (hv : nfL v = [(V.sl false 34 (List.map E.Entry p0))]) (hD : g.seicheref07_Tree p0 = some r) : awp Γ gl c_seicheref07_Tree (endQ [.t 2] false (V.str r)) (St.init v) := by
  obtain ⟨v0, v, rfl, h0, hv⟩ := nfL_cons hv
  obtain rfl := nfL_nil hv
  have hR : ∀ s, EndsX [.t 2] false (V.str r) s → endQ [.t 2] false (V.str r) .ret s := fun _ h => h
  unfold g.seicheref07_Tree at hD
  unfold c_seicheref07_Tree
  refine x_seq ?_
  refine x_start (b := false) ?_
  refine x_mv' (show _ = (V.str ([] : Bytes)) from rfl) ?_
  refine x_done ?_
  refine x_tN ?_
  refine x_seq ?_
  refine x_start (b := false) ?_
  refine x_mv' (y := V.sl true 1 []) rfl ?_
  refine x_done ?_
  refine x_tN ?_
  refine x_seq ?_
  refine x_seq ?_
  refine x_start (b := false) ?_
  refine x_mv h0 fun v66 hv66 => ?_
  refine x_len hv66 ?_
  refine x_mv' (show _ = (V.int .i64 0) from rfl) ?_
  refine x_done ?_
  refine x_tN ?_
  refine x_block ?_
  by_cases hlen243 : p0.length ≤ Lim
  · rw [if_pos hlen243] at hD
    refine ok.seicheref07_Tree_l1 (l67 := p0) hC_seicheref01_Join (fun s242 t3_237 h236 h236o hD => ?_) (fun _ hE => ?_) hlen243 _ 0 _ _ rfl (Nat.zero_le _) ?_ ?_ ?_ ?_ ?_ hD
    · refine x_bE ?_
      refine x_tN ?_
      refine x_seq ?_
      refine x_start (b := false) ?_
      refine x_mv h236 fun v238 hv238 => ?_
      obtain ⟨r240, hx241, hD⟩ := Option.bind_eq_some_iff.1 hD
      refine x_callF hC_seicheref01_Join (a := (t3_237)) (cons_eq hv238 rfl) hx241 fun v239 ov239 (hv239 : v239.nf = (V.str r240)) hov239 => ?_
      refine x_mv' (nf_str hv239) ?_
      refine x_done ?_
      refine x_tN ?_
      refine x_retc ?_
      obtain rfl := Option.some.inj hD
      exact hR _ (ends_t (nf_of rfl (show _ = (V.str r240) from rfl)) (fun h => nomatch h))
    · refine x_bR ?_; refine x_tR ?_; exact hR _ hE
    · exact hv66
    · exact (show _ = (V.int .i64 ((p0.length : Nat) : Int)) from rfl)
    · exact (show _ = (V.int .i64 0) from rfl)
    · exact (show V.nf _ = (V.sl false 1 (List.map V.str [])) from rfl)
    · exact (Or.inr ⟨1, rfl⟩)
  · rw [if_neg hlen243] at hD; cases hD
def K.seicheref07_Tree : FC := fc F.seicheref07_Tree (fun _ => true) false (fun (a : (List T.Entry)) => [(V.sl false 34 (List.map E.Entry a))]) (fun (y : Bytes) => (V.str y)) (fun a => g.seicheref07_Tree a)
  (fun a => (cleanL_mk (E.LEntry_clean _) rfl))
  (fun y => rfl)
  (fun a0 b0 h => by
    obtain ⟨h0, h⟩ := List.cons.inj h
    obtain rfl : a0 = b0 := E.LEntry_inj h0
    rfl)
theorem H.seicheref07_Tree (w : World) (hw : EnvOK w) : K.seicheref07_Tree.Holds (cxD w) :=
  FC.holds_of (cs := [K.seicheref01_Join]) (glD w) mixed cf_seicheref07_Tree (fun _ _ ⟨_, _, h, _⟩ => by subst h; exact Nat.le_of_ble_eq_true rfl) fun v y ⟨a, r, hv, hD, hy⟩ => by
    subst hy
    exact ok.seicheref07_Tree (specOf_calls (H.seicheref01_Join w hw) (fun _ _ ⟨_, _, h, _⟩ => by subst h; rfl)) hv hD
def c_seicheref07_GetTree_j1 : ACode := (.region [
  ⟨(some 48), (.mvo 6), none, []⟩, 
  ⟨(some 49), (.mv (.tmp 4)), none, []⟩, 
  ⟨(some 50), (.mv (.tmp 7)), none, []⟩, 
  ⟨(some 51), (.bin .add .no (.tmp 50) (.const (.int .i64 1))), none, []⟩, 
  ⟨(some 52), (.iaddr 1 (.tmp 49) (.tmp 51)), none, []⟩, 
  ⟨(some 53), (.load none (.tmp 52)), none, []⟩, 
  ⟨(some 54), (.mv (.tmp 4)), none, []⟩, 
  ⟨(some 55), (.mv (.tmp 7)), none, []⟩, 
  ⟨(some 56), (.iaddr 1 (.tmp 54) (.tmp 55)), none, []⟩, 
  ⟨(some 57), (.load none (.tmp 56)), none, []⟩, 
  ⟨(some 58), (.bin .eql .no (.tmp 57) (.const (.str [116, 114, 101, 101]))), none, []⟩, 
  ⟨(some 59), (.mv (.tmp 4)), none, []⟩, 
  ⟨(some 60), (.mv (.tmp 7)), none, []⟩, 
  ⟨(some 61), (.bin .add .no (.tmp 60) (.const (.int .i64 2))), none, []⟩, 
  ⟨(some 62), (.iaddr 1 (.tmp 59) (.tmp 61)), none, []⟩, 
  ⟨(some 63), (.load none (.tmp 62)), none, []⟩, 
  ⟨(some 64), (.call F.seicheref07_digest [(.tmp 63)]), none, []⟩, 
  ⟨(some 65), (.build ((.str []) :: (.bool false) :: repl 32 (.int .u8 0)) [(0, (1, (.tmp 53))), (1, (1, (.tmp 58))), (2, (32, (.tmp 64)))]), none, []⟩, 
  ⟨(some 66), (.bsl 34 [(.tmp 65)]), none, []⟩, 
  ⟨(some 67), (.app 34 (.tmp 48) (.tmp 66)), none, []⟩, 
  ⟨(some 6), (.mvo 67), none, []⟩] true)
def c_seicheref07_GetTree_l1 : ACode := (.seq (.seq (.region [
  ⟨(some 21), (.mv (.tmp 7)), none, []⟩, 
  ⟨(some 22), (.mv (.tmp 4)), none, []⟩, 
  ⟨(some 23), (.len false (.tmp 22)), none, []⟩, 
  ⟨(some 24), (.bin .lss .no (.tmp 21) (.tmp 23)), none, []⟩] false) (.cond (.tmp 24) .skip (.exit 0))) (.seq (.block 1 (.seq (.seq (.region [
  ⟨(some 27), (.mv (.tmp 4)), none, []⟩, 
  ⟨(some 28), (.mv (.tmp 7)), none, []⟩, 
  ⟨(some 29), (.iaddr 1 (.tmp 27) (.tmp 28)), none, []⟩, 
  ⟨(some 30), (.load none (.tmp 29)), none, []⟩, 
  ⟨(some 31), (.bin .neq .no (.tmp 30) (.const (.str [98, 108, 111, 98]))), none, []⟩, 
  ⟨(some 32), (.mv (.tmp 31)), none, []⟩, 
  ⟨(some 33), (.mv (.tmp 4)), (some (32, true)), []⟩, 
  ⟨(some 34), (.mv (.tmp 7)), (some (32, true)), []⟩, 
  ⟨(some 35), (.iaddr 1 (.tmp 33) (.tmp 34)), (some (32, true)), []⟩, 
  ⟨(some 36), (.load none (.tmp 35)), (some (32, true)), []⟩, 
  ⟨(some 37), (.bin .neq .no (.tmp 36) (.const (.str [116, 114, 101, 101]))), (some (32, true)), []⟩, 
  ⟨(some 38), (.pick (.tmp 32) (.tmp 37) (.const (.bool false))), none, []⟩, 
  ⟨(some 39), (.mv (.tmp 38)), none, []⟩, 
  ⟨(some 40), (.mv (.tmp 4)), (some (39, false)), []⟩, 
  ⟨(some 41), (.mv (.tmp 7)), (some (39, false)), []⟩, 
  ⟨(some 42), (.bin .add .no (.tmp 41) (.const (.int .i64 2))), (some (39, false)), []⟩, 
  ⟨(some 43), (.iaddr 1 (.tmp 40) (.tmp 42)), (some (39, false)), []⟩, 
  ⟨(some 44), (.load none (.tmp 43)), (some (39, false)), []⟩, 
  ⟨(some 45), (.len true (.tmp 44)), (some (39, false)), []⟩, 
  ⟨(some 46), (.bin .neq .no (.tmp 45) (.const (.int .i64 32))), (some (39, false)), []⟩, 
  ⟨(some 47), (.pick (.tmp 39) (.const (.bool true)) (.tmp 46)), none, []⟩] false) (.cond (.tmp 47) (.seq (.region [
  ⟨(some 2), (.mv (.const (.sl true 34 []))), none, []⟩, 
  ⟨(some 3), (.mv (.const (.bool false))), none, []⟩] false) .ret) .skip)) c_seicheref07_GetTree_j1)) (.region [
  ⟨(some 25), (.mv (.tmp 7)), none, []⟩, 
  ⟨(some 26), (.bin .add .no (.tmp 25) (.const (.int .i64 3))), none, []⟩, 
  ⟨(some 7), (.mv (.tmp 26)), none, []⟩] false)))
def c_seicheref07_GetTree : ACode := (.seq (.region [
  ⟨(some 2), (.mv (.const (.sl true 34 []))), none, []⟩, 
  ⟨(some 3), (.mv (.const (.bool false))), none, []⟩] false) (.seq (.region [
  ⟨(some 9), (.mv (.tmp 0)), none, []⟩, 
  ⟨(some 10), (.call F.seicheref01_Split [(.tmp 9)]), none, []⟩, 
  ⟨(some 8), (.mv (.tmp 10)), none, []⟩, 
  ⟨(some 11), (.ext (.tmp 8) 0), none, []⟩, 
  ⟨(some 12), (.ext (.tmp 8) 1), none, []⟩, 
  ⟨(some 4), (.mvo 11), none, []⟩, 
  ⟨(some 5), (.mv (.tmp 12)), none, []⟩] false) (.seq (.seq (.region [
  ⟨(some 13), (.mv (.tmp 5)), none, []⟩, 
  ⟨(some 14), (.un .not (.tmp 13)), none, []⟩, 
  ⟨(some 15), (.mv (.tmp 14)), none, []⟩, 
  ⟨(some 16), (.mv (.tmp 4)), (some (15, false)), []⟩, 
  ⟨(some 17), (.len false (.tmp 16)), (some (15, false)), []⟩, 
  ⟨(some 18), (.bin .rem .no (.tmp 17) (.const (.int .i64 3))), (some (15, false)), []⟩, 
  ⟨(some 19), (.bin .neq .no (.tmp 18) (.const (.int .i64 0))), (some (15, false)), []⟩, 
  ⟨(some 20), (.pick (.tmp 15) (.const (.bool true)) (.tmp 19)), none, []⟩] false) (.cond (.tmp 20) (.seq (.region [
  ⟨(some 2), (.mv (.const (.sl true 34 []))), none, []⟩, 
  ⟨(some 3), (.mv (.const (.bool false))), none, []⟩] false) .ret) .skip)) (.seq (.region [
  ⟨(some 6), (.mv (.const (.sl true 34 []))), none, []⟩] false) (.seq (.seq (.region [
  ⟨(some 7), (.mv (.const (.int .i64 0))), none, []⟩] false) (.block 0 (.loop c_seicheref07_GetTree_l1))) (.seq (.seq (.region [
  ⟨(some 68), (.mv (.tmp 6)), none, []⟩, 
  ⟨(some 69), (.call F.seicheref07_GoodTree [(.tmp 68)]), none, []⟩, 
  ⟨(some 70), (.un .not (.tmp 69)), none, []⟩] false) (.cond (.tmp 70) (.seq (.region [
  ⟨(some 2), (.mv (.const (.sl true 34 []))), none, []⟩, 
  ⟨(some 3), (.mv (.const (.bool false))), none, []⟩] false) .ret) .skip)) (.seq (.region [
  ⟨(some 71), (.mvo 6), none, []⟩, 
  ⟨(some 2), (.mvo 71), none, []⟩, 
  ⟨(some 3), (.mv (.const (.bool true))), none, []⟩] false) .ret)))))))
theorem cf_seicheref07_GetTree : cFn Go.Proofs.Tryd.prog F.seicheref07_GetTree = some ⟨72, c_seicheref07_GetTree, [.t 2, .t 3]⟩ := by kernel_rfl
def L.seicheref07_GetTree_j1 (t4_153 : (List Bytes)) (k0 : (List T.Entry) → Int → Option ((List T.Entry) × Bool)) (t6_366 : (List T.Entry)) (t7_368 : Int) : Option ((List T.Entry) × Bool) :=
  (at? t4_153 (wi (t7_368 + 1))).bind fun a371 =>
  (at? t4_153 t7_368).bind fun a376 =>
  (at? t4_153 (wi (t7_368 + 2))).bind fun a381 =>
  (g.seicheref07_digest a381).bind fun r386 =>
  (appL t6_366 ([({ Name := a371, Tree := (decide (a376 = ([116, 114, 101, 101] : Bytes))), Id := r386 } : T.Entry)] : (List T.Entry))).bind fun l390 =>
  k0 l390 t7_368
theorem ok.seicheref07_GetTree_j1 {Γ : Abs.Spec} {gl : Glob} (hC_seicheref01_Split : CallsX Γ K.seicheref01_Split) (hC_seicheref07_digest : CallsX Γ K.seicheref07_digest) (hC_seicheref07_GoodTree : CallsX Γ K.seicheref07_GoodTree) {Q : Ex → St → Prop} {r : ((List T.Entry) × Bool)} {t4_153 : (List Bytes)} {k0 : (List T.Entry) → Int → Option ((List T.Entry) × Bool)}
    (hk0 : ∀ (s : St) (t6_411 : (List T.Entry)) (t7_413 : Int), ((s.tm 4).nf = (V.sl false 1 (List.map V.str t4_153))) → ((s.tm 6).nf = (V.sl false 34 (List.map E.Entry t6_411))) → (OwnS s 6) → (s.tm 7 = (V.int .i64 t7_413)) → k0 t6_411 t7_413 = some r → Q .normal s)
    (hR : ∀ s, EndsX [.t 2, .t 3] false (V.tup [(V.sl false 34 (List.map E.Entry r.1)), (V.bool r.2)]) s → Q .ret s)
    {s : St} {t6_366 : (List T.Entry)} {t7_368 : Int} (h364 : (s.tm 4).nf = (V.sl false 1 (List.map V.str t4_153))) (h365 : (s.tm 6).nf = (V.sl false 34 (List.map E.Entry t6_366))) (h365o : OwnS s 6) (h367 : s.tm 7 = (V.int .i64 t7_368))
    (hD : L.seicheref07_GetTree_j1 t4_153 k0 t6_366 t7_368 = some r) : awp Γ gl c_seicheref07_GetTree_j1 Q s := by
  unfold L.seicheref07_GetTree_j1 at hD
  refine x_start (b := true) ?_
  refine x_mvo h365 fun v369 ov369 hv369 hwv369 => ?_
  refine x_mv h364 fun v370 hv370 => ?_
  refine x_mv' h367 ?_
  refine x_bin (show _ = (V.int .i64 t7_368) from rfl) (show _ = (V.int .i64 1) from rfl) b_add ?_
  obtain ⟨a371, hx372, hD⟩ := Option.bind_eq_some_iff.1 hD
  refine x_iaddr hv370 (show _ = (V.int .i64 (wi (t7_368 + 1))) from rfl) hx372 fun v373 (hv373 : v373.nf = V.el [(V.str a371)] 0) => ?_
  refine x_load_el hv373 (show _ = some (V.str a371) from rfl) fun v374 hv374 => ?_
  refine x_mv h364 fun v375 hv375 => ?_
  refine x_mv' h367 ?_
  obtain ⟨a376, hx377, hD⟩ := Option.bind_eq_some_iff.1 hD
  refine x_iaddr hv375 (show _ = (V.int .i64 t7_368) from rfl) hx377 fun v378 (hv378 : v378.nf = V.el [(V.str a376)] 0) => ?_
  refine x_load_el hv378 (show _ = some (V.str a376) from rfl) fun v379 hv379 => ?_
  refine x_bin (nf_str hv379) (show _ = (V.str ([116, 114, 101, 101] : Bytes)) from rfl) s_eql ?_
  refine x_mv h364 fun v380 hv380 => ?_
  refine x_mv' h367 ?_
  refine x_bin (show _ = (V.int .i64 t7_368) from rfl) (show _ = (V.int .i64 2) from rfl) b_add ?_
  obtain ⟨a381, hx382, hD⟩ := Option.bind_eq_some_iff.1 hD
  refine x_iaddr hv380 (show _ = (V.int .i64 (wi (t7_368 + 2))) from rfl) hx382 fun v383 (hv383 : v383.nf = V.el [(V.str a381)] 0) => ?_
  refine x_load_el hv383 (show _ = some (V.str a381) from rfl) fun v384 hv384 => ?_
  obtain ⟨r386, hx387, hD⟩ := Option.bind_eq_some_iff.1 hD
  refine x_callF hC_seicheref07_digest (a := (a381)) (cons_eq (nf_of rfl (nf_str hv384)) rfl) hx387 fun v385 ov385 (hv385 : v385.nf = (V.agg (encB (r386).1))) hov385 => ?_
  refine x_build (ws := [(0, 1, (V.str a371)), (1, 1, (V.bool (decide (a376 = ([116, 114, 101, 101] : Bytes))))), (2, 32, (V.agg (encB (r386).1)))]) (l := C.Entry ({ Name := a371, Tree := (decide (a376 = ([116, 114, 101, 101] : Bytes))), Id := r386 } : T.Entry)) (part_eq (nf_of rfl (nf_str hv374)) (part_eq (nf_of rfl (show _ = (V.bool (decide (a376 = ([116, 114, 101, 101] : Bytes)))) from rfl)) (part_eq hv385 rfl))) (fill_from (by kernel_rfl : _ = C.Entry ({ Name := [], Tree := false, Id := (Arr.zero 32) } : T.Entry)) (fill_step (set_Entry_0_1 ({ Name := [], Tree := false, Id := (Arr.zero 32) } : T.Entry) a371) ⟨(show [(V.str a371)].length = 1 from rfl), rfl, le_len (C.Entry_len ({ Name := [], Tree := false, Id := (Arr.zero 32) } : T.Entry)) (by decide)⟩ (fill_step (set_Entry_1_1 ({ ({ Name := [], Tree := false, Id := (Arr.zero 32) } : T.Entry) with Name := a371 } : T.Entry) (decide (a376 = ([116, 114, 101, 101] : Bytes)))) ⟨(show [(V.bool (decide (a376 = ([116, 114, 101, 101] : Bytes))))].length = 1 from rfl), rfl, le_len (C.Entry_len ({ ({ Name := [], Tree := false, Id := (Arr.zero 32) } : T.Entry) with Name := a371 } : T.Entry)) (by decide)⟩ (fill_step (set_Entry_2_32 ({ ({ ({ Name := [], Tree := false, Id := (Arr.zero 32) } : T.Entry) with Name := a371 } : T.Entry) with Tree := (decide (a376 = ([116, 114, 101, 101] : Bytes))) } : T.Entry) r386) ⟨(enc_len r386), (encB_sc r386.1), le_len (C.Entry_len ({ ({ ({ Name := [], Tree := false, Id := (Arr.zero 32) } : T.Entry) with Name := a371 } : T.Entry) with Tree := (decide (a376 = ([116, 114, 101, 101] : Bytes))) } : T.Entry)) (by decide)⟩ fill_nil)))) fun v388 hv388 hnv388 => ?_
  refine x_bsl (E := E.Entry) (l := ([({ Name := a371, Tree := (decide (a376 = ([116, 114, 101, 101] : Bytes))), Id := r386 } : T.Entry)] : (List T.Entry))) (cons_eq hv388 rfl) (fits_map (E := E.Entry) (sz := 34) (fun x => E.Entry_fit x) _) fun v389 ov389 hv389 hov389 => ?_
  obtain ⟨l390, hx391, hD⟩ := Option.bind_eq_some_iff.1 hD
  refine x_app hv369 (hwv369 h365o) (tail_sl hv389) hx391 fun v392 ov392 fv392 hv392 hov392 hfv392 => ?_
  refine x_mvo hv392 fun v393 ov393 hv393 hwv393 => ?_
  refine x_done ?_
  refine hk0 _ _ _ ?_ ?_ ?_ ?_ hD
  · exact h364
  · exact hv393
  · exact (hwv393 hov392)
  · exact h367
def L.seicheref07_GetTree_l1 (t4_153 : (List Bytes)) (k0 : (List T.Entry) → Option ((List T.Entry) × Bool)) : Nat → (List T.Entry) → Int → Option ((List T.Entry) × Bool)
  | 0, _, _ => none
  | n + 1, t6_281, t7_283 =>
    if t7_283 < ((t4_153.length : Nat) : Int) then
      (at? t4_153 t7_283).bind fun a435 =>
      if a435 = ([98, 108, 111, 98] : Bytes) then
        (at? t4_153 (wi (t7_283 + 2))).bind fun a441 =>
        if ((a441.length : Nat) : Int) = 32 then
          L.seicheref07_GetTree_j1 t4_153 (fun (t6_448 : (List T.Entry)) (t7_450 : Int) => L.seicheref07_GetTree_l1 t4_153 k0 n t6_448 (wi (t7_450 + 3))) t6_281 t7_283
        else
          some ([], false)
      else
        if a435 = ([116, 114, 101, 101] : Bytes) then
          (at? t4_153 (wi (t7_283 + 2))).bind fun a457 =>
          if ((a457.length : Nat) : Int) = 32 then
            L.seicheref07_GetTree_j1 t4_153 (fun (t6_464 : (List T.Entry)) (t7_466 : Int) => L.seicheref07_GetTree_l1 t4_153 k0 n t6_464 (wi (t7_466 + 3))) t6_281 t7_283
          else
            some ([], false)
        else
          some ([], false)
    else
      k0 t6_281
theorem ok.seicheref07_GetTree_l1 {Γ : Abs.Spec} {gl : Glob} (hC_seicheref01_Split : CallsX Γ K.seicheref01_Split) (hC_seicheref07_digest : CallsX Γ K.seicheref07_digest) (hC_seicheref07_GoodTree : CallsX Γ K.seicheref07_GoodTree) {Q : Ex → St → Prop} {r : ((List T.Entry) × Bool)} {t4_153 : (List Bytes)} {k0 : (List T.Entry) → Option ((List T.Entry) × Bool)}
    (hk0 : ∀ (s : St) (t6_471 : (List T.Entry)), ((s.tm 6).nf = (V.sl false 34 (List.map E.Entry t6_471))) → (OwnS s 6) → k0 t6_471 = some r → Q (.exit 0) s)
    (hR : ∀ s, EndsX [.t 2, .t 3] false (V.tup [(V.sl false 34 (List.map E.Entry r.1)), (V.bool r.2)]) s → Q .ret s) : ∀ (n : Nat) (s : St) (t6_281 : (List T.Entry)) (t7_283 : Int),
    ((s.tm 4).nf = (V.sl false 1 (List.map V.str t4_153))) → ((s.tm 6).nf = (V.sl false 34 (List.map E.Entry t6_281))) → (OwnS s 6) → (s.tm 7 = (V.int .i64 t7_283)) → L.seicheref07_GetTree_l1 t4_153 k0 n t6_281 t7_283 = some r → awp Γ gl (.loop c_seicheref07_GetTree_l1) Q s := by
  intro n
  induction n with
  | zero => intro s t6_281 t7_283 h279 h280 h280o h282 hD; rw [L.seicheref07_GetTree_l1] at hD; cases hD
  | succ n ih =>
    intro s t6_281 t7_283 h279 h280 h280o h282 hD
    refine awp_roundK fun K hK => ?_
    rw [L.seicheref07_GetTree_l1] at hD
    refine x_seq ?_
    refine x_seq ?_
    refine x_start (b := false) ?_
    refine x_mv' h282 ?_
    refine x_mv h279 fun v290 hv290 => ?_
    refine x_len hv290 ?_
    refine x_bin (show _ = (V.int .i64 t7_283) from rfl) (show _ = (V.int .i64 ((t4_153.length : Nat) : Int)) from rfl) b_lss ?_
    refine x_done ?_
    refine x_tN ?_
    by_cases hp291 : t7_283 < ((t4_153.length : Nat) : Int)
    · rw [if_pos hp291] at hD
      refine x_ct (show _ = (V.bool (decide (t7_283 < ((t4_153.length : Nat) : Int)))) from rfl) (decide_eq_true hp291) ?_
      refine x_skip ?_
      refine x_tN ?_
      refine x_seq ?_
      refine x_block ?_
      refine x_seq ?_
      refine x_seq ?_
      refine x_start (b := false) ?_
      refine x_mv h279 fun v434 hv434 => ?_
      refine x_mv' h282 ?_
      obtain ⟨a435, hx436, hD⟩ := Option.bind_eq_some_iff.1 hD
      refine x_iaddr hv434 (show _ = (V.int .i64 t7_283) from rfl) hx436 fun v437 (hv437 : v437.nf = V.el [(V.str a435)] 0) => ?_
      refine x_load_el hv437 (show _ = some (V.str a435) from rfl) fun v438 hv438 => ?_
      refine x_bin (nf_str hv438) (show _ = (V.str ([98, 108, 111, 98] : Bytes)) from rfl) s_neq ?_
      refine x_mv' (show _ = (V.bool (!(decide (a435 = ([98, 108, 111, 98] : Bytes))))) from rfl) ?_
      by_cases hp439 : a435 = ([98, 108, 111, 98] : Bytes)
      · rw [if_pos hp439] at hD
        refine x_gn (show _ = (V.bool (!(decide (a435 = ([98, 108, 111, 98] : Bytes))))) from rfl) (bnot_t (decide_eq_true hp439)) ?_
        refine x_gn (show _ = (V.bool (!(decide (a435 = ([98, 108, 111, 98] : Bytes))))) from rfl) (bnot_t (decide_eq_true hp439)) ?_
        refine x_gn (show _ = (V.bool (!(decide (a435 = ([98, 108, 111, 98] : Bytes))))) from rfl) (bnot_t (decide_eq_true hp439)) ?_
        refine x_gn (show _ = (V.bool (!(decide (a435 = ([98, 108, 111, 98] : Bytes))))) from rfl) (bnot_t (decide_eq_true hp439)) ?_
        refine x_gn (show _ = (V.bool (!(decide (a435 = ([98, 108, 111, 98] : Bytes))))) from rfl) (bnot_t (decide_eq_true hp439)) ?_
        refine x_pickf' (show _ = (V.bool (!(decide (a435 = ([98, 108, 111, 98] : Bytes))))) from rfl) (bnot_t (decide_eq_true hp439)) (show _ = (V.bool false) from rfl) ?_
        refine x_mv' (show _ = (V.bool false) from rfl) ?_
        refine x_gy (show _ = (V.bool false) from rfl) rfl ?_
        refine x_mv h279 fun v440 hv440 => ?_
        refine x_gy (show _ = (V.bool false) from rfl) rfl ?_
        refine x_mv' h282 ?_
        refine x_gy (show _ = (V.bool false) from rfl) rfl ?_
        refine x_bin (show _ = (V.int .i64 t7_283) from rfl) (show _ = (V.int .i64 2) from rfl) b_add ?_
        refine x_gy (show _ = (V.bool false) from rfl) rfl ?_
        obtain ⟨a441, hx442, hD⟩ := Option.bind_eq_some_iff.1 hD
        refine x_iaddr hv440 (show _ = (V.int .i64 (wi (t7_283 + 2))) from rfl) hx442 fun v443 (hv443 : v443.nf = V.el [(V.str a441)] 0) => ?_
        refine x_gy (show _ = (V.bool false) from rfl) rfl ?_
        refine x_load_el hv443 (show _ = some (V.str a441) from rfl) fun v444 hv444 => ?_
        refine x_gy (show _ = (V.bool false) from rfl) rfl ?_
        refine x_lens (nf_str hv444) ?_
        refine x_gy (show _ = (V.bool false) from rfl) rfl ?_
        refine x_bin (show _ = (V.int .i64 ((a441.length : Nat) : Int)) from rfl) (show _ = (V.int .i64 32) from rfl) b_neq ?_
        refine x_pickf' (show _ = (V.bool false) from rfl) rfl (show _ = (V.bool (!(decide (((a441.length : Nat) : Int) = 32)))) from rfl) ?_
        refine x_done ?_
        refine x_tN ?_
        by_cases hp445 : ((a441.length : Nat) : Int) = 32
        · rw [if_pos hp445] at hD
          refine x_cf (show _ = (V.bool (!(decide (((a441.length : Nat) : Int) = 32)))) from rfl) (bnot_t (decide_eq_true hp445)) ?_
          refine x_skip ?_
          refine x_tN ?_
          refine ok.seicheref07_GetTree_j1 (t4_153 := t4_153) hC_seicheref01_Split hC_seicheref07_digest hC_seicheref07_GoodTree (fun s451 t6_448 t7_450 h446 h447 h447o h449 hD => ?_) (fun _ hE => ?_) ?_ ?_ ?_ ?_ hD
          · refine x_bN ?_
            refine x_tN ?_
            refine x_start (b := false) ?_
            refine x_mv' h449 ?_
            refine x_bin (show _ = (V.int .i64 t7_450) from rfl) (show _ = (V.int .i64 3) from rfl) b_add ?_
            refine x_mv' (show _ = (V.int .i64 (wi (t7_450 + 3))) from rfl) ?_
            refine x_done ?_
            refine x_tN ?_
            refine hK _ ?_
            refine ih _ _ _ ?_ ?_ ?_ ?_ hD
            · exact h446
            · exact h447
            · exact h447o
            · exact (show _ = (V.int .i64 (wi (t7_450 + 3))) from rfl)
          · refine x_bR ?_; refine x_tR ?_; refine x_tR ?_; exact hR _ hE
          · exact h279
          · exact h280
          · exact h280o
          · exact h282
        · rw [if_neg hp445] at hD
          refine x_ct (show _ = (V.bool (!(decide (((a441.length : Nat) : Int) = 32)))) from rfl) (bnot_f (decide_eq_false hp445)) ?_
          refine x_seq ?_
          refine x_start (b := false) ?_
          refine x_mv' (y := V.sl true 34 []) rfl ?_
          refine x_mv' (show _ = (V.bool false) from rfl) ?_
          refine x_done ?_
          refine x_tN ?_
          refine x_retc ?_
          refine x_tR ?_
          refine x_bR ?_
          refine x_tR ?_
          refine x_tR ?_
          obtain rfl := Option.some.inj hD
          exact hR _ (ends_tup (rvs_cons (rv_t (show V.nf _ = (V.sl false 34 (List.map E.Entry [])) from rfl)) (rvs_cons (rv_t (nf_of rfl (show _ = (V.bool false) from rfl))) rvs_nil)) (by decide))
      · rw [if_neg hp439] at hD
        refine x_gy (show _ = (V.bool (!(decide (a435 = ([98, 108, 111, 98] : Bytes))))) from rfl) (bnot_f (decide_eq_false hp439)) ?_
        refine x_mv h279 fun v452 hv452 => ?_
        refine x_gy (show _ = (V.bool (!(decide (a435 = ([98, 108, 111, 98] : Bytes))))) from rfl) (bnot_f (decide_eq_false hp439)) ?_
        refine x_mv' h282 ?_
        refine x_gy (show _ = (V.bool (!(decide (a435 = ([98, 108, 111, 98] : Bytes))))) from rfl) (bnot_f (decide_eq_false hp439)) ?_
        refine x_iaddr hv452 (show _ = (V.int .i64 t7_283) from rfl) hx436 fun v453 (hv453 : v453.nf = V.el [(V.str a435)] 0) => ?_
        refine x_gy (show _ = (V.bool (!(decide (a435 = ([98, 108, 111, 98] : Bytes))))) from rfl) (bnot_f (decide_eq_false hp439)) ?_
        refine x_load_el hv453 (show _ = some (V.str a435) from rfl) fun v454 hv454 => ?_
        refine x_gy (show _ = (V.bool (!(decide (a435 = ([98, 108, 111, 98] : Bytes))))) from rfl) (bnot_f (decide_eq_false hp439)) ?_
        refine x_bin (nf_str hv454) (show _ = (V.str ([116, 114, 101, 101] : Bytes)) from rfl) s_neq ?_
        refine x_pickt' (show _ = (V.bool (!(decide (a435 = ([98, 108, 111, 98] : Bytes))))) from rfl) (bnot_f (decide_eq_false hp439)) (show _ = (V.bool (!(decide (a435 = ([116, 114, 101, 101] : Bytes))))) from rfl) ?_
        refine x_mv' (show _ = (V.bool (!(decide (a435 = ([116, 114, 101, 101] : Bytes))))) from rfl) ?_
        by_cases hp455 : a435 = ([116, 114, 101, 101] : Bytes)
        · rw [if_pos hp455] at hD
          refine x_gy (show _ = (V.bool (!(decide (a435 = ([116, 114, 101, 101] : Bytes))))) from rfl) (bnot_t (decide_eq_true hp455)) ?_
          refine x_mv h279 fun v456 hv456 => ?_
          refine x_gy (show _ = (V.bool (!(decide (a435 = ([116, 114, 101, 101] : Bytes))))) from rfl) (bnot_t (decide_eq_true hp455)) ?_
          refine x_mv' h282 ?_
          refine x_gy (show _ = (V.bool (!(decide (a435 = ([116, 114, 101, 101] : Bytes))))) from rfl) (bnot_t (decide_eq_true hp455)) ?_
          refine x_bin (show _ = (V.int .i64 t7_283) from rfl) (show _ = (V.int .i64 2) from rfl) b_add ?_
          refine x_gy (show _ = (V.bool (!(decide (a435 = ([116, 114, 101, 101] : Bytes))))) from rfl) (bnot_t (decide_eq_true hp455)) ?_
          obtain ⟨a457, hx458, hD⟩ := Option.bind_eq_some_iff.1 hD
          refine x_iaddr hv456 (show _ = (V.int .i64 (wi (t7_283 + 2))) from rfl) hx458 fun v459 (hv459 : v459.nf = V.el [(V.str a457)] 0) => ?_
          refine x_gy (show _ = (V.bool (!(decide (a435 = ([116, 114, 101, 101] : Bytes))))) from rfl) (bnot_t (decide_eq_true hp455)) ?_
          refine x_load_el hv459 (show _ = some (V.str a457) from rfl) fun v460 hv460 => ?_
          refine x_gy (show _ = (V.bool (!(decide (a435 = ([116, 114, 101, 101] : Bytes))))) from rfl) (bnot_t (decide_eq_true hp455)) ?_
          refine x_lens (nf_str hv460) ?_
          refine x_gy (show _ = (V.bool (!(decide (a435 = ([116, 114, 101, 101] : Bytes))))) from rfl) (bnot_t (decide_eq_true hp455)) ?_
          refine x_bin (show _ = (V.int .i64 ((a457.length : Nat) : Int)) from rfl) (show _ = (V.int .i64 32) from rfl) b_neq ?_
          refine x_pickf' (show _ = (V.bool (!(decide (a435 = ([116, 114, 101, 101] : Bytes))))) from rfl) (bnot_t (decide_eq_true hp455)) (show _ = (V.bool (!(decide (((a457.length : Nat) : Int) = 32)))) from rfl) ?_
          refine x_done ?_
          refine x_tN ?_
          by_cases hp461 : ((a457.length : Nat) : Int) = 32
          · rw [if_pos hp461] at hD
            refine x_cf (show _ = (V.bool (!(decide (((a457.length : Nat) : Int) = 32)))) from rfl) (bnot_t (decide_eq_true hp461)) ?_
            refine x_skip ?_
            refine x_tN ?_
            refine ok.seicheref07_GetTree_j1 (t4_153 := t4_153) hC_seicheref01_Split hC_seicheref07_digest hC_seicheref07_GoodTree (fun s467 t6_464 t7_466 h462 h463 h463o h465 hD => ?_) (fun _ hE => ?_) ?_ ?_ ?_ ?_ hD
            · refine x_bN ?_
              refine x_tN ?_
              refine x_start (b := false) ?_
              refine x_mv' h465 ?_
              refine x_bin (show _ = (V.int .i64 t7_466) from rfl) (show _ = (V.int .i64 3) from rfl) b_add ?_
              refine x_mv' (show _ = (V.int .i64 (wi (t7_466 + 3))) from rfl) ?_
              refine x_done ?_
              refine x_tN ?_
              refine hK _ ?_
              refine ih _ _ _ ?_ ?_ ?_ ?_ hD
              · exact h462
              · exact h463
              · exact h463o
              · exact (show _ = (V.int .i64 (wi (t7_466 + 3))) from rfl)
            · refine x_bR ?_; refine x_tR ?_; refine x_tR ?_; exact hR _ hE
            · exact h279
            · exact h280
            · exact h280o
            · exact h282
          · rw [if_neg hp461] at hD
            refine x_ct (show _ = (V.bool (!(decide (((a457.length : Nat) : Int) = 32)))) from rfl) (bnot_f (decide_eq_false hp461)) ?_
            refine x_seq ?_
            refine x_start (b := false) ?_
            refine x_mv' (y := V.sl true 34 []) rfl ?_
            refine x_mv' (show _ = (V.bool false) from rfl) ?_
            refine x_done ?_
            refine x_tN ?_
            refine x_retc ?_
            refine x_tR ?_
            refine x_bR ?_
            refine x_tR ?_
            refine x_tR ?_
            obtain rfl := Option.some.inj hD
            exact hR _ (ends_tup (rvs_cons (rv_t (show V.nf _ = (V.sl false 34 (List.map E.Entry [])) from rfl)) (rvs_cons (rv_t (nf_of rfl (show _ = (V.bool false) from rfl))) rvs_nil)) (by decide))
        · rw [if_neg hp455] at hD
          refine x_gn (show _ = (V.bool (!(decide (a435 = ([116, 114, 101, 101] : Bytes))))) from rfl) (bnot_f (decide_eq_false hp455)) ?_
          refine x_gn (show _ = (V.bool (!(decide (a435 = ([116, 114, 101, 101] : Bytes))))) from rfl) (bnot_f (decide_eq_false hp455)) ?_
          refine x_gn (show _ = (V.bool (!(decide (a435 = ([116, 114, 101, 101] : Bytes))))) from rfl) (bnot_f (decide_eq_false hp455)) ?_
          refine x_gn (show _ = (V.bool (!(decide (a435 = ([116, 114, 101, 101] : Bytes))))) from rfl) (bnot_f (decide_eq_false hp455)) ?_
          refine x_gn (show _ = (V.bool (!(decide (a435 = ([116, 114, 101, 101] : Bytes))))) from rfl) (bnot_f (decide_eq_false hp455)) ?_
          refine x_gn (show _ = (V.bool (!(decide (a435 = ([116, 114, 101, 101] : Bytes))))) from rfl) (bnot_f (decide_eq_false hp455)) ?_
          refine x_gn (show _ = (V.bool (!(decide (a435 = ([116, 114, 101, 101] : Bytes))))) from rfl) (bnot_f (decide_eq_false hp455)) ?_
          refine x_pickt' (show _ = (V.bool (!(decide (a435 = ([116, 114, 101, 101] : Bytes))))) from rfl) (bnot_f (decide_eq_false hp455)) (show _ = (V.bool true) from rfl) ?_
          refine x_done ?_
          refine x_tN ?_
          refine x_ct (show _ = (V.bool true) from rfl) rfl ?_
          refine x_seq ?_
          refine x_start (b := false) ?_
          refine x_mv' (y := V.sl true 34 []) rfl ?_
          refine x_mv' (show _ = (V.bool false) from rfl) ?_
          refine x_done ?_
          refine x_tN ?_
          refine x_retc ?_
          refine x_tR ?_
          refine x_bR ?_
          refine x_tR ?_
          refine x_tR ?_
          obtain rfl := Option.some.inj hD
          exact hR _ (ends_tup (rvs_cons (rv_t (show V.nf _ = (V.sl false 34 (List.map E.Entry [])) from rfl)) (rvs_cons (rv_t (nf_of rfl (show _ = (V.bool false) from rfl))) rvs_nil)) (by decide))
    · rw [if_neg hp291] at hD
      refine x_cf (show _ = (V.bool (decide (t7_283 < ((t4_153.length : Nat) : Int)))) from rfl) (decide_eq_false hp291) ?_
      refine x_exitc ?_
      refine x_tE ?_
      refine x_tE ?_
      refine hk0 _ _ ?_ ?_ hD
      · exact h280
      · exact h280o
def g.seicheref07_GetTree (p0 : Bytes) : Option ((List T.Entry) × Bool) :=
  (g.seicheref01_Split p0).bind fun r9 =>
  if r9.2 = true then
    if (Int.tmod ((r9.1.length : Nat) : Int) 3) = 0 then
      L.seicheref07_GetTree_l1 r9.1 (fun (t6_473 : (List T.Entry)) => (g.seicheref07_GoodTree t6_473).bind fun r480 =>
      if r480 = true then
        some (t6_473, true)
      else
        some ([], false)) fuel [] 0
    else
      some ([], false)
  else
    some ([], false)
theorem ok.seicheref07_GetTree {Γ : Abs.Spec} {gl : Glob} (hC_seicheref01_Split : CallsX Γ K.seicheref01_Split) (hC_seicheref07_digest : CallsX Γ K.seicheref07_digest) (hC_seicheref07_GoodTree : CallsX Γ K.seicheref07_GoodTree) {r : ((List T.Entry) × Bool)} {p0 : Bytes} {v : List V}
    (hv : nfL v = [(V.str p0)]) (hD : g.seicheref07_GetTree p0 = some r) : awp Γ gl c_seicheref07_GetTree (endQ [.t 2, .t 3] false (V.tup [(V.sl false 34 (List.map E.Entry r.1)), (V.bool r.2)])) (St.init v) := by
  obtain ⟨v0, v, rfl, h0, hv⟩ := nfL_cons hv
  obtain rfl := nfL_nil hv
  have hR : ∀ s, EndsX [.t 2, .t 3] false (V.tup [(V.sl false 34 (List.map E.Entry r.1)), (V.bool r.2)]) s → endQ [.t 2, .t 3] false (V.tup [(V.sl false 34 (List.map E.Entry r.1)), (V.bool r.2)]) .ret s := fun _ h => h
  unfold g.seicheref07_GetTree at hD
  unfold c_seicheref07_GetTree
  refine x_seq ?_
  refine x_start (b := false) ?_
  refine x_mv' (y := V.sl true 34 []) rfl ?_
  refine x_mv' (show _ = (V.bool false) from rfl) ?_
  refine x_done ?_
  refine x_tN ?_
  refine x_seq ?_
  refine x_start (b := false) ?_
  refine x_mv' (nf_str h0) ?_
  obtain ⟨r9, hx10, hD⟩ := Option.bind_eq_some_iff.1 hD
  refine x_callF hC_seicheref01_Split (a := (p0)) (cons_eq (nf_of rfl (show _ = (V.str p0) from rfl)) rfl) hx10 fun v8 ov8 (hv8 : v8.nf = (V.tup [(V.sl false 1 (List.map V.str r9.1)), (V.bool r9.2)])) hov8 => ?_
  refine x_mv hv8 fun v11 hv11 => ?_
  refine x_ext hv11 (show _ = some (V.sl false 1 (List.map V.str r9.1)) from rfl) fun v12 hv12 => ?_
  refine x_ext hv11 (show _ = some (V.bool r9.2) from rfl) fun v13 hv13 => ?_
  refine x_mvo hv12 fun v14 ov14 hv14 hwv14 => ?_
  refine x_mv' (nf_bool hv13) ?_
  refine x_done ?_
  refine x_tN ?_
  refine x_seq ?_
  refine x_seq ?_
  refine x_start (b := false) ?_
  refine x_mv' (show _ = (V.bool r9.2) from rfl) ?_
  refine x_un (show _ = (V.bool r9.2) from rfl) (aun_not _) ?_
  refine x_mv' (show _ = (V.bool (!r9.2)) from rfl) ?_
  by_cases hp22 : r9.2 = true
  · rw [if_pos hp22] at hD
    refine x_gy (show _ = (V.bool (!r9.2)) from rfl) (bnot_t hp22) ?_
    refine x_mv hv14 fun v23 hv23 => ?_
    refine x_gy (show _ = (V.bool (!r9.2)) from rfl) (bnot_t hp22) ?_
    refine x_len hv23 ?_
    refine x_gy (show _ = (V.bool (!r9.2)) from rfl) (bnot_t hp22) ?_
    refine x_bin (show _ = (V.int .i64 ((r9.1.length : Nat) : Int)) from rfl) (show _ = (V.int .i64 3) from rfl) (b_rem.trans (if_neg (by decide))) ?_
    refine x_gy (show _ = (V.bool (!r9.2)) from rfl) (bnot_t hp22) ?_
    refine x_bin (show _ = (V.int .i64 (Int.tmod ((r9.1.length : Nat) : Int) 3)) from rfl) (show _ = (V.int .i64 0) from rfl) b_neq ?_
    refine x_pickf' (show _ = (V.bool (!r9.2)) from rfl) (bnot_t hp22) (show _ = (V.bool (!(decide ((Int.tmod ((r9.1.length : Nat) : Int) 3) = 0)))) from rfl) ?_
    refine x_done ?_
    refine x_tN ?_
    by_cases hp24 : (Int.tmod ((r9.1.length : Nat) : Int) 3) = 0
    · rw [if_pos hp24] at hD
      refine x_cf (show _ = (V.bool (!(decide ((Int.tmod ((r9.1.length : Nat) : Int) 3) = 0)))) from rfl) (bnot_t (decide_eq_true hp24)) ?_
      refine x_skip ?_
      refine x_tN ?_
      refine x_seq ?_
      refine x_start (b := false) ?_
      refine x_mv' (y := V.sl true 34 []) rfl ?_
      refine x_done ?_
      refine x_tN ?_
      refine x_seq ?_
      refine x_seq ?_
      refine x_start (b := false) ?_
      refine x_mv' (show _ = (V.int .i64 0) from rfl) ?_
      refine x_done ?_
      refine x_tN ?_
      refine x_block ?_
      refine ok.seicheref07_GetTree_l1 (t4_153 := r9.1) hC_seicheref01_Split hC_seicheref07_digest hC_seicheref07_GoodTree (fun s485 t6_473 h472 h472o hD => ?_) (fun _ hE => ?_) _ _ _ _ ?_ ?_ ?_ ?_ hD
      · refine x_bE ?_
        refine x_tN ?_
        refine x_seq ?_
        refine x_seq ?_
        refine x_start (b := false) ?_
        refine x_mv h472 fun v478 hv478 => ?_
        obtain ⟨r480, hx481, hD⟩ := Option.bind_eq_some_iff.1 hD
        refine x_callF hC_seicheref07_GoodTree (a := (t6_473)) (cons_eq hv478 rfl) hx481 fun v479 ov479 (hv479 : v479.nf = (V.bool r480)) hov479 => ?_
        refine x_un (nf_bool hv479) (aun_not _) ?_
        refine x_done ?_
        refine x_tN ?_
        by_cases hp482 : r480 = true
        · rw [if_pos hp482] at hD
          refine x_cf (show _ = (V.bool (!r480)) from rfl) (bnot_t hp482) ?_
          refine x_skip ?_
          refine x_tN ?_
          refine x_seq ?_
          refine x_start (b := false) ?_
          refine x_mvo h472 fun v483 ov483 hv483 hwv483 => ?_
          refine x_mvo hv483 fun v484 ov484 hv484 hwv484 => ?_
          refine x_mv' (show _ = (V.bool true) from rfl) ?_
          refine x_done ?_
          refine x_tN ?_
          refine x_retc ?_
          obtain rfl := Option.some.inj hD
          exact hR _ (ends_tup (rvs_cons (rv_t hv484) (rvs_cons (rv_t (nf_of rfl (show _ = (V.bool true) from rfl))) rvs_nil)) (by decide))
        · rw [if_neg hp482] at hD
          refine x_ct (show _ = (V.bool (!r480)) from rfl) (bnot_f (Bool.eq_false_iff.2 hp482)) ?_
          refine x_seq ?_
          refine x_start (b := false) ?_
          refine x_mv' (y := V.sl true 34 []) rfl ?_
          refine x_mv' (show _ = (V.bool false) from rfl) ?_
          refine x_done ?_
          refine x_tN ?_
          refine x_retc ?_
          refine x_tR ?_
          obtain rfl := Option.some.inj hD
          exact hR _ (ends_tup (rvs_cons (rv_t (show V.nf _ = (V.sl false 34 (List.map E.Entry [])) from rfl)) (rvs_cons (rv_t (nf_of rfl (show _ = (V.bool false) from rfl))) rvs_nil)) (by decide))
      · refine x_bR ?_; refine x_tR ?_; exact hR _ hE
      · exact hv14
      · exact (show V.nf _ = (V.sl false 34 (List.map E.Entry [])) from rfl)
      · exact (Or.inr ⟨34, rfl⟩)
      · exact (show _ = (V.int .i64 0) from rfl)
    · rw [if_neg hp24] at hD
      refine x_ct (show _ = (V.bool (!(decide ((Int.tmod ((r9.1.length : Nat) : Int) 3) = 0)))) from rfl) (bnot_f (decide_eq_false hp24)) ?_
      refine x_seq ?_
      refine x_start (b := false) ?_
      refine x_mv' (y := V.sl true 34 []) rfl ?_
      refine x_mv' (show _ = (V.bool false) from rfl) ?_
      refine x_done ?_
      refine x_tN ?_
      refine x_retc ?_
      refine x_tR ?_
      obtain rfl := Option.some.inj hD
      exact hR _ (ends_tup (rvs_cons (rv_t (show V.nf _ = (V.sl false 34 (List.map E.Entry [])) from rfl)) (rvs_cons (rv_t (nf_of rfl (show _ = (V.bool false) from rfl))) rvs_nil)) (by decide))
  · rw [if_neg hp22] at hD
    refine x_gn (show _ = (V.bool (!r9.2)) from rfl) (bnot_f (Bool.eq_false_iff.2 hp22)) ?_
    refine x_gn (show _ = (V.bool (!r9.2)) from rfl) (bnot_f (Bool.eq_false_iff.2 hp22)) ?_
    refine x_gn (show _ = (V.bool (!r9.2)) from rfl) (bnot_f (Bool.eq_false_iff.2 hp22)) ?_
    refine x_gn (show _ = (V.bool (!r9.2)) from rfl) (bnot_f (Bool.eq_false_iff.2 hp22)) ?_
    refine x_pickt' (show _ = (V.bool (!r9.2)) from rfl) (bnot_f (Bool.eq_false_iff.2 hp22)) (show _ = (V.bool true) from rfl) ?_
    refine x_done ?_
    refine x_tN ?_
    refine x_ct (show _ = (V.bool true) from rfl) rfl ?_
    refine x_seq ?_
    refine x_start (b := false) ?_
    refine x_mv' (y := V.sl true 34 []) rfl ?_
    refine x_mv' (show _ = (V.bool false) from rfl) ?_
    refine x_done ?_
    refine x_tN ?_
    refine x_retc ?_
    refine x_tR ?_
    obtain rfl := Option.some.inj hD
    exact hR _ (ends_tup (rvs_cons (rv_t (show V.nf _ = (V.sl false 34 (List.map E.Entry [])) from rfl)) (rvs_cons (rv_t (nf_of rfl (show _ = (V.bool false) from rfl))) rvs_nil)) (by decide))
def K.seicheref07_GetTree : FC := fc F.seicheref07_GetTree (fun _ => true) false (fun (a : Bytes) => [(V.str a)]) (fun (y : ((List T.Entry) × Bool)) => (V.tup [(V.sl false 34 (List.map E.Entry y.1)), (V.bool y.2)])) (fun a => g.seicheref07_GetTree a)
  (fun a => (cleanL_mk rfl rfl))
  (fun y => (cleanL_mk (E.LEntry_clean _) (cleanL_mk rfl rfl)))
  (fun a0 b0 h => by
    obtain ⟨h0, h⟩ := List.cons.inj h
    obtain rfl : a0 = b0 := V.str.inj h0
    rfl)
theorem H.seicheref07_GetTree (w : World) (hw : EnvOK w) : K.seicheref07_GetTree.Holds (cxD w) :=
  FC.holds_of (cs := [K.seicheref01_Split, K.seicheref07_digest, K.seicheref07_GoodTree]) (glD w) mixed cf_seicheref07_GetTree (fun _ _ ⟨_, _, h, _⟩ => by subst h; exact Nat.le_of_ble_eq_true rfl) fun v y ⟨a, r, hv, hD, hy⟩ => by
    subst hy
    exact ok.seicheref07_GetTree (specOf_calls (H.seicheref01_Split w hw) (fun _ _ ⟨_, _, h, _⟩ => by subst h; rfl)) (specOf_calls (H.seicheref07_digest w hw) (fun _ _ ⟨_, _, h, _⟩ => by subst h; rfl)) (specOf_calls (H.seicheref07_GoodTree w hw) (fun _ _ ⟨_, _, h, _⟩ => by subst h; rfl)) hv hD
theorem eq_Entry (a b : T.Entry) : flatEq ([(none, true)] ++ [(none, false)] ++ (repl 32 ((some .u8), true))) (C.Entry a) (C.Entry b) = some (decide (a = b)) := by
  have h := (flatEq_app (flatEq_app (flatEq_str1 a.Name b.Name) (flatEq_bool1 a.Tree b.Tree)) (flatEq_arr true a.Id b.Id))
  refine Eq.trans h (congrArg some ?_)
  cases a; cases b
  simp only [T.Entry.mk.injEq, Bool.decide_and, Bool.and_assoc]
def c_seicheref07_SameTree_l1 : ACode := (.seq (.region [
  ⟨(some 14), (.bin .lss .no (.tmp 13) (.tmp 12)), none, []⟩] false) (.seq (.cond (.tmp 14) .skip (.exit 0)) (.seq (.block 1 (.seq (.region [
  ⟨(some 15), (.mv (.tmp 13)), none, []⟩, 
  ⟨(some 5), (.mv (.tmp 15)), none, []⟩] false) (.seq (.region [
  ⟨(some 16), (.mv (.tmp 0)), none, []⟩, 
  ⟨(some 17), (.mv (.tmp 5)), none, []⟩, 
  ⟨(some 18), (.iaddr 34 (.tmp 16) (.tmp 17)), none, []⟩, 
  ⟨(some 19), (.load (some 34) (.tmp 18)), none, []⟩, 
  ⟨(some 20), (.mv (.tmp 1)), none, []⟩, 
  ⟨(some 21), (.mv (.tmp 5)), none, []⟩, 
  ⟨(some 22), (.iaddr 34 (.tmp 20) (.tmp 21)), none, []⟩, 
  ⟨(some 23), (.load (some 34) (.tmp 22)), none, []⟩, 
  ⟨(some 24), (.bin .neq (.flat ((none, true) :: (none, false) :: repl 32 ((some .u8), true))) (.tmp 19) (.tmp 23)), none, []⟩] true) (.cond (.tmp 24) (.seq (.region [
  ⟨(some 4), (.mv (.const (.bool false))), none, []⟩] false) .ret) .skip)))) (.region [
  ⟨(some 25), (.bin .add .no (.tmp 13) (.const (.int .i64 1))), none, []⟩, 
  ⟨(some 13), (.mv (.tmp 25)), none, []⟩] false))))
def c_seicheref07_SameTree : ACode := (.seq (.region [
  ⟨(some 4), (.mv (.const (.bool false))), none, []⟩] false) (.seq (.seq (.region [
  ⟨(some 6), (.mv (.tmp 0)), none, []⟩, 
  ⟨(some 7), (.len false (.tmp 6)), none, []⟩, 
  ⟨(some 8), (.mv (.tmp 1)), none, []⟩, 
  ⟨(some 9), (.len false (.tmp 8)), none, []⟩, 
  ⟨(some 10), (.bin .neq .no (.tmp 7) (.tmp 9)), none, []⟩] false) (.cond (.tmp 10) (.seq (.region [
  ⟨(some 4), (.mv (.const (.bool false))), none, []⟩] false) .ret) .skip)) (.seq (.seq (.region [
  ⟨(some 11), (.mv (.tmp 0)), none, []⟩, 
  ⟨(some 12), (.len false (.tmp 11)), none, []⟩, 
  ⟨(some 13), (.mv (.const (.int .i64 0))), none, []⟩] false) (.block 0 (.loop c_seicheref07_SameTree_l1))) (.seq (.region [
  ⟨(some 4), (.mv (.const (.bool true))), none, []⟩] false) .ret))))
theorem cf_seicheref07_SameTree : cFn Go.Proofs.Tryd.prog F.seicheref07_SameTree = some ⟨26, c_seicheref07_SameTree, [.t 4]⟩ := by kernel_rfl
def L.seicheref07_SameTree_l1 (t1_15 : (List T.Entry)) (k0 : Option Bool) : List T.Entry → Nat → Option Bool
  | [], k14 =>
    k0
  | a38 :: rest, k14 =>
    (at? t1_15 ((k14 : Nat) : Int)).bind fun a51 =>
    if a38 = a51 then
      L.seicheref07_SameTree_l1 t1_15 k0 rest (k14 + 1)
    else
      some false
theorem ok.seicheref07_SameTree_l1 {Γ : Abs.Spec} {gl : Glob} {Q : Ex → St → Prop} {r : Bool} {t1_15 : (List T.Entry)} {l13 : List T.Entry} {k0 : Option Bool}
    (hk0 : ∀ (s : St), k0 = some r → Q (.exit 0) s)
    (hR : ∀ s, EndsX [.t 4] false (V.bool r) s → Q .ret s)
    (hlen : l13.length ≤ Lim) : ∀ (rest : List T.Entry) (k14 : Nat) (s : St), l13.drop k14 = rest → k14 ≤ l13.length →
    ((s.tm 0).nf = V.sl false 34 (List.map E.Entry l13)) → (s.tm 12 = V.int .i64 ((l13.length : Nat) : Int)) → (s.tm 13 = V.int .i64 ((k14 : Nat) : Int)) → ((s.tm 1).nf = (V.sl false 34 (List.map E.Entry t1_15))) →
    L.seicheref07_SameTree_l1 t1_15 k0 rest k14 = some r → awp Γ gl (.loop c_seicheref07_SameTree_l1) Q s := by
  intro rest
  induction rest with
  | nil =>
    intro k14 s hdrop hkl hX hN hI h37 hD
    have hkz := drop_nil hdrop hkl
    have hp0 : ¬ (((k14 : Nat) : Int) < ((l13.length : Nat) : Int)) := by omega
    refine awp_roundK fun K hK => ?_
    rw [L.seicheref07_SameTree_l1] at hD
    refine x_seq ?_
    refine x_start (b := false) ?_
    refine x_bin hI hN b_lss ?_
    refine x_done ?_
    refine x_tN ?_
    refine x_seq ?_
    refine x_cf (show _ = (V.bool (decide (((k14 : Nat) : Int) < ((l13.length : Nat) : Int)))) from rfl) (decide_eq_false hp0) ?_
    refine x_exitc ?_
    refine x_tE ?_
    refine x_tE ?_
    refine hk0 _ hD
  | cons a38 rest ih =>
    intro k14 s hdrop hkl hX hN hI h37 hD
    obtain ⟨hlt, -, hget, hdrop1, -⟩ := drop_cons hdrop
    have hp1 : ((k14 : Nat) : Int) < ((l13.length : Nat) : Int) := by omega
    have hwk := wi_succ (k := k14) (by unfold Lim at hlen; omega)
    refine awp_roundK fun K hK => ?_
    rw [L.seicheref07_SameTree_l1] at hD
    refine x_seq ?_
    refine x_start (b := false) ?_
    refine x_bin hI hN b_lss ?_
    refine x_done ?_
    refine x_tN ?_
    refine x_seq ?_
    refine x_ct (show _ = (V.bool (decide (((k14 : Nat) : Int) < ((l13.length : Nat) : Int)))) from rfl) (decide_eq_true hp1) ?_
    refine x_skip ?_
    refine x_tN ?_
    refine x_seq ?_
    refine x_block ?_
    refine x_seq ?_
    refine x_start (b := false) ?_
    refine x_mv' hI ?_
    refine x_mv' (show _ = (V.int .i64 ((k14 : Nat) : Int)) from rfl) ?_
    refine x_done ?_
    refine x_tN ?_
    refine x_seq ?_
    refine x_start (b := true) ?_
    refine x_mv hX fun v47 hv47 => ?_
    refine x_mv' (show _ = (V.int .i64 ((k14 : Nat) : Int)) from rfl) ?_
    refine x_iaddr hv47 (show _ = (V.int .i64 ((k14 : Nat) : Int)) from rfl) (at_k hget) fun v48 (hv48 : v48.nf = V.el (C.Entry a38) 0) => ?_
    refine x_load_el hv48 (ld_Entry_0_34 a38) fun v49 hv49 => ?_
    refine x_mv h37 fun v50 hv50 => ?_
    refine x_mv' (show _ = (V.int .i64 ((k14 : Nat) : Int)) from rfl) ?_
    obtain ⟨a51, hx52, hD⟩ := Option.bind_eq_some_iff.1 hD
    refine x_iaddr hv50 (show _ = (V.int .i64 ((k14 : Nat) : Int)) from rfl) hx52 fun v53 (hv53 : v53.nf = V.el (C.Entry a51) 0) => ?_
    refine x_load_el hv53 (ld_Entry_0_34 a51) fun v54 hv54 => ?_
    refine x_fne hv49 hv54 (eq_Entry _ _) ?_
    refine x_done ?_
    refine x_tN ?_
    by_cases hp55 : a38 = a51
    · rw [if_pos hp55] at hD
      refine x_cf (show _ = (V.bool (!(decide (a38 = a51)))) from rfl) (bnot_t (decide_eq_true hp55)) ?_
      refine x_skip ?_
      refine x_bN ?_
      refine x_tN ?_
      refine x_start (b := false) ?_
      refine x_bin hI (show _ = (V.int .i64 1) from rfl) b_add ?_
      refine x_mv' (show _ = (V.int .i64 (wi (((k14 : Nat) : Int) + 1))) from rfl) ?_
      refine x_done ?_
      refine x_tN ?_
      refine hK _ ?_
      refine ih (k14 + 1) _ hdrop1 hlt ?_ ?_ ?_ ?_ hD
      · exact hX
      · exact hN
      · exact (Eq.trans (show _ = (V.int .i64 (wi (((k14 : Nat) : Int) + 1))) from rfl) (congrArg (V.int .i64) hwk))
      · exact h37
    · rw [if_neg hp55] at hD
      refine x_ct (show _ = (V.bool (!(decide (a38 = a51)))) from rfl) (bnot_f (decide_eq_false hp55)) ?_
      refine x_seq ?_
      refine x_start (b := false) ?_
      refine x_mv' (show _ = (V.bool false) from rfl) ?_
      refine x_done ?_
      refine x_tN ?_
      refine x_retc ?_
      refine x_bR ?_
      refine x_tR ?_
      refine x_tR ?_
      obtain rfl := Option.some.inj hD
      exact hR _ (ends_t (nf_of rfl (show _ = (V.bool false) from rfl)) (fun h => nomatch h))
def g.seicheref07_SameTree (p0 : (List T.Entry)) (p1 : (List T.Entry)) : Option Bool :=
  if ((p0.length : Nat) : Int) = ((p1.length : Nat) : Int) then
    if p0.length ≤ Lim then L.seicheref07_SameTree_l1 p1 (some true) p0 0 else none
  else
    some false
theorem ok.seicheref07_SameTree {Γ : Abs.Spec} {gl : Glob} {r : Bool} {p0 : (List T.Entry)} {p1 : (List T.Entry)} {v : List V}
    (hv : nfL v = [(V.sl false 34 (List.map E.Entry p0)), (V.sl false 34 (List.map E.Entry p1))]) (hD : g.seicheref07_SameTree p0 p1 = some r) : awp Γ gl c_seicheref07_SameTree (endQ [.t 4] false (V.bool r)) (St.init v) := by
  obtain ⟨v0, v, rfl, h0, hv⟩ := nfL_cons hv
  obtain ⟨v1, v, rfl, h1, hv⟩ := nfL_cons hv
  obtain rfl := nfL_nil hv
  have hR : ∀ s, EndsX [.t 4] false (V.bool r) s → endQ [.t 4] false (V.bool r) .ret s := fun _ h => h
  unfold g.seicheref07_SameTree at hD
  unfold c_seicheref07_SameTree
  refine x_seq ?_
  refine x_start (b := false) ?_
  refine x_mv' (show _ = (V.bool false) from rfl) ?_
  refine x_done ?_
  refine x_tN ?_
  refine x_seq ?_
  refine x_seq ?_
  refine x_start (b := false) ?_
  refine x_mv h0 fun v8 hv8 => ?_
  refine x_len hv8 ?_
  refine x_mv h1 fun v9 hv9 => ?_
  refine x_len hv9 ?_
  refine x_bin (show _ = (V.int .i64 ((p0.length : Nat) : Int)) from rfl) (show _ = (V.int .i64 ((p1.length : Nat) : Int)) from rfl) b_neq ?_
  refine x_done ?_
  refine x_tN ?_
  by_cases hp10 : ((p0.length : Nat) : Int) = ((p1.length : Nat) : Int)
  · rw [if_pos hp10] at hD
    refine x_cf (show _ = (V.bool (!(decide (((p0.length : Nat) : Int) = ((p1.length : Nat) : Int))))) from rfl) (bnot_t (decide_eq_true hp10)) ?_
    refine x_skip ?_
    refine x_tN ?_
    refine x_seq ?_
    refine x_seq ?_
    refine x_start (b := false) ?_
    refine x_mv h0 fun v12 hv12 => ?_
    refine x_len hv12 ?_
    refine x_mv' (show _ = (V.int .i64 0) from rfl) ?_
    refine x_done ?_
    refine x_tN ?_
    refine x_block ?_
    by_cases hlen57 : p0.length ≤ Lim
    · rw [if_pos hlen57] at hD
      refine ok.seicheref07_SameTree_l1 (t1_15 := p1) (l13 := p0) (fun s56 hD => ?_) (fun _ hE => ?_) hlen57 _ 0 _ rfl (Nat.zero_le _) ?_ ?_ ?_ ?_ hD
      · refine x_bE ?_
        refine x_tN ?_
        refine x_seq ?_
        refine x_start (b := false) ?_
        refine x_mv' (show _ = (V.bool true) from rfl) ?_
        refine x_done ?_
        refine x_tN ?_
        refine x_retc ?_
        obtain rfl := Option.some.inj hD
        exact hR _ (ends_t (nf_of rfl (show _ = (V.bool true) from rfl)) (fun h => nomatch h))
      · refine x_bR ?_; refine x_tR ?_; exact hR _ hE
      · exact h0
      · exact (show _ = (V.int .i64 ((p0.length : Nat) : Int)) from rfl)
      · exact (show _ = (V.int .i64 0) from rfl)
      · exact h1
    · rw [if_neg hlen57] at hD; cases hD
  · rw [if_neg hp10] at hD
    refine x_ct (show _ = (V.bool (!(decide (((p0.length : Nat) : Int) = ((p1.length : Nat) : Int))))) from rfl) (bnot_f (decide_eq_false hp10)) ?_
    refine x_seq ?_
    refine x_start (b := false) ?_
    refine x_mv' (show _ = (V.bool false) from rfl) ?_
    refine x_done ?_
    refine x_tN ?_
    refine x_retc ?_
    refine x_tR ?_
    obtain rfl := Option.some.inj hD
    exact hR _ (ends_t (nf_of rfl (show _ = (V.bool false) from rfl)) (fun h => nomatch h))
def K.seicheref07_SameTree : FC := fc F.seicheref07_SameTree (fun _ => true) false (fun (a : ((List T.Entry) × (List T.Entry))) => [(V.sl false 34 (List.map E.Entry a.1)), (V.sl false 34 (List.map E.Entry a.2))]) (fun (y : Bool) => (V.bool y)) (fun a => g.seicheref07_SameTree a.1 a.2)
  (fun a => (cleanL_mk (E.LEntry_clean _) (cleanL_mk (E.LEntry_clean _) rfl)))
  (fun y => rfl)
  (fun ⟨a0, a1⟩ ⟨b0, b1⟩ h => by
    obtain ⟨h0, h⟩ := List.cons.inj h
    obtain rfl : a0 = b0 := E.LEntry_inj h0
    obtain ⟨h0, h⟩ := List.cons.inj h
    obtain rfl : a1 = b1 := E.LEntry_inj h0
    rfl)
theorem H.seicheref07_SameTree (w : World) (_hw : EnvOK w) : K.seicheref07_SameTree.Holds (cxD w) :=
  FC.holds_of (cs := []) (glD w) mixed cf_seicheref07_SameTree (fun _ _ ⟨_, _, h, _⟩ => by subst h; exact Nat.le_of_ble_eq_true rfl) fun v y ⟨a, r, hv, hD, hy⟩ => by
    subst hy
    exact ok.seicheref07_SameTree hv hD
def c_seichelaw07_greatTree_l1 : ACode := (.seq (.region [
  ⟨(some 9), (.bin .lss .no (.tmp 8) (.tmp 7)), none, []⟩] false) (.seq (.cond (.tmp 9) .skip (.exit 0)) (.seq (.block 1 (.seq (.region [
  ⟨(some 10), (.iaddr 34 (.tmp 6) (.tmp 8)), none, []⟩, 
  ⟨(some 11), (.load (some 34) (.tmp 10)), none, []⟩, 
  ⟨(some 5), (.new ((.str []) :: (.bool false) :: repl 32 (.int .u8 0))), none, []⟩, 
  ⟨none, (.store 34 (.tmp 5) (.tmp 11)), none, []⟩] false) (.seq (.region [
  ⟨(some 12), (.mv (.tmp 3)), none, []⟩, 
  ⟨(some 13), (.faddr 0 (.tmp 5)), none, []⟩, 
  ⟨(some 14), (.load none (.tmp 13)), none, []⟩, 
  ⟨(some 15), (.len true (.tmp 14)), none, []⟩, 
  ⟨(some 16), (.bin .add .no (.tmp 12) (.tmp 15)), none, []⟩, 
  ⟨(some 3), (.mv (.tmp 16)), none, []⟩] false) (.seq (.region [
  ⟨(some 17), (.mv (.tmp 3)), none, []⟩, 
  ⟨(some 18), (.bin .gtr .no (.tmp 17) (.const (.int .i64 4096))), none, []⟩] false) (.cond (.tmp 18) (.seq (.region [
  ⟨(some 2), (.mv (.const (.bool true))), none, []⟩] false) .ret) .skip))))) (.region [
  ⟨(some 19), (.bin .add .no (.tmp 8) (.const (.int .i64 1))), none, []⟩, 
  ⟨(some 8), (.mv (.tmp 19)), none, []⟩] false))))
def c_seichelaw07_greatTree : ACode := (.seq (.region [
  ⟨(some 2), (.mv (.const (.bool false))), none, []⟩] false) (.seq (.region [
  ⟨(some 3), (.mv (.const (.int .i64 0))), none, []⟩] false) (.seq (.seq (.region [
  ⟨(some 6), (.mv (.tmp 0)), none, []⟩, 
  ⟨(some 7), (.len false (.tmp 6)), none, []⟩, 
  ⟨(some 8), (.mv (.const (.int .i64 0))), none, []⟩] false) (.block 0 (.loop c_seichelaw07_greatTree_l1))) (.seq (.region [
  ⟨(some 20), (.mv (.tmp 0)), none, []⟩, 
  ⟨(some 21), (.len false (.tmp 20)), none, []⟩, 
  ⟨(some 22), (.bin .gtr .no (.tmp 21) (.const (.int .i64 60))), none, []⟩, 
  ⟨(some 2), (.mv (.tmp 22)), none, []⟩] false) .ret))))
theorem cf_seichelaw07_greatTree : cFn Go.Proofs.Tryd.prog F.seichelaw07_greatTree = some ⟨23, c_seichelaw07_greatTree, [.t 2]⟩ := by kernel_rfl
def L.seichelaw07_greatTree_l1 (k0 : Option Bool) : List T.Entry → Int → Option Bool
  | [], t3_46 =>
    k0
  | a48 :: rest, t3_46 =>
    if 4096 < (wi (t3_46 + ((a48.Name.length : Nat) : Int))) then
      some true
    else
      L.seichelaw07_greatTree_l1 k0 rest (wi (t3_46 + ((a48.Name.length : Nat) : Int)))
theorem ok.seichelaw07_greatTree_l1 {Γ : Abs.Spec} {gl : Glob} {Q : Ex → St → Prop} {r : Bool} {l25 : List T.Entry} {k0 : Option Bool}
    (hk0 : ∀ (s : St), ((s.tm 0).nf = (V.sl false 34 (List.map E.Entry l25))) → k0 = some r → Q (.exit 0) s)
    (hR : ∀ s, EndsX [.t 2] false (V.bool r) s → Q .ret s)
    (hlen : l25.length ≤ Lim) : ∀ (rest : List T.Entry) (k26 : Nat) (s : St) (t3_46 : Int), l25.drop k26 = rest → k26 ≤ l25.length →
    ((s.tm 6).nf = V.sl false 34 (List.map E.Entry l25)) → (s.tm 7 = V.int .i64 ((l25.length : Nat) : Int)) → (s.tm 8 = V.int .i64 ((k26 : Nat) : Int)) → ((s.tm 0).nf = (V.sl false 34 (List.map E.Entry l25))) → (s.tm 3 = (V.int .i64 t3_46)) →
    L.seichelaw07_greatTree_l1 k0 rest t3_46 = some r → awp Γ gl (.loop c_seichelaw07_greatTree_l1) Q s := by
  intro rest
  induction rest with
  | nil =>
    intro k26 s t3_46 hdrop hkl hX hN hI h44 h45 hD
    have hkz := drop_nil hdrop hkl
    have hp0 : ¬ (((k26 : Nat) : Int) < ((l25.length : Nat) : Int)) := by omega
    refine awp_roundK fun K hK => ?_
    rw [L.seichelaw07_greatTree_l1] at hD
    refine x_seq ?_
    refine x_start (b := false) ?_
    refine x_bin hI hN b_lss ?_
    refine x_done ?_
    refine x_tN ?_
    refine x_seq ?_
    refine x_cf (show _ = (V.bool (decide (((k26 : Nat) : Int) < ((l25.length : Nat) : Int)))) from rfl) (decide_eq_false hp0) ?_
    refine x_exitc ?_
    refine x_tE ?_
    refine x_tE ?_
    refine hk0 _ ?_ hD
    · exact h44
  | cons a48 rest ih =>
    intro k26 s t3_46 hdrop hkl hX hN hI h44 h45 hD
    obtain ⟨hlt, -, hget, hdrop1, -⟩ := drop_cons hdrop
    have hp1 : ((k26 : Nat) : Int) < ((l25.length : Nat) : Int) := by omega
    have hwk := wi_succ (k := k26) (by unfold Lim at hlen; omega)
    refine awp_roundK fun K hK => ?_
    rw [L.seichelaw07_greatTree_l1] at hD
    refine x_seq ?_
    refine x_start (b := false) ?_
    refine x_bin hI hN b_lss ?_
    refine x_done ?_
    refine x_tN ?_
    refine x_seq ?_
    refine x_ct (show _ = (V.bool (decide (((k26 : Nat) : Int) < ((l25.length : Nat) : Int)))) from rfl) (decide_eq_true hp1) ?_
    refine x_skip ?_
    refine x_tN ?_
    refine x_seq ?_
    refine x_block ?_
    refine x_seq ?_
    refine x_start (b := false) ?_
    refine x_iaddr hX hI (at_k hget) fun v53 (hv53 : v53.nf = V.el (C.Entry a48) 0) => ?_
    refine x_load_el hv53 (ld_Entry_0_34 a48) fun v54 hv54 => ?_
    refine x_new (l := (C.Entry ({ Name := [], Tree := false, Id := (Arr.zero 32) } : T.Entry))) (by kernel_rfl) fun i55 hidi55 hci55 => ?_
    refine x_store (ws := (C.Entry a48)) (l' := (C.Entry a48)) (show _ = (V.ptr i55 0) from rfl) hci55 (cells_of rfl hv54) ⟨(C.Entry_len a48), (C.Entry_sc a48), le_len (C.Entry_len ({ Name := [], Tree := false, Id := (Arr.zero 32) } : T.Entry)) (by decide)⟩ (setAt_full (Eq.trans (C.Entry_len a48) (Eq.symm (C.Entry_len ({ Name := [], Tree := false, Id := (Arr.zero 32) } : T.Entry))))) fun csv56 ysv56 hcsv56 hnv56 hcv56 hsv56 => ?_
    refine x_done ?_
    refine x_tN ?_
    refine x_seq ?_
    refine x_start (b := false) ?_
    refine x_mv' h45 ?_
    refine x_faddr (show _ = (V.ptr i55 0) from rfl) ?_
    refine x_load (show _ = (V.ptr i55 0) from rfl) hcv56 (ld_Entry_0_n a48) fun v58 hv58 => ?_
    refine x_lens (nf_str hv58) ?_
    refine x_bin (show _ = (V.int .i64 t3_46) from rfl) (show _ = (V.int .i64 ((a48.Name.length : Nat) : Int)) from rfl) b_add ?_
    refine x_mv' (show _ = (V.int .i64 (wi (t3_46 + ((a48.Name.length : Nat) : Int)))) from rfl) ?_
    refine x_done ?_
    refine x_tN ?_
    refine x_seq ?_
    refine x_start (b := false) ?_
    refine x_mv' (show _ = (V.int .i64 (wi (t3_46 + ((a48.Name.length : Nat) : Int)))) from rfl) ?_
    refine x_bin (show _ = (V.int .i64 (wi (t3_46 + ((a48.Name.length : Nat) : Int)))) from rfl) (show _ = (V.int .i64 4096) from rfl) b_gtr ?_
    refine x_done ?_
    refine x_tN ?_
    by_cases hp59 : 4096 < (wi (t3_46 + ((a48.Name.length : Nat) : Int)))
    · rw [if_pos hp59] at hD
      refine x_ct (show _ = (V.bool (decide (4096 < (wi (t3_46 + ((a48.Name.length : Nat) : Int)))))) from rfl) (decide_eq_true hp59) ?_
      refine x_seq ?_
      refine x_start (b := false) ?_
      refine x_mv' (show _ = (V.bool true) from rfl) ?_
      refine x_done ?_
      refine x_tN ?_
      refine x_retc ?_
      refine x_bR ?_
      refine x_tR ?_
      refine x_tR ?_
      obtain rfl := Option.some.inj hD
      exact hR _ (ends_t (nf_of rfl (show _ = (V.bool true) from rfl)) (fun h => nomatch h))
    · rw [if_neg hp59] at hD
      refine x_cf (show _ = (V.bool (decide (4096 < (wi (t3_46 + ((a48.Name.length : Nat) : Int)))))) from rfl) (decide_eq_false hp59) ?_
      refine x_skip ?_
      refine x_bN ?_
      refine x_tN ?_
      refine x_start (b := false) ?_
      refine x_bin hI (show _ = (V.int .i64 1) from rfl) b_add ?_
      refine x_mv' (show _ = (V.int .i64 (wi (((k26 : Nat) : Int) + 1))) from rfl) ?_
      refine x_done ?_
      refine x_tN ?_
      refine hK _ ?_
      refine ih (k26 + 1) _ _ hdrop1 hlt ?_ ?_ ?_ ?_ ?_ hD
      · exact hX
      · exact hN
      · exact (Eq.trans (show _ = (V.int .i64 (wi (((k26 : Nat) : Int) + 1))) from rfl) (congrArg (V.int .i64) hwk))
      · exact h44
      · exact (show _ = (V.int .i64 (wi (t3_46 + ((a48.Name.length : Nat) : Int)))) from rfl)
def g.seichelaw07_greatTree (p0 : (List T.Entry)) : Option Bool :=
  if p0.length ≤ Lim then L.seichelaw07_greatTree_l1 (some (decide (60 < ((p0.length : Nat) : Int)))) p0 0 else none
theorem ok.seichelaw07_greatTree {Γ : Abs.Spec} {gl : Glob} {r : Bool} {p0 : (List T.Entry)} {v : List V}
    (hv : nfL v = [(V.sl false 34 (List.map E.Entry p0))]) (hD : g.seichelaw07_greatTree p0 = some r) : awp Γ gl c_seichelaw07_greatTree (endQ [.t 2] false (V.bool r)) (St.init v) := by
  obtain ⟨v0, v, rfl, h0, hv⟩ := nfL_cons hv
  obtain rfl := nfL_nil hv
  have hR : ∀ s, EndsX [.t 2] false (V.bool r) s → endQ [.t 2] false (V.bool r) .ret s := fun _ h => h
  unfold g.seichelaw07_greatTree at hD
  unfold c_seichelaw07_greatTree
  refine x_seq ?_
  refine x_start (b := false) ?_
  refine x_mv' (show _ = (V.bool false) from rfl) ?_
  refine x_done ?_
  refine x_tN ?_
  refine x_seq ?_
  refine x_start (b := false) ?_
  refine x_mv' (show _ = (V.int .i64 0) from rfl) ?_
  refine x_done ?_
  refine x_tN ?_
  refine x_seq ?_
  refine x_seq ?_
  refine x_start (b := false) ?_
  refine x_mv h0 fun v24 hv24 => ?_
  refine x_len hv24 ?_
  refine x_mv' (show _ = (V.int .i64 0) from rfl) ?_
  refine x_done ?_
  refine x_tN ?_
  refine x_block ?_
  by_cases hlen65 : p0.length ≤ Lim
  · rw [if_pos hlen65] at hD
    refine ok.seichelaw07_greatTree_l1 (l25 := p0) (fun s64 h62 hD => ?_) (fun _ hE => ?_) hlen65 _ 0 _ _ rfl (Nat.zero_le _) ?_ ?_ ?_ ?_ ?_ hD
    · refine x_bE ?_
      refine x_tN ?_
      refine x_seq ?_
      refine x_start (b := false) ?_
      refine x_mv h62 fun v63 hv63 => ?_
      refine x_len hv63 ?_
      refine x_bin (show _ = (V.int .i64 ((p0.length : Nat) : Int)) from rfl) (show _ = (V.int .i64 60) from rfl) b_gtr ?_
      refine x_mv' (show _ = (V.bool (decide (60 < ((p0.length : Nat) : Int)))) from rfl) ?_
      refine x_done ?_
      refine x_tN ?_
      refine x_retc ?_
      obtain rfl := Option.some.inj hD
      exact hR _ (ends_t (nf_of rfl (show _ = (V.bool (decide (60 < ((p0.length : Nat) : Int)))) from rfl)) (fun h => nomatch h))
    · refine x_bR ?_; refine x_tR ?_; exact hR _ hE
    · exact hv24
    · exact (show _ = (V.int .i64 ((p0.length : Nat) : Int)) from rfl)
    · exact (show _ = (V.int .i64 0) from rfl)
    · exact h0
    · exact (show _ = (V.int .i64 0) from rfl)
  · rw [if_neg hlen65] at hD; cases hD
def K.seichelaw07_greatTree : FC := fc F.seichelaw07_greatTree (fun _ => true) false (fun (a : (List T.Entry)) => [(V.sl false 34 (List.map E.Entry a))]) (fun (y : Bool) => (V.bool y)) (fun a => g.seichelaw07_greatTree a)
  (fun a => (cleanL_mk (E.LEntry_clean _) rfl))
  (fun y => rfl)
  (fun a0 b0 h => by
    obtain ⟨h0, h⟩ := List.cons.inj h
    obtain rfl : a0 = b0 := E.LEntry_inj h0
    rfl)
theorem H.seichelaw07_greatTree (w : World) (_hw : EnvOK w) : K.seichelaw07_greatTree.Holds (cxD w) :=
  FC.holds_of (cs := []) (glD w) mixed cf_seichelaw07_greatTree (fun _ _ ⟨_, _, h, _⟩ => by subst h; exact Nat.le_of_ble_eq_true rfl) fun v y ⟨a, r, hv, hD, hy⟩ => by
    subst hy
    exact ok.seichelaw07_greatTree hv hD
def E.LA32_u8 (l : (List (Arr 32))) : V := .sl false 32 (l.map E.A32_u8)
theorem E.LA32_u8_clean (l : (List (Arr 32))) : (E.LA32_u8 l).clean = true := cleanL_map (fun x => E.A32_u8_clean x) l
theorem E.LA32_u8_inj {a b : (List (Arr 32))} (h : E.LA32_u8 a = E.LA32_u8 b) : a = b := by
  simp only [E.LA32_u8, V.sl.injEq, true_and] at h
  exact map_inj (fun x y h => E.A32_u8_inj h) h
theorem E.LA32_u8_fit (l : (List (Arr 32))) : (E.LA32_u8 l).cells.length = 1 ∧ (E.LA32_u8 l).cells.all V.sc = true := ⟨rfl, rfl⟩
structure T.Commit where
  Root : (Arr 32)
  Parents : (List (Arr 32))
  Note : Bytes
  deriving DecidableEq
def C.Commit (x : T.Commit) : List V := (encB (x.Root).1) ++ [(V.sl false 32 (List.map E.A32_u8 x.Parents))] ++ [(V.str x.Note)]
def E.Commit (x : T.Commit) : V := .agg (C.Commit x)
theorem C.Commit_len (x : T.Commit) : (C.Commit x).length = 34 := (len_app (len_app (enc_len x.Root) (show [(V.sl false 32 (List.map E.A32_u8 x.Parents))].length = 1 from rfl)) (show [(V.str x.Note)].length = 1 from rfl))
theorem C.Commit_sc (x : T.Commit) : (C.Commit x).all V.sc = true := (sc_app (sc_app (encB_sc x.Root.1) rfl) rfl)
theorem E.Commit_clean (x : T.Commit) : (E.Commit x).clean = true := (clean_app (clean_app (cleanL_encB _) (cleanL_mk (E.LA32_u8_clean x.Parents) rfl)) (cleanL_mk rfl rfl))
theorem E.Commit_inj {a b : T.Commit} (h : E.Commit a = E.Commit b) : a = b := by
  obtain ⟨a0, a1, a2⟩ := a
  obtain ⟨b0, b1, b2⟩ := b
  simp only [E.Commit, V.agg.injEq] at h
  dsimp only [C.Commit] at h
  have h2 := append_inj_r h (by rfl)
  have h := append_inj_l h (by rfl)
  have e2 : a2 = b2 := V.str.inj (List.cons.inj h2).1
  have h1 := append_inj_r h (by rfl)
  have h := append_inj_l h (by rfl)
  have e1 : a1 = b1 := E.LA32_u8_inj (List.cons.inj h1).1
  have h0 := h
  have e0 : a0 = b0 := Subtype.ext (encB_inj h0)
  subst e0; subst e1; subst e2; rfl
theorem E.Commit_fit (x : T.Commit) : (E.Commit x).cells.length = 34 ∧ (E.Commit x).cells.all V.sc = true := ⟨C.Commit_len x, C.Commit_sc x⟩
theorem ld_Commit_33_n (x : T.Commit) : ldCells none (C.Commit x) 33 = some (V.str x.Note) := by
  unfold C.Commit
  rw [ld_right 33 (len_app (enc_len x.Root) (show [(V.sl false 32 (List.map E.A32_u8 x.Parents))].length = 1 from rfl))]
  exact (show _ = some (V.str x.Note) from rfl)
theorem ld_Commit_32_n (x : T.Commit) : ldCells none (C.Commit x) 32 = some (V.sl false 32 (List.map E.A32_u8 x.Parents)) := by
  unfold C.Commit
  rw [ld_left (le_len (len_app (enc_len x.Root) (show [(V.sl false 32 (List.map E.A32_u8 x.Parents))].length = 1 from rfl)) (by decide))]
  rw [ld_right 32 (enc_len x.Root)]
  exact (show _ = some (V.sl false 32 (List.map E.A32_u8 x.Parents)) from rfl)
def c_object_GoodCommit : ACode := (.seq (.region [
  ⟨(some 1), (.box (.tmp 0)), none, []⟩, 
  ⟨(some 2), (.mv (.const (.bool false))), none, []⟩] false) (.seq (.region [
  ⟨(some 3), (.faddr 33 (.tmp 1)), none, []⟩, 
  ⟨(some 4), (.load none (.tmp 3)), none, []⟩, 
  ⟨(some 5), (.len true (.tmp 4)), none, []⟩, 
  ⟨(some 6), (.bin .leq .no (.tmp 5) (.const (.int .i64 64))), none, []⟩, 
  ⟨(some 7), (.mv (.tmp 6)), none, []⟩, 
  ⟨(some 8), (.faddr 32 (.tmp 1)), (some (7, true)), []⟩, 
  ⟨(some 9), (.load none (.tmp 8)), (some (7, true)), []⟩, 
  ⟨(some 10), (.len false (.tmp 9)), (some (7, true)), []⟩, 
  ⟨(some 11), (.bin .leq .no (.tmp 10) (.const (.int .i64 2))), (some (7, true)), []⟩, 
  ⟨(some 12), (.pick (.tmp 7) (.tmp 11) (.const (.bool false))), none, []⟩, 
  ⟨(some 2), (.mv (.tmp 12)), none, []⟩] false) .ret))
theorem cf_object_GoodCommit : cFn Go.Proofs.Tryd.prog F.object_GoodCommit = some ⟨13, c_object_GoodCommit, [.t 2]⟩ := by kernel_rfl
def g.object_GoodCommit (p0 : T.Commit) : Option Bool :=
  if ((p0.Note.length : Nat) : Int) ≤ 64 then
    some (decide (((p0.Parents.length : Nat) : Int) ≤ 2))
  else
    some false
theorem ok.object_GoodCommit {Γ : Abs.Spec} {gl : Glob} {r : Bool} {p0 : T.Commit} {v : List V}
    (hv : nfL v = [(V.agg (C.Commit p0))]) (hD : g.object_GoodCommit p0 = some r) : awp Γ gl c_object_GoodCommit (endQ [.t 2] false (V.bool r)) (St.init v) := by
  obtain ⟨v0, v, rfl, h0, hv⟩ := nfL_cons hv
  obtain rfl := nfL_nil hv
  have hR : ∀ s, EndsX [.t 2] false (V.bool r) s → endQ [.t 2] false (V.bool r) .ret s := fun _ h => h
  unfold g.object_GoodCommit at hD
  unfold c_object_GoodCommit
  refine x_seq ?_
  refine x_start (b := false) ?_
  refine x_box (l := (C.Commit p0)) (cells_of rfl h0) (C.Commit_sc p0) fun csi2 i2 hidi2 hcsi2 hci2 => ?_
  refine x_mv' (show _ = (V.bool false) from rfl) ?_
  refine x_done ?_
  refine x_tN ?_
  refine x_seq ?_
  refine x_start (b := false) ?_
  refine x_faddr (show _ = (V.ptr i2 0) from rfl) ?_
  refine x_load (show _ = (V.ptr i2 33) from rfl) hci2 (ld_Commit_33_n p0) fun v3 hv3 => ?_
  refine x_lens (nf_str hv3) ?_
  refine x_bin (show _ = (V.int .i64 ((p0.Note.length : Nat) : Int)) from rfl) (show _ = (V.int .i64 64) from rfl) b_leq ?_
  refine x_mv' (show _ = (V.bool (decide (((p0.Note.length : Nat) : Int) ≤ 64))) from rfl) ?_
  by_cases hp4 : ((p0.Note.length : Nat) : Int) ≤ 64
  · rw [if_pos hp4] at hD
    refine x_gy (show _ = (V.bool (decide (((p0.Note.length : Nat) : Int) ≤ 64))) from rfl) (decide_eq_true hp4) ?_
    refine x_faddr (show _ = (V.ptr i2 0) from rfl) ?_
    refine x_gy (show _ = (V.bool (decide (((p0.Note.length : Nat) : Int) ≤ 64))) from rfl) (decide_eq_true hp4) ?_
    refine x_load (show _ = (V.ptr i2 32) from rfl) hci2 (ld_Commit_32_n p0) fun v5 hv5 => ?_
    refine x_gy (show _ = (V.bool (decide (((p0.Note.length : Nat) : Int) ≤ 64))) from rfl) (decide_eq_true hp4) ?_
    refine x_len hv5 ?_
    refine x_gy (show _ = (V.bool (decide (((p0.Note.length : Nat) : Int) ≤ 64))) from rfl) (decide_eq_true hp4) ?_
    refine x_bin (show _ = (V.int .i64 ((p0.Parents.length : Nat) : Int)) from rfl) (show _ = (V.int .i64 2) from rfl) b_leq ?_
    refine x_pickt' (show _ = (V.bool (decide (((p0.Note.length : Nat) : Int) ≤ 64))) from rfl) (decide_eq_true hp4) (show _ = (V.bool (decide (((p0.Parents.length : Nat) : Int) ≤ 2))) from rfl) ?_
    refine x_mv' (show _ = (V.bool (decide (((p0.Parents.length : Nat) : Int) ≤ 2))) from rfl) ?_
    refine x_done ?_
    refine x_tN ?_
    refine x_retc ?_
    obtain rfl := Option.some.inj hD
    exact hR _ (ends_t (nf_of rfl (show _ = (V.bool (decide (((p0.Parents.length : Nat) : Int) ≤ 2))) from rfl)) (fun h => nomatch h))
  · rw [if_neg hp4] at hD
    refine x_gn (show _ = (V.bool (decide (((p0.Note.length : Nat) : Int) ≤ 64))) from rfl) (decide_eq_false hp4) ?_
    refine x_gn (show _ = (V.bool (decide (((p0.Note.length : Nat) : Int) ≤ 64))) from rfl) (decide_eq_false hp4) ?_
    refine x_gn (show _ = (V.bool (decide (((p0.Note.length : Nat) : Int) ≤ 64))) from rfl) (decide_eq_false hp4) ?_
    refine x_gn (show _ = (V.bool (decide (((p0.Note.length : Nat) : Int) ≤ 64))) from rfl) (decide_eq_false hp4) ?_
    refine x_pickf' (show _ = (V.bool (decide (((p0.Note.length : Nat) : Int) ≤ 64))) from rfl) (decide_eq_false hp4) (show _ = (V.bool false) from rfl) ?_
    refine x_mv' (show _ = (V.bool false) from rfl) ?_
    refine x_done ?_
    refine x_tN ?_
    refine x_retc ?_
    obtain rfl := Option.some.inj hD
    exact hR _ (ends_t (nf_of rfl (show _ = (V.bool false) from rfl)) (fun h => nomatch h))
def K.object_GoodCommit : FC := fc F.object_GoodCommit (fun _ => true) false (fun (a : T.Commit) => [(V.agg (C.Commit a))]) (fun (y : Bool) => (V.bool y)) (fun a => g.object_GoodCommit a)
  (fun a => (cleanL_mk (E.Commit_clean _) rfl))
  (fun y => rfl)
  (fun a0 b0 h => by
    obtain ⟨h0, h⟩ := List.cons.inj h
    obtain rfl : a0 = b0 := E.Commit_inj h0
    rfl)
theorem H.object_GoodCommit (w : World) (_hw : EnvOK w) : K.object_GoodCommit.Holds (cxD w) :=
  FC.holds_of (cs := []) (glD w) mixed cf_object_GoodCommit (fun _ _ ⟨_, _, h, _⟩ => by subst h; exact Nat.le_of_ble_eq_true rfl) fun v y ⟨a, r, hv, hD, hy⟩ => by
    subst hy
    exact ok.object_GoodCommit hv hD
def c_seichelaw07_alive : ACode := (.seq (.region [
  ⟨(some 0), (.mv (.const (.bool false))), none, []⟩] false) (.seq (.region [
  ⟨(some 6), (.call F.object_PutTree [(.const (.sl true 34 []))]), none, []⟩, 
  ⟨(some 5), (.mv (.tmp 6)), none, []⟩, 
  ⟨(some 7), (.ext (.tmp 5) 0), none, []⟩, 
  ⟨(some 8), (.ext (.tmp 5) 1), none, []⟩, 
  ⟨(some 1), (.mv (.tmp 7)), none, []⟩, 
  ⟨(some 2), (.mv (.tmp 8)), none, []⟩] false) (.seq (.region [
  ⟨(some 10), (.call F.object_GetTree [(.const (.str [120]))]), none, []⟩, 
  ⟨(some 9), (.mv (.tmp 10)), none, []⟩, 
  ⟨(some 11), (.ext (.tmp 9) 0), none, []⟩, 
  ⟨(some 12), (.ext (.tmp 9) 1), none, []⟩, 
  ⟨(some 3), (.mvo 11), none, []⟩, 
  ⟨(some 4), (.mv (.tmp 12)), none, []⟩] false) (.seq (.region [
  ⟨(some 13), (.mv (.tmp 2)), none, []⟩, 
  ⟨(some 14), (.bin .eql .no (.tmp 13) (.const (.int .i64 0))), none, []⟩, 
  ⟨(some 15), (.mv (.tmp 14)), none, []⟩, 
  ⟨(some 16), (.mv (.tmp 1)), (some (15, true)), []⟩, 
  ⟨(some 17), (.len true (.tmp 16)), (some (15, true)), []⟩, 
  ⟨(some 18), (.bin .eql .no (.tmp 17) (.const (.int .i64 8))), (some (15, true)), []⟩, 
  ⟨(some 19), (.pick (.tmp 15) (.tmp 18) (.const (.bool false))), none, []⟩, 
  ⟨(some 20), (.mv (.tmp 19)), none, []⟩, 
  ⟨(some 21), (.mv (.tmp 4)), (some (20, true)), []⟩, 
  ⟨(some 22), (.bin .eql .no (.tmp 21) (.const (.int .i64 4))), (some (20, true)), []⟩, 
  ⟨(some 23), (.pick (.tmp 20) (.tmp 22) (.const (.bool false))), none, []⟩, 
  ⟨(some 24), (.mv (.tmp 23)), none, []⟩, 
  ⟨(some 25), (.build [(.int .u8 0), (.int .u8 0), (.int .u8 0), (.int .u8 0), (.int .u8 0), (.int .u8 0), (.int .u8 0), (.int .u8 0), (.int .u8 0), (.int .u8 0), (.int .u8 0), (.int .u8 0), (.int .u8 0), (.int .u8 0), (.int .u8 0), (.int .u8 0), (.int .u8 0), (.int .u8 0), (.int .u8 0), (.int .u8 0), (.int .u8 0), (.int .u8 0), (.int .u8 0), (.int .u8 0), (.int .u8 0), (.int .u8 0), (.int .u8 0), (.int .u8 0), (.int .u8 0), (.int .u8 0), (.int .u8 0), (.int .u8 0), (.sl true 32 []), (.str [])] []), (some (24, true)), []⟩, 
  ⟨(some 26), (.call F.object_GoodCommit [(.tmp 25)]), (some (24, true)), []⟩, 
  ⟨(some 27), (.pick (.tmp 24) (.tmp 26) (.const (.bool false))), none, []⟩, 
  ⟨(some 0), (.mv (.tmp 27)), none, []⟩] false) .ret))))
theorem cf_seichelaw07_alive : cFn Go.Proofs.Tryd.prog F.seichelaw07_alive = some ⟨28, c_seichelaw07_alive, [.t 0]⟩ := by kernel_rfl
def g.seichelaw07_alive : Option Bool :=
  (g.object_PutTree []).bind fun r8 =>
  (g.object_GetTree ([120] : Bytes)).bind fun r21 =>
  if r8.2 = 0 then
    if ((r8.1.length : Nat) : Int) = 8 then
      if r21.2 = 4 then
        (g.object_GoodCommit ({ Root := (Arr.zero 32), Parents := [], Note := [] } : T.Commit)).bind fun r32 =>
        some r32
      else
        some false
    else
      some false
  else
    some false
theorem ok.seichelaw07_alive {Γ : Abs.Spec} {gl : Glob} (hC_object_PutTree : CallsX Γ K.object_PutTree) (hC_object_GetTree : CallsX Γ K.object_GetTree) (hC_object_GoodCommit : CallsX Γ K.object_GoodCommit) {r : Bool} {v : List V}
    (hv : nfL v = []) (hD : g.seichelaw07_alive = some r) : awp Γ gl c_seichelaw07_alive (endQ [.t 0] false (V.bool r)) (St.init v) := by
  obtain rfl := nfL_nil hv
  have hR : ∀ s, EndsX [.t 0] false (V.bool r) s → endQ [.t 0] false (V.bool r) .ret s := fun _ h => h
  unfold g.seichelaw07_alive at hD
  unfold c_seichelaw07_alive
  refine x_seq ?_
  refine x_start (b := false) ?_
  refine x_mv' (show _ = (V.bool false) from rfl) ?_
  refine x_done ?_
  refine x_tN ?_
  refine x_seq ?_
  refine x_start (b := false) ?_
  obtain ⟨r8, hx9, hD⟩ := Option.bind_eq_some_iff.1 hD
  refine x_callF hC_object_PutTree (a := ([])) (cons_eq (show V.nf _ = (V.sl false 34 (List.map E.Entry [])) from rfl) rfl) hx9 fun v7 ov7 (hv7 : v7.nf = (V.tup [(V.str r8.1), (V.int .i64 r8.2)])) hov7 => ?_
  refine x_mv hv7 fun v10 hv10 => ?_
  refine x_ext hv10 (show _ = some (V.str r8.1) from rfl) fun v11 hv11 => ?_
  refine x_ext hv10 (show _ = some (V.int .i64 r8.2) from rfl) fun v12 hv12 => ?_
  refine x_mv' (nf_str hv11) ?_
  refine x_mv' (nf_int hv12) ?_
  refine x_done ?_
  refine x_tN ?_
  refine x_seq ?_
  refine x_start (b := false) ?_
  obtain ⟨r21, hx22, hD⟩ := Option.bind_eq_some_iff.1 hD
  refine x_callF hC_object_GetTree (a := (([120] : Bytes))) (cons_eq (nf_of rfl (show _ = (V.str ([120] : Bytes)) from rfl)) rfl) hx22 fun v20 ov20 (hv20 : v20.nf = (V.tup [(V.sl false 34 (List.map E.Entry r21.1)), (V.int .i64 r21.2)])) hov20 => ?_
  refine x_mv hv20 fun v23 hv23 => ?_
  refine x_ext hv23 (show _ = some (V.sl false 34 (List.map E.Entry r21.1)) from rfl) fun v24 hv24 => ?_
  refine x_ext hv23 (show _ = some (V.int .i64 r21.2) from rfl) fun v25 hv25 => ?_
  refine x_mvo hv24 fun v26 ov26 hv26 hwv26 => ?_
  refine x_mv' (nf_int hv25) ?_
  refine x_done ?_
  refine x_tN ?_
  refine x_seq ?_
  refine x_start (b := false) ?_
  refine x_mv' (show _ = (V.int .i64 r8.2) from rfl) ?_
  refine x_bin (show _ = (V.int .i64 r8.2) from rfl) (show _ = (V.int .i64 0) from rfl) b_eql ?_
  refine x_mv' (show _ = (V.bool (decide (r8.2 = 0))) from rfl) ?_
  by_cases hp27 : r8.2 = 0
  · rw [if_pos hp27] at hD
    refine x_gy (show _ = (V.bool (decide (r8.2 = 0))) from rfl) (decide_eq_true hp27) ?_
    refine x_mv' (show _ = (V.str r8.1) from rfl) ?_
    refine x_gy (show _ = (V.bool (decide (r8.2 = 0))) from rfl) (decide_eq_true hp27) ?_
    refine x_lens (show _ = (V.str r8.1) from rfl) ?_
    refine x_gy (show _ = (V.bool (decide (r8.2 = 0))) from rfl) (decide_eq_true hp27) ?_
    refine x_bin (show _ = (V.int .i64 ((r8.1.length : Nat) : Int)) from rfl) (show _ = (V.int .i64 8) from rfl) b_eql ?_
    refine x_pickt' (show _ = (V.bool (decide (r8.2 = 0))) from rfl) (decide_eq_true hp27) (show _ = (V.bool (decide (((r8.1.length : Nat) : Int) = 8))) from rfl) ?_
    refine x_mv' (show _ = (V.bool (decide (((r8.1.length : Nat) : Int) = 8))) from rfl) ?_
    by_cases hp28 : ((r8.1.length : Nat) : Int) = 8
    · rw [if_pos hp28] at hD
      refine x_gy (show _ = (V.bool (decide (((r8.1.length : Nat) : Int) = 8))) from rfl) (decide_eq_true hp28) ?_
      refine x_mv' (show _ = (V.int .i64 r21.2) from rfl) ?_
      refine x_gy (show _ = (V.bool (decide (((r8.1.length : Nat) : Int) = 8))) from rfl) (decide_eq_true hp28) ?_
      refine x_bin (show _ = (V.int .i64 r21.2) from rfl) (show _ = (V.int .i64 4) from rfl) b_eql ?_
      refine x_pickt' (show _ = (V.bool (decide (((r8.1.length : Nat) : Int) = 8))) from rfl) (decide_eq_true hp28) (show _ = (V.bool (decide (r21.2 = 4))) from rfl) ?_
      refine x_mv' (show _ = (V.bool (decide (r21.2 = 4))) from rfl) ?_
      by_cases hp29 : r21.2 = 4
      · rw [if_pos hp29] at hD
        refine x_gy (show _ = (V.bool (decide (r21.2 = 4))) from rfl) (decide_eq_true hp29) ?_
        refine x_build (ws := []) (l := C.Commit ({ Root := (Arr.zero 32), Parents := [], Note := [] } : T.Commit)) rfl (fill_from (by kernel_rfl : _ = C.Commit ({ Root := (Arr.zero 32), Parents := [], Note := [] } : T.Commit)) fill_nil) fun v30 hv30 hnv30 => ?_
        refine x_gy (show _ = (V.bool (decide (r21.2 = 4))) from rfl) (decide_eq_true hp29) ?_
        obtain ⟨r32, hx33, hD⟩ := Option.bind_eq_some_iff.1 hD
        refine x_callF hC_object_GoodCommit (a := (({ Root := (Arr.zero 32), Parents := [], Note := [] } : T.Commit))) (cons_eq hv30 rfl) hx33 fun v31 ov31 (hv31 : v31.nf = (V.bool r32)) hov31 => ?_
        refine x_pickt' (show _ = (V.bool (decide (r21.2 = 4))) from rfl) (decide_eq_true hp29) (nf_bool hv31) ?_
        refine x_mv' (show _ = (V.bool r32) from rfl) ?_
        refine x_done ?_
        refine x_tN ?_
        refine x_retc ?_
        obtain rfl := Option.some.inj hD
        exact hR _ (ends_t (nf_of rfl (show _ = (V.bool r32) from rfl)) (fun h => nomatch h))
      · rw [if_neg hp29] at hD
        refine x_gn (show _ = (V.bool (decide (r21.2 = 4))) from rfl) (decide_eq_false hp29) ?_
        refine x_gn (show _ = (V.bool (decide (r21.2 = 4))) from rfl) (decide_eq_false hp29) ?_
        refine x_pickf' (show _ = (V.bool (decide (r21.2 = 4))) from rfl) (decide_eq_false hp29) (show _ = (V.bool false) from rfl) ?_
        refine x_mv' (show _ = (V.bool false) from rfl) ?_
        refine x_done ?_
        refine x_tN ?_
        refine x_retc ?_
        obtain rfl := Option.some.inj hD
        exact hR _ (ends_t (nf_of rfl (show _ = (V.bool false) from rfl)) (fun h => nomatch h))
    · rw [if_neg hp28] at hD
      refine x_gn (show _ = (V.bool (decide (((r8.1.length : Nat) : Int) = 8))) from rfl) (decide_eq_false hp28) ?_
      refine x_gn (show _ = (V.bool (decide (((r8.1.length : Nat) : Int) = 8))) from rfl) (decide_eq_false hp28) ?_
      refine x_pickf' (show _ = (V.bool (decide (((r8.1.length : Nat) : Int) = 8))) from rfl) (decide_eq_false hp28) (show _ = (V.bool false) from rfl) ?_
      refine x_mv' (show _ = (V.bool false) from rfl) ?_
      refine x_gn (show _ = (V.bool false) from rfl) rfl ?_
      refine x_gn (show _ = (V.bool false) from rfl) rfl ?_
      refine x_pickf' (show _ = (V.bool false) from rfl) rfl (show _ = (V.bool false) from rfl) ?_
      refine x_mv' (show _ = (V.bool false) from rfl) ?_
      refine x_done ?_
      refine x_tN ?_
      refine x_retc ?_
      obtain rfl := Option.some.inj hD
      exact hR _ (ends_t (nf_of rfl (show _ = (V.bool false) from rfl)) (fun h => nomatch h))
  · rw [if_neg hp27] at hD
    refine x_gn (show _ = (V.bool (decide (r8.2 = 0))) from rfl) (decide_eq_false hp27) ?_
    refine x_gn (show _ = (V.bool (decide (r8.2 = 0))) from rfl) (decide_eq_false hp27) ?_
    refine x_gn (show _ = (V.bool (decide (r8.2 = 0))) from rfl) (decide_eq_false hp27) ?_
    refine x_pickf' (show _ = (V.bool (decide (r8.2 = 0))) from rfl) (decide_eq_false hp27) (show _ = (V.bool false) from rfl) ?_
    refine x_mv' (show _ = (V.bool false) from rfl) ?_
    refine x_gn (show _ = (V.bool false) from rfl) rfl ?_
    refine x_gn (show _ = (V.bool false) from rfl) rfl ?_
    refine x_pickf' (show _ = (V.bool false) from rfl) rfl (show _ = (V.bool false) from rfl) ?_
    refine x_mv' (show _ = (V.bool false) from rfl) ?_
    refine x_gn (show _ = (V.bool false) from rfl) rfl ?_
    refine x_gn (show _ = (V.bool false) from rfl) rfl ?_
    refine x_pickf' (show _ = (V.bool false) from rfl) rfl (show _ = (V.bool false) from rfl) ?_
    refine x_mv' (show _ = (V.bool false) from rfl) ?_
    refine x_done ?_
    refine x_tN ?_
    refine x_retc ?_
    obtain rfl := Option.some.inj hD
    exact hR _ (ends_t (nf_of rfl (show _ = (V.bool false) from rfl)) (fun h => nomatch h))
def K.seichelaw07_alive : FC := fc F.seichelaw07_alive (fun _ => true) false (fun (a : Unit) => []) (fun (y : Bool) => (V.bool y)) (fun a => g.seichelaw07_alive)
  (fun a => rfl)
  (fun y => rfl)
  (fun _ _ _ => rfl)
theorem H.seichelaw07_alive (w : World) (hw : EnvOK w) : K.seichelaw07_alive.Holds (cxD w) :=
  FC.holds_of (cs := [K.object_PutTree, K.object_GetTree, K.object_GoodCommit]) (glD w) mixed cf_seichelaw07_alive (fun _ _ ⟨_, _, h, _⟩ => by subst h; exact Nat.le_of_ble_eq_true rfl) fun v y ⟨a, r, hv, hD, hy⟩ => by
    subst hy
    exact ok.seichelaw07_alive (specOf_calls (H.object_PutTree w hw) (fun _ _ ⟨_, _, h, _⟩ => by subst h; rfl)) (specOf_calls (H.object_GetTree w hw) (fun _ _ ⟨_, _, h, _⟩ => by subst h; rfl)) (specOf_calls (H.object_GoodCommit w hw) (fun _ _ ⟨_, _, h, _⟩ => by subst h; rfl)) hv hD
def c_seichelaw07_ObjectTrees_j1 : ACode := (.seq (.region [
  ⟨(some 60), (.mv (.tmp 1)), none, []⟩, 
  ⟨(some 61), (.call F.object_GetTree [(.tmp 60)]), none, []⟩, 
  ⟨(some 59), (.mv (.tmp 61)), none, []⟩, 
  ⟨(some 62), (.ext (.tmp 59) 0), none, []⟩, 
  ⟨(some 63), (.ext (.tmp 59) 1), none, []⟩, 
  ⟨(some 8), (.mvo 62), none, []⟩, 
  ⟨(some 9), (.mv (.tmp 63)), none, []⟩] false) (.seq (.region [
  ⟨(some 65), (.mv (.tmp 1)), none, []⟩, 
  ⟨(some 66), (.call F.seicheref07_GetTree [(.tmp 65)]), none, []⟩, 
  ⟨(some 64), (.mv (.tmp 66)), none, []⟩, 
  ⟨(some 67), (.ext (.tmp 64) 0), none, []⟩, 
  ⟨(some 68), (.ext (.tmp 64) 1), none, []⟩, 
  ⟨(some 10), (.mvo 67), none, []⟩, 
  ⟨(some 11), (.mv (.tmp 68)), none, []⟩] false) (.seq (.region [
  ⟨(some 69), (.mv (.tmp 9)), none, []⟩, 
  ⟨(some 70), (.bin .eql .no (.tmp 69) (.const (.int .i64 0))), none, []⟩, 
  ⟨(some 71), (.mv (.tmp 11)), none, []⟩, 
  ⟨(some 72), (.bin .eql .bool (.tmp 70) (.tmp 71)), none, []⟩, 
  ⟨(some 73), (.mv (.tmp 72)), none, []⟩, 
  ⟨(some 74), (.mv (.tmp 8)), (some (73, true)), []⟩, 
  ⟨(some 75), (.mv (.tmp 10)), (some (73, true)), []⟩, 
  ⟨(some 76), (.call F.seicheref07_SameTree [(.tmp 74), (.tmp 75)]), (some (73, true)), []⟩, 
  ⟨(some 77), (.pick (.tmp 73) (.tmp 76) (.const (.bool false))), none, []⟩, 
  ⟨(some 78), (.mv (.tmp 77)), none, []⟩, 
  ⟨(some 79), (.mv (.tmp 11)), (some (78, true)), []⟩, 
  ⟨(some 80), (.mv (.tmp 79)), (some (78, true)), []⟩, 
  ⟨(some 81), (.mv (.tmp 9)), (some (80, false)), []⟩, 
  ⟨(some 82), (.bin .eql .no (.tmp 81) (.const (.int .i64 4))), (some (80, false)), []⟩, 
  ⟨(some 83), (.pick (.tmp 80) (.const (.bool true)) (.tmp 82)), (some (78, true)), []⟩, 
  ⟨(some 84), (.pick (.tmp 78) (.tmp 83) (.const (.bool false))), none, []⟩, 
  ⟨(some 4), (.mv (.tmp 84)), none, []⟩] false) .ret)))
def c_seichelaw07_ObjectTrees : ACode := (.seq (.region [
  ⟨(some 4), (.mv (.const (.bool false))), none, []⟩] false) (.seq (.seq (.region [
  ⟨(some 12), (.call F.seichelaw07_alive []), none, []⟩, 
  ⟨(some 13), (.un .not (.tmp 12)), none, []⟩] false) (.cond (.tmp 13) (.seq (.region [
  ⟨(some 4), (.mv (.const (.bool false))), none, []⟩] false) .ret) .skip)) (.seq (.seq (.region [
  ⟨(some 14), (.mv (.tmp 0)), none, []⟩, 
  ⟨(some 15), (.call F.seichelaw07_greatTree [(.tmp 14)]), none, []⟩, 
  ⟨(some 16), (.mv (.tmp 15)), none, []⟩, 
  ⟨(some 17), (.mv (.tmp 1)), (some (16, false)), []⟩, 
  ⟨(some 18), (.len true (.tmp 17)), (some (16, false)), []⟩, 
  ⟨(some 19), (.bin .gtr .no (.tmp 18) (.const (.int .i64 4096))), (some (16, false)), []⟩, 
  ⟨(some 20), (.pick (.tmp 16) (.const (.bool true)) (.tmp 19)), none, []⟩] false) (.cond (.tmp 20) (.seq (.region [
  ⟨(some 4), (.mv (.const (.bool true))), none, []⟩] false) .ret) .skip)) (.seq (.region [
  ⟨(some 22), (.mv (.tmp 0)), none, []⟩, 
  ⟨(some 23), (.call F.object_PutTree [(.tmp 22)]), none, []⟩, 
  ⟨(some 21), (.mv (.tmp 23)), none, []⟩, 
  ⟨(some 24), (.ext (.tmp 21) 0), none, []⟩, 
  ⟨(some 25), (.ext (.tmp 21) 1), none, []⟩, 
  ⟨(some 5), (.mv (.tmp 24)), none, []⟩, 
  ⟨(some 6), (.mv (.tmp 25)), none, []⟩] false) (.seq (.region [
  ⟨(some 26), (.mv (.tmp 0)), none, []⟩, 
  ⟨(some 27), (.call F.seicheref07_GoodTree [(.tmp 26)]), none, []⟩, 
  ⟨(some 7), (.mv (.tmp 27)), none, []⟩] false) (.seq (.seq (.region [
  ⟨(some 28), (.mv (.tmp 0)), none, []⟩, 
  ⟨(some 29), (.call F.object_GoodTree [(.tmp 28)]), none, []⟩, 
  ⟨(some 30), (.mv (.tmp 7)), none, []⟩, 
  ⟨(some 31), (.bin .neq .bool (.tmp 29) (.tmp 30)), none, []⟩, 
  ⟨(some 32), (.mv (.tmp 31)), none, []⟩, 
  ⟨(some 33), (.mv (.tmp 6)), (some (32, false)), []⟩, 
  ⟨(some 34), (.bin .eql .no (.tmp 33) (.const (.int .i64 0))), (some (32, false)), []⟩, 
  ⟨(some 35), (.mv (.tmp 7)), (some (32, false)), []⟩, 
  ⟨(some 36), (.bin .neq .bool (.tmp 34) (.tmp 35)), (some (32, false)), []⟩, 
  ⟨(some 37), (.pick (.tmp 32) (.const (.bool true)) (.tmp 36)), none, []⟩, 
  ⟨(some 38), (.mv (.tmp 37)), none, []⟩, 
  ⟨(some 39), (.mv (.tmp 7)), (some (38, false)), []⟩, 
  ⟨(some 40), (.mv (.tmp 39)), (some (38, false)), []⟩, 
  ⟨(some 41), (.mv (.tmp 5)), (some (40, true)), []⟩, 
  ⟨(some 42), (.mv (.tmp 0)), (some (40, true)), []⟩, 
  ⟨(some 43), (.call F.seicheref07_Tree [(.tmp 42)]), (some (40, true)), []⟩, 
  ⟨(some 44), (.bin .neq .no (.tmp 41) (.tmp 43)), (some (40, true)), []⟩, 
  ⟨(some 45), (.pick (.tmp 40) (.tmp 44) (.const (.bool false))), (some (38, false)), []⟩, 
  ⟨(some 46), (.pick (.tmp 38) (.const (.bool true)) (.tmp 45)), none, []⟩, 
  ⟨(some 47), (.mv (.tmp 46)), none, []⟩, 
  ⟨(some 48), (.mv (.tmp 7)), (some (47, false)), []⟩, 
  ⟨(some 49), (.un .not (.tmp 48)), (some (47, false)), []⟩, 
  ⟨(some 50), (.mv (.tmp 49)), (some (47, false)), []⟩, 
  ⟨(some 51), (.mv (.tmp 6)), (some (50, true)), []⟩, 
  ⟨(some 52), (.bin .neq .no (.tmp 51) (.const (.int .i64 1))), (some (50, true)), []⟩, 
  ⟨(some 53), (.mv (.tmp 52)), (some (50, true)), []⟩, 
  ⟨(some 54), (.mv (.tmp 5)), (some (53, false)), []⟩, 
  ⟨(some 55), (.bin .neq .no (.tmp 54) (.const (.str []))), (some (53, false)), []⟩, 
  ⟨(some 56), (.pick (.tmp 53) (.const (.bool true)) (.tmp 55)), (some (50, true)), []⟩, 
  ⟨(some 57), (.pick (.tmp 50) (.tmp 56) (.const (.bool false))), (some (47, false)), []⟩, 
  ⟨(some 58), (.pick (.tmp 47) (.const (.bool true)) (.tmp 57)), none, []⟩] false) (.cond (.tmp 58) (.seq (.region [
  ⟨(some 4), (.mv (.const (.bool false))), none, []⟩] false) .ret) .skip)) c_seichelaw07_ObjectTrees_j1))))))
theorem cf_seichelaw07_ObjectTrees : cFn Go.Proofs.Tryd.prog F.seichelaw07_ObjectTrees = some ⟨85, c_seichelaw07_ObjectTrees, [.t 4]⟩ := by kernel_rfl
def L.seichelaw07_ObjectTrees_j1 (t1_89 : Bytes) : Option Bool :=
  (g.object_GetTree t1_89).bind fun r98 =>
  (g.seicheref07_GetTree t1_89).bind fun r112 =>
  if ((decide (r98.2 = 0)) == r112.2) = true then
    (g.seicheref07_SameTree r98.1 r112.1).bind fun r122 =>
    if r122 = true then
      if r112.2 = true then
        some true
      else
        some (decide (r98.2 = 4))
    else
      some false
  else
    some false
theorem ok.seichelaw07_ObjectTrees_j1 {Γ : Abs.Spec} {gl : Glob} (hC_seichelaw07_alive : CallsX Γ K.seichelaw07_alive) (hC_seichelaw07_greatTree : CallsX Γ K.seichelaw07_greatTree) (hC_object_PutTree : CallsX Γ K.object_PutTree) (hC_seicheref07_GoodTree : CallsX Γ K.seicheref07_GoodTree) (hC_object_GoodTree : CallsX Γ K.object_GoodTree) (hC_seicheref07_Tree : CallsX Γ K.seicheref07_Tree) (hC_object_GetTree : CallsX Γ K.object_GetTree) (hC_seicheref07_GetTree : CallsX Γ K.seicheref07_GetTree) (hC_seicheref07_SameTree : CallsX Γ K.seicheref07_SameTree) {Q : Ex → St → Prop} {r : Bool}
    (hR : ∀ s, EndsX [.t 4] false (V.bool r) s → Q .ret s)
    {s : St} {t1_89 : Bytes} (h88 : s.tm 1 = (V.str t1_89))
    (hD : L.seichelaw07_ObjectTrees_j1 t1_89 = some r) : awp Γ gl c_seichelaw07_ObjectTrees_j1 Q s := by
  unfold L.seichelaw07_ObjectTrees_j1 at hD
  refine x_seq ?_
  refine x_start (b := false) ?_
  refine x_mv' h88 ?_
  obtain ⟨r98, hx99, hD⟩ := Option.bind_eq_some_iff.1 hD
  refine x_callF hC_object_GetTree (a := (t1_89)) (cons_eq (nf_of rfl (show _ = (V.str t1_89) from rfl)) rfl) hx99 fun v97 ov97 (hv97 : v97.nf = (V.tup [(V.sl false 34 (List.map E.Entry r98.1)), (V.int .i64 r98.2)])) hov97 => ?_
  refine x_mv hv97 fun v100 hv100 => ?_
  refine x_ext hv100 (show _ = some (V.sl false 34 (List.map E.Entry r98.1)) from rfl) fun v101 hv101 => ?_
  refine x_ext hv100 (show _ = some (V.int .i64 r98.2) from rfl) fun v102 hv102 => ?_
  refine x_mvo hv101 fun v103 ov103 hv103 hwv103 => ?_
  refine x_mv' (nf_int hv102) ?_
  refine x_done ?_
  refine x_tN ?_
  refine x_seq ?_
  refine x_start (b := false) ?_
  refine x_mv' h88 ?_
  obtain ⟨r112, hx113, hD⟩ := Option.bind_eq_some_iff.1 hD
  refine x_callF hC_seicheref07_GetTree (a := (t1_89)) (cons_eq (nf_of rfl (show _ = (V.str t1_89) from rfl)) rfl) hx113 fun v111 ov111 (hv111 : v111.nf = (V.tup [(V.sl false 34 (List.map E.Entry r112.1)), (V.bool r112.2)])) hov111 => ?_
  refine x_mv hv111 fun v114 hv114 => ?_
  refine x_ext hv114 (show _ = some (V.sl false 34 (List.map E.Entry r112.1)) from rfl) fun v115 hv115 => ?_
  refine x_ext hv114 (show _ = some (V.bool r112.2) from rfl) fun v116 hv116 => ?_
  refine x_mvo hv115 fun v117 ov117 hv117 hwv117 => ?_
  refine x_mv' (nf_bool hv116) ?_
  refine x_done ?_
  refine x_tN ?_
  refine x_seq ?_
  refine x_start (b := false) ?_
  refine x_mv' (show _ = (V.int .i64 r98.2) from rfl) ?_
  refine x_bin (show _ = (V.int .i64 r98.2) from rfl) (show _ = (V.int .i64 0) from rfl) b_eql ?_
  refine x_mv' (show _ = (V.bool r112.2) from rfl) ?_
  refine x_bin (show _ = (V.bool (decide (r98.2 = 0))) from rfl) (show _ = (V.bool r112.2) from rfl) bool_eql ?_
  refine x_mv' (show _ = (V.bool ((decide (r98.2 = 0)) == r112.2)) from rfl) ?_
  by_cases hp118 : ((decide (r98.2 = 0)) == r112.2) = true
  · rw [if_pos hp118] at hD
    refine x_gy (show _ = (V.bool ((decide (r98.2 = 0)) == r112.2)) from rfl) hp118 ?_
    refine x_mv hv103 fun v119 hv119 => ?_
    refine x_gy (show _ = (V.bool ((decide (r98.2 = 0)) == r112.2)) from rfl) hp118 ?_
    refine x_mv hv117 fun v120 hv120 => ?_
    refine x_gy (show _ = (V.bool ((decide (r98.2 = 0)) == r112.2)) from rfl) hp118 ?_
    obtain ⟨r122, hx123, hD⟩ := Option.bind_eq_some_iff.1 hD
    refine x_callF hC_seicheref07_SameTree (a := (r98.1, r112.1)) (cons_eq hv119 (cons_eq hv120 rfl)) hx123 fun v121 ov121 (hv121 : v121.nf = (V.bool r122)) hov121 => ?_
    refine x_pickt' (show _ = (V.bool ((decide (r98.2 = 0)) == r112.2)) from rfl) hp118 (nf_bool hv121) ?_
    refine x_mv' (show _ = (V.bool r122) from rfl) ?_
    by_cases hp124 : r122 = true
    · rw [if_pos hp124] at hD
      refine x_gy (show _ = (V.bool r122) from rfl) hp124 ?_
      refine x_mv' (show _ = (V.bool r112.2) from rfl) ?_
      refine x_gy (show _ = (V.bool r122) from rfl) hp124 ?_
      refine x_mv' (show _ = (V.bool r112.2) from rfl) ?_
      by_cases hp125 : r112.2 = true
      · rw [if_pos hp125] at hD
        refine x_gn (show _ = (V.bool r112.2) from rfl) hp125 ?_
        refine x_gn (show _ = (V.bool r112.2) from rfl) hp125 ?_
        refine x_gy (show _ = (V.bool r122) from rfl) hp124 ?_
        refine x_pickt' (show _ = (V.bool r112.2) from rfl) hp125 (show _ = (V.bool true) from rfl) ?_
        refine x_pickt' (show _ = (V.bool r122) from rfl) hp124 (show _ = (V.bool true) from rfl) ?_
        refine x_mv' (show _ = (V.bool true) from rfl) ?_
        refine x_done ?_
        refine x_tN ?_
        refine x_retc ?_
        obtain rfl := Option.some.inj hD
        exact hR _ (ends_t (nf_of rfl (show _ = (V.bool true) from rfl)) (fun h => nomatch h))
      · rw [if_neg hp125] at hD
        refine x_gy (show _ = (V.bool r112.2) from rfl) (Bool.eq_false_iff.2 hp125) ?_
        refine x_mv' (show _ = (V.int .i64 r98.2) from rfl) ?_
        refine x_gy (show _ = (V.bool r112.2) from rfl) (Bool.eq_false_iff.2 hp125) ?_
        refine x_bin (show _ = (V.int .i64 r98.2) from rfl) (show _ = (V.int .i64 4) from rfl) b_eql ?_
        refine x_gy (show _ = (V.bool r122) from rfl) hp124 ?_
        refine x_pickf' (show _ = (V.bool r112.2) from rfl) (Bool.eq_false_iff.2 hp125) (show _ = (V.bool (decide (r98.2 = 4))) from rfl) ?_
        refine x_pickt' (show _ = (V.bool r122) from rfl) hp124 (show _ = (V.bool (decide (r98.2 = 4))) from rfl) ?_
        refine x_mv' (show _ = (V.bool (decide (r98.2 = 4))) from rfl) ?_
        refine x_done ?_
        refine x_tN ?_
        refine x_retc ?_
        obtain rfl := Option.some.inj hD
        exact hR _ (ends_t (nf_of rfl (show _ = (V.bool (decide (r98.2 = 4))) from rfl)) (fun h => nomatch h))
    · rw [if_neg hp124] at hD
      refine x_gn (show _ = (V.bool r122) from rfl) (Bool.eq_false_iff.2 hp124) ?_
      refine x_gn (show _ = (V.bool r122) from rfl) (Bool.eq_false_iff.2 hp124) ?_
      refine x_gnil (show _ = Nil from rfl) ?_
      refine x_gnil (show _ = Nil from rfl) ?_
      refine x_gn (show _ = (V.bool r122) from rfl) (Bool.eq_false_iff.2 hp124) ?_
      refine x_pickf' (show _ = (V.bool r122) from rfl) (Bool.eq_false_iff.2 hp124) (show _ = (V.bool false) from rfl) ?_
      refine x_mv' (show _ = (V.bool false) from rfl) ?_
      refine x_done ?_
      refine x_tN ?_
      refine x_retc ?_
      obtain rfl := Option.some.inj hD
      exact hR _ (ends_t (nf_of rfl (show _ = (V.bool false) from rfl)) (fun h => nomatch h))
  · rw [if_neg hp118] at hD
    refine x_gn (show _ = (V.bool ((decide (r98.2 = 0)) == r112.2)) from rfl) (Bool.eq_false_iff.2 hp118) ?_
    refine x_gn (show _ = (V.bool ((decide (r98.2 = 0)) == r112.2)) from rfl) (Bool.eq_false_iff.2 hp118) ?_
    refine x_gn (show _ = (V.bool ((decide (r98.2 = 0)) == r112.2)) from rfl) (Bool.eq_false_iff.2 hp118) ?_
    refine x_pickf' (show _ = (V.bool ((decide (r98.2 = 0)) == r112.2)) from rfl) (Bool.eq_false_iff.2 hp118) (show _ = (V.bool false) from rfl) ?_
    refine x_mv' (show _ = (V.bool false) from rfl) ?_
    refine x_gn (show _ = (V.bool false) from rfl) rfl ?_
    refine x_gn (show _ = (V.bool false) from rfl) rfl ?_
    refine x_gnil (show _ = Nil from rfl) ?_
    refine x_gnil (show _ = Nil from rfl) ?_
    refine x_gn (show _ = (V.bool false) from rfl) rfl ?_
    refine x_pickf' (show _ = (V.bool false) from rfl) rfl (show _ = (V.bool false) from rfl) ?_
    refine x_mv' (show _ = (V.bool false) from rfl) ?_
    refine x_done ?_
    refine x_tN ?_
    refine x_retc ?_
    obtain rfl := Option.some.inj hD
    exact hR _ (ends_t (nf_of rfl (show _ = (V.bool false) from rfl)) (fun h => nomatch h))
def g.seichelaw07_ObjectTrees (p0 : (List T.Entry)) (p1 : Bytes) : Option Bool :=
  (g.seichelaw07_alive).bind fun r12 =>
  if r12 = true then
    (g.seichelaw07_greatTree p0).bind fun r33 =>
    if r33 = true then
      some true
    else
      if 4096 < ((p1.length : Nat) : Int) then
        some true
      else
        (g.object_PutTree p0).bind fun r46 =>
        (g.seicheref07_GoodTree p0).bind fun r57 =>
        (g.object_GoodTree p0).bind fun r141 =>
        if (r141 == r57) = true then
          if ((decide (r46.2 = 0)) == r57) = true then
            if r57 = true then
              (g.seicheref07_Tree p0).bind fun r148 =>
              if r46.1 = r148 then
                L.seichelaw07_ObjectTrees_j1 p1
              else
                some false
            else
              if r46.2 = 1 then
                if r46.1 = ([] : Bytes) then
                  L.seichelaw07_ObjectTrees_j1 p1
                else
                  some false
              else
                some false
          else
            some false
        else
          some false
  else
    some false
theorem ok.seichelaw07_ObjectTrees {Γ : Abs.Spec} {gl : Glob} (hC_seichelaw07_alive : CallsX Γ K.seichelaw07_alive) (hC_seichelaw07_greatTree : CallsX Γ K.seichelaw07_greatTree) (hC_object_PutTree : CallsX Γ K.object_PutTree) (hC_seicheref07_GoodTree : CallsX Γ K.seicheref07_GoodTree) (hC_object_GoodTree : CallsX Γ K.object_GoodTree) (hC_seicheref07_Tree : CallsX Γ K.seicheref07_Tree) (hC_object_GetTree : CallsX Γ K.object_GetTree) (hC_seicheref07_GetTree : CallsX Γ K.seicheref07_GetTree) (hC_seicheref07_SameTree : CallsX Γ K.seicheref07_SameTree) {r : Bool} {p0 : (List T.Entry)} {p1 : Bytes} {v : List V}
    (hv : nfL v = [(V.sl false 34 (List.map E.Entry p0)), (V.str p1)]) (hD : g.seichelaw07_ObjectTrees p0 p1 = some r) : awp Γ gl c_seichelaw07_ObjectTrees (endQ [.t 4] false (V.bool r)) (St.init v) := by
  obtain ⟨v0, v, rfl, h0, hv⟩ := nfL_cons hv
  obtain ⟨v1, v, rfl, h1, hv⟩ := nfL_cons hv
  obtain rfl := nfL_nil hv
  have hR : ∀ s, EndsX [.t 4] false (V.bool r) s → endQ [.t 4] false (V.bool r) .ret s := fun _ h => h
  unfold g.seichelaw07_ObjectTrees at hD
  unfold c_seichelaw07_ObjectTrees
  refine x_seq ?_
  refine x_start (b := false) ?_
  refine x_mv' (show _ = (V.bool false) from rfl) ?_
  refine x_done ?_
  refine x_tN ?_
  refine x_seq ?_
  refine x_seq ?_
  refine x_start (b := false) ?_
  obtain ⟨r12, hx13, hD⟩ := Option.bind_eq_some_iff.1 hD
  refine x_callF hC_seichelaw07_alive (a := ()) rfl hx13 fun v11 ov11 (hv11 : v11.nf = (V.bool r12)) hov11 => ?_
  refine x_un (nf_bool hv11) (aun_not _) ?_
  refine x_done ?_
  refine x_tN ?_
  by_cases hp14 : r12 = true
  · rw [if_pos hp14] at hD
    refine x_cf (show _ = (V.bool (!r12)) from rfl) (bnot_t hp14) ?_
    refine x_skip ?_
    refine x_tN ?_
    refine x_seq ?_
    refine x_seq ?_
    refine x_start (b := false) ?_
    refine x_mv h0 fun v31 hv31 => ?_
    obtain ⟨r33, hx34, hD⟩ := Option.bind_eq_some_iff.1 hD
    refine x_callF hC_seichelaw07_greatTree (a := (p0)) (cons_eq hv31 rfl) hx34 fun v32 ov32 (hv32 : v32.nf = (V.bool r33)) hov32 => ?_
    refine x_mv' (nf_bool hv32) ?_
    by_cases hp35 : r33 = true
    · rw [if_pos hp35] at hD
      refine x_gn (show _ = (V.bool r33) from rfl) hp35 ?_
      refine x_gn (show _ = (V.bool r33) from rfl) hp35 ?_
      refine x_gn (show _ = (V.bool r33) from rfl) hp35 ?_
      refine x_pickt' (show _ = (V.bool r33) from rfl) hp35 (show _ = (V.bool true) from rfl) ?_
      refine x_done ?_
      refine x_tN ?_
      refine x_ct (show _ = (V.bool true) from rfl) rfl ?_
      refine x_seq ?_
      refine x_start (b := false) ?_
      refine x_mv' (show _ = (V.bool true) from rfl) ?_
      refine x_done ?_
      refine x_tN ?_
      refine x_retc ?_
      refine x_tR ?_
      obtain rfl := Option.some.inj hD
      exact hR _ (ends_t (nf_of rfl (show _ = (V.bool true) from rfl)) (fun h => nomatch h))
    · rw [if_neg hp35] at hD
      refine x_gy (show _ = (V.bool r33) from rfl) (Bool.eq_false_iff.2 hp35) ?_
      refine x_mv' (nf_str h1) ?_
      refine x_gy (show _ = (V.bool r33) from rfl) (Bool.eq_false_iff.2 hp35) ?_
      refine x_lens (show _ = (V.str p1) from rfl) ?_
      refine x_gy (show _ = (V.bool r33) from rfl) (Bool.eq_false_iff.2 hp35) ?_
      refine x_bin (show _ = (V.int .i64 ((p1.length : Nat) : Int)) from rfl) (show _ = (V.int .i64 4096) from rfl) b_gtr ?_
      refine x_pickf' (show _ = (V.bool r33) from rfl) (Bool.eq_false_iff.2 hp35) (show _ = (V.bool (decide (4096 < ((p1.length : Nat) : Int)))) from rfl) ?_
      refine x_done ?_
      refine x_tN ?_
      by_cases hp36 : 4096 < ((p1.length : Nat) : Int)
      · rw [if_pos hp36] at hD
        refine x_ct (show _ = (V.bool (decide (4096 < ((p1.length : Nat) : Int)))) from rfl) (decide_eq_true hp36) ?_
        refine x_seq ?_
        refine x_start (b := false) ?_
        refine x_mv' (show _ = (V.bool true) from rfl) ?_
        refine x_done ?_
        refine x_tN ?_
        refine x_retc ?_
        refine x_tR ?_
        obtain rfl := Option.some.inj hD
        exact hR _ (ends_t (nf_of rfl (show _ = (V.bool true) from rfl)) (fun h => nomatch h))
      · rw [if_neg hp36] at hD
        refine x_cf (show _ = (V.bool (decide (4096 < ((p1.length : Nat) : Int)))) from rfl) (decide_eq_false hp36) ?_
        refine x_skip ?_
        refine x_tN ?_
        refine x_seq ?_
        refine x_start (b := false) ?_
        refine x_mv h0 fun v44 hv44 => ?_
        obtain ⟨r46, hx47, hD⟩ := Option.bind_eq_some_iff.1 hD
        refine x_callF hC_object_PutTree (a := (p0)) (cons_eq hv44 rfl) hx47 fun v45 ov45 (hv45 : v45.nf = (V.tup [(V.str r46.1), (V.int .i64 r46.2)])) hov45 => ?_
        refine x_mv hv45 fun v48 hv48 => ?_
        refine x_ext hv48 (show _ = some (V.str r46.1) from rfl) fun v49 hv49 => ?_
        refine x_ext hv48 (show _ = some (V.int .i64 r46.2) from rfl) fun v50 hv50 => ?_
        refine x_mv' (nf_str hv49) ?_
        refine x_mv' (nf_int hv50) ?_
        refine x_done ?_
        refine x_tN ?_
        refine x_seq ?_
        refine x_start (b := false) ?_
        refine x_mv h0 fun v55 hv55 => ?_
        obtain ⟨r57, hx58, hD⟩ := Option.bind_eq_some_iff.1 hD
        refine x_callF hC_seicheref07_GoodTree (a := (p0)) (cons_eq hv55 rfl) hx58 fun v56 ov56 (hv56 : v56.nf = (V.bool r57)) hov56 => ?_
        refine x_mv' (nf_bool hv56) ?_
        refine x_done ?_
        refine x_tN ?_
        refine x_seq ?_
        refine x_seq ?_
        refine x_start (b := false) ?_
        refine x_mv h0 fun v139 hv139 => ?_
        obtain ⟨r141, hx142, hD⟩ := Option.bind_eq_some_iff.1 hD
        refine x_callF hC_object_GoodTree (a := (p0)) (cons_eq hv139 rfl) hx142 fun v140 ov140 (hv140 : v140.nf = (V.bool r141)) hov140 => ?_
        refine x_mv' (show _ = (V.bool r57) from rfl) ?_
        refine x_bin (nf_bool hv140) (show _ = (V.bool r57) from rfl) bool_neq ?_
        refine x_mv' (show _ = (V.bool (!(r141 == r57))) from rfl) ?_
        by_cases hp143 : (r141 == r57) = true
        · rw [if_pos hp143] at hD
          refine x_gy (show _ = (V.bool (!(r141 == r57))) from rfl) (bnot_t hp143) ?_
          refine x_mv' (show _ = (V.int .i64 r46.2) from rfl) ?_
          refine x_gy (show _ = (V.bool (!(r141 == r57))) from rfl) (bnot_t hp143) ?_
          refine x_bin (show _ = (V.int .i64 r46.2) from rfl) (show _ = (V.int .i64 0) from rfl) b_eql ?_
          refine x_gy (show _ = (V.bool (!(r141 == r57))) from rfl) (bnot_t hp143) ?_
          refine x_mv' (show _ = (V.bool r57) from rfl) ?_
          refine x_gy (show _ = (V.bool (!(r141 == r57))) from rfl) (bnot_t hp143) ?_
          refine x_bin (show _ = (V.bool (decide (r46.2 = 0))) from rfl) (show _ = (V.bool r57) from rfl) bool_neq ?_
          refine x_pickf' (show _ = (V.bool (!(r141 == r57))) from rfl) (bnot_t hp143) (show _ = (V.bool (!((decide (r46.2 = 0)) == r57))) from rfl) ?_
          refine x_mv' (show _ = (V.bool (!((decide (r46.2 = 0)) == r57))) from rfl) ?_
          by_cases hp144 : ((decide (r46.2 = 0)) == r57) = true
          · rw [if_pos hp144] at hD
            refine x_gy (show _ = (V.bool (!((decide (r46.2 = 0)) == r57))) from rfl) (bnot_t hp144) ?_
            refine x_mv' (show _ = (V.bool r57) from rfl) ?_
            refine x_gy (show _ = (V.bool (!((decide (r46.2 = 0)) == r57))) from rfl) (bnot_t hp144) ?_
            refine x_mv' (show _ = (V.bool r57) from rfl) ?_
            by_cases hp145 : r57 = true
            · rw [if_pos hp145] at hD
              refine x_gy (show _ = (V.bool r57) from rfl) hp145 ?_
              refine x_mv' (show _ = (V.str r46.1) from rfl) ?_
              refine x_gy (show _ = (V.bool r57) from rfl) hp145 ?_
              refine x_mv h0 fun v146 hv146 => ?_
              refine x_gy (show _ = (V.bool r57) from rfl) hp145 ?_
              obtain ⟨r148, hx149, hD⟩ := Option.bind_eq_some_iff.1 hD
              refine x_callF hC_seicheref07_Tree (a := (p0)) (cons_eq hv146 rfl) hx149 fun v147 ov147 (hv147 : v147.nf = (V.str r148)) hov147 => ?_
              refine x_gy (show _ = (V.bool r57) from rfl) hp145 ?_
              refine x_bin (show _ = (V.str r46.1) from rfl) (nf_str hv147) s_neq ?_
              refine x_gy (show _ = (V.bool (!((decide (r46.2 = 0)) == r57))) from rfl) (bnot_t hp144) ?_
              refine x_pickt' (show _ = (V.bool r57) from rfl) hp145 (show _ = (V.bool (!(decide (r46.1 = r148)))) from rfl) ?_
              refine x_pickf' (show _ = (V.bool (!((decide (r46.2 = 0)) == r57))) from rfl) (bnot_t hp144) (show _ = (V.bool (!(decide (r46.1 = r148)))) from rfl) ?_
              refine x_mv' (show _ = (V.bool (!(decide (r46.1 = r148)))) from rfl) ?_
              by_cases hp150 : r46.1 = r148
              · rw [if_pos hp150] at hD
                refine x_gy (show _ = (V.bool (!(decide (r46.1 = r148)))) from rfl) (bnot_t (decide_eq_true hp150)) ?_
                refine x_mv' (show _ = (V.bool r57) from rfl) ?_
                refine x_gy (show _ = (V.bool (!(decide (r46.1 = r148)))) from rfl) (bnot_t (decide_eq_true hp150)) ?_
                refine x_un (show _ = (V.bool r57) from rfl) (aun_not _) ?_
                refine x_gy (show _ = (V.bool (!(decide (r46.1 = r148)))) from rfl) (bnot_t (decide_eq_true hp150)) ?_
                refine x_mv' (show _ = (V.bool (!r57)) from rfl) ?_
                refine x_gn (show _ = (V.bool (!r57)) from rfl) (bnot_t hp145) ?_
                refine x_gn (show _ = (V.bool (!r57)) from rfl) (bnot_t hp145) ?_
                refine x_gn (show _ = (V.bool (!r57)) from rfl) (bnot_t hp145) ?_
                refine x_gnil (show _ = Nil from rfl) ?_
                refine x_gnil (show _ = Nil from rfl) ?_
                refine x_gn (show _ = (V.bool (!r57)) from rfl) (bnot_t hp145) ?_
                refine x_gy (show _ = (V.bool (!(decide (r46.1 = r148)))) from rfl) (bnot_t (decide_eq_true hp150)) ?_
                refine x_pickf' (show _ = (V.bool (!r57)) from rfl) (bnot_t hp145) (show _ = (V.bool false) from rfl) ?_
                refine x_pickf' (show _ = (V.bool (!(decide (r46.1 = r148)))) from rfl) (bnot_t (decide_eq_true hp150)) (show _ = (V.bool false) from rfl) ?_
                refine x_done ?_
                refine x_tN ?_
                refine x_cf (show _ = (V.bool false) from rfl) rfl ?_
                refine x_skip ?_
                refine x_tN ?_
                refine ok.seichelaw07_ObjectTrees_j1 hC_seichelaw07_alive hC_seichelaw07_greatTree hC_object_PutTree hC_seicheref07_GoodTree hC_object_GoodTree hC_seicheref07_Tree hC_object_GetTree hC_seicheref07_GetTree hC_seicheref07_SameTree (fun _ hE => ?_) ?_ hD
                · exact hR _ hE
                · exact (nf_str h1)
              · rw [if_neg hp150] at hD
                refine x_gn (show _ = (V.bool (!(decide (r46.1 = r148)))) from rfl) (bnot_f (decide_eq_false hp150)) ?_
                refine x_gn (show _ = (V.bool (!(decide (r46.1 = r148)))) from rfl) (bnot_f (decide_eq_false hp150)) ?_
                refine x_gn (show _ = (V.bool (!(decide (r46.1 = r148)))) from rfl) (bnot_f (decide_eq_false hp150)) ?_
                refine x_gnil (show _ = Nil from rfl) ?_
                refine x_gnil (show _ = Nil from rfl) ?_
                refine x_gnil (show _ = Nil from rfl) ?_
                refine x_gnil (show _ = Nil from rfl) ?_
                refine x_gnil (show _ = Nil from rfl) ?_
                refine x_gnil (show _ = Nil from rfl) ?_
                refine x_gn (show _ = (V.bool (!(decide (r46.1 = r148)))) from rfl) (bnot_f (decide_eq_false hp150)) ?_
                refine x_pickt' (show _ = (V.bool (!(decide (r46.1 = r148)))) from rfl) (bnot_f (decide_eq_false hp150)) (show _ = (V.bool true) from rfl) ?_
                refine x_done ?_
                refine x_tN ?_
                refine x_ct (show _ = (V.bool true) from rfl) rfl ?_
                refine x_seq ?_
                refine x_start (b := false) ?_
                refine x_mv' (show _ = (V.bool false) from rfl) ?_
                refine x_done ?_
                refine x_tN ?_
                refine x_retc ?_
                refine x_tR ?_
                obtain rfl := Option.some.inj hD
                exact hR _ (ends_t (nf_of rfl (show _ = (V.bool false) from rfl)) (fun h => nomatch h))
            · rw [if_neg hp145] at hD
              refine x_gn (show _ = (V.bool r57) from rfl) (Bool.eq_false_iff.2 hp145) ?_
              refine x_gn (show _ = (V.bool r57) from rfl) (Bool.eq_false_iff.2 hp145) ?_
              refine x_gn (show _ = (V.bool r57) from rfl) (Bool.eq_false_iff.2 hp145) ?_
              refine x_gn (show _ = (V.bool r57) from rfl) (Bool.eq_false_iff.2 hp145) ?_
              refine x_gy (show _ = (V.bool (!((decide (r46.2 = 0)) == r57))) from rfl) (bnot_t hp144) ?_
              refine x_pickf' (show _ = (V.bool r57) from rfl) (Bool.eq_false_iff.2 hp145) (show _ = (V.bool false) from rfl) ?_
              refine x_pickf' (show _ = (V.bool (!((decide (r46.2 = 0)) == r57))) from rfl) (bnot_t hp144) (show _ = (V.bool false) from rfl) ?_
              refine x_mv' (show _ = (V.bool false) from rfl) ?_
              refine x_gy (show _ = (V.bool false) from rfl) rfl ?_
              refine x_mv' (show _ = (V.bool r57) from rfl) ?_
              refine x_gy (show _ = (V.bool false) from rfl) rfl ?_
              refine x_un (show _ = (V.bool r57) from rfl) (aun_not _) ?_
              refine x_gy (show _ = (V.bool false) from rfl) rfl ?_
              refine x_mv' (show _ = (V.bool (!r57)) from rfl) ?_
              refine x_gy (show _ = (V.bool (!r57)) from rfl) (bnot_f (Bool.eq_false_iff.2 hp145)) ?_
              refine x_mv' (show _ = (V.int .i64 r46.2) from rfl) ?_
              refine x_gy (show _ = (V.bool (!r57)) from rfl) (bnot_f (Bool.eq_false_iff.2 hp145)) ?_
              refine x_bin (show _ = (V.int .i64 r46.2) from rfl) (show _ = (V.int .i64 1) from rfl) b_neq ?_
              refine x_gy (show _ = (V.bool (!r57)) from rfl) (bnot_f (Bool.eq_false_iff.2 hp145)) ?_
              refine x_mv' (show _ = (V.bool (!(decide (r46.2 = 1)))) from rfl) ?_
              by_cases hp151 : r46.2 = 1
              · rw [if_pos hp151] at hD
                refine x_gy (show _ = (V.bool (!(decide (r46.2 = 1)))) from rfl) (bnot_t (decide_eq_true hp151)) ?_
                refine x_mv' (show _ = (V.str r46.1) from rfl) ?_
                refine x_gy (show _ = (V.bool (!(decide (r46.2 = 1)))) from rfl) (bnot_t (decide_eq_true hp151)) ?_
                refine x_bin (show _ = (V.str r46.1) from rfl) (show _ = (V.str ([] : Bytes)) from rfl) s_neq ?_
                refine x_gy (show _ = (V.bool (!r57)) from rfl) (bnot_f (Bool.eq_false_iff.2 hp145)) ?_
                refine x_pickf' (show _ = (V.bool (!(decide (r46.2 = 1)))) from rfl) (bnot_t (decide_eq_true hp151)) (show _ = (V.bool (!(decide (r46.1 = ([] : Bytes))))) from rfl) ?_
                refine x_gy (show _ = (V.bool false) from rfl) rfl ?_
                refine x_pickt' (show _ = (V.bool (!r57)) from rfl) (bnot_f (Bool.eq_false_iff.2 hp145)) (show _ = (V.bool (!(decide (r46.1 = ([] : Bytes))))) from rfl) ?_
                refine x_pickf' (show _ = (V.bool false) from rfl) rfl (show _ = (V.bool (!(decide (r46.1 = ([] : Bytes))))) from rfl) ?_
                refine x_done ?_
                refine x_tN ?_
                by_cases hp152 : r46.1 = ([] : Bytes)
                · rw [if_pos hp152] at hD
                  refine x_cf (show _ = (V.bool (!(decide (r46.1 = ([] : Bytes))))) from rfl) (bnot_t (decide_eq_true hp152)) ?_
                  refine x_skip ?_
                  refine x_tN ?_
                  refine ok.seichelaw07_ObjectTrees_j1 hC_seichelaw07_alive hC_seichelaw07_greatTree hC_object_PutTree hC_seicheref07_GoodTree hC_object_GoodTree hC_seicheref07_Tree hC_object_GetTree hC_seicheref07_GetTree hC_seicheref07_SameTree (fun _ hE => ?_) ?_ hD
                  · exact hR _ hE
                  · exact (nf_str h1)
                · rw [if_neg hp152] at hD
                  refine x_ct (show _ = (V.bool (!(decide (r46.1 = ([] : Bytes))))) from rfl) (bnot_f (decide_eq_false hp152)) ?_
                  refine x_seq ?_
                  refine x_start (b := false) ?_
                  refine x_mv' (show _ = (V.bool false) from rfl) ?_
                  refine x_done ?_
                  refine x_tN ?_
                  refine x_retc ?_
                  refine x_tR ?_
                  obtain rfl := Option.some.inj hD
                  exact hR _ (ends_t (nf_of rfl (show _ = (V.bool false) from rfl)) (fun h => nomatch h))
              · rw [if_neg hp151] at hD
                refine x_gn (show _ = (V.bool (!(decide (r46.2 = 1)))) from rfl) (bnot_f (decide_eq_false hp151)) ?_
                refine x_gn (show _ = (V.bool (!(decide (r46.2 = 1)))) from rfl) (bnot_f (decide_eq_false hp151)) ?_
                refine x_gy (show _ = (V.bool (!r57)) from rfl) (bnot_f (Bool.eq_false_iff.2 hp145)) ?_
                refine x_pickt' (show _ = (V.bool (!(decide (r46.2 = 1)))) from rfl) (bnot_f (decide_eq_false hp151)) (show _ = (V.bool true) from rfl) ?_
                refine x_gy (show _ = (V.bool false) from rfl) rfl ?_
                refine x_pickt' (show _ = (V.bool (!r57)) from rfl) (bnot_f (Bool.eq_false_iff.2 hp145)) (show _ = (V.bool true) from rfl) ?_
                refine x_pickf' (show _ = (V.bool false) from rfl) rfl (show _ = (V.bool true) from rfl) ?_
                refine x_done ?_
                refine x_tN ?_
                refine x_ct (show _ = (V.bool true) from rfl) rfl ?_
                refine x_seq ?_
                refine x_start (b := false) ?_
                refine x_mv' (show _ = (V.bool false) from rfl) ?_
                refine x_done ?_
                refine x_tN ?_
                refine x_retc ?_
                refine x_tR ?_
                obtain rfl := Option.some.inj hD
                exact hR _ (ends_t (nf_of rfl (show _ = (V.bool false) from rfl)) (fun h => nomatch h))
          · rw [if_neg hp144] at hD
            refine x_gn (show _ = (V.bool (!((decide (r46.2 = 0)) == r57))) from rfl) (bnot_f (Bool.eq_false_iff.2 hp144)) ?_
            refine x_gn (show _ = (V.bool (!((decide (r46.2 = 0)) == r57))) from rfl) (bnot_f (Bool.eq_false_iff.2 hp144)) ?_
            refine x_gnil (show _ = Nil from rfl) ?_
            refine x_gnil (show _ = Nil from rfl) ?_
            refine x_gnil (show _ = Nil from rfl) ?_
            refine x_gnil (show _ = Nil from rfl) ?_
            refine x_gn (show _ = (V.bool (!((decide (r46.2 = 0)) == r57))) from rfl) (bnot_f (Bool.eq_false_iff.2 hp144)) ?_
            refine x_pickt' (show _ = (V.bool (!((decide (r46.2 = 0)) == r57))) from rfl) (bnot_f (Bool.eq_false_iff.2 hp144)) (show _ = (V.bool true) from rfl) ?_
            refine x_mv' (show _ = (V.bool true) from rfl) ?_
            refine x_gn (show _ = (V.bool true) from rfl) rfl ?_
            refine x_gn (show _ = (V.bool true) from rfl) rfl ?_
            refine x_gn (show _ = (V.bool true) from rfl) rfl ?_
            refine x_gnil (show _ = Nil from rfl) ?_
            refine x_gnil (show _ = Nil from rfl) ?_
            refine x_gnil (show _ = Nil from rfl) ?_
            refine x_gnil (show _ = Nil from rfl) ?_
            refine x_gnil (show _ = Nil from rfl) ?_
            refine x_gnil (show _ = Nil from rfl) ?_
            refine x_gn (show _ = (V.bool true) from rfl) rfl ?_
            refine x_pickt' (show _ = (V.bool true) from rfl) rfl (show _ = (V.bool true) from rfl) ?_
            refine x_done ?_
            refine x_tN ?_
            refine x_ct (show _ = (V.bool true) from rfl) rfl ?_
            refine x_seq ?_
            refine x_start (b := false) ?_
            refine x_mv' (show _ = (V.bool false) from rfl) ?_
            refine x_done ?_
            refine x_tN ?_
            refine x_retc ?_
            refine x_tR ?_
            obtain rfl := Option.some.inj hD
            exact hR _ (ends_t (nf_of rfl (show _ = (V.bool false) from rfl)) (fun h => nomatch h))
        · rw [if_neg hp143] at hD
          refine x_gn (show _ = (V.bool (!(r141 == r57))) from rfl) (bnot_f (Bool.eq_false_iff.2 hp143)) ?_
          refine x_gn (show _ = (V.bool (!(r141 == r57))) from rfl) (bnot_f (Bool.eq_false_iff.2 hp143)) ?_
          refine x_gn (show _ = (V.bool (!(r141 == r57))) from rfl) (bnot_f (Bool.eq_false_iff.2 hp143)) ?_
          refine x_gn (show _ = (V.bool (!(r141 == r57))) from rfl) (bnot_f (Bool.eq_false_iff.2 hp143)) ?_
          refine x_pickt' (show _ = (V.bool (!(r141 == r57))) from rfl) (bnot_f (Bool.eq_false_iff.2 hp143)) (show _ = (V.bool true) from rfl) ?_
          refine x_mv' (show _ = (V.bool true) from rfl) ?_
          refine x_gn (show _ = (V.bool true) from rfl) rfl ?_
          refine x_gn (show _ = (V.bool true) from rfl) rfl ?_
          refine x_gnil (show _ = Nil from rfl) ?_
          refine x_gnil (show _ = Nil from rfl) ?_
          refine x_gnil (show _ = Nil from rfl) ?_
          refine x_gnil (show _ = Nil from rfl) ?_
          refine x_gn (show _ = (V.bool true) from rfl) rfl ?_
          refine x_pickt' (show _ = (V.bool true) from rfl) rfl (show _ = (V.bool true) from rfl) ?_
          refine x_mv' (show _ = (V.bool true) from rfl) ?_
          refine x_gn (show _ = (V.bool true) from rfl) rfl ?_
          refine x_gn (show _ = (V.bool true) from rfl) rfl ?_
          refine x_gn (show _ = (V.bool true) from rfl) rfl ?_
          refine x_gnil (show _ = Nil from rfl) ?_
          refine x_gnil (show _ = Nil from rfl) ?_
          refine x_gnil (show _ = Nil from rfl) ?_
          refine x_gnil (show _ = Nil from rfl) ?_
          refine x_gnil (show _ = Nil from rfl) ?_
          refine x_gnil (show _ = Nil from rfl) ?_
          refine x_gn (show _ = (V.bool true) from rfl) rfl ?_
          refine x_pickt' (show _ = (V.bool true) from rfl) rfl (show _ = (V.bool true) from rfl) ?_
          refine x_done ?_
          refine x_tN ?_
          refine x_ct (show _ = (V.bool true) from rfl) rfl ?_
          refine x_seq ?_
          refine x_start (b := false) ?_
          refine x_mv' (show _ = (V.bool false) from rfl) ?_
          refine x_done ?_
          refine x_tN ?_
          refine x_retc ?_
          refine x_tR ?_
          obtain rfl := Option.some.inj hD
          exact hR _ (ends_t (nf_of rfl (show _ = (V.bool false) from rfl)) (fun h => nomatch h))
  · rw [if_neg hp14] at hD
    refine x_ct (show _ = (V.bool (!r12)) from rfl) (bnot_f (Bool.eq_false_iff.2 hp14)) ?_
    refine x_seq ?_
    refine x_start (b := false) ?_
    refine x_mv' (show _ = (V.bool false) from rfl) ?_
    refine x_done ?_
    refine x_tN ?_
    refine x_retc ?_
    refine x_tR ?_
    obtain rfl := Option.some.inj hD
    exact hR _ (ends_t (nf_of rfl (show _ = (V.bool false) from rfl)) (fun h => nomatch h))
def K.seichelaw07_ObjectTrees : FC := fc F.seichelaw07_ObjectTrees (fun _ => true) false (fun (a : ((List T.Entry) × Bytes)) => [(V.sl false 34 (List.map E.Entry a.1)), (V.str a.2)]) (fun (y : Bool) => (V.bool y)) (fun a => g.seichelaw07_ObjectTrees a.1 a.2)
  (fun a => (cleanL_mk (E.LEntry_clean _) (cleanL_mk rfl rfl)))
  (fun y => rfl)
  (fun ⟨a0, a1⟩ ⟨b0, b1⟩ h => by
    obtain ⟨h0, h⟩ := List.cons.inj h
    obtain rfl : a0 = b0 := E.LEntry_inj h0
    obtain ⟨h0, h⟩ := List.cons.inj h
    obtain rfl : a1 = b1 := V.str.inj h0
    rfl)
theorem H.seichelaw07_ObjectTrees (w : World) (hw : EnvOK w) : K.seichelaw07_ObjectTrees.Holds (cxD w) :=
  FC.holds_of (cs := [K.seichelaw07_alive, K.seichelaw07_greatTree, K.object_PutTree, K.seicheref07_GoodTree, K.object_GoodTree, K.seicheref07_Tree, K.object_GetTree, K.seicheref07_GetTree, K.seicheref07_SameTree]) (glD w) mixed cf_seichelaw07_ObjectTrees (fun _ _ ⟨_, _, h, _⟩ => by subst h; exact Nat.le_of_ble_eq_true rfl) fun v y ⟨a, r, hv, hD, hy⟩ => by
    subst hy
    exact ok.seichelaw07_ObjectTrees (specOf_calls (H.seichelaw07_alive w hw) (fun _ _ ⟨_, _, h, _⟩ => by subst h; rfl)) (specOf_calls (H.seichelaw07_greatTree w hw) (fun _ _ ⟨_, _, h, _⟩ => by subst h; rfl)) (specOf_calls (H.object_PutTree w hw) (fun _ _ ⟨_, _, h, _⟩ => by subst h; rfl)) (specOf_calls (H.seicheref07_GoodTree w hw) (fun _ _ ⟨_, _, h, _⟩ => by subst h; rfl)) (specOf_calls (H.object_GoodTree w hw) (fun _ _ ⟨_, _, h, _⟩ => by subst h; rfl)) (specOf_calls (H.seicheref07_Tree w hw) (fun _ _ ⟨_, _, h, _⟩ => by subst h; rfl)) (specOf_calls (H.object_GetTree w hw) (fun _ _ ⟨_, _, h, _⟩ => by subst h; rfl)) (specOf_calls (H.seicheref07_GetTree w hw) (fun _ _ ⟨_, _, h, _⟩ => by subst h; rfl)) (specOf_calls (H.seicheref07_SameTree w hw) (fun _ _ ⟨_, _, h, _⟩ => by subst h; rfl)) hv hD
def c_seichelaw07_ObjectLess : ACode := (.seq (.region [
  ⟨(some 4), (.mv (.const (.bool false))), none, []⟩] false) (.seq (.seq (.region [
  ⟨(some 9), (.call F.seichelaw07_alive []), none, []⟩, 
  ⟨(some 10), (.un .not (.tmp 9)), none, []⟩] false) (.cond (.tmp 10) (.seq (.region [
  ⟨(some 4), (.mv (.const (.bool false))), none, []⟩] false) .ret) .skip)) (.seq (.seq (.region [
  ⟨(some 11), (.mv (.tmp 0)), none, []⟩, 
  ⟨(some 12), (.call F.seichelaw07_greatTree [(.tmp 11)]), none, []⟩, 
  ⟨(some 13), (.mv (.tmp 12)), none, []⟩, 
  ⟨(some 14), (.mv (.tmp 1)), (some (13, false)), []⟩, 
  ⟨(some 15), (.bin .lss .no (.tmp 14) (.const (.int .i64 0))), (some (13, false)), []⟩, 
  ⟨(some 16), (.pick (.tmp 13) (.const (.bool true)) (.tmp 15)), none, []⟩, 
  ⟨(some 17), (.mv (.tmp 16)), none, []⟩, 
  ⟨(some 18), (.mv (.tmp 1)), (some (17, false)), []⟩, 
  ⟨(some 19), (.mv (.tmp 0)), (some (17, false)), []⟩, 
  ⟨(some 20), (.len false (.tmp 19)), (some (17, false)), []⟩, 
  ⟨(some 21), (.bin .geq .no (.tmp 18) (.tmp 20)), (some (17, false)), []⟩, 
  ⟨(some 22), (.pick (.tmp 17) (.const (.bool true)) (.tmp 21)), none, []⟩, 
  ⟨(some 23), (.mv (.tmp 22)), none, []⟩, 
  ⟨(some 24), (.mv (.tmp 0)), (some (23, false)), []⟩, 
  ⟨(some 25), (.call F.seicheref07_GoodTree [(.tmp 24)]), (some (23, false)), []⟩, 
  ⟨(some 26), (.un .not (.tmp 25)), (some (23, false)), []⟩, 
  ⟨(some 27), (.pick (.tmp 23) (.const (.bool true)) (.tmp 26)), none, []⟩] false) (.cond (.tmp 27) (.seq (.region [
  ⟨(some 4), (.mv (.const (.bool true))), none, []⟩] false) .ret) .skip)) (.seq (.region [
  ⟨(some 29), (.mv (.tmp 0)), none, []⟩, 
  ⟨(some 30), (.call F.object_PutTree [(.tmp 29)]), none, []⟩, 
  ⟨(some 28), (.mv (.tmp 30)), none, []⟩, 
  ⟨(some 31), (.ext (.tmp 28) 0), none, []⟩, 
  ⟨(some 32), (.ext (.tmp 28) 1), none, []⟩, 
  ⟨(some 5), (.mv (.tmp 31)), none, []⟩, 
  ⟨(some 6), (.mv (.tmp 32)), none, []⟩] false) (.seq (.region [
  ⟨(some 34), (.bsl 34 []), none, []⟩, 
  ⟨(some 35), (.mv (.tmp 0)), none, []⟩, 
  ⟨(some 36), (.mv (.tmp 1)), none, []⟩, 
  ⟨(some 37), (.slc 34 (.tmp 35) none (some (.tmp 36)) none), none, []⟩, 
  ⟨(some 38), (.app 34 (.tmp 34) (.tmp 37)), none, []⟩, 
  ⟨(some 39), (.mv (.tmp 0)), none, []⟩, 
  ⟨(some 40), (.mv (.tmp 1)), none, []⟩, 
  ⟨(some 41), (.bin .add .no (.tmp 40) (.const (.int .i64 1))), none, []⟩, 
  ⟨(some 42), (.slc 34 (.tmp 39) (some (.tmp 41)) none none), none, []⟩, 
  ⟨(some 43), (.app 34 (.tmp 38) (.tmp 42)), none, []⟩, 
  ⟨(some 44), (.call F.object_PutTree [(.tmp 43)]), none, []⟩, 
  ⟨(some 33), (.mv (.tmp 44)), none, []⟩, 
  ⟨(some 45), (.ext (.tmp 33) 0), none, []⟩, 
  ⟨(some 46), (.ext (.tmp 33) 1), none, []⟩, 
  ⟨(some 7), (.mv (.tmp 45)), none, []⟩, 
  ⟨(some 8), (.mv (.tmp 46)), none, []⟩] true) (.seq (.region [
  ⟨(some 47), (.mv (.tmp 6)), none, []⟩, 
  ⟨(some 48), (.bin .eql .no (.tmp 47) (.const (.int .i64 0))), none, []⟩, 
  ⟨(some 49), (.mv (.tmp 48)), none, []⟩, 
  ⟨(some 50), (.mv (.tmp 8)), (some (49, true)), []⟩, 
  ⟨(some 51), (.bin .eql .no (.tmp 50) (.const (.int .i64 0))), (some (49, true)), []⟩, 
  ⟨(some 52), (.pick (.tmp 49) (.tmp 51) (.const (.bool false))), none, []⟩, 
  ⟨(some 53), (.mv (.tmp 52)), none, []⟩, 
  ⟨(some 54), (.mv (.tmp 5)), (some (53, true)), []⟩, 
  ⟨(some 55), (.mv (.tmp 7)), (some (53, true)), []⟩, 
  ⟨(some 56), (.bin .neq .no (.tmp 54) (.tmp 55)), (some (53, true)), []⟩, 
  ⟨(some 57), (.pick (.tmp 53) (.tmp 56) (.const (.bool false))), none, []⟩, 
  ⟨(some 58), (.mv (.tmp 57)), none, []⟩, 
  ⟨(some 59), (.mv (.tmp 7)), (some (58, true)), []⟩, 
  ⟨(some 60), (.len true (.tmp 59)), (some (58, true)), []⟩, 
  ⟨(some 61), (.mv (.tmp 5)), (some (58, true)), []⟩, 
  ⟨(some 62), (.len true (.tmp 61)), (some (58, true)), []⟩, 
  ⟨(some 63), (.bin .lss .no (.tmp 60) (.tmp 62)), (some (58, true)), []⟩, 
  ⟨(some 64), (.pick (.tmp 58) (.tmp 63) (.const (.bool false))), none, []⟩, 
  ⟨(some 4), (.mv (.tmp 64)), none, []⟩] false) .ret))))))
theorem cf_seichelaw07_ObjectLess : cFn Go.Proofs.Tryd.prog F.seichelaw07_ObjectLess = some ⟨65, c_seichelaw07_ObjectLess, [.t 4]⟩ := by kernel_rfl
def g.seichelaw07_ObjectLess (p0 : (List T.Entry)) (p1 : Int) : Option Bool :=
  (g.seichelaw07_alive).bind fun r12 =>
  if r12 = true then
    (g.seichelaw07_greatTree p0).bind fun r54 =>
    if r54 = true then
      some true
    else
      if p1 < 0 then
        some true
      else
        if ((p0.length : Nat) : Int) ≤ p1 then
          some true
        else
          (g.seicheref07_GoodTree p0).bind fun r62 =>
          if r62 = true then
            (g.object_PutTree p0).bind fun r74 =>
            (cut p0 0 p1).bind fun q102 =>
            (appL ([] : (List T.Entry)) q102).bind fun l105 =>
            (cut p0 (wi (p1 + 1)) (p0.length : Nat)).bind fun q109 =>
            (appL l105 q109).bind fun l112 =>
            (g.object_PutTree l112).bind fun r116 =>
            if r74.2 = 0 then
              if r116.2 = 0 then
                if r74.1 = r116.1 then
                  some false
                else
                  some (decide (((r116.1.length : Nat) : Int) < ((r74.1.length : Nat) : Int)))
              else
                some false
            else
              some false
          else
            some true
  else
    some false
theorem ok.seichelaw07_ObjectLess {Γ : Abs.Spec} {gl : Glob} (hC_seichelaw07_alive : CallsX Γ K.seichelaw07_alive) (hC_seichelaw07_greatTree : CallsX Γ K.seichelaw07_greatTree) (hC_seicheref07_GoodTree : CallsX Γ K.seicheref07_GoodTree) (hC_object_PutTree : CallsX Γ K.object_PutTree) {r : Bool} {p0 : (List T.Entry)} {p1 : Int} {v : List V}
    (hv : nfL v = [(V.sl false 34 (List.map E.Entry p0)), (V.int .i64 p1)]) (hD : g.seichelaw07_ObjectLess p0 p1 = some r) : awp Γ gl c_seichelaw07_ObjectLess (endQ [.t 4] false (V.bool r)) (St.init v) := by
  obtain ⟨v0, v, rfl, h0, hv⟩ := nfL_cons hv
  obtain ⟨v1, v, rfl, h1, hv⟩ := nfL_cons hv
  obtain rfl := nfL_nil hv
  have hR : ∀ s, EndsX [.t 4] false (V.bool r) s → endQ [.t 4] false (V.bool r) .ret s := fun _ h => h
  unfold g.seichelaw07_ObjectLess at hD
  unfold c_seichelaw07_ObjectLess
  refine x_seq ?_
  refine x_start (b := false) ?_
  refine x_mv' (show _ = (V.bool false) from rfl) ?_
  refine x_done ?_
  refine x_tN ?_
  refine x_seq ?_
  refine x_seq ?_
  refine x_start (b := false) ?_
  obtain ⟨r12, hx13, hD⟩ := Option.bind_eq_some_iff.1 hD
  refine x_callF hC_seichelaw07_alive (a := ()) rfl hx13 fun v11 ov11 (hv11 : v11.nf = (V.bool r12)) hov11 => ?_
  refine x_un (nf_bool hv11) (aun_not _) ?_
  refine x_done ?_
  refine x_tN ?_
  by_cases hp14 : r12 = true
  · rw [if_pos hp14] at hD
    refine x_cf (show _ = (V.bool (!r12)) from rfl) (bnot_t hp14) ?_
    refine x_skip ?_
    refine x_tN ?_
    refine x_seq ?_
    refine x_seq ?_
    refine x_start (b := false) ?_
    refine x_mv h0 fun v52 hv52 => ?_
    obtain ⟨r54, hx55, hD⟩ := Option.bind_eq_some_iff.1 hD
    refine x_callF hC_seichelaw07_greatTree (a := (p0)) (cons_eq hv52 rfl) hx55 fun v53 ov53 (hv53 : v53.nf = (V.bool r54)) hov53 => ?_
    refine x_mv' (nf_bool hv53) ?_
    by_cases hp56 : r54 = true
    · rw [if_pos hp56] at hD
      refine x_gn (show _ = (V.bool r54) from rfl) hp56 ?_
      refine x_gn (show _ = (V.bool r54) from rfl) hp56 ?_
      refine x_pickt' (show _ = (V.bool r54) from rfl) hp56 (show _ = (V.bool true) from rfl) ?_
      refine x_mv' (show _ = (V.bool true) from rfl) ?_
      refine x_gn (show _ = (V.bool true) from rfl) rfl ?_
      refine x_gn (show _ = (V.bool true) from rfl) rfl ?_
      refine x_gn (show _ = (V.bool true) from rfl) rfl ?_
      refine x_gn (show _ = (V.bool true) from rfl) rfl ?_
      refine x_pickt' (show _ = (V.bool true) from rfl) rfl (show _ = (V.bool true) from rfl) ?_
      refine x_mv' (show _ = (V.bool true) from rfl) ?_
      refine x_gn (show _ = (V.bool true) from rfl) rfl ?_
      refine x_gn (show _ = (V.bool true) from rfl) rfl ?_
      refine x_gn (show _ = (V.bool true) from rfl) rfl ?_
      refine x_pickt' (show _ = (V.bool true) from rfl) rfl (show _ = (V.bool true) from rfl) ?_
      refine x_done ?_
      refine x_tN ?_
      refine x_ct (show _ = (V.bool true) from rfl) rfl ?_
      refine x_seq ?_
      refine x_start (b := false) ?_
      refine x_mv' (show _ = (V.bool true) from rfl) ?_
      refine x_done ?_
      refine x_tN ?_
      refine x_retc ?_
      refine x_tR ?_
      obtain rfl := Option.some.inj hD
      exact hR _ (ends_t (nf_of rfl (show _ = (V.bool true) from rfl)) (fun h => nomatch h))
    · rw [if_neg hp56] at hD
      refine x_gy (show _ = (V.bool r54) from rfl) (Bool.eq_false_iff.2 hp56) ?_
      refine x_mv' (nf_int h1) ?_
      refine x_gy (show _ = (V.bool r54) from rfl) (Bool.eq_false_iff.2 hp56) ?_
      refine x_bin (show _ = (V.int .i64 p1) from rfl) (show _ = (V.int .i64 0) from rfl) b_lss ?_
      refine x_pickf' (show _ = (V.bool r54) from rfl) (Bool.eq_false_iff.2 hp56) (show _ = (V.bool (decide (p1 < 0))) from rfl) ?_
      refine x_mv' (show _ = (V.bool (decide (p1 < 0))) from rfl) ?_
      by_cases hp57 : p1 < 0
      · rw [if_pos hp57] at hD
        refine x_gn (show _ = (V.bool (decide (p1 < 0))) from rfl) (decide_eq_true hp57) ?_
        refine x_gn (show _ = (V.bool (decide (p1 < 0))) from rfl) (decide_eq_true hp57) ?_
        refine x_gn (show _ = (V.bool (decide (p1 < 0))) from rfl) (decide_eq_true hp57) ?_
        refine x_gn (show _ = (V.bool (decide (p1 < 0))) from rfl) (decide_eq_true hp57) ?_
        refine x_pickt' (show _ = (V.bool (decide (p1 < 0))) from rfl) (decide_eq_true hp57) (show _ = (V.bool true) from rfl) ?_
        refine x_mv' (show _ = (V.bool true) from rfl) ?_
        refine x_gn (show _ = (V.bool true) from rfl) rfl ?_
        refine x_gn (show _ = (V.bool true) from rfl) rfl ?_
        refine x_gn (show _ = (V.bool true) from rfl) rfl ?_
        refine x_pickt' (show _ = (V.bool true) from rfl) rfl (show _ = (V.bool true) from rfl) ?_
        refine x_done ?_
        refine x_tN ?_
        refine x_ct (show _ = (V.bool true) from rfl) rfl ?_
        refine x_seq ?_
        refine x_start (b := false) ?_
        refine x_mv' (show _ = (V.bool true) from rfl) ?_
        refine x_done ?_
        refine x_tN ?_
        refine x_retc ?_
        refine x_tR ?_
        obtain rfl := Option.some.inj hD
        exact hR _ (ends_t (nf_of rfl (show _ = (V.bool true) from rfl)) (fun h => nomatch h))
      · rw [if_neg hp57] at hD
        refine x_gy (show _ = (V.bool (decide (p1 < 0))) from rfl) (decide_eq_false hp57) ?_
        refine x_mv' (nf_int h1) ?_
        refine x_gy (show _ = (V.bool (decide (p1 < 0))) from rfl) (decide_eq_false hp57) ?_
        refine x_mv h0 fun v58 hv58 => ?_
        refine x_gy (show _ = (V.bool (decide (p1 < 0))) from rfl) (decide_eq_false hp57) ?_
        refine x_len hv58 ?_
        refine x_gy (show _ = (V.bool (decide (p1 < 0))) from rfl) (decide_eq_false hp57) ?_
        refine x_bin (show _ = (V.int .i64 p1) from rfl) (show _ = (V.int .i64 ((p0.length : Nat) : Int)) from rfl) b_geq ?_
        refine x_pickf' (show _ = (V.bool (decide (p1 < 0))) from rfl) (decide_eq_false hp57) (show _ = (V.bool (decide (((p0.length : Nat) : Int) ≤ p1))) from rfl) ?_
        refine x_mv' (show _ = (V.bool (decide (((p0.length : Nat) : Int) ≤ p1))) from rfl) ?_
        by_cases hp59 : ((p0.length : Nat) : Int) ≤ p1
        · rw [if_pos hp59] at hD
          refine x_gn (show _ = (V.bool (decide (((p0.length : Nat) : Int) ≤ p1))) from rfl) (decide_eq_true hp59) ?_
          refine x_gn (show _ = (V.bool (decide (((p0.length : Nat) : Int) ≤ p1))) from rfl) (decide_eq_true hp59) ?_
          refine x_gn (show _ = (V.bool (decide (((p0.length : Nat) : Int) ≤ p1))) from rfl) (decide_eq_true hp59) ?_
          refine x_pickt' (show _ = (V.bool (decide (((p0.length : Nat) : Int) ≤ p1))) from rfl) (decide_eq_true hp59) (show _ = (V.bool true) from rfl) ?_
          refine x_done ?_
          refine x_tN ?_
          refine x_ct (show _ = (V.bool true) from rfl) rfl ?_
          refine x_seq ?_
          refine x_start (b := false) ?_
          refine x_mv' (show _ = (V.bool true) from rfl) ?_
          refine x_done ?_
          refine x_tN ?_
          refine x_retc ?_
          refine x_tR ?_
          obtain rfl := Option.some.inj hD
          exact hR _ (ends_t (nf_of rfl (show _ = (V.bool true) from rfl)) (fun h => nomatch h))
        · rw [if_neg hp59] at hD
          refine x_gy (show _ = (V.bool (decide (((p0.length : Nat) : Int) ≤ p1))) from rfl) (decide_eq_false hp59) ?_
          refine x_mv h0 fun v60 hv60 => ?_
          refine x_gy (show _ = (V.bool (decide (((p0.length : Nat) : Int) ≤ p1))) from rfl) (decide_eq_false hp59) ?_
          obtain ⟨r62, hx63, hD⟩ := Option.bind_eq_some_iff.1 hD
          refine x_callF hC_seicheref07_GoodTree (a := (p0)) (cons_eq hv60 rfl) hx63 fun v61 ov61 (hv61 : v61.nf = (V.bool r62)) hov61 => ?_
          refine x_gy (show _ = (V.bool (decide (((p0.length : Nat) : Int) ≤ p1))) from rfl) (decide_eq_false hp59) ?_
          refine x_un (nf_bool hv61) (aun_not _) ?_
          refine x_pickf' (show _ = (V.bool (decide (((p0.length : Nat) : Int) ≤ p1))) from rfl) (decide_eq_false hp59) (show _ = (V.bool (!r62)) from rfl) ?_
          refine x_done ?_
          refine x_tN ?_
          by_cases hp64 : r62 = true
          · rw [if_pos hp64] at hD
            refine x_cf (show _ = (V.bool (!r62)) from rfl) (bnot_t hp64) ?_
            refine x_skip ?_
            refine x_tN ?_
            refine x_seq ?_
            refine x_start (b := false) ?_
            refine x_mv h0 fun v72 hv72 => ?_
            obtain ⟨r74, hx75, hD⟩ := Option.bind_eq_some_iff.1 hD
            refine x_callF hC_object_PutTree (a := (p0)) (cons_eq hv72 rfl) hx75 fun v73 ov73 (hv73 : v73.nf = (V.tup [(V.str r74.1), (V.int .i64 r74.2)])) hov73 => ?_
            refine x_mv hv73 fun v76 hv76 => ?_
            refine x_ext hv76 (show _ = some (V.str r74.1) from rfl) fun v77 hv77 => ?_
            refine x_ext hv76 (show _ = some (V.int .i64 r74.2) from rfl) fun v78 hv78 => ?_
            refine x_mv' (nf_str hv77) ?_
            refine x_mv' (nf_int hv78) ?_
            refine x_done ?_
            refine x_tN ?_
            refine x_seq ?_
            refine x_start (b := true) ?_
            refine x_bsl (E := E.Entry) (l := ([] : (List T.Entry))) rfl (fits_map (E := E.Entry) (sz := 34) (fun x => E.Entry_fit x) _) fun v100 ov100 hv100 hov100 => ?_
            refine x_mv h0 fun v101 hv101 => ?_
            refine x_mv' (nf_int h1) ?_
            obtain ⟨q102, hx103, hD⟩ := Option.bind_eq_some_iff.1 hD
            refine x_slc (ka := .i64) (kb := .i64) hv101 (Eq.refl (0 : Int)) (show _ = (V.int .i64 p1) from rfl) hx103 fun v104 hv104 => ?_
            obtain ⟨l105, hx106, hD⟩ := Option.bind_eq_some_iff.1 hD
            refine x_app hv100 hov100 (tail_sl hv104) hx106 fun v107 ov107 fv107 hv107 hov107 hfv107 => ?_
            refine x_mv h0 fun v108 hv108 => ?_
            refine x_mv' (nf_int h1) ?_
            refine x_bin (show _ = (V.int .i64 p1) from rfl) (show _ = (V.int .i64 1) from rfl) b_add ?_
            obtain ⟨q109, hx110, hD⟩ := Option.bind_eq_some_iff.1 hD
            refine x_slc (ka := .i64) (kb := .i64) hv108 (show _ = (V.int .i64 (wi (p1 + 1))) from rfl) rfl hx110 fun v111 hv111 => ?_
            obtain ⟨l112, hx113, hD⟩ := Option.bind_eq_some_iff.1 hD
            refine x_app hv107 hov107 (tail_sl hv111) hx113 fun v114 ov114 fv114 hv114 hov114 hfv114 => ?_
            obtain ⟨r116, hx117, hD⟩ := Option.bind_eq_some_iff.1 hD
            refine x_callF hC_object_PutTree (a := (l112)) (cons_eq hv114 rfl) hx117 fun v115 ov115 (hv115 : v115.nf = (V.tup [(V.str r116.1), (V.int .i64 r116.2)])) hov115 => ?_
            refine x_mv hv115 fun v118 hv118 => ?_
            refine x_ext hv118 (show _ = some (V.str r116.1) from rfl) fun v119 hv119 => ?_
            refine x_ext hv118 (show _ = some (V.int .i64 r116.2) from rfl) fun v120 hv120 => ?_
            refine x_mv' (nf_str hv119) ?_
            refine x_mv' (nf_int hv120) ?_
            refine x_done ?_
            refine x_tN ?_
            refine x_seq ?_
            refine x_start (b := false) ?_
            refine x_mv' (show _ = (V.int .i64 r74.2) from rfl) ?_
            refine x_bin (show _ = (V.int .i64 r74.2) from rfl) (show _ = (V.int .i64 0) from rfl) b_eql ?_
            refine x_mv' (show _ = (V.bool (decide (r74.2 = 0))) from rfl) ?_
            by_cases hp121 : r74.2 = 0
            · rw [if_pos hp121] at hD
              refine x_gy (show _ = (V.bool (decide (r74.2 = 0))) from rfl) (decide_eq_true hp121) ?_
              refine x_mv' (show _ = (V.int .i64 r116.2) from rfl) ?_
              refine x_gy (show _ = (V.bool (decide (r74.2 = 0))) from rfl) (decide_eq_true hp121) ?_
              refine x_bin (show _ = (V.int .i64 r116.2) from rfl) (show _ = (V.int .i64 0) from rfl) b_eql ?_
              refine x_pickt' (show _ = (V.bool (decide (r74.2 = 0))) from rfl) (decide_eq_true hp121) (show _ = (V.bool (decide (r116.2 = 0))) from rfl) ?_
              refine x_mv' (show _ = (V.bool (decide (r116.2 = 0))) from rfl) ?_
              by_cases hp122 : r116.2 = 0
              · rw [if_pos hp122] at hD
                refine x_gy (show _ = (V.bool (decide (r116.2 = 0))) from rfl) (decide_eq_true hp122) ?_
                refine x_mv' (show _ = (V.str r74.1) from rfl) ?_
                refine x_gy (show _ = (V.bool (decide (r116.2 = 0))) from rfl) (decide_eq_true hp122) ?_
                refine x_mv' (show _ = (V.str r116.1) from rfl) ?_
                refine x_gy (show _ = (V.bool (decide (r116.2 = 0))) from rfl) (decide_eq_true hp122) ?_
                refine x_bin (show _ = (V.str r74.1) from rfl) (show _ = (V.str r116.1) from rfl) s_neq ?_
                refine x_pickt' (show _ = (V.bool (decide (r116.2 = 0))) from rfl) (decide_eq_true hp122) (show _ = (V.bool (!(decide (r74.1 = r116.1)))) from rfl) ?_
                refine x_mv' (show _ = (V.bool (!(decide (r74.1 = r116.1)))) from rfl) ?_
                by_cases hp123 : r74.1 = r116.1
                · rw [if_pos hp123] at hD
                  refine x_gn (show _ = (V.bool (!(decide (r74.1 = r116.1)))) from rfl) (bnot_t (decide_eq_true hp123)) ?_
                  refine x_gn (show _ = (V.bool (!(decide (r74.1 = r116.1)))) from rfl) (bnot_t (decide_eq_true hp123)) ?_
                  refine x_gn (show _ = (V.bool (!(decide (r74.1 = r116.1)))) from rfl) (bnot_t (decide_eq_true hp123)) ?_
                  refine x_gn (show _ = (V.bool (!(decide (r74.1 = r116.1)))) from rfl) (bnot_t (decide_eq_true hp123)) ?_
                  refine x_gn (show _ = (V.bool (!(decide (r74.1 = r116.1)))) from rfl) (bnot_t (decide_eq_true hp123)) ?_
                  refine x_pickf' (show _ = (V.bool (!(decide (r74.1 = r116.1)))) from rfl) (bnot_t (decide_eq_true hp123)) (show _ = (V.bool false) from rfl) ?_
                  refine x_mv' (show _ = (V.bool false) from rfl) ?_
                  refine x_done ?_
                  refine x_tN ?_
                  refine x_retc ?_
                  obtain rfl := Option.some.inj hD
                  exact hR _ (ends_t (nf_of rfl (show _ = (V.bool false) from rfl)) (fun h => nomatch h))
                · rw [if_neg hp123] at hD
                  refine x_gy (show _ = (V.bool (!(decide (r74.1 = r116.1)))) from rfl) (bnot_f (decide_eq_false hp123)) ?_
                  refine x_mv' (show _ = (V.str r116.1) from rfl) ?_
                  refine x_gy (show _ = (V.bool (!(decide (r74.1 = r116.1)))) from rfl) (bnot_f (decide_eq_false hp123)) ?_
                  refine x_lens (show _ = (V.str r116.1) from rfl) ?_
                  refine x_gy (show _ = (V.bool (!(decide (r74.1 = r116.1)))) from rfl) (bnot_f (decide_eq_false hp123)) ?_
                  refine x_mv' (show _ = (V.str r74.1) from rfl) ?_
                  refine x_gy (show _ = (V.bool (!(decide (r74.1 = r116.1)))) from rfl) (bnot_f (decide_eq_false hp123)) ?_
                  refine x_lens (show _ = (V.str r74.1) from rfl) ?_
                  refine x_gy (show _ = (V.bool (!(decide (r74.1 = r116.1)))) from rfl) (bnot_f (decide_eq_false hp123)) ?_
                  refine x_bin (show _ = (V.int .i64 ((r116.1.length : Nat) : Int)) from rfl) (show _ = (V.int .i64 ((r74.1.length : Nat) : Int)) from rfl) b_lss ?_
                  refine x_pickt' (show _ = (V.bool (!(decide (r74.1 = r116.1)))) from rfl) (bnot_f (decide_eq_false hp123)) (show _ = (V.bool (decide (((r116.1.length : Nat) : Int) < ((r74.1.length : Nat) : Int)))) from rfl) ?_
                  refine x_mv' (show _ = (V.bool (decide (((r116.1.length : Nat) : Int) < ((r74.1.length : Nat) : Int)))) from rfl) ?_
                  refine x_done ?_
                  refine x_tN ?_
                  refine x_retc ?_
                  obtain rfl := Option.some.inj hD
                  exact hR _ (ends_t (nf_of rfl (show _ = (V.bool (decide (((r116.1.length : Nat) : Int) < ((r74.1.length : Nat) : Int)))) from rfl)) (fun h => nomatch h))
              · rw [if_neg hp122] at hD
                refine x_gn (show _ = (V.bool (decide (r116.2 = 0))) from rfl) (decide_eq_false hp122) ?_
                refine x_gn (show _ = (V.bool (decide (r116.2 = 0))) from rfl) (decide_eq_false hp122) ?_
                refine x_gn (show _ = (V.bool (decide (r116.2 = 0))) from rfl) (decide_eq_false hp122) ?_
                refine x_pickf' (show _ = (V.bool (decide (r116.2 = 0))) from rfl) (decide_eq_false hp122) (show _ = (V.bool false) from rfl) ?_
                refine x_mv' (show _ = (V.bool false) from rfl) ?_
                refine x_gn (show _ = (V.bool false) from rfl) rfl ?_
                refine x_gn (show _ = (V.bool false) from rfl) rfl ?_
                refine x_gn (show _ = (V.bool false) from rfl) rfl ?_
                refine x_gn (show _ = (V.bool false) from rfl) rfl ?_
                refine x_gn (show _ = (V.bool false) from rfl) rfl ?_
                refine x_pickf' (show _ = (V.bool false) from rfl) rfl (show _ = (V.bool false) from rfl) ?_
                refine x_mv' (show _ = (V.bool false) from rfl) ?_
                refine x_done ?_
                refine x_tN ?_
                refine x_retc ?_
                obtain rfl := Option.some.inj hD
                exact hR _ (ends_t (nf_of rfl (show _ = (V.bool false) from rfl)) (fun h => nomatch h))
            · rw [if_neg hp121] at hD
              refine x_gn (show _ = (V.bool (decide (r74.2 = 0))) from rfl) (decide_eq_false hp121) ?_
              refine x_gn (show _ = (V.bool (decide (r74.2 = 0))) from rfl) (decide_eq_false hp121) ?_
              refine x_pickf' (show _ = (V.bool (decide (r74.2 = 0))) from rfl) (decide_eq_false hp121) (show _ = (V.bool false) from rfl) ?_
              refine x_mv' (show _ = (V.bool false) from rfl) ?_
              refine x_gn (show _ = (V.bool false) from rfl) rfl ?_
              refine x_gn (show _ = (V.bool false) from rfl) rfl ?_
              refine x_gn (show _ = (V.bool false) from rfl) rfl ?_
              refine x_pickf' (show _ = (V.bool false) from rfl) rfl (show _ = (V.bool false) from rfl) ?_
              refine x_mv' (show _ = (V.bool false) from rfl) ?_
              refine x_gn (show _ = (V.bool false) from rfl) rfl ?_
              refine x_gn (show _ = (V.bool false) from rfl) rfl ?_
              refine x_gn (show _ = (V.bool false) from rfl) rfl ?_
              refine x_gn (show _ = (V.bool false) from rfl) rfl ?_
              refine x_gn (show _ = (V.bool false) from rfl) rfl ?_
              refine x_pickf' (show _ = (V.bool false) from rfl) rfl (show _ = (V.bool false) from rfl) ?_
              refine x_mv' (show _ = (V.bool false) from rfl) ?_
              refine x_done ?_
              refine x_tN ?_
              refine x_retc ?_
              obtain rfl := Option.some.inj hD
              exact hR _ (ends_t (nf_of rfl (show _ = (V.bool false) from rfl)) (fun h => nomatch h))
          · rw [if_neg hp64] at hD
            refine x_ct (show _ = (V.bool (!r62)) from rfl) (bnot_f (Bool.eq_false_iff.2 hp64)) ?_
            refine x_seq ?_
            refine x_start (b := false) ?_
            refine x_mv' (show _ = (V.bool true) from rfl) ?_
            refine x_done ?_
            refine x_tN ?_
            refine x_retc ?_
            refine x_tR ?_
            obtain rfl := Option.some.inj hD
            exact hR _ (ends_t (nf_of rfl (show _ = (V.bool true) from rfl)) (fun h => nomatch h))
  · rw [if_neg hp14] at hD
    refine x_ct (show _ = (V.bool (!r12)) from rfl) (bnot_f (Bool.eq_false_iff.2 hp14)) ?_
    refine x_seq ?_
    refine x_start (b := false) ?_
    refine x_mv' (show _ = (V.bool false) from rfl) ?_
    refine x_done ?_
    refine x_tN ?_
    refine x_retc ?_
    refine x_tR ?_
    obtain rfl := Option.some.inj hD
    exact hR _ (ends_t (nf_of rfl (show _ = (V.bool false) from rfl)) (fun h => nomatch h))
def K.seichelaw07_ObjectLess : FC := fc F.seichelaw07_ObjectLess (fun _ => true) false (fun (a : ((List T.Entry) × Int)) => [(V.sl false 34 (List.map E.Entry a.1)), (V.int .i64 a.2)]) (fun (y : Bool) => (V.bool y)) (fun a => g.seichelaw07_ObjectLess a.1 a.2)
  (fun a => (cleanL_mk (E.LEntry_clean _) (cleanL_mk rfl rfl)))
  (fun y => rfl)
  (fun ⟨a0, a1⟩ ⟨b0, b1⟩ h => by
    obtain ⟨h0, h⟩ := List.cons.inj h
    obtain rfl : a0 = b0 := E.LEntry_inj h0
    obtain ⟨h0, h⟩ := List.cons.inj h
    obtain rfl : a1 = b1 := (V.int.inj h0).2
    rfl)
theorem H.seichelaw07_ObjectLess (w : World) (hw : EnvOK w) : K.seichelaw07_ObjectLess.Holds (cxD w) :=
  FC.holds_of (cs := [K.seichelaw07_alive, K.seichelaw07_greatTree, K.seicheref07_GoodTree, K.object_PutTree]) (glD w) mixed cf_seichelaw07_ObjectLess (fun _ _ ⟨_, _, h, _⟩ => by subst h; exact Nat.le_of_ble_eq_true rfl) fun v y ⟨a, r, hv, hD, hy⟩ => by
    subst hy
    exact ok.seichelaw07_ObjectLess (specOf_calls (H.seichelaw07_alive w hw) (fun _ _ ⟨_, _, h, _⟩ => by subst h; rfl)) (specOf_calls (H.seichelaw07_greatTree w hw) (fun _ _ ⟨_, _, h, _⟩ => by subst h; rfl)) (specOf_calls (H.seicheref07_GoodTree w hw) (fun _ _ ⟨_, _, h, _⟩ => by subst h; rfl)) (specOf_calls (H.object_PutTree w hw) (fun _ _ ⟨_, _, h, _⟩ => by subst h; rfl)) hv hD
end Go.Proofs.YtainplhaaklpeaaDoor
