/-
  Parts of the proof, one behind the other. Own work of this seat; some printed by its programs.
-/
import Derived.Test.YtanocopjancaiaaGreatDoorM4
import Derived.Lib.FieldsP
import Derived.Lib.TrimUEq
import Derived.Test.YtanocopjancaiaaGreatDoorCards
import Derived.Test.YtanocopjancaiaaGreatDoorTie
import Derived.ProofKit
import Derived.OpenShut
import Derived.Deep.DeepHandedRow
import Derived.Lib.LaidTab
namespace Go.Proofs.YtanocopjancaiaaGreatDoor
open Go.Abs Go.RowKit Go.Shelf Go.Sort
def fldB (q : UInt8 -> Bool) : Bytes -> Bytes -> List Bytes
  | [], cur => if cur = [] then [] else [cur]
  | b :: r, cur => if q b then (if cur = [] then fldB q r [] else cur :: fldB q r []) else fldB q r (cur ++ [b])
theorem fld_run {q : UInt8 -> Bool} {r : Bytes} : ∀ {xs cur : Bytes}, (∀ x ∈ xs, q x = false) -> fldB q (xs ++ r) cur = fldB q r (cur ++ xs)
  | [], cur, _ => by simp
  | x :: xs, cur, h => by
    rw [List.cons_append, fldB, h x (by simp), if_neg (by simp), fld_run fun y hy => h y (by simp [hy])]; simp
theorem dec_facts {n b0 b1 b2 b3 : Nat} (hn : 1 <= n) (h0 : 128 <= b0) : 128 <= (Lib.decodeN n b0 b1 b2 b3).1 /\ 1 <= (Lib.decodeN n b0 b1 b2 b3).2 /\ (Lib.decodeN n b0 b1 b2 b3).2 <= n /\ (Lib.decodeN n b0 b1 b2 b3).2 <= 4 /\
    (2 <= (Lib.decodeN n b0 b1 b2 b3).2 -> 128 <= b1) /\ (3 <= (Lib.decodeN n b0 b1 b2 b3).2 -> 128 <= b2) /\ (4 <= (Lib.decodeN n b0 b1 b2 b3).2 -> 128 <= b3) := by
  unfold Lib.decodeN
  repeat' split
  all_goals (simp only; omega)
theorem dec_low {n b0 b1 b2 b3 : Nat} (h0 : b0 < 128) : Lib.decodeN n b0 b1 b2 b3 = (b0, 1) := by unfold Lib.decodeN; rw [if_pos h0]
def spanB (s : Bytes) (x : Nat × Nat) : Bytes := (s.take x.2).drop x.1
theorem spans_fld {p : Nat -> Bool} {q : UInt8 -> Bool} (hq : ∀ b : UInt8, q b = (decide (b.toNat < 128) && p b.toNat)) (hp : ∀ r, 128 <= r -> p r = false) (s : ByteArray) (L : Bytes) (hL : s.data.toList = L) (hsz : s.size = L.length) :
    ∀ (f pos : Nat) (st : Option Nat) (acc : List (Nat × Nat)), pos <= s.size -> s.size <= f + pos -> (∀ a, st = some a -> a < pos) ->
      (Lib.closeSpans s (Lib.spansFromP p s f pos st acc)).map (spanB L) = acc.map (spanB L) ++ fldB q (L.drop pos) (match st with | some a => (L.take pos).drop a | none => [])
  | 0, pos, st, acc, h1, h2, h3 => by
    have e : pos = s.size := by omega
    subst e
    rw [hsz, List.drop_length, List.take_length]
    simp only [Lib.spansFromP, Lib.closeSpans]
    cases st with
    | none => simp [fldB]
    | some a =>
      have ha := h3 a rfl
      rw [hsz] at ha
      have : L.drop a ≠ [] := fun e => by have := congrArg List.length e; rw [List.length_drop, List.length_nil] at this; omega
      simp only [List.map_append, List.map_cons, List.map_nil, spanB, fldB, if_neg this, hsz, List.take_length]
  | f + 1, pos, st, acc, h1, h2, h3 => by
    unfold Lib.spansFromP
    have e1 : (L.take pos).drop pos = [] := List.drop_eq_nil_of_le (by simp; omega)
    by_cases hlt : pos < s.size
    . rw [if_pos hlt]
      have hltl : pos < L.length := by rw [<- hsz]; exact hlt
      have hg : ∀ k (hk : pos + k < L.length), L.getD (pos + k) 0 = L[pos + k] := fun k hk => by simp [List.getD, hk]
      have hd := Lib.decode_N s pos
      rw [hL] at hd
      by_cases hb : L[pos].toNat < 128
      . have hdec : Utf8.decode s pos = (L[pos].toNat, 1) := by
          have h0 : L.getD pos 0 = L[pos] := hg 0 hltl
          rw [hd, h0]; exact dec_low hb
        have hqb : q L[pos] = p L[pos].toNat := by rw [hq, decide_eq_true hb, Bool.true_and]
        rw [hdec, List.drop_eq_getElem_cons hltl, fldB, hqb]
        simp only
        cases hpb : p L[pos].toNat
        . simp only [Bool.false_eq_true, if_false]
          cases st with
          | none =>
            rw [spans_fld hq hp s L hL hsz f (pos + 1) (some pos) acc (by omega) (by omega) (fun a h => by cases h; omega)]
            simp only [List.nil_append]
            rw [List.take_add_one, List.getElem?_eq_getElem hltl, List.drop_append_of_le_length (by simp; omega), e1]; rfl
          | some a =>
            have ha := h3 a rfl
            rw [spans_fld hq hp s L hL hsz f (pos + 1) (some a) acc (by omega) (by omega) (fun a' h => by cases h; omega)]
            simp only
            rw [List.take_add_one, List.getElem?_eq_getElem hltl, List.drop_append_of_le_length (by simp; omega)]; rfl
        . simp only [if_true]
          cases st with
          | none => rw [spans_fld hq hp s L hL hsz f (pos + 1) none acc (by omega) (by omega) (fun a h => by cases h)]; simp
          | some a =>
            have ha := h3 a rfl
            have hne : (L.take pos).drop a ≠ [] := fun e => by have := congrArg List.length e; rw [List.length_drop, List.length_take, List.length_nil] at this; omega
            rw [spans_fld hq hp s L hL hsz f (pos + 1) none _ (by omega) (by omega) (fun a h => by cases h), if_neg hne]
            simp [spanB]
      . have hb' : 128 <= L[pos].toNat := by omega
        obtain ⟨k1, k2, k3, k4, k5, k6, k7⟩ := dec_facts (n := L.length - pos) (b0 := (L.getD pos 0).toNat) (b1 := (L.getD (pos + 1) 0).toNat) (b2 := (L.getD (pos + 2) 0).toNat) (b3 := (L.getD (pos + 3) 0).toNat) (by omega) (by have h0 : L.getD pos 0 = L[pos] := hg 0 hltl; rw [h0]; exact hb')
        rw [<- hd] at k1 k2 k3 k4 k5 k6 k7
        generalize hw : (Utf8.decode s pos).2 = w at k2 k3 k4 k5 k6 k7 ⊢
        generalize hr : (Utf8.decode s pos).1 = r at k1 ⊢
        rw [hp r k1, if_neg (by simp)]
        have hall : ∀ x ∈ (L.drop pos).take w, q x = false := by
          intro x hx
          obtain ⟨j, hj, rfl⟩ := List.getElem_of_mem hx
          simp only [List.length_take, List.length_drop] at hj
          simp only [List.getElem_take, List.getElem_drop]
          have h128 : 128 <= L[pos + j].toNat := by
            match j, hj with
            | 0, _ => exact hb'
            | 1, hj => have := k5 (by omega); rw [hg 1 (by omega)] at this; exact this
            | 2, hj => have := k6 (by omega); rw [hg 2 (by omega)] at this; exact this
            | 3, hj => have := k7 (by omega); rw [hg 3 (by omega)] at this; exact this
            | j + 4, hj => omega
          rw [hq, decide_eq_false (by omega)]; rfl
        have hsp : L.drop pos = (L.drop pos).take w ++ L.drop (pos + w) := by
          rw [<- List.drop_drop, List.take_append_drop]
        have htk : L.take (pos + w) = L.take pos ++ (L.drop pos).take w := List.take_add
        cases st with
        | none =>
          simp only
          rw [spans_fld hq hp s L hL hsz f (pos + w) (some pos) acc (by omega) (by omega) (fun a h => by cases h; omega)]
          rw [hsp, fld_run hall]
          simp only
          rw [htk, List.drop_append_of_le_length (by simp; omega), e1]
        | some a =>
          have ha := h3 a rfl
          simp only
          rw [spans_fld hq hp s L hL hsz f (pos + w) (some a) acc (by omega) (by omega) (fun a' h => by cases h; omega)]
          rw [hsp, fld_run hall]
          simp only
          rw [htk, List.drop_append_of_le_length (by simp; omega)]
    . rw [if_neg hlt]
      have e : pos = s.size := by omega
      have := spans_fld hq hp s L hL hsz 0 pos st acc h1 (by omega) h3
      simp only [Lib.spansFromP] at this
      exact this
theorem fields_data {p : Nat -> Bool} {q : UInt8 -> Bool} (hq : ∀ b : UInt8, q b = (decide (b.toNat < 128) && p b.toNat)) (hp : ∀ r, 128 <= r -> p r = false) (s : ByteArray) :
    (Lib.goFieldsP p s).map (·.data.toList) = fldB q s.data.toList [] := by
  have := spans_fld hq hp s _ rfl (Lib.size_eq s) s.size 0 none [] (Nat.zero_le _) (by omega) (fun a h => by cases h)
  simp only [List.map_nil, List.nil_append, List.drop_zero] at this
  rw [<- this]
  unfold Lib.goFieldsP Lib.spansOfP
  rw [List.map_map]
  apply List.map_congr_left
  intro x _
  simp only [Function.comp, spanB, Lib.extract_data, List.drop_take]
theorem texts_own {cx : Cx} {f : FuncId} {args : List V} {l : List Bytes} (hc : Callable cx.P f)
    (h : ∀ W G φ xs, OKW cx W G -> RepL W G φ args xs -> Calls cx.P f xs W fun e W' => ∃ (ss : List ByteArray) (A : Nat), ss.map (·.data.toList) = l /\ e = .returned (.slice (some ⟨A, 0, none⟩) ss.length ss.length) /\ W.heap.size <= A /\
      W'.ownsRow W.heap.size 9 1 (.slice (some ⟨A, 0, none⟩) ss.length ss.length) ss.length (ss.map .string) /\ Below W.heap.size W W') :
    PC cx f args (.sl false 1 (l.map .str), true) := by
  refine .of hc fun W G φ xs hW hxs => (h W G φ xs hW hxs).mono fun e W' => ?_
  rintro ⟨ss, A, rfl, rfl, hA, hown, hB⟩
  obtain ⟨g, cap, he, hb, hlt, hn, hm, hlen, hH⟩ := Lib.holds_of_ownsRow (enc := Value.string) (zs := ss) hown (by simp)
  cases he
  refine ⟨fun b => if b = A then ss.length else G b, _, rfl, hB, fun b hb => if_neg (by omega), fun b hb => ?_, ?_, fun _ ow q how sz ys b off len cap sp hv hx => ?_⟩
  . dsimp only; rw [if_neg (by omega)]; exact hW.Gz b (Nat.le_trans hB.size hb)
  . have := Rep.sl (W := W') (G := fun b => if b = A then ss.length else G b) (φ := φ) 1 ((ss.map (·.data.toList)).map V.str) A 0 ss.length (fun k => .string (ss.getD k default)) (by simp) (by simp) (fun x hx => ?_) (fun k hk => ?_) (fun i x j c hi hj => ?_)
    . simpa using this
    . obtain ⟨s, _, rfl⟩ := List.mem_map.1 hx; simp
    . simp at hk
      rw [(hH k (by simpa using hk)).1]
      simp [List.getD, hk, getElem!_pos]
    . simp only [List.map_map, List.getElem?_map, Option.map_eq_some_iff] at hi
      obtain ⟨s, hs, rfl⟩ := hi
      cases j with
      | zero => simp at hj; subst hj; simp [List.getD, hs]; exact .str _ _ rfl
      | succ j => simp at hj
  . cases hx; exact .inl rfl
theorem fnv_eq {v : V} {f : Nat} (h : v.nf = .fn f []) : v = .fn f [] := by
  obtain ⟨cs, rfl, hc⟩ := nf_fn h
  rw [nfL_nil hc]
def blankR (r : Nat) : Bool := decide (r = 32) || decide (r = 9)
def blankB (b : UInt8) : Bool := decide (b = 32) || decide (b = 9)
theorem blank_gives (x : Nat) (hx : x <= 1114111) (W : World) : Go.Proofs.FnGives Tryz.prog 95 #[] #[Go.Proofs.encR x] (.bool (blankR x)) W := by
  show Calls Tryz.prog 95 #[.int .i32 (x : Int)] W _
  go_enter Tryz.func95, Tryz.ntmps95
  go_wp2
  . rename_i h
    have : x = 32 := by omega
    subst this
    go_ret
    exact ⟨rfl, 0, rfl⟩
  . rename_i h
    go_ret
    refine ⟨?_, 0, rfl⟩
    have e : ((x : Int) == 32 || (x : Int) == 9) = blankR x := by
      unfold blankR
      rw [Bool.eq_iff_iff]; simp; omega
    rw [<- e]; rfl
theorem blank_enters (args : Array Value) (w : World) : (callFunc 95 args).run Tryz.prog w = .ok (.enter 95 args) w := Go.Proofs.enters_of Tryz.func95 (by kernel_rfl) rfl args w
theorem blank_hq (b : UInt8) : blankB b = (decide (b.toNat < 128) && blankR b.toNat) := by
  unfold blankB blankR
  rw [Bool.eq_iff_iff]
  simp only [Bool.or_eq_true, decide_eq_true_eq, Bool.and_eq_true]
  constructor
  . rintro (h | h) <;> rw [h] <;> decide
  . rintro ⟨_, h | h⟩
    . left; exact UInt8.toNat_inj.1 (by rw [h]; rfl)
    . right; exact UInt8.toNat_inj.1 (by rw [h]; rfl)
theorem blank_hp (r : Nat) (h : 128 <= r) : blankR r = false := by
  unfold blankR
  rw [decide_eq_false (by omega), decide_eq_false (by omega)]; rfl
def g.strings_FieldsFunc_plus_Line_1 (s : Bytes) : Option (List Bytes) := if s.length <= 4294967296 then some (fldB blankB s []) else none
def K.strings_FieldsFunc_plus_Line_1 : FC := fc 94 (fun avs => isFn 95 avs[1]?) true (fun (a : Bytes) => [V.str a, V.fn 95 []]) (fun (y : List Bytes) => .sl false 1 (y.map .str)) (fun a => g.strings_FieldsFunc_plus_Line_1 a)
  (fun _ => rfl) (fun y => cleanL_map (fun _ => rfl) y) (fun a b h => V.str.inj (List.cons.inj h).1)
theorem H.strings_FieldsFunc_plus_Line_1 (w : World) (_hw : EnvOK w) : K.strings_FieldsFunc_plus_Line_1.Holds (cxD w) := by
  rintro args y ⟨s, r, ha, hg, rfl⟩
  obtain ⟨u, v, rfl, h1, h2⟩ := nfL_cons ha
  obtain ⟨u', v', rfl, h3, h4⟩ := nfL_cons h2
  obtain rfl := nfL_nil h4
  obtain rfl := nf_str h1
  obtain rfl := fnv_eq h3
  simp only [g.strings_FieldsFunc_plus_Line_1] at hg
  split at hg
  . rename_i hc
    cases hg
    refine ⟨.sl false 1 ((fldB blankB s []).map .str), true, ?_, by show V.sl false 1 (nfL _) = _; rw [nfL_strs], fun _ => .inl rfl⟩
    refine texts_own (callable_of Tryz.func94 (by kernel_rfl) (by kernel_rfl)) fun W G φ xs hW hxs => ?_
    obtain ⟨x, y, rfl, hx, hy⟩ := repL2 hxs
    obtain ⟨t, rfl, rfl⟩ := rep_str hx
    have hy' : y = .func (.func 95) #[] #[] := by
      cases hy with
      | fn f cs zs hl h =>
        have : zs = #[] := by simpa using hl.symm
        rw [this]
    subst hy'
    refine (Tryz.strings_FieldsFunc_runes 95 #[] blank_enters blankR t W (by rw [Lib.size_eq]; exact hc) (fun W' x hx _ => blank_gives x hx W')).mono fun e W' => ?_
    rintro ⟨A, he, hA, hown, hB⟩
    exact ⟨_, A, fields_data blank_hq blank_hp t, he, hA, hown, hB⟩
  . cases hg
def g.strings_Join (l : List Bytes) (s : Bytes) : Option Bytes :=
  if l.length <= 1000000000 /\ (Lib.join l s).length <= 140737488355328 then some (Lib.join l s) else none
def K.strings_Join : FC := fc 93 (fun _ => true) false (fun (a : List Bytes × Bytes) => [V.sl false 1 (a.1.map .str), V.str a.2]) (fun (y : Bytes) => .str y) (fun a => g.strings_Join a.1 a.2)
  (fun l => cleanL_mk (cleanL_map (fun _ => rfl) l.1) rfl) (fun _ => rfl) (fun ⟨a, b⟩ ⟨c, d⟩ h => by
    obtain ⟨h1, h2⟩ := List.cons.inj h
    simp only [V.sl.injEq, true_and] at h1
    have h3 := V.str.inj (List.cons.inj h2).1
    have h4 : a = c := map_inj (fun x y h => V.str.inj h) h1
    simp only at h3
    rw [h4, h3])
theorem H.strings_Join (w : World) (_hw : EnvOK w) : K.strings_Join.Holds (cxD w) := by
  rintro args y ⟨⟨l, s⟩, r, ha, hg, rfl⟩
  obtain ⟨u, v, rfl, h1, h2⟩ := nfL_cons ha
  obtain ⟨u', v', rfl, h3, h4⟩ := nfL_cons h2
  obtain rfl := nfL_nil h4
  obtain rfl := nf_str h3
  simp only [g.strings_Join] at hg
  split at hg
  . rename_i hc
    cases hg
    obtain ⟨nl, rfl⟩ : ∃ nl, u = .sl nl 1 (l.map .str) := by
      obtain ⟨nl, xs, rfl, h3, _⟩ := nf_sl h1
      exact ⟨nl, by rw [nf_strs h3]⟩
    refine ⟨.str _, false, ?_, rfl, fun h => nomatch h⟩
    refine PC.pure (callable_of Tryz.func93 (by kernel_rfl) (by kernel_rfl)) fun W G φ xs hW hxs => ?_
    obtain ⟨x, y, rfl, hx, hy⟩ := repL2 hxs
    obtain ⟨t, rfl, rfl⟩ := rep_str hy
    have hnone : ∀ (a : Option Addr), l = [] -> Calls Tryz.prog 93 #[.slice a 0 0, .string t] W fun e W' => ∃ y, e = .returned y /\ Below W.heap.size W W' /\ ∀ (W'' : World) (G' : Nat -> Nat), Rep W'' G' φ (.str (Lib.join l t.data.toList)) y := by
      rintro a rfl
      refine (Tryz.strings_Join_none a 0 t W).mono fun e W' => ?_
      rintro ⟨rfl, rfl⟩
      exact ⟨_, rfl, .refl _ _, fun _ _ => .str _ _ rfl⟩
    rcases rep_texts hx with ⟨rfl, e⟩ | ⟨a, rfl, e⟩ | ⟨b, off, cap, zs, rfl, hz, hcc, hcells⟩
    . exact hnone none e
    . exact hnone _ e
    . have hlz : zs.length = l.length := by rw [<- hz]; simp
      rcases Nat.eq_zero_or_pos zs.length with h0 | h0
      . have e : l = [] := List.eq_nil_of_length_eq_zero (by omega)
        have ez : zs = [] := List.eq_nil_of_length_eq_zero h0
        subst e; subst ez
        refine (Tryz.strings_Join_none _ cap t W).mono fun e W' => ?_
        rintro ⟨rfl, rfl⟩
        exact ⟨_, rfl, .refl _ _, fun _ _ => .str _ _ rfl⟩
      . have hb : b < W.heap.size := by
          have := hcells 0 h0
          rcases Nat.lt_or_ge b W.heap.size with h | h
          . exact h
          . simp [World.cell?, Array.getElem?_eq_none h] at this
        refine (Tryz.strings_Join b off cap zs t W (fun j x hj => ?_) hb (by omega) hcc (by rw [hz]; exact hc.2)).mono fun e W' => ?_
        . rw [hcells j (List.getElem?_eq_some_iff.1 hj).1]; simp [List.getD, hj]
        . rintro ⟨rfl, hB⟩
          exact ⟨_, rfl, hB, fun _ _ => .str _ _ (by rw [hz])⟩
  . cases hg
end Go.Proofs.YtanocopjancaiaaGreatDoor
namespace Go.Proofs.YtanocopjancaiaaGreatDoor
open Go.Abs
set_option maxRecDepth 10000
variable {e : Ev}
def blank (c : UInt8) : Bool := decide (c.toNat = 32 \/ c.toNat = 9)
abbrev st4 (s : Bytes) (i : Nat) (o d : V) : List V := [.str s, .int .i64 i, o, d]
def skipN (s : Bytes) (i : Nat) : Nat := i + ((s.drop i).takeWhile blank).length
theorem skipN_le (s : Bytes) {i : Nat} (h : i <= s.length) : skipN s i <= s.length := by
  have := (List.takeWhile_sublist blank (l := s.drop i)).length_le
  simp only [List.length_drop] at this
  unfold skipN; omega
theorem skipN_t {s : Bytes} {i : Nat} (h : i < s.length) (hb : blank s[i] = true) : skipN s i = skipN s (i + 1) := by
  unfold skipN; rw [List.drop_eq_getElem_cons h, List.takeWhile_cons, hb]; simp; omega
theorem skipN_f {s : Bytes} {i : Nat} (h : i < s.length) (hb : blank s[i] = false) : skipN s i = i := by
  unfold skipN; rw [List.drop_eq_getElem_cons h, List.takeWhile_cons, hb]; simp
theorem skipN_end {s : Bytes} {i : Nat} (h : s.length <= i) : skipN s i = i := by
  unfold skipN; rw [List.drop_eq_nil_of_le h]; simp
theorem v.blanks_3 (s : Bytes) (hs : s.length <= 1152921504606846976) (o d : V) : ∀ (n i : Nat), i + n = s.length -> vl e 11072 3 (st4 s i o d) = some (.tup (st4 s (skipN s i) o d))
  | 0, i, h => by
    rw [w.seiche_expr_parser_blanks_h0_3, skipN_end (by omega)]; unfold y.seiche_expr_parser_blanks_h0_3
    simp only [yy, if_neg (show ¬((i : Int) < (s.length : Int)) by omega)]
  | n + 1, i, h => by
    have h1 : (i : Int) < (s.length : Int) := by omega
    rw [w.seiche_expr_parser_blanks_h0_3]; unfold y.seiche_expr_parser_blanks_h0_3
    have ih := v.blanks_3 s hs o d n (i + 1) (by omega)
    simp only [yy, if_pos h1, v_idx (List.getElem?_eq_getElem (show i < s.length by omega)), byteV, next64 (show i < s.length by omega) hs, ih]
    by_cases hb : blank s[i] = true
    . rw [skipN_t (by omega) hb]
      by_cases h2 : (s[i].toNat : Int) = 32
      . rw [if_pos h2]
      . have : (s[i].toNat : Int) = 9 := by have := of_decide_eq_true hb; omega
        rw [if_neg h2, if_pos this]
    . have hb' : blank s[i] = false := by simpa using hb
      have := of_decide_eq_false hb'
      rw [skipN_f (by omega) hb', if_neg (by omega), if_neg (by omega)]
theorem v.blanks (s : Bytes) (hs : s.length <= 1152921504606846976) (o d : V) (i : Nat) (hi : i <= s.length) : vl e 11072 1 (st4 s i o d) = some (.tup (st4 s (skipN s i) o d)) := by
  rw [w.seiche_expr_parser_blanks_h0]; exact v.blanks_3 s hs o d (s.length - i) i (by omega)
def here (s g : Bytes) (i : Nat) : Bool := decide ((s.drop (skipN s i)).take g.length = g)
theorem v.takes (s g : Bytes) (hs : s.length <= 1152921504606846976) (hg : g.length <= 8) (o d : V) (i : Nat) (hi : i <= s.length) :
    vl e 11728 1 (.str g :: st4 s i o d) = some (.tup (.bool (here s g i) :: st4 s (if here s g i = true then skipN s i + g.length else skipN s i) o d)) := by
  rw [w.seiche_expr_parser_takes_h0]; unfold y.seiche_expr_parser_takes_h0
  have hj := skipN_le s hi
  have hb := v.blanks (e := e) s hs o d i hi
  generalize hjj : skipN s i = j at hj hb
  have e1 : IntKind.i64.wrap ((s.length : Int) - (j : Int)) = (s.length : Int) - (j : Int) := w64 _ (by omega)
  have e2 : IntKind.i64.wrap ((j : Int) + (g.length : Int)) = ((j + g.length : Nat) : Int) := by rw [w64 _ (by omega)]; omega
  simp only [yy, hb, e1, e2]
  by_cases h1 : s.length - j < g.length
  . rw [if_pos (by omega)]
    have : here s g i = false := by
      unfold here; rw [hjj]
      refine decide_eq_false fun h => ?_
      have := congrArg List.length h
      simp at this; omega
    rw [this]; rfl
  . rw [if_neg (by omega)]
    have hdt : (s.take (j + g.length)).drop j = (s.drop j).take g.length := by rw [List.drop_take]; congr 1; omega
    rw [v_sls2 (by omega) (by omega), hdt]
    simp only [yy]
    unfold here; rw [hjj]
    by_cases h2 : (s.drop j).take g.length = g
    . rw [if_pos h2, decide_eq_true h2]; rfl
    . rw [if_neg h2, decide_eq_false h2]; rfl
def runN (s : Bytes) (i : Nat) : Nat := i + ((s.drop i).takeWhile sign).length
theorem runN_le (s : Bytes) {i : Nat} (h : i <= s.length) : i <= runN s i /\ runN s i <= s.length := by
  have := (List.takeWhile_sublist sign (l := s.drop i)).length_le
  simp only [List.length_drop] at this
  unfold runN; omega
theorem runN_t {s : Bytes} {i : Nat} (h : i < s.length) (hb : sign s[i] = true) : runN s i = runN s (i + 1) := by
  unfold runN; rw [List.drop_eq_getElem_cons h, List.takeWhile_cons, hb]; simp; omega
theorem runN_f {s : Bytes} {i : Nat} (h : i < s.length) (hb : sign s[i] = false) : runN s i = i := by
  unfold runN; rw [List.drop_eq_getElem_cons h, List.takeWhile_cons, hb]; simp
theorem runN_end {s : Bytes} {i : Nat} (h : s.length <= i) : runN s i = i := by
  unfold runN; rw [List.drop_eq_nil_of_le h]; simp
theorem v.part_48 (s : Bytes) (hs : s.length <= 1152921504606846976) (os : List Bytes) (ho : os.length + 1 <= Lim) (d : V) (i0 : Nat) : ∀ (n i : Nat), i + n = s.length -> i0 <= i ->
    vl e 12016 48 (.int .i64 i0 :: st4 s i (strs os) d) = some (.tup (if runN s i = i0 then .int .i64 4 :: st4 s (runN s i) (strs os) d else .int .i64 0 :: st4 s (runN s i) (strs (os ++ [(s.take (runN s i)).drop i0])) d)) := by
  have fin : ∀ i, i <= s.length -> i0 <= i -> (if (i : Int) = (i0 : Int) then some (V.tup [.int .i64 4, .str s, .int .i64 i, strs os, d]) else pr (.sls true true) [.str s, .int .i64 i0, .int .i64 i] fun v8 => pr (.bsl 1) [v8] fun v9 => pr (.app 1) [strs os, v9] fun v10 => some (.tup [.int .i64 0, .str s, .int .i64 i, v10, d])) =
      some (.tup (if i = i0 then .int .i64 4 :: st4 s i (strs os) d else .int .i64 0 :: st4 s i (strs (os ++ [(s.take i).drop i0])) d)) := by
    intro i h1 h2
    by_cases h3 : i = i0
    . rw [if_pos (by omega), if_pos h3]
    . rw [if_neg (by omega), if_neg h3]
      simp only [yy, v_sls2 h2 h1, v_bsl1, v_push ho]
  intro n
  induction n with
  | zero =>
    intro i h h0
    rw [w.seiche_expr_parser_part_h0_48, runN_end (by omega)]; unfold y.seiche_expr_parser_part_h0_48
    simp only [yy, if_neg (show ¬((i : Int) < (s.length : Int)) by omega)]
    exact fin i (by omega) h0
  | succ n ih =>
    intro i h h0
    rw [w.seiche_expr_parser_part_h0_48]; unfold y.seiche_expr_parser_part_h0_48
    have h1 : (i : Int) < (s.length : Int) := by omega
    cases hb : sign s[i] with
    | true =>
      rw [runN_t (by omega) hb]
      simp only [yy, if_pos h1, v_idx (List.getElem?_eq_getElem (show i < s.length by omega)), v.tag, hb, next64 (show i < s.length by omega) hs]
      exact ih (i + 1) (by omega) (by omega)
    | false =>
      rw [runN_f (by omega) hb]
      simp only [yy, if_pos h1, v_idx (List.getElem?_eq_getElem (show i < s.length by omega)), v.tag, hb]
      exact fin i (by omega) h0
end Go.Proofs.YtanocopjancaiaaGreatDoor
namespace Go.Proofs.YtanocopjancaiaaGreatDoor
open Go.Abs
set_option maxRecDepth 10000
variable {e : Ev}
def tokLen : Bytes -> Nat
  | [] => 0
  | c :: r => if sign c = true then ((c :: r).takeWhile sign).length else if c.toNat = 33 \/ c.toNat = 40 \/ c.toNat = 41 then 1 else if (c :: r).take 2 = [38, 38] \/ (c :: r).take 2 = [124, 124] then 2 else 0
def pcs : Nat -> Bytes -> List Bytes
  | 0, _ => []
  | _ + 1, [] => []
  | n + 1, c :: r => if blank c = true then pcs n r else if tokLen (c :: r) = 0 then [[]] else (c :: r).take (tokLen (c :: r)) :: pcs n ((c :: r).drop (tokLen (c :: r)))
theorem v.P22 (s : Bytes) (hs : s.length <= 1152921504606846976) (o : V) (i : Nat) : ∀ (m n : Nat), i + n + m = s.length -> vl e 75 22 [.str s, o, .int .i64 i, .int .i64 n] = vl e 75 31 [.str s, o, .int .i64 i, .int .i64 ((runN s (i + n) - i : Nat) : Int)] := by
  intro m
  induction m with
  | zero =>
    intro n h
    rw [w.seicheref13_Pieces_22, runN_end (by omega)]; unfold y.seicheref13_Pieces_22
    have e1 : IntKind.i64.wrap ((i : Int) + (n : Int)) = ((i + n : Nat) : Int) := by rw [w64 _ (by omega)]; omega
    simp only [yy, e1, if_neg (show ¬(((i + n : Nat) : Int) < (s.length : Int)) by omega)]
    rw [show i + n - i = n by omega]
  | succ m ih =>
    intro n h
    rw [w.seicheref13_Pieces_22]; unfold y.seicheref13_Pieces_22
    have e1 : IntKind.i64.wrap ((i : Int) + (n : Int)) = ((i + n : Nat) : Int) := by rw [w64 _ (by omega)]; omega
    have hlt : i + n < s.length := by omega
    cases hb : sign s[i + n] with
    | true =>
      rw [runN_t hlt hb]
      simp only [yy, e1, if_pos (show ((i + n : Nat) : Int) < (s.length : Int) by omega), v_idx (List.getElem?_eq_getElem hlt), v.Sign, hb, next64 (show n < s.length by omega) hs]
      rw [show i + n + 1 = i + (n + 1) by omega]
      exact ih (n + 1) (by omega)
    | false =>
      rw [runN_f hlt hb]
      simp only [yy, e1, if_pos (show ((i + n : Nat) : Int) < (s.length : Int) by omega), v_idx (List.getElem?_eq_getElem hlt), v.Sign, hb]
      rw [show i + n - i = n by omega]
theorem drop_take_eq (s : Bytes) (i k : Nat) : (s.take (i + k)).drop i = (s.drop i).take k := by rw [List.drop_take]; congr 1; omega
theorem v.P51 (s : Bytes) (hs : s.length <= 1152921504606846976) (os : List Bytes) (ho : os.length + 1 <= Lim) (i k : Nat) (h : i + k <= s.length) :
    vl e 75 51 [.str s, strs os, .int .i64 i, .int .i64 k] = if k = 0 then some (strs (os ++ [[]])) else vl e 75 10 [.str s, strs (os ++ [(s.drop i).take k]), .int .i64 ((i + k : Nat) : Int)] := by
  rw [w.seicheref13_Pieces_51]; unfold y.seicheref13_Pieces_51
  have e1 : IntKind.i64.wrap ((i : Int) + (k : Int)) = ((i + k : Nat) : Int) := by rw [w64 _ (by omega)]; omega
  by_cases hk : k = 0
  . subst hk
    simp only [yy, if_true, Int.natCast_zero, v_bsl1, v_push ho]
  . simp only [yy, e1, if_neg hk, if_neg (show ¬((k : Int) = 0) by omega), v_sls2 (show i <= i + k by omega) h, drop_take_eq, v_bsl1, v_push ho]
theorem v.P42 (s : Bytes) (hs : s.length <= 1152921504606846976) (o : V) (i n : Nat) (hi : i < s.length) (b : Bool) :
    vl e 75 42 [.str s, o, .int .i64 i, .int .i64 n, .bool b] = vl e 75 51 [.str s, o, .int .i64 i, .int .i64 ((if b = true then 1 else if n = 0 /\ ((s.drop i).take 2 = [38, 38] \/ (s.drop i).take 2 = [124, 124]) then 2 else n : Nat) : Int)] := by
  rw [w.seicheref13_Pieces_42]; unfold y.seicheref13_Pieces_42
  cases b with
  | true => simp only [yy]; rfl
  | false =>
    have e2 : IntKind.i64.wrap ((s.length : Int) - 1) = ((s.length - 1 : Nat) : Int) := by rw [w64 _ (by omega)]; omega
    have e3 : IntKind.i64.wrap ((i : Int) + 2) = ((i + 2 : Nat) : Int) := by rw [w64 _ (by omega)]; omega
    simp only [yy, e2, e3]
    by_cases hn : n = 0
    . rw [if_pos (by omega)]
      by_cases hl : i < s.length - 1
      . rw [if_pos (by omega), v_sls2 (by omega) (by omega), drop_take_eq]
        simp only [yy]
        by_cases h1 : (s.drop i).take 2 = [38, 38]
        . rw [if_pos h1, if_neg (by decide), if_pos ⟨hn, .inl h1⟩]; rfl
        . rw [if_neg h1]
          by_cases h2 : (s.drop i).take 2 = [124, 124]
          . rw [if_pos h2, if_neg (by decide), if_pos ⟨hn, .inr h2⟩]; rfl
          . rw [if_neg h2, if_neg (by decide), if_neg (fun h => h.2.elim h1 h2)]
      . rw [if_neg (by omega), if_neg (by decide), if_neg]
        rintro ⟨_, h | h⟩ <;> (have := congrArg List.length h; simp at this; omega)
    . rw [if_neg (by omega), if_neg (by decide), if_neg (fun h => hn h.1)]
theorem tokLen_cons (c : UInt8) (r : Bytes) : tokLen (c :: r) = if sign c = true then ((c :: r).takeWhile sign).length else if c.toNat = 33 \/ c.toNat = 40 \/ c.toNat = 41 then 1 else if (c :: r).take 2 = [38, 38] \/ (c :: r).take 2 = [124, 124] then 2 else 0 := rfl
theorem tokLen_le (x : Bytes) : tokLen x <= x.length := by
  unfold tokLen
  split
  . exact Nat.le_refl _
  . rename_i c r
    split
    . exact (List.takeWhile_sublist _).length_le
    . split
      . simp
      . split
        . rename_i h
          rcases h with h | h <;> (have := congrArg List.length h; simp at this ⊢; omega)
        . exact Nat.zero_le _
theorem v.P31 (s : Bytes) (hs : s.length <= 1152921504606846976) (os : List Bytes) (ho : os.length + 1 <= Lim) (i : Nat) (hi : i < s.length) :
    vl e 75 31 [.str s, strs os, .int .i64 i, .int .i64 ((runN s i - i : Nat) : Int)] = if blank s[i] = true then vl e 75 10 [.str s, strs os, .int .i64 ((i + 1 : Nat) : Int)]
      else if tokLen (s.drop i) = 0 then some (strs (os ++ [[]])) else vl e 75 10 [.str s, strs (os ++ [(s.drop i).take (tokLen (s.drop i))]), .int .i64 ((i + tokLen (s.drop i) : Nat) : Int)] := by
  have hd : s.drop i = s[i] :: s.drop (i + 1) := List.drop_eq_getElem_cons hi
  have hle := tokLen_le (s.drop i)
  simp only [List.length_drop] at hle
  have fin : ∀ (b : Bool), (if b = true then 1 else if runN s i - i = 0 /\ ((s.drop i).take 2 = [38, 38] \/ (s.drop i).take 2 = [124, 124]) then 2 else runN s i - i) = tokLen (s.drop i) ->
      vl e 75 42 [.str s, strs os, .int .i64 i, .int .i64 ((runN s i - i : Nat) : Int), .bool b] = if tokLen (s.drop i) = 0 then some (strs (os ++ [[]])) else vl e 75 10 [.str s, strs (os ++ [(s.drop i).take (tokLen (s.drop i))]), .int .i64 ((i + tokLen (s.drop i) : Nat) : Int)] := by
    intro b hb
    rw [v.P42 s hs _ i _ hi b, hb, v.P51 s hs os ho i _ (by omega)]
  rw [w.seicheref13_Pieces_31]; unfold y.seicheref13_Pieces_31
  simp only [yy, v_idx (List.getElem?_eq_getElem hi), byteV, next64 hi hs]
  by_cases hb : blank s[i] = true
  . rw [if_pos hb]
    by_cases h2 : (s[i].toNat : Int) = 32
    . rw [if_pos h2]
    . have : (s[i].toNat : Int) = 9 := by have := of_decide_eq_true hb; omega
      rw [if_neg h2, if_pos this]
  . rw [if_neg hb]
    have hb' := of_decide_eq_false (show blank s[i] = false by simpa using hb)
    rw [if_neg (by omega), if_neg (by omega)]
    cases hsg : sign s[i] with
    | true =>
      have hlen : runN s i - i = ((s.drop i).takeWhile sign).length := by unfold runN; omega
      have hpos : 0 < ((s.drop i).takeWhile sign).length := by rw [hd, List.takeWhile_cons, hsg]; simp
      have htok : tokLen (s.drop i) = ((s.drop i).takeWhile sign).length := by
        rw [hd, tokLen_cons, if_pos hsg]
      rw [if_neg (by omega)]
      exact fin false (by rw [if_neg (by decide), if_neg (by omega), htok, hlen])
    | false =>
      have hrun : runN s i - i = 0 := by rw [runN_f hi hsg]; omega
      have htok : tokLen (s.drop i) = if s[i].toNat = 33 \/ s[i].toNat = 40 \/ s[i].toNat = 41 then 1 else if (s.drop i).take 2 = [38, 38] \/ (s.drop i).take 2 = [124, 124] then 2 else 0 := by
        rw [hd, tokLen_cons, hsg, if_neg (by decide)]
      rw [if_pos (by omega)]
      by_cases h1 : (s[i].toNat : Int) = 33
      . rw [if_pos h1]; exact fin true (by rw [if_pos rfl, htok, if_pos (by omega)])
      . rw [if_neg h1]
        by_cases h2 : (s[i].toNat : Int) = 40
        . rw [if_pos h2]; exact fin true (by rw [if_pos rfl, htok, if_pos (by omega)])
        . rw [if_neg h2]
          by_cases h3 : (s[i].toNat : Int) = 41
          . rw [decide_eq_true h3]; exact fin true (by rw [if_pos rfl, htok, if_pos (by omega)])
          . rw [decide_eq_false h3]
            refine fin false ?_
            rw [if_neg (by decide), htok, if_neg (show ¬(s[i].toNat = 33 \/ s[i].toNat = 40 \/ s[i].toNat = 41) by omega), hrun]
            by_cases h4 : (s.drop i).take 2 = [38, 38] \/ (s.drop i).take 2 = [124, 124]
            . rw [if_pos ⟨rfl, h4⟩, if_pos h4]
            . rw [if_neg (fun h => h4 h.2), if_neg h4]
theorem v.P10 (s : Bytes) (hs : s.length <= 1048576) : ∀ (n i : Nat) (os : List Bytes), i <= s.length -> s.length - i < n -> os.length <= i -> vl e 75 10 [.str s, strs os, .int .i64 i] = some (strs (os ++ pcs n (s.drop i)))
  | 0, i, os, _, h, _ => by omega
  | n + 1, i, os, hi, h, ho => by
    rw [w.seicheref13_Pieces_10]; unfold y.seicheref13_Pieces_10
    by_cases hl : i < s.length
    . have hd : s.drop i = s[i] :: s.drop (i + 1) := List.drop_eq_getElem_cons hl
      have hle := tokLen_le (s.drop i)
      simp only [List.length_drop] at hle
      have hL : Lim = 4294967296 := rfl
      simp only [yy, if_pos (show (i : Int) < (s.length : Int) by omega)]
      have h22 := v.P22 (e := e) s (by omega) (strs os) i (s.length - i) 0 (by omega)
      rw [Int.natCast_zero, Nat.add_zero] at h22
      rw [h22, v.P31 s (by omega) os (by omega) i hl]
      have hp : pcs (n + 1) (s.drop i) = if blank s[i] = true then pcs n (s.drop (i + 1)) else if tokLen (s.drop i) = 0 then [[]] else (s.drop i).take (tokLen (s.drop i)) :: pcs n ((s.drop i).drop (tokLen (s.drop i))) := by rw [hd]; rfl
      rw [hp]
      by_cases hb : blank s[i] = true
      . rw [if_pos hb, if_pos hb]; exact v.P10 s hs n (i + 1) os (by omega) (by omega) (by omega)
      . rw [if_neg hb, if_neg hb]
        by_cases ht : tokLen (s.drop i) = 0
        . rw [if_pos ht, if_pos ht]
        . rw [if_neg ht, if_neg ht, v.P10 s hs n (i + tokLen (s.drop i)) _ (by omega) (by omega) (by simp; omega), List.drop_drop]
          simp
    . simp only [yy, if_neg (show ¬((i : Int) < (s.length : Int)) by omega)]
      rw [List.drop_eq_nil_of_le (by omega)]
      simp [pcs]
def pieces (s : Bytes) : List Bytes := pcs (s.length + 1) s
theorem v.Pieces (s : Bytes) (hs : s.length <= 1048576) : vl e 75 0 [.str s] = some (strs (pieces s)) := by
  rw [w.seicheref13_Pieces]; unfold y.seicheref13_Pieces
  exact (v.P10 (e := e) s hs (s.length + 1) 0 [] (by omega) (by omega) (by simp)).trans (by simp [pieces])
end Go.Proofs.YtanocopjancaiaaGreatDoor
namespace Go.Proofs.YtanocopjancaiaaGreatDoor
open Go.Abs
theorem pcs_fuel : ∀ (n m : Nat) (x : Bytes), x.length < n -> x.length < m -> pcs n x = pcs m x
  | 0, _, x, h, _ => by omega
  | _ + 1, 0, x, _, h => by omega
  | n + 1, m + 1, [], _, _ => rfl
  | n + 1, m + 1, c :: r, h, k => by
    simp only [List.length_cons] at h k
    unfold pcs
    have := tokLen_le (c :: r)
    by_cases hb : blank c = true
    . rw [if_pos hb, if_pos hb]; exact pcs_fuel n m r (by omega) (by omega)
    . rw [if_neg hb, if_neg hb]
      by_cases ht : tokLen (c :: r) = 0
      . rw [if_pos ht, if_pos ht]
      . rw [if_neg ht, if_neg ht, pcs_fuel n m _ (by simp; omega) (by simp; omega)]
theorem pieces_nil : pieces [] = [] := rfl
theorem pieces_cons (c : UInt8) (r : Bytes) : pieces (c :: r) = if blank c = true then pieces r else if tokLen (c :: r) = 0 then [[]] else (c :: r).take (tokLen (c :: r)) :: pieces ((c :: r).drop (tokLen (c :: r))) := by
  unfold pieces
  rw [show pcs ((c :: r).length + 1) (c :: r) = if blank c = true then pcs (c :: r).length r else if tokLen (c :: r) = 0 then [[]] else (c :: r).take (tokLen (c :: r)) :: pcs (c :: r).length ((c :: r).drop (tokLen (c :: r))) from rfl]
  by_cases hb : blank c = true
  . rw [if_pos hb, if_pos hb]; rfl
  . rw [if_neg hb, if_neg hb]
    by_cases ht : tokLen (c :: r) = 0
    . rw [if_pos ht, if_pos ht]
    . rw [if_neg ht, if_neg ht]
      congr 1
      exact pcs_fuel _ _ _ (by simp; omega) (by simp)
theorem pieces_skip : ∀ x : Bytes, pieces x = pieces (x.dropWhile blank)
  | [] => rfl
  | c :: r => by
    by_cases hb : blank c = true
    . rw [pieces_cons, if_pos hb, List.dropWhile_cons, if_pos hb]; exact pieces_skip r
    . rw [List.dropWhile_cons, if_neg hb]
theorem drop_skip (s : Bytes) (i : Nat) : s.drop (skipN s i) = (s.drop i).dropWhile blank := by
  unfold skipN
  rw [<- List.drop_drop]
  generalize s.drop i = x
  induction x with
  | nil => rfl
  | cons c r ih =>
    rw [List.takeWhile_cons, List.dropWhile_cons]
    by_cases hb : blank c = true
    . rw [if_pos hb, if_pos hb]; simpa using ih
    . rw [if_neg hb, if_neg hb]; rfl
theorem pieces_at (s : Bytes) (i : Nat) : pieces (s.drop i) = pieces (s.drop (skipN s i)) := by rw [drop_skip, <- pieces_skip]
theorem skip_head {x : Bytes} {c : UInt8} {r : Bytes} (h : x.dropWhile blank = c :: r) : blank c = false := by
  induction x with
  | nil => cases h
  | cons a x ih =>
    rw [List.dropWhile_cons] at h
    by_cases hb : blank a = true
    . rw [if_pos hb] at h; exact ih h
    . rw [if_neg hb] at h; cases h; simpa using hb
def Sg (g : Bytes) : Prop := g = [33] \/ g = [40] \/ g = [41] \/ g = [38, 38] \/ g = [124, 124]
theorem pieces_tok {x : Bytes} {c : UInt8} {r : Bytes} (e : x = c :: r) (hb : blank c = false) (ht : tokLen x ≠ 0) : pieces x = x.take (tokLen x) :: pieces (x.drop (tokLen x)) := by
  subst e; rw [pieces_cons, hb, if_neg (by decide), if_neg ht]
theorem tok_sign {g : Bytes} (hg : Sg g) {x : Bytes} (h : x.take g.length = g) : tokLen x = g.length := by
  have sn : ∀ c : UInt8, (c = 33 \/ c = 40 \/ c = 41 \/ c = 38 \/ c = 124) -> sign c = false := by rintro c (rfl | rfl | rfl | rfl | rfl) <;> rfl
  cases x with
  | nil => rcases hg with rfl | rfl | rfl | rfl | rfl <;> simp at h
  | cons c r =>
    rcases hg with rfl | rfl | rfl | rfl | rfl
    . simp at h; subst h; rw [tokLen_cons, sn _ (by simp), if_neg (by decide), if_pos (by decide)]; rfl
    . simp at h; subst h; rw [tokLen_cons, sn _ (by simp), if_neg (by decide), if_pos (by decide)]; rfl
    . simp at h; subst h; rw [tokLen_cons, sn _ (by simp), if_neg (by decide), if_pos (by decide)]; rfl
    . have hc : c = 38 := by cases r <;> simp at h; exact h.1
      subst hc
      rw [tokLen_cons, sn _ (by simp), if_neg (by decide), if_neg (by decide), if_pos (.inl h)]; rfl
    . have hc : c = 124 := by cases r <;> simp at h; exact h.1
      subst hc
      rw [tokLen_cons, sn _ (by simp), if_neg (by decide), if_neg (by decide), if_pos (.inr h)]; rfl
theorem here_t {s g : Bytes} (hg : Sg g) {i : Nat} (h : here s g i = true) : pieces (s.drop i) = g :: pieces (s.drop (skipN s i + g.length)) := by
  have h := of_decide_eq_true h
  rw [pieces_at]
  have ht := tok_sign hg h
  have hg0 : g.length ≠ 0 := by rcases hg with rfl | rfl | rfl | rfl | rfl <;> simp
  cases hx : s.drop (skipN s i) with
  | nil => rw [hx] at h; rcases hg with rfl | rfl | rfl | rfl | rfl <;> simp at h
  | cons c r =>
    have hb := skip_head (x := s.drop i) (by rw [<- drop_skip, hx])
    rw [<- hx, pieces_tok hx hb (by rw [ht]; exact hg0), ht, h, List.drop_drop]
theorem here_f {s g : Bytes} (hg : Sg g) {i : Nat} (h : here s g i = false) (t : List Bytes) : pieces (s.drop i) ≠ g :: t := by
  have h := of_decide_eq_false h
  rw [pieces_at]
  intro e
  have hg0 : g ≠ [] := by rcases hg with rfl | rfl | rfl | rfl | rfl <;> simp
  cases hx : s.drop (skipN s i) with
  | nil => rw [hx] at e; cases e
  | cons c r =>
    have hb := skip_head (x := s.drop i) (by rw [<- drop_skip, hx])
    by_cases ht : tokLen (s.drop (skipN s i)) = 0
    . rw [hx] at e ht; rw [pieces_cons, hb, if_neg (by decide), if_pos ht] at e
      exact hg0 (List.cons.inj e).1.symm
    . rw [pieces_tok hx hb ht] at e
      have e1 := (List.cons.inj e).1
      have hl : g.length = tokLen (s.drop (skipN s i)) := by
        rw [<- e1, List.length_take]; have := tokLen_le (s.drop (skipN s i)); omega
      exact h (by rw [hl]; exact e1)
end Go.Proofs.YtanocopjancaiaaGreatDoor
namespace Go.Proofs.YtanocopjancaiaaGreatDoor
open Go.Abs
set_option maxRecDepth 10000
variable {e : Ev}
theorem v_slc1 {x : V} {l : List V} : evp (.slc 1 true false false) [.sl false 1 (x :: l), .int .i64 1] = some (.sl false 1 l) := by
  simp only [evp, vSlcC, vSlc, vOpt]
  simp [cut3]
def headIs (L : List Bytes) (g : Bytes) : Bool := match L with | x :: _ => decide (x = g) | [] => false
theorem v.RTake (L : List Bytes) (g : Bytes) (o d : V) : vl e 11584 1 [.str g, strs L, o, d] = some (.tup [.bool (headIs L g), strs (if headIs L g = true then L.tail else L), o, d]) := by
  rw [w.seiche_seicheref13_Read_Take_h0]; unfold y.seiche_seicheref13_Read_Take_h0
  cases L with
  | nil => simp only [yy, strs, List.map_nil, List.length_nil, Int.natCast_zero, if_true]; rfl
  | cons x r =>
    have h0 : evp (.elem 1) [strs (x :: r), .int .i64 0] = some (.str x) := v_elem (i := 0) rfl
    simp only [yy, h0, v_ld0 (show (V.str x).sc = true from rfl)]
    rw [if_neg (by simp)]
    by_cases hx : x = g
    . rw [if_pos hx, strs, List.map_cons, v_slc1]
      simp [headIs, hx]
    . rw [if_neg hx]
      simp [headIs, hx]
theorem pieces_len : ∀ (n : Nat) (x : Bytes), x.length <= n -> (pieces x).length <= x.length
  | 0, [], _ => by simp [pieces_nil]
  | 0, c :: r, h => by simp at h
  | n + 1, [], _ => by simp [pieces_nil]
  | n + 1, c :: r, h => by
    rw [pieces_cons]
    simp only [List.length_cons] at h
    by_cases hb : blank c = true
    . rw [if_pos hb]; have := pieces_len n r (by omega); simp only [List.length_cons]; omega
    . rw [if_neg hb]
      by_cases ht : tokLen (c :: r) = 0
      . rw [if_pos ht]; simp
      . rw [if_neg ht]
        have := pieces_len n ((c :: r).drop (tokLen (c :: r))) (by simp; omega)
        simp only [List.length_cons, List.length_drop] at this ⊢
        omega
def Same2 (e : Ev) (kp kr : Nat) (s : Bytes) (n : Nat) : Prop :=
  ∀ (i : Nat) (out : List Bytes) (d : Nat), i <= s.length -> (pieces (s.drop i)).length <= n -> out.length + (pieces (s.drop i)).length <= 1048577 -> d <= 64 ->
    ∃ (er : Int) (i' : Nat) (out' : List Bytes) (d' : Int) (L' outR : List Bytes) (dR : Int),
      vl e kp 1 (st4 s i (strs out) (I d)) = some (.tup (I er :: st4 s i' (strs out') (I d'))) /\ vl e kr 1 [strs (pieces (s.drop i)), strs out, I d] = some (.tup [I er, strs L', strs outR, I dR]) /\
      outR.length + L'.length <= out.length + (pieces (s.drop i)).length /\
      (er = 0 -> i' <= s.length /\ L' = pieces (s.drop i') /\ outR = out' /\ d' = d /\ dR = d /\ L'.length < (pieces (s.drop i)).length)
theorem skip_skip (s : Bytes) (i : Nat) : skipN s (skipN s i) = skipN s i := by
  have : (s.drop (skipN s i)).takeWhile blank = [] := by
    rw [drop_skip]
    cases hx : (s.drop i).dropWhile blank with
    | nil => rfl
    | cons c r => rw [List.takeWhile_cons, skip_head hx]; rfl
  show skipN s i + ((s.drop (skipN s i)).takeWhile blank).length = _
  rw [this]; rfl
theorem headIs_t {g : Bytes} {t : List Bytes} : headIs (g :: t) g = true := decide_eq_true rfl
theorem headIs_f {L : List Bytes} {g : Bytes} (h : ∀ t, L ≠ g :: t) : headIs L g = false := by
  cases L with
  | nil => rfl
  | cons x r => exact decide_eq_false fun e => h r (by rw [e])
theorem both_take (s : Bytes) (hs : s.length <= 1048576) {g : Bytes} (hg : Sg g) (o d : V) (i : Nat) (hi : i <= s.length) :
    (∃ i', vl e 11728 1 (.str g :: st4 s i o d) = some (.tup (.bool true :: st4 s i' o d)) /\ vl e 11584 1 [.str g, strs (pieces (s.drop i)), o, d] = some (.tup [.bool true, strs (pieces (s.drop i')), o, d]) /\ i' <= s.length /\ pieces (s.drop i) = g :: pieces (s.drop i')) \/
    (vl e 11728 1 (.str g :: st4 s i o d) = some (.tup (.bool false :: st4 s (skipN s i) o d)) /\ vl e 11584 1 [.str g, strs (pieces (s.drop i)), o, d] = some (.tup [.bool false, strs (pieces (s.drop i)), o, d]) /\ ∀ t, pieces (s.drop i) ≠ g :: t) := by
  have hgl : g.length <= 8 := by rcases hg with rfl | rfl | rfl | rfl | rfl <;> decide
  have h1 := v.takes (e := e) s g (by omega) hgl o d i hi
  have h2 := v.RTake (e := e) (pieces (s.drop i)) g o d
  cases hh : here s g i with
  | true =>
    left
    rw [hh, if_pos rfl] at h1
    have hp := here_t hg hh
    refine ⟨_, h1, ?_, ?_, hp⟩
    . rw [h2, hp, headIs_t, if_pos rfl]; rfl
    . have := of_decide_eq_true hh
      have := congrArg List.length this
      rw [List.length_take, List.length_drop] at this
      have hj := skipN_le s hi
      omega
  | false =>
    right
    rw [hh, if_neg (by decide)] at h1
    have hp := here_f hg hh
    exact ⟨h1, by rw [h2, headIs_f hp, if_neg (by decide)], hp⟩
theorem tag_no (s : Bytes) (i : Nat) (h : runN s (skipN s i) = skipN s i) : pieces (s.drop i) = [] \/ ∃ t r, pieces (s.drop i) = t :: r /\ isTag t = false /\ t.length <= s.length := by
  rw [pieces_at]
  cases hx : s.drop (skipN s i) with
  | nil => exact .inl rfl
  | cons c r =>
    have hb := skip_head (x := s.drop i) (by rw [<- drop_skip, hx])
    have hsc : sign c = false := by
      cases hc : sign c with
      | false => rfl
      | true => unfold runN at h; rw [hx, List.takeWhile_cons, hc] at h; simp at h
    have hl : (c :: r).length <= s.length := by rw [<- hx]; simp
    right
    by_cases ht : tokLen (c :: r) = 0
    . exact ⟨[], [], by rw [pieces_cons, hb, if_neg (by decide), if_pos ht], rfl, by simp⟩
    . refine ⟨_, _, pieces_tok rfl hb ht, ?_, by rw [List.length_take]; omega⟩
      obtain ⟨m, hm⟩ := Nat.exists_eq_succ_of_ne_zero ht
      rw [hm, List.take_succ_cons]; simp [isTag, hsc]
theorem tag_yes (s : Bytes) (i : Nat) (h : runN s (skipN s i) ≠ skipN s i) : pieces (s.drop i) = (s.take (runN s (skipN s i))).drop (skipN s i) :: pieces (s.drop (runN s (skipN s i))) /\ isTag ((s.take (runN s (skipN s i))).drop (skipN s i)) = true := by
  rw [pieces_at]
  have hr : runN s (skipN s i) = skipN s i + ((s.drop (skipN s i)).takeWhile sign).length := rfl
  rw [hr, drop_take_eq, <- List.drop_drop]
  cases hx : s.drop (skipN s i) with
  | nil => rw [hr, hx] at h; simp at h
  | cons c r =>
    have hb := skip_head (x := s.drop i) (by rw [<- drop_skip, hx])
    have hsc : sign c = true := by
      cases hc : sign c with
      | true => rfl
      | false => rw [hr, hx, List.takeWhile_cons, hc] at h; simp at h
    have ht : tokLen (c :: r) = ((c :: r).takeWhile sign).length := by rw [tokLen_cons, if_pos hsc]
    have hp := pieces_tok (x := c :: r) rfl hb (by rw [ht, List.takeWhile_cons, hsc]; simp)
    rw [ht] at hp
    refine ⟨hp, ?_⟩
    have htw : (c :: r).take ((c :: r).takeWhile sign).length = (c :: r).takeWhile sign := by
      exact (List.prefix_iff_eq_take.1 (List.takeWhile_prefix sign)).symm
    rw [htw, List.takeWhile_cons, hsc]
    simp [isTag, hsc]
theorem nat1 {d : Nat} (h : d <= 64) : IntKind.i64.wrap ((d : Int) + 1) = ((d + 1 : Nat) : Int) := w64 _ (by omega)
theorem nat1' {d : Nat} (h : d <= 64) : IntKind.i64.wrap (((d + 1 : Nat) : Int) - 1) = (d : Int) := by rw [w64 _ (by omega)]; omega
theorem part_ok (s : Bytes) (hs : s.length <= 1048576) (n : Nat) (hor : ∀ k, k + 1 = n -> Same2 e 11056 11216 s k) : Same2 e 12016 12144 s n := by
  intro i out d hi hn hout hd
  rw [w.seiche_expr_parser_part_h0, w.seiche_seicheref13_Read_Part_h0]
  unfold y.seiche_expr_parser_part_h0 y.seiche_seicheref13_Read_Part_h0
  rcases both_take (e := e) s hs (g := [40]) (.inr (.inl rfl)) (strs out) (I d) i hi with ⟨j, p1, p2, hj, hp⟩ | ⟨p1, p2, hp⟩
  . have hlen : (pieces (s.drop i)).length = (pieces (s.drop j)).length + 1 := by rw [hp]; rfl
    by_cases hd64 : d = 64
    . refine ⟨8, j, out, ((d + 1 : Nat) : Int), pieces (s.drop j), out, ((d + 1 : Nat) : Int), ?_, ?_, by omega, fun h => by omega⟩
      . simp only [yy, p1, nat1 hd, if_pos (show (64 : Int) < ((d + 1 : Nat) : Int) by omega)]
      . simp only [yy, p2, nat1 hd, if_pos (show (64 : Int) < ((d + 1 : Nat) : Int) by omega)]
    . obtain ⟨er, i1, out1, d1, L1, outR, dR, q1, q2, q3, q4⟩ := hor (n - 1) (by omega) j out (d + 1) hj (by omega) (by omega) (by omega)
      by_cases her : er = 0
      . obtain ⟨r1, r2, r3, r4, r5, r6⟩ := q4 her
        subst her; subst r2; subst r3; subst r4; subst r5
        rcases both_take (e := e) s hs (g := [41]) (.inr (.inr (.inl rfl))) (strs outR) (I d) i1 r1 with ⟨j2, p3, p4, hj2, hp2⟩ | ⟨p3, p4, hp2⟩
        . have hlen2 : (pieces (s.drop i1)).length = (pieces (s.drop j2)).length + 1 := by rw [hp2]; rfl
          refine ⟨0, j2, outR, d, pieces (s.drop j2), outR, d, ?_, ?_, by omega, fun _ => ⟨hj2, rfl, rfl, rfl, rfl, by omega⟩⟩
          . simp only [yy, p1, nat1 hd, if_neg (show ¬((64 : Int) < ((d + 1 : Nat) : Int)) by omega), q1, decide_true, nat1' hd, p3, if_true]
          . simp only [yy, p2, nat1 hd, if_neg (show ¬((64 : Int) < ((d + 1 : Nat) : Int)) by omega), q2, decide_true, nat1' hd, p4, if_true]
        . refine ⟨4, skipN s i1, outR, d, pieces (s.drop i1), outR, d, ?_, ?_, by omega, fun h => by omega⟩
          . simp only [yy, p1, nat1 hd, if_neg (show ¬((64 : Int) < ((d + 1 : Nat) : Int)) by omega), q1, decide_true, nat1' hd, p3, if_true]
          . simp only [yy, p2, nat1 hd, if_neg (show ¬((64 : Int) < ((d + 1 : Nat) : Int)) by omega), q2, decide_true, nat1' hd, p4, if_true]
      . refine ⟨er, i1, out1, d1, L1, outR, dR, ?_, ?_, by omega, fun h => absurd h her⟩
        . simp only [yy, p1, nat1 hd, if_neg (show ¬((64 : Int) < ((d + 1 : Nat) : Int)) by omega), q1, if_neg her]
        . simp only [yy, p2, nat1 hd, if_neg (show ¬((64 : Int) < ((d + 1 : Nat) : Int)) by omega), q2, if_neg her]
  . have hj := skipN_le s hi
    have hb := v.blanks (e := e) s (by omega) (strs out) (I d) (skipN s i) hj
    rw [skip_skip] at hb
    have h48 := v.part_48 (e := e) s (by omega) out (by have : Lim = 4294967296 := rfl; omega) (I d) (skipN s i) (s.length - skipN s i) (skipN s i) (by omega) (Nat.le_refl _)
    by_cases hr : runN s (skipN s i) = skipN s i
    . rw [if_pos hr] at h48
      refine ⟨4, runN s (skipN s i), out, d, pieces (s.drop i), out, d, ?_, ?_, by omega, fun h => by omega⟩
      . simp only [yy, p1, hb]
        exact h48
      . rcases tag_no s i hr with hL | ⟨t, r, hL, ht, htl⟩
        . rw [hL] at p2 ⊢
          simp only [yy, p2, List.map_nil, List.length_nil, Int.natCast_zero, if_true]
        . rw [hL] at p2 ⊢
          have h0 : evp (.elem 1) [strs (t :: r), .int .i64 0] = some (.str t) := v_elem (i := 0) rfl
          simp only [yy, p2, h0, v_ld0 (show (V.str t).sc = true from rfl), v.Tag13 t (by omega), ht]
          rw [if_neg (by simp)]
    . rw [if_neg hr] at h48
      obtain ⟨hL, ht⟩ := tag_yes s i hr
      have hrl := (runN_le s hj).2
      generalize htt : (s.take (runN s (skipN s i))).drop (skipN s i) = t at hL ht h48
      have htl : t.length <= s.length := by rw [<- htt]; simp; omega
      have hlen : (pieces (s.drop i)).length = (pieces (s.drop (runN s (skipN s i)))).length + 1 := by rw [hL]; rfl
      refine ⟨0, runN s (skipN s i), out ++ [t], d, pieces (s.drop (runN s (skipN s i))), out ++ [t], d, ?_, ?_, by simp; omega, fun _ => ⟨hrl, rfl, rfl, rfl, rfl, by omega⟩⟩
      . simp only [yy, p1, hb]
        exact h48
      . rw [hL] at p2 ⊢
        have h0 : ∀ r, evp (.elem 1) [strs (t :: r), .int .i64 0] = some (.str t) := fun r => v_elem (i := 0) rfl
        have hs1 : ∀ r, evp (.slc 1 true false false) [strs (t :: r), .int .i64 1] = some (strs r) := fun r => v_slc1
        simp only [yy, p2, h0, v_ld0 (show (V.str t).sc = true from rfl), v.Tag13 t (by omega), ht, v_bsl1, v_push (show out.length + 1 <= Lim by have : Lim = 4294967296 := rfl; omega), hs1]
        rw [if_neg (by simp)]
theorem part_bang (L : List Bytes) (g : Bytes) (hg : Sg g) (h40 : g ≠ [40]) (t : List Bytes) (hL : L = g :: t) (o d : V) : vl e 12144 1 [strs L, o, d] = some (.tup [I 4, strs L, o, d]) := by
  subst hL
  rw [w.seiche_seicheref13_Read_Part_h0]; unfold y.seiche_seicheref13_Read_Part_h0
  have p2 := v.RTake (e := e) (g :: t) [40] o d
  rw [headIs_f (fun r h => h40 (List.cons.inj h).1), if_neg (by decide)] at p2
  have h0 : evp (.elem 1) [strs (g :: t), .int .i64 0] = some (.str g) := v_elem (i := 0) rfl
  have hl : g.length <= 8 := by rcases hg with rfl | rfl | rfl | rfl | rfl <;> decide
  have ht : isTag g = false := by rcases hg with rfl | rfl | rfl | rfl | rfl <;> rfl
  simp only [yy, p2, h0, v_ld0 (show (V.str g).sc = true from rfl), v.Tag13 g (by omega), ht]
  rw [if_neg (by simp)]
theorem not_ok (s : Bytes) (hs : s.length <= 1048576) (n : Nat) (hpt : Same2 e 12016 12144 s n) : Same2 e 11744 11888 s n := by
  have hLim : Lim = 4294967296 := rfl
  intro i out d hi hn hout hd
  rw [w.seiche_expr_parser_not_h0, w.seiche_seicheref13_Read_Not_h0]
  unfold y.seiche_expr_parser_not_h0 y.seiche_seicheref13_Read_Not_h0
  rcases both_take (e := e) s hs (g := [33]) (.inl rfl) (strs out) (I d) i hi with ⟨j, p1, p2, hj, hp⟩ | ⟨p1, p2, hp⟩
  . have hlen : (pieces (s.drop i)).length = (pieces (s.drop j)).length + 1 := by rw [hp]; rfl
    rcases both_take (e := e) s hs (g := [33]) (.inl rfl) (strs out) (I d) j hj with ⟨j2, p3, p4, hj2, hp2⟩ | ⟨p3, p4, hp2⟩
    . have hb := part_bang (e := e) (pieces (s.drop j)) [33] (.inl rfl) (by decide) _ hp2 (strs out) (I d)
      refine ⟨4, j2, out, d, pieces (s.drop j), out, d, ?_, ?_, by omega, fun h => by omega⟩
      . simp only [yy, p1, p3]
      . simp only [yy, p2, hb]
        rw [if_neg (by decide)]
    . have hle := skipN_le s hj
      obtain ⟨er, i1, out1, d1, L1, outR, dR, q1, q2, q3, q4⟩ := hpt (skipN s j) out d hle (by rw [<- pieces_at]; omega) (by rw [<- pieces_at]; omega) hd
      rw [<- pieces_at] at q2 q3 q4
      by_cases her : er = 0
      . obtain ⟨r1, r2, r3, r4, r5, r6⟩ := q4 her
        subst her; subst r2; subst r3; subst r4; subst r5
        refine ⟨0, i1, outR ++ [[33]], d, pieces (s.drop i1), outR ++ [[33]], d, ?_, ?_, by simp; omega, fun _ => ⟨r1, rfl, rfl, rfl, rfl, by omega⟩⟩
        . simp only [yy, p1, p3, q1, decide_true, v_bsl1, v_push (show outR.length + 1 <= Lim by omega), if_true]
        . simp only [yy, p2, q2, if_true, v_bsl1, v_push (show outR.length + 1 <= Lim by omega)]
      . refine ⟨er, i1, out1, d1, L1, outR, dR, ?_, ?_, by omega, fun h => absurd h her⟩
        . simp only [yy, p1, p3, q1, if_neg her]
        . simp only [yy, p2, q2, if_neg her]
  . have hle := skipN_le s hi
    obtain ⟨er, i1, out1, d1, L1, outR, dR, q1, q2, q3, q4⟩ := hpt (skipN s i) out d hle (by rw [<- pieces_at]; omega) (by rw [<- pieces_at]; omega) hd
    rw [<- pieces_at] at q2 q3 q4
    refine ⟨er, i1, out1, d1, L1, outR, dR, ?_, ?_, q3, q4⟩
    . simp only [yy, p1, q1]
    . simp only [yy, p2, q2]
      by_cases her : er = 0
      . rw [if_pos her]
      . rw [if_neg her]
end Go.Proofs.YtanocopjancaiaaGreatDoor
namespace Go.Proofs.YtanocopjancaiaaGreatDoor
open Go.Abs
set_option maxRecDepth 10000
variable {e : Ev}
noncomputable def lst16 (Γ : Gam) (kp kl : Nat) (v0 v1 v2 v3 v4 : V) : Option V :=
  ch Γ 11728 [v0, v1, v2, v3, v4] fun v5 =>
  pr (.ext 0) [v5] fun v6 =>
  pr (.ext 1) [v5] fun v7 =>
  pr (.ext 2) [v5] fun v8 =>
  pr (.ext 3) [v5] fun v9 =>
  pr (.ext 4) [v5] fun v10 =>
  vif v6 (
    ch Γ kp [v7, v8, v9, v10] fun v11 =>
    pr (.ext 0) [v11] fun v12 =>
    pr (.ext 1) [v11] fun v13 =>
    pr (.ext 2) [v11] fun v14 =>
    pr (.ext 3) [v11] fun v15 =>
    pr (.ext 4) [v11] fun v16 =>
    pr (.bin (.neq) (.no)) [v12, (.int .i64 0)] fun v17 =>
    vif v17 (
      some (.tup [v12, v13, v14, v15, v16])) (
      pr (.bsl 1) [v0] fun v18 =>
      pr (.app 1) [v15, v18] fun v19 =>
      Γ kl 16 [v0, v13, v14, v19, v16])) (
    some (.tup [(.int .i64 0), v7, v8, v9, v10]))
noncomputable def lst1 (Γ : Gam) (kp kl : Nat) (v0 v1 v2 v3 v4 : V) : Option V :=
  ch Γ kp [v1, v2, v3, v4] fun v5 =>
  pr (.ext 0) [v5] fun v6 =>
  pr (.ext 1) [v5] fun v7 =>
  pr (.ext 2) [v5] fun v8 =>
  pr (.ext 3) [v5] fun v9 =>
  pr (.ext 4) [v5] fun v10 =>
  pr (.bin (.neq) (.no)) [v6, (.int .i64 0)] fun v11 =>
  vif v11 (
    some (.tup [v6, v7, v8, v9, v10])) (
    Γ kl 16 [v0, v7, v8, v9, v10])
noncomputable def rls8 (Γ : Gam) (g : V) (kq kr : Nat) (v0 v1 v2 v3 : V) : Option V :=
  pr (.bin (.eql) (.no)) [v0, (.int .i64 0)] fun v4 =>
  vif v4 (
    ch Γ 11584 [g, v1, v2, v3] fun v5 =>
    pr (.ext 0) [v5] fun v6 =>
    pr (.ext 1) [v5] fun v7 =>
    pr (.ext 2) [v5] fun v8 =>
    pr (.ext 3) [v5] fun v9 =>
    vif v6 (
      ch Γ kq [v7, v8, v9] fun v10 =>
      pr (.ext 0) [v10] fun v11 =>
      pr (.ext 1) [v10] fun v12 =>
      pr (.ext 2) [v10] fun v13 =>
      pr (.ext 3) [v10] fun v14 =>
      pr (.bsl 1) [g] fun v15 =>
      pr (.app 1) [v13, v15] fun v16 =>
      Γ kr 8 [v11, v12, v16, v14]) (
      some (.tup [v0, v7, v8, v9]))) (
    some (.tup [v0, v1, v2, v3]))
noncomputable def rls1 (Γ : Gam) (kq kr : Nat) (v0 v1 v2 : V) : Option V :=
  ch Γ kq [v0, v1, v2] fun v3 =>
  pr (.ext 0) [v3] fun v4 =>
  pr (.ext 1) [v3] fun v5 =>
  pr (.ext 2) [v3] fun v6 =>
  pr (.ext 3) [v3] fun v7 =>
  Γ kr 8 [v4, v5, v6, v7]
structure Lst (e : Ev) (g : Bytes) (kp kl kq kr : Nat) : Prop where
  sg : Sg g
  l1 : ∀ v0 v1 v2 v3 v4, vl e kl 1 [v0, v1, v2, v3, v4] = lst1 (vl e) kp kl v0 v1 v2 v3 v4
  l16 : ∀ v0 v1 v2 v3 v4, vl e kl 16 [v0, v1, v2, v3, v4] = lst16 (vl e) kp kl v0 v1 v2 v3 v4
  r1 : ∀ v0 v1 v2, vl e kr 1 [v0, v1, v2] = rls1 (vl e) kq kr v0 v1 v2
  r8 : ∀ v0 v1 v2 v3, vl e kr 8 [v0, v1, v2, v3] = rls8 (vl e) (.str g) kq kr v0 v1 v2 v3
theorem lst_or : Lst e [124, 124] 11424 11408 11568 11216 :=
  ⟨.inr (.inr (.inr (.inr rfl))), w.seiche_expr_parser_list_h0 e, w.seiche_expr_parser_list_h0_16 e, w.seiche_seicheref13_Read_Or_h0 e, w.seiche_seicheref13_Read_Or_h0_8 e⟩
theorem lst_and : Lst e [38, 38] 11744 11409 11888 11568 :=
  ⟨.inr (.inr (.inr (.inl rfl))), w.seiche_expr_parser_list_h1 e, w.seiche_expr_parser_list_h1_16 e, w.seiche_seicheref13_Read_And_h0 e, w.seiche_seicheref13_Read_And_h0_8 e⟩
theorem v_bslS {g : Bytes} : evp (.bsl 1) [.str g] = some (.sl false 1 [.str g]) := rfl
section
variable {g : Bytes} {kp kl kq kr : Nat}
theorem r8_err (hL : Lst e g kp kl kq kr) {er : Int} (h : er ≠ 0) (a b c : V) : vl e kr 8 [I er, a, b, c] = some (.tup [I er, a, b, c]) := by
  rw [hL.r8]; unfold rls8
  simp only [yy, if_neg h]
theorem lst_loop (hL : Lst e g kp kl kq kr) (s : Bytes) (hs : s.length <= 1048576) (n : Nat) (hS : Same2 e kp kq s n) : ∀ (m i : Nat) (out : List Bytes) (d : Nat), m <= n -> i <= s.length -> (pieces (s.drop i)).length <= m -> out.length + (pieces (s.drop i)).length <= 1048577 -> d <= 64 ->
    ∃ (er : Int) (i' : Nat) (out' : List Bytes) (d' : Int) (L' outR : List Bytes) (dR : Int),
      vl e kl 16 (.str g :: st4 s i (strs out) (I d)) = some (.tup (I er :: st4 s i' (strs out') (I d'))) /\ vl e kr 8 [I 0, strs (pieces (s.drop i)), strs out, I d] = some (.tup [I er, strs L', strs outR, I dR]) /\
      outR.length + L'.length <= out.length + (pieces (s.drop i)).length /\
      (er = 0 -> i' <= s.length /\ L' = pieces (s.drop i') /\ outR = out' /\ d' = d /\ dR = d /\ L'.length <= (pieces (s.drop i)).length) := by
  have hLim : Lim = 4294967296 := rfl
  intro m
  induction m with
  | zero =>
    intro i out d hm hi hn hout hd
    rcases both_take (e := e) s hs hL.sg (strs out) (I d) i hi with ⟨j, p1, p2, hj, hp⟩ | ⟨p1, p2, hp⟩
    . rw [hp] at hn; simp at hn
    . refine ⟨0, skipN s i, out, d, pieces (s.drop i), out, d, ?_, ?_, by omega, fun _ => ⟨skipN_le s hi, by rw [<- pieces_at], rfl, rfl, rfl, by omega⟩⟩
      . rw [hL.l16]; unfold lst16
        simp only [yy, p1]
      . rw [hL.r8]; unfold rls8
        simp only [yy, p2, if_true]
  | succ m ih =>
    intro i out d hm hi hn hout hd
    rcases both_take (e := e) s hs hL.sg (strs out) (I d) i hi with ⟨j, p1, p2, hj, hp⟩ | ⟨p1, p2, hp⟩
    . have hlen : (pieces (s.drop i)).length = (pieces (s.drop j)).length + 1 := by rw [hp]; rfl
      obtain ⟨er, i1, out1, d1, L1, outR, dR, q1, q2, q3, q4⟩ := hS j out d hj (by omega) (by omega) hd
      have hb : outR.length + 1 <= Lim := by omega
      by_cases her : er = 0
      . obtain ⟨r1, r2, r3, r4, r5, r6⟩ := q4 her
        subst her; subst r2; subst r3; subst r4; subst r5
        obtain ⟨er2, i2, out2, d2, L2, outR2, dR2, t1, t2, t3, t4⟩ := ih i1 (outR ++ [g]) d (by omega) r1 (by omega) (by simp; omega) hd
        simp only [List.length_append, List.length_cons, List.length_nil] at t3
        refine ⟨er2, i2, out2, d2, L2, outR2, dR2, ?_, ?_, by omega, fun h => ?_⟩
        . rw [hL.l16]; unfold lst16
          simp only [yy, p1, q1, decide_true, v_bslS, v_push hb]
          exact t1
        . rw [hL.r8]; unfold rls8
          simp only [yy, p2, q2, if_true, v_bslS, v_push hb]
          exact t2
        . obtain ⟨u1, u2, u3, u4, u5, u6⟩ := t4 h
          exact ⟨u1, u2, u3, u4, u5, by omega⟩
      . refine ⟨er, i1, out1, d1, L1, outR ++ [g], dR, ?_, ?_, by simp; omega, fun h => absurd h her⟩
        . rw [hL.l16]; unfold lst16
          simp only [yy, p1, q1, if_neg her]
        . rw [hL.r8]; unfold rls8
          simp only [yy, p2, q2, if_true, v_bslS, v_push hb, r8_err hL her]
    . refine ⟨0, skipN s i, out, d, pieces (s.drop i), out, d, ?_, ?_, by omega, fun _ => ⟨skipN_le s hi, by rw [<- pieces_at], rfl, rfl, rfl, by omega⟩⟩
      . rw [hL.l16]; unfold lst16
        simp only [yy, p1]
      . rw [hL.r8]; unfold rls8
        simp only [yy, p2, if_true]
theorem lst_ok (hL : Lst e g kp kl kq kr) (s : Bytes) (hs : s.length <= 1048576) (n : Nat) (hS : Same2 e kp kq s n) (i : Nat) (out : List Bytes) (d : Nat) (hi : i <= s.length) (hn : (pieces (s.drop i)).length <= n) (hout : out.length + (pieces (s.drop i)).length <= 1048577) (hd : d <= 64) :
    ∃ (er : Int) (i' : Nat) (out' : List Bytes) (d' : Int) (L' outR : List Bytes) (dR : Int),
      vl e kl 1 (.str g :: st4 s i (strs out) (I d)) = some (.tup (I er :: st4 s i' (strs out') (I d'))) /\ vl e kr 1 [strs (pieces (s.drop i)), strs out, I d] = some (.tup [I er, strs L', strs outR, I dR]) /\
      outR.length + L'.length <= out.length + (pieces (s.drop i)).length /\
      (er = 0 -> i' <= s.length /\ L' = pieces (s.drop i') /\ outR = out' /\ d' = d /\ dR = d /\ L'.length < (pieces (s.drop i)).length) := by
  obtain ⟨er, i1, out1, d1, L1, outR, dR, q1, q2, q3, q4⟩ := hS i out d hi hn hout hd
  by_cases her : er = 0
  . obtain ⟨r1, r2, r3, r4, r5, r6⟩ := q4 her
    subst her; subst r2; subst r3; subst r4; subst r5
    obtain ⟨er2, i2, out2, d2, L2, outR2, dR2, t1, t2, t3, t4⟩ := lst_loop hL s hs n hS n i1 outR d (Nat.le_refl _) r1 (by omega) (by omega) hd
    refine ⟨er2, i2, out2, d2, L2, outR2, dR2, ?_, ?_, by omega, fun h => ?_⟩
    . rw [hL.l1]; unfold lst1
      simp only [yy, q1, decide_true]
      exact t1
    . rw [hL.r1]; unfold rls1
      simp only [yy, q2]
      exact t2
    . obtain ⟨u1, u2, u3, u4, u5, u6⟩ := t4 h
      exact ⟨u1, u2, u3, u4, u5, by omega⟩
  . refine ⟨er, i1, out1, d1, L1, outR, dR, ?_, ?_, q3, fun h => absurd h her⟩
    . rw [hL.l1]; unfold lst1
      simp only [yy, q1, if_neg her]
    . rw [hL.r1]; unfold rls1
      simp only [yy, q2, r8_err hL her]
end
theorem and_ok (s : Bytes) (hs : s.length <= 1048576) (n : Nat) (hS : Same2 e 11744 11888 s n) : Same2 e 11424 11568 s n := by
  intro i out d hi hn hout hd
  obtain ⟨er, i1, out1, d1, L1, outR, dR, q1, q2, q3, q4⟩ := lst_ok lst_and s hs n hS i out d hi hn hout hd
  refine ⟨er, i1, out1, d1, L1, outR, dR, ?_, q2, q3, q4⟩
  rw [w.seiche_expr_parser_and_h0]; unfold y.seiche_expr_parser_and_h0
  simp only [yy, q1]
theorem or_ok (s : Bytes) (hs : s.length <= 1048576) (n : Nat) (hS : Same2 e 11424 11568 s n) : Same2 e 11056 11216 s n := by
  intro i out d hi hn hout hd
  obtain ⟨er, i1, out1, d1, L1, outR, dR, q1, q2, q3, q4⟩ := lst_ok lst_or s hs n hS i out d hi hn hout hd
  refine ⟨er, i1, out1, d1, L1, outR, dR, ?_, q2, q3, q4⟩
  rw [w.seiche_expr_parser_or_h0]; unfold y.seiche_expr_parser_or_h0
  simp only [yy, q1]
theorem same_or (s : Bytes) (hs : s.length <= 1048576) : ∀ n, Same2 e 11056 11216 s n
  | 0 => or_ok s hs 0 (and_ok s hs 0 (not_ok s hs 0 (part_ok s hs 0 fun k h => by omega)))
  | n + 1 => by
    have ih := same_or s hs n
    refine or_ok s hs _ (and_ok s hs _ (not_ok s hs _ (part_ok s hs (n + 1) fun k h => ?_)))
    obtain rfl : k = n := by omega
    exact ih
theorem pieces_end (s : Bytes) {i : Nat} (hi : i <= s.length) : pieces (s.drop i) = [] <-> skipN s i = s.length := by
  have hle := skipN_le s hi
  rw [pieces_at]
  cases hx : s.drop (skipN s i) with
  | nil =>
    have := congrArg List.length hx
    simp at this
    exact ⟨fun _ => by omega, fun _ => rfl⟩
  | cons c r =>
    have hb := skip_head (x := s.drop i) (by rw [<- drop_skip, hx])
    have := congrArg List.length hx
    simp at this
    constructor
    . intro h
      rw [pieces_cons, hb, if_neg (by decide)] at h
      split at h <;> cases h
    . intro h; omega
theorem v.Parses (s : Bytes) (hs : s.length <= 1048576) : ∃ (l : List Bytes) (er : Int), vl e 45 0 [.str s] = some (.tup [strs l, I er]) /\ vl e 51 0 [.str s] = some (.tup [strs l, I er]) /\ l.length <= s.length := by
  by_cases h1 : s.length <= 1024
  . have hpl := pieces_len s.length s (Nat.le_refl _)
    obtain ⟨er, i1, out1, d1, L1, outR, dR, q1, q2, q3, q4⟩ := same_or (e := e) s hs s.length 0 [] 0 (Nat.zero_le _) hpl (by simp at hpl ⊢; omega) (by omega)
    have hc1 : evp (.cat [none]) [.str s] = some (.agg [.str s]) := rfl
    have hc2 : evp (.cat [none, none, none, none]) [.str s, .int .i64 0, .sl false 1 [], .int .i64 0] = some (.agg [.str s, .int .i64 0, .sl false 1 [], .int .i64 0]) := rfl
    have hc3 : evp (.cat [none]) [strs (pieces s)] = some (.agg [strs (pieces s)]) := rfl
    have hc4 : evp (.cat [none, none, none]) [strs (pieces s), .sl false 1 [], .int .i64 0] = some (.agg [strs (pieces s), .sl false 1 [], .int .i64 0]) := rfl
    have q1' : vl e 11056 1 [.str s, .int .i64 0, .sl false 1 [], .int .i64 0] = _ := q1
    have q2' : vl e 11216 1 [strs (pieces s), .sl false 1 [], .int .i64 0] = _ := q2
    have hP := v.Pieces (e := e) s hs
    by_cases her : er = 0
    . obtain ⟨r1, r2, r3, r4, r5, r6⟩ := q4 her
      subst her; subst r2; subst r3; subst r4; subst r5
      have hb := v.blanks (e := e) s (by omega) (strs outR) (I ((0 : Nat) : Int)) i1 r1
      simp only [List.drop_zero, List.length_nil] at q3 r6 hpl
      have hle := skipN_le s r1
      by_cases he : skipN s i1 = s.length
      . have hpe := (pieces_end s r1).2 he
        refine ⟨outR, 0, ?_, ?_, by omega⟩
        . rw [w.expr_Parse]; unfold y.expr_Parse
          simp only [yy, if_neg (show ¬((1024 : Int) < (s.length : Int)) by omega), hc1, hc2, q1', decide_true, hb]
          rw [if_neg (by omega)]
        . rw [w.seicheref13_Parse]; unfold y.seicheref13_Parse
          simp only [yy, if_neg (show ¬((1024 : Int) < (s.length : Int)) by omega), hP, hc3, hc4, q2', if_true, decide_true, hpe]
          rw [if_neg (by simp)]
      . have hpe : (pieces (s.drop i1)).length ≠ 0 := fun h => he ((pieces_end s r1).1 (List.eq_nil_of_length_eq_zero h))
        refine ⟨[], 4, ?_, ?_, by simp⟩
        . rw [w.expr_Parse]; unfold y.expr_Parse
          simp only [yy, if_neg (show ¬((1024 : Int) < (s.length : Int)) by omega), hc1, hc2, q1', decide_true, hb]
          rw [if_pos (by omega)]; rfl
        . rw [w.seicheref13_Parse]; unfold y.seicheref13_Parse
          simp only [yy, if_neg (show ¬((1024 : Int) < (s.length : Int)) by omega), hP, hc3, hc4, q2', if_true, decide_true]
          rw [if_pos (by simp; omega)]; rfl
    . refine ⟨[], er, ?_, ?_, by simp⟩
      . rw [w.expr_Parse]; unfold y.expr_Parse
        simp only [yy, if_neg (show ¬((1024 : Int) < (s.length : Int)) by omega), hc1, hc2, q1', if_neg her]; rfl
      . rw [w.seicheref13_Parse]; unfold y.seicheref13_Parse
        simp only [yy, if_neg (show ¬((1024 : Int) < (s.length : Int)) by omega), hP, hc3, hc4, q2', if_neg her]; rfl
  . refine ⟨[], 3, ?_, ?_, by simp⟩
    . rw [w.expr_Parse]; unfold y.expr_Parse
      simp only [yy, if_pos (show (1024 : Int) < (s.length : Int) by omega)]; rfl
    . rw [w.seicheref13_Parse]; unfold y.seicheref13_Parse
      simp only [yy, if_pos (show (1024 : Int) < (s.length : Int) by omega)]; rfl
end Go.Proofs.YtanocopjancaiaaGreatDoor
namespace Go.Proofs.YtanocopjancaiaaGreatDoor
open Go.Abs
theorem splitOn_length (c : UInt8) : ∀ s : Bytes, (splitOn c s).length <= s.length + 1
  | [] => by simp [splitOn]
  | b :: r => by
    have := splitOn_length c r
    simp only [splitOn]
    split
    . simp; omega
    . split
      . simp
      . rename_i x xs h; rw [h] at this; simp at this ⊢; omega
def tot (k : Nat) : List Bytes -> Nat
  | [] => 0
  | x :: r => x.length + k + tot k r
theorem tot_length (k : Nat) : ∀ l : List Bytes, l.length * k <= tot k l
  | [] => by simp [tot]
  | x :: r => by have := tot_length k r; simp only [tot, List.length_cons, Nat.succ_mul]; omega
theorem tot_mem (k : Nat) : ∀ {l : List Bytes} {x : Bytes}, x ∈ l -> x.length + k <= tot k l
  | y :: r, x, h => by
    rcases List.mem_cons.1 h with rfl | h
    . simp [tot]
    . have := tot_mem k h; simp [tot]; omega
theorem tot_le (k : Nat) : ∀ l : List Bytes, tot (k + 1) l <= (k + 1) * tot 1 l
  | [] => by simp [tot]
  | x :: r => by
    have := tot_le k r
    simp only [tot, Nat.mul_add, Nat.add_mul] at this ⊢
    omega
theorem tot_splitOn (c : UInt8) : ∀ s : Bytes, tot 1 (splitOn c s) = s.length + 1
  | [] => by simp [splitOn, tot]
  | b :: r => by
    have ih := tot_splitOn c r
    simp only [splitOn]
    split
    . simp [tot, ih]; omega
    . split
      . rename_i h; exact absurd h (splitOn_ne _ _)
      . rename_i x xs h; rw [h] at ih; simp [tot] at ih ⊢; omega
def joinS (sep : Bytes) : List Bytes -> Bytes
  | [] => []
  | [x] => x
  | x :: y :: r => x ++ sep ++ joinS sep (y :: r)
theorem lib_joinS (sep : Bytes) : ∀ l : List Bytes, Lib.join l sep = joinS sep l
  | [] => rfl
  | [x] => by simp [Lib.join, List.intercalate, joinS]
  | x :: y :: r => by
    have ih := lib_joinS sep (y :: r)
    simp only [Lib.join, List.intercalate] at ih ⊢
    rw [joinS, <- ih]; simp [List.intersperse]
theorem joinS_length (sep : Bytes) : ∀ l : List Bytes, (joinS sep l).length <= tot sep.length l
  | [] => by simp [joinS, tot]
  | [x] => by simp [joinS, tot]
  | x :: y :: r => by
    have := joinS_length sep (y :: r)
    simp [joinS, tot] at this ⊢; omega
theorem joinS_cons (sep x : Bytes) : ∀ l : List Bytes, joinS sep (x :: l) = x ++ (l.map (sep ++ ·)).flatten
  | [] => by simp [joinS]
  | y :: r => by rw [joinS, joinS_cons sep y r]; simp
def wrapB (sep : Bytes) (l : List Bytes) : Bytes := if l.length = 1 then joinS sep l else 40 :: joinS sep l ++ [41]
theorem wrapB_length (sep : Bytes) (l : List Bytes) : (wrapB sep l).length <= tot sep.length l + 2 := by
  have := joinS_length sep l
  unfold wrapB; split
  . omega
  . simp; omega
def nameB (s : Bytes) : Bytes := if s.headD 0 = 33 then s.tail else s
def notB (s : Bytes) : Bool := decide (s.headD 0 = 33)
def termO (s : Bytes) : Option Bytes := if isTag (nameB s) then some s else none
def allO (po : Bytes -> Option Bytes) : List Bytes -> Option (List Bytes)
  | [] => some []
  | a :: r => match po a with
    | none => none
    | some x => (allO po r).map (x :: ·)
theorem allO_length {po : Bytes -> Option Bytes} : ∀ {l m : List Bytes}, allO po l = some m -> m.length = l.length
  | [], m, h => by simp [allO] at h; simp [<- h]
  | a :: r, m, h => by
    simp only [allO] at h
    split at h
    . cases h
    . obtain ⟨m', h1, rfl⟩ := Option.map_eq_some_iff.1 h
      simp [allO_length h1]
theorem allO_tot {po : Bytes -> Option Bytes} {a b k : Nat} (hp : ∀ s t, po s = some t -> t.length + k <= a * (s.length + b)) : ∀ {l m : List Bytes}, allO po l = some m -> tot k m <= a * tot b l
  | [], m, h => by
    obtain rfl : [] = m := by simpa [allO] using h
    simp [tot]
  | x :: r, m, h => by
    simp only [allO] at h
    split at h
    . cases h
    . rename_i y hy
      obtain ⟨m', h1, rfl⟩ := Option.map_eq_some_iff.1 h
      have := allO_tot hp h1
      have := hp x y hy
      simp only [tot, Nat.mul_add] at this ⊢
      omega
theorem allO_ne {po : Bytes -> Option Bytes} {l m : List Bytes} (h : allO po l = some m) (hl : l ≠ []) : m ≠ [] := by
  intro e; subst e
  have := allO_length h
  exact hl (List.eq_nil_of_length_eq_zero (by simpa using this.symm))
def optionO (s : Bytes) : Option Bytes := (allO termO (splitOn 44 s)).map (wrapB [32, 38, 38, 32])
def lineO (s : Bytes) : Option Bytes := if fldB blankB s [] = [] then none else (allO optionO (fldB blankB s [])).map (wrapB [32, 124, 124, 32])
def linesO (l : List Bytes) : Option Bytes := if l = [] then none else (allO lineO l).map (wrapB [32, 38, 38, 32])
theorem termO_eq {s t : Bytes} (h : termO s = some t) : t = s := by
  unfold termO at h; split at h
  . exact (Option.some.inj h).symm
  . cases h
theorem option_tot {s : Bytes} {m : List Bytes} (h : allO termO (splitOn 44 s) = some m) : tot 4 m <= 4 * (s.length + 1) := by
  have := allO_tot (a := 4) (b := 1) (k := 4) (fun s t h => by rw [termO_eq h]; omega) h
  rwa [tot_splitOn] at this
theorem option_length {s t : Bytes} (h : optionO s = some t) : t.length <= 4 * s.length + 6 := by
  obtain ⟨m, h1, rfl⟩ := Option.map_eq_some_iff.1 h
  have := option_tot h1
  have : (wrapB [32, 38, 38, 32] m).length <= tot 4 m + 2 := wrapB_length _ m
  omega
theorem fld_tot (q : UInt8 -> Bool) : ∀ (s cur : Bytes), tot 1 (fldB q s cur) <= s.length + cur.length + 1
  | [], cur => by
    unfold fldB; split <;> simp [tot]
  | b :: r, cur => by
    unfold fldB
    split
    . split
      . have := fld_tot q r []; simp at this ⊢; omega
      . have := fld_tot q r []; simp [tot] at this ⊢; omega
    . have := fld_tot q r (cur ++ [b]); simp at this ⊢; omega
theorem line_tot {s : Bytes} {m : List Bytes} (h : allO optionO (fldB blankB s []) = some m) : tot 4 m <= 10 * (s.length + 1) := by
  have h1 := allO_tot (a := 10) (b := 1) (k := 4) (fun s t h => by have := option_length h; omega) h
  have h2 := fld_tot blankB s []
  have : 10 * tot 1 (fldB blankB s []) <= 10 * (s.length + 1) := Nat.mul_le_mul_left _ (by simpa using h2)
  omega
theorem line_length {s t : Bytes} (h : lineO s = some t) : t.length <= 10 * s.length + 12 := by
  unfold lineO at h
  split at h
  . cases h
  . obtain ⟨m, h1, rfl⟩ := Option.map_eq_some_iff.1 h
    have := line_tot h1
    have : (wrapB [32, 124, 124, 32] m).length <= tot 4 m + 2 := wrapB_length _ m
    omega
def neB (l : List Bytes) : List Bytes := l.filter fun x => !x.isEmpty
def wordsOf (l : List Bytes) : List Bytes := l.flatMap fun x => neB (splitOn 9 x)
theorem splitOn_none {c : UInt8} : ∀ {s : Bytes}, c ∉ s -> splitOn c s = [s]
  | [], _ => rfl
  | b :: r, h => by
    simp only [List.mem_cons, not_or] at h
    simp only [splitOn, if_neg (Ne.symm h.1), splitOn_none h.2]
theorem neB_one (x : Bytes) : neB [x] = if x = [] then [] else [x] := by cases x <;> simp [neB]
theorem neB_app (a b : List Bytes) : neB (a ++ b) = neB a ++ neB b := by simp [neB]
theorem words_eq : ∀ (s cur : Bytes), (9 : UInt8) ∉ cur -> fldB blankB s cur = wordsOf (addH cur (splitOn 32 s))
  | [], cur, h => by
    simp only [splitOn, addH, wordsOf, List.flatMap_cons, List.flatMap_nil, List.append_nil, splitOn_none h, neB_one, fldB]
  | b :: r, cur, h => by
    rw [fldB]
    by_cases h1 : b = 32
    . subst h1
      have ih := words_eq r [] (by simp)
      rw [addH_nil (splitOn_ne _ _)] at ih
      rw [splitOn_eq_c, show blankB 32 = true from rfl, if_pos rfl, ih]
      simp only [wordsOf, List.flatMap_cons, splitOn_none h, neB_one]
      split <;> simp
    . by_cases h2 : b = 9
      . subst h2
        have ih := words_eq r [] (by simp)
        rw [addH_nil (splitOn_ne _ _)] at ih
        rw [splitOn_ne_c (by decide), show blankB 9 = true from rfl, if_pos rfl, ih]
        cases h' : splitOn 32 r with
        | nil => exact absurd h' (splitOn_ne _ _)
        | cons x xs =>
          simp only [addH, wordsOf, List.flatMap_cons, List.append_assoc, List.singleton_append, splitOn_mid, neB_app, splitOn_none h, neB_one]
          by_cases hc : cur = []
          . rw [if_pos hc, hc]; rfl
          . have e : neB (cur :: splitOn 9 x) = cur :: neB (splitOn 9 x) := by
              unfold neB; rw [List.filter_cons_of_pos]; cases cur <;> simp at hc ⊢
            rw [if_neg hc, e]; rfl
      . have hb : blankB b = false := by simp [blankB, h1, h2]
        rw [hb, if_neg (by simp), splitOn_ne_c h1]
        exact words_eq r (cur ++ [b]) (by simp [h, Ne.symm h2])
theorem words_all (s : Bytes) : wordsOf (splitOn 32 s) = fldB blankB s [] := by rw [words_eq s [] (by simp), addH_nil (splitOn_ne _ _)]
theorem allO_some {po : Bytes -> Option Bytes} : ∀ {l : List Bytes}, (allO po l).isSome = l.all fun x => (po x).isSome
  | [] => rfl
  | a :: r => by
    have ih := allO_some (po := po) (l := r)
    simp only [allO, List.all_cons]
    cases po a with
    | none => rfl
    | some x => simp [ih]
theorem allO_id {po : Bytes -> Option Bytes} {f : Bytes -> Bytes} (h : ∀ s t, po s = some t -> t = f s) : ∀ {l m : List Bytes}, allO po l = some m -> m = l.map f
  | [], m, e => by
    obtain rfl : [] = m := by simpa [allO] using e
    rfl
  | a :: r, m, e => by
    simp only [allO] at e
    split at e
    . cases e
    . rename_i x hx
      obtain ⟨m', h1, rfl⟩ := Option.map_eq_some_iff.1 e
      rw [allO_id h h1, h a x hx]; rfl
def optT (s : Bytes) : Bytes := wrapB [32, 38, 38, 32] (splitOn 44 s)
def lineT (s : Bytes) : Bytes := wrapB [32, 124, 124, 32] ((fldB blankB s []).map optT)
theorem optionO_eq {s t : Bytes} (h : optionO s = some t) : t = optT s := by
  obtain ⟨m, h1, rfl⟩ := Option.map_eq_some_iff.1 h
  rw [allO_id (f := id) (fun s t h => termO_eq h) h1, List.map_id]; rfl
theorem lineO_eq {s t : Bytes} (h : lineO s = some t) : t = lineT s := by
  unfold lineO at h
  split at h
  . cases h
  . obtain ⟨m, h1, rfl⟩ := Option.map_eq_some_iff.1 h
    rw [allO_id (f := optT) (fun s t h => optionO_eq h) h1]; rfl
theorem tot_optT : ∀ l : List Bytes, tot 4 (l.map optT) <= 10 * tot 1 l
  | [] => by simp [tot]
  | a :: r => by
    have ih := tot_optT r
    have h2 : tot 4 (splitOn 44 a) <= 4 * tot 1 (splitOn 44 a) := tot_le 3 _
    rw [tot_splitOn] at h2
    have : (optT a).length <= tot 4 (splitOn 44 a) + 2 := wrapB_length _ _
    simp only [List.map_cons, tot, Nat.mul_add] at h2 ⊢
    omega
end Go.Proofs.YtanocopjancaiaaGreatDoor
namespace Go.Proofs.YtanocopjancaiaaGreatDoor
open Go.Abs
set_option maxRecDepth 10000
structure EnvX (e : Ev) : Prop where
  split : ∀ (s : Bytes) (c : UInt8), s.length < 4294967281 -> e 46 [.str s, .str [c]] = some (strs (splitOn c s))
  fields : ∀ s : Bytes, s.length <= 4294967296 -> e 94 [.str s, .fn 95 []] = some (strs (fldB blankB s []))
  join : ∀ (l : List Bytes) (s : Bytes), l.length <= 1000000000 -> (joinS s l).length <= 140737488355328 -> e 93 [strs l, .str s] = some (.str (joinS s l))
variable {e : Ev}
theorem v.split (he : EnvX e) (s : Bytes) (c : UInt8) (hs : s.length <= 4000000000) : vl e 46 0 [.str s, .str [c]] = some (strs (splitOn c s)) := val_ext (by kernel_rfl) (he.split s c (by omega))
theorem v.fields (he : EnvX e) (s : Bytes) (hs : s.length <= 4000000000) : vl e 94 0 [.str s, .fn 95 []] = some (strs (fldB blankB s [])) := val_ext (by kernel_rfl) (he.fields s (by omega))
theorem v.join (he : EnvX e) (l : List Bytes) (s : Bytes) (hl : l.length <= 1000000000) (hj : (joinS s l).length <= 140737488355328) : vl e 93 0 [strs l, .str s] = some (.str (joinS s l)) := val_ext (by kernel_rfl) (he.join l s hl hj)
def resO (t : Option Bytes) : V := .tup [.str (t.getD []), I (if t.isSome then 0 else 4)]
theorem name_take (s : Bytes) : (if s.take ([33] : Bytes).length = [33] then s.drop ([33] : Bytes).length else s) = nameB s /\ decide (s.take ([33] : Bytes).length = [33]) = notB s := by
  cases s with
  | nil => exact ⟨rfl, rfl⟩
  | cons b r => by_cases hb : b = 33 <;> simp [nameB, notB, hb]
theorem name_length (s : Bytes) : (nameB s).length <= s.length := by unfold nameB; split <;> simp
theorem not_name {s : Bytes} (h : notB s = true) : 33 :: nameB s = s := by
  have h := of_decide_eq_true h
  unfold nameB; rw [if_pos h]
  cases s with
  | nil => simp at h
  | cons b r => simp at h; simp [h]
theorem not_name_f {s : Bytes} (h : notB s = false) : nameB s = s := by unfold nameB; rw [if_neg (of_decide_eq_false h)]
theorem v.term (s : Bytes) (hs : s.length <= 1000000000) : vl e 117 0 [.str s] = some (resO (termO s)) := by
  rw [w.plus_term]; unfold y.plus_term
  have hc := v.cutPrefix (e := e) s [33]
  rw [(name_take s).1, (name_take s).2] at hc
  have hn := name_length s
  unfold termO
  cases ht : isTag (nameB s) with
  | false => simp only [yy, hc, v.Tag _ (show (nameB s).length <= 1152921504606846976 by omega), ht]; rfl
  | true =>
    cases hb : notB s with
    | false =>
      rw [not_name_f hb] at hc ht
      simp only [yy, hc, hb, v.Tag s (show s.length <= 1152921504606846976 by omega), ht]; rfl
    | true =>
      simp only [yy, hc, hb, v.Tag _ (show (nameB s).length <= 1152921504606846976 by omega), ht, v_sadd (show ([33] : Bytes).length + (nameB s).length <= 4611686018427387904 by simp; omega), List.singleton_append, not_name hb]; rfl
theorem joined_fin (he : EnvX e) (sep : Bytes) (m : List Bytes) (hm : tot sep.length m <= 1000000000) (hl : m.length <= 1000000000) :
    (pr (.len false) [strs m] fun v7 =>
    pr (.bin (.eql) (.no)) [v7, (.int .i64 1)] fun v8 =>
    vif v8 (
      pr (.elem 1) [strs m, (.int .i64 0)] fun v9 =>
      pr (.ld none 0) [v9] fun v10 =>
      some (.tup [v10, (.int .i64 0)])) (
      ca (vl e) 93 [strs m, .str sep] fun v9 =>
      pr (.bin (.add) (.no)) [(.str [40]), v9] fun v10 =>
      pr (.bin (.add) (.no)) [v10, (.str [41])] fun v11 =>
      some (.tup [v11, (.int .i64 0)]))) = some (resO (some (wrapB sep m))) := by
  have hj := joinS_length sep m
  unfold wrapB
  by_cases h1 : m.length = 1
  . match m, h1 with
    | [x], _ => simp only [yy, v_lenS, List.length_singleton, Int.natCast_one, if_true, v_get0, v_lds]; rfl
  . simp only [yy, v_lenS, if_neg (show ¬((m.length : Int) = 1) by omega), v.join he m sep hl (by omega), v_sadd (show ([40] : Bytes).length + (joinS sep m).length <= 4611686018427387904 by simp; omega), v_sadd (show ([40] ++ joinS sep m : Bytes).length + ([41] : Bytes).length <= 4611686018427387904 by simp; omega)]
    rw [if_neg h1]; rfl
theorem v.joined (he : EnvX e) (sep : Bytes) (fv : V) (po : Bytes -> Option Bytes) (l : List Bytes) (hp : ∀ x ∈ l, vApply (vl e) fv [.str x] = some (resO (po x))) (hl : l.length <= 1000000000) (hB : ∀ m, allO po l = some m -> tot sep.length m <= 1000000000) :
    vl e 70 0 [strs l, .str sep, fv] = some (resO ((allO po l).map (wrapB sep))) := by
  have hLim : Lim = 4294967296 := rfl
  have key : ∀ (n i : Nat) (acc : List Bytes), i + n = l.length -> acc.length = i -> allO po l = (allO po (l.drop i)).map (acc ++ ·) ->
      vl e 70 10 [.str sep, fv, strs acc, strs l, I l.length, I i] = some (resO ((allO po l).map (wrapB sep))) := by
    intro n
    induction n with
    | zero =>
      intro i acc hi ha hall
      rw [w.plus_joined_10]; unfold y.plus_joined_10
      simp only [yy, if_neg (show ¬((i : Int) < (l.length : Int)) by omega)]
      rw [List.drop_eq_nil_of_le (by omega)] at hall
      have hall' : allO po l = some acc := by rw [hall]; simp [allO]
      rw [hall']
      have hf := joined_fin he sep acc (hB acc hall') (by omega)
      simp only [yy] at hf
      exact hf
    | succ n ih =>
      intro i acc hi ha hall
      have hlt : i < l.length := by omega
      rw [w.plus_joined_10]; unfold y.plus_joined_10
      rw [List.drop_eq_getElem_cons hlt, allO] at hall
      simp only [yy, if_pos (show (i : Int) < (l.length : Int) by omega), v_get hlt, v_lds, cv, hp l[i] (List.getElem_mem _), resO]
      cases hpo : po l[i] with
      | none =>
        rw [hpo] at hall
        rw [hall]; simp only [yy, Option.isSome_none]; rfl
      | some x =>
        rw [hpo] at hall
        simp only [yy, Option.isSome_some, if_true, Option.getD_some, decide_true, v_bsl1, v_push (show acc.length + 1 <= Lim by omega), next64 (show i < l.length by omega) (by omega)]
        refine ih (i + 1) _ (by omega) (by simp [ha]) ?_
        rw [hall]; cases allO po (l.drop (i + 1)) <;> simp
  rw [w.plus_joined]; unfold y.plus_joined
  simp only [yy, v_lenS]
  exact key l.length 0 [] (by omega) rfl (by cases h : allO po l <;> simp [h])
theorem v.option (he : EnvX e) (s : Bytes) (hs : s.length <= 1000000) : vl e 96 0 [.str s] = some (resO (optionO s)) := by
  have hl := splitOn_length 44 s
  have hb : ∀ x ∈ splitOn 44 s, x.length <= 1000000000 := fun x hx => by have := tot_mem 1 hx; rw [tot_splitOn] at this; omega
  rw [w.plus_option]; unfold y.plus_option
  have hj := v.joined he [32, 38, 38, 32] (.fn 117 []) termO (splitOn 44 s) (fun x hx => v.term x (hb x hx)) (by omega) (fun m hm => by have := option_tot hm; show tot 4 m <= _; omega)
  simp only [yy, v.split he s 44 (by omega), hj, resO]
  rfl
theorem v.Line (he : EnvX e) (s : Bytes) (hs : s.length <= 1000000) : vl e 71 0 [.str s] = some (resO (lineO s)) := by
  have h2 := fld_tot blankB s []
  have h3 := tot_length 1 (fldB blankB s [])
  simp only [List.length_nil] at h2
  have hb : ∀ x ∈ fldB blankB s [], x.length <= 1000000 := fun x hx => by have := tot_mem 1 hx; omega
  rw [w.plus_Line]; unfold y.plus_Line lineO
  by_cases h0 : fldB blankB s [] = []
  . rw [if_pos h0]
    simp only [yy, v.fields he s (by omega), h0, v_lenS, List.length_nil, Int.natCast_zero, if_true]; rfl
  . have h0' : (fldB blankB s []).length ≠ 0 := fun e => h0 (List.eq_nil_of_length_eq_zero e)
    have hj := v.joined he [32, 124, 124, 32] (.fn 96 []) optionO (fldB blankB s []) (fun x hx => v.option he x (hb x hx)) (by omega) (fun m hm => by have := line_tot hm; show tot 4 m <= _; omega)
    rw [if_neg h0]
    simp only [yy, v.fields he s (by omega), v_lenS, if_neg (show ¬(((fldB blankB s []).length : Int) = 0) by omega), hj, resO]
theorem v.Lines (he : EnvX e) (l : List Bytes) (hs : tot 1 l <= 1000000) : vl e 48 0 [strs l] = some (resO (linesO l)) := by
  have h3 := tot_length 1 l
  have hb : ∀ x ∈ l, x.length <= 1000000 := fun x hx => by have := tot_mem 1 hx; omega
  rw [w.plus_Lines]; unfold y.plus_Lines linesO
  by_cases h0 : l = []
  . rw [if_pos h0]
    simp only [yy, h0, v_lenS, List.length_nil, Int.natCast_zero, if_true]; rfl
  . have h0' : l.length ≠ 0 := fun e => h0 (List.eq_nil_of_length_eq_zero e)
    have hj := v.joined he [32, 38, 38, 32] (.fn 71 []) lineO l (fun x hx => v.Line he x (hb x hx)) (by omega) (fun m hm => by
      have := allO_tot (a := 16) (b := 1) (k := 4) (fun s t h => by have := line_length h; omega) hm
      show tot 4 m <= _; omega)
    rw [if_neg h0]
    simp only [yy, v_lenS, if_neg (show ¬((l.length : Int) = 0) by omega), hj, resO]
end Go.Proofs.YtanocopjancaiaaGreatDoor
namespace Go.Proofs.YtanocopjancaiaaGreatDoor
open Go.Abs
set_option maxRecDepth 10000
variable {e : Ev}
theorem neB_cons (a : Bytes) (r : List Bytes) : neB (a :: r) = if a = [] then neB r else a :: neB r := by cases a <;> simp [neB]
theorem v.Words_24 (l1 l : List Bytes) (k : Nat) (hl : l.length <= 2000000000) (hl1 : k < l1.length) (hl2 : l1.length <= 1000000000) : ∀ (n i : Nat) (acc : List Bytes), i + n = l.length -> acc.length + n <= 2000000000 ->
    vl e 38 24 [strs acc, strs l1, I l1.length, I k, strs l, I l.length, I i] = vl e 38 10 [strs (acc ++ neB (l.drop i)), strs l1, I l1.length, I ((k + 1 : Nat) : Int)]
  | 0, i, acc, hi, ha => by
    rw [w.seicheref14_Words_24, List.drop_eq_nil_of_le (by omega)]; unfold y.seicheref14_Words_24
    simp only [yy, if_neg (show ¬((i : Int) < (l.length : Int)) by omega), next64 hl1 (by omega)]
    simp [neB]
  | n + 1, i, acc, hi, ha => by
    have hlt : i < l.length := by omega
    have hLim : Lim = 4294967296 := rfl
    rw [w.seicheref14_Words_24, List.drop_eq_getElem_cons hlt, neB_cons]; unfold y.seicheref14_Words_24
    by_cases h0 : l[i] = []
    . rw [if_pos h0]
      simp only [yy, if_pos (show (i : Int) < (l.length : Int) by omega), v_get hlt, v_lds, if_pos h0, next64 hlt (by omega)]
      exact v.Words_24 l1 l k hl hl1 hl2 n (i + 1) acc (by omega) (by omega)
    . rw [if_neg h0]
      simp only [yy, if_pos (show (i : Int) < (l.length : Int) by omega), v_get hlt, v_lds, if_neg h0, v_bsl1, v_push (show acc.length + 1 <= Lim by omega), next64 hlt (by omega)]
      refine (v.Words_24 l1 l k hl hl1 hl2 n (i + 1) (acc ++ [l[i]]) (by omega) (by simp; omega)).trans ?_
      simp
theorem neB_len (l : List Bytes) : (neB l).length <= l.length := List.length_filter_le _ _
theorem v.Words_10 (l : List Bytes) (hl : l.length <= 1000000000) : ∀ (n i : Nat) (acc : List Bytes), i + n = l.length -> acc.length + tot 1 (l.drop i) <= 1000000000 ->
    vl e 38 10 [strs acc, strs l, I l.length, I i] = some (strs (acc ++ wordsOf (l.drop i)))
  | 0, i, acc, hi, ha => by
    rw [w.seicheref14_Words_10, List.drop_eq_nil_of_le (by omega)]; unfold y.seicheref14_Words_10
    simp only [yy, if_neg (show ¬((i : Int) < (l.length : Int)) by omega)]
    simp [wordsOf]
  | n + 1, i, acc, hi, ha => by
    have hlt : i < l.length := by omega
    rw [w.seicheref14_Words_10]; unfold y.seicheref14_Words_10
    rw [List.drop_eq_getElem_cons hlt] at ha ⊢
    simp only [tot] at ha
    have h1 := splitOn_length 9 l[i]
    have h2 := neB_len (splitOn 9 l[i])
    have hc : vl e 52 0 [.str l[i], .int .u8 9] = _ := v.Cut l[i] 9 (by omega)
    simp only [yy, if_pos (show (i : Int) < (l.length : Int) by omega), v_get hlt, v_lds, hc]
    have h24 := v.Words_24 (e := e) l (splitOn 9 l[i]) i (by omega) hlt hl (splitOn 9 l[i]).length 0 acc (by omega) (by omega)
    rw [List.drop_zero] at h24
    refine h24.trans ((v.Words_10 l hl n (i + 1) _ (by omega) (by simp; omega)).trans ?_)
    rw [show wordsOf (l[i] :: l.drop (i + 1)) = neB (splitOn 9 l[i]) ++ wordsOf (l.drop (i + 1)) from rfl, List.append_assoc]
theorem v.Words (s : Bytes) (hs : s.length <= 100000000) : vl e 38 0 [.str s] = some (strs (fldB blankB s [])) := by
  have h1 := splitOn_length 32 s
  rw [w.seicheref14_Words]; unfold y.seicheref14_Words
  have hc : vl e 52 0 [.str s, .int .u8 32] = _ := v.Cut s 32 (by omega)
  simp only [yy, hc]
  refine (v.Words_10 (splitOn 32 s) (by omega) (splitOn 32 s).length 0 [] (by omega) (by rw [List.drop_zero, tot_splitOn]; simp; omega)).trans ?_
  rw [List.drop_zero, words_all]; rfl
theorem v.rTerm (s : Bytes) (hs : s.length <= 1000000000) : vl e 100 0 [.str s] = some (.tup [.str (nameB s), .bool (notB s), .bool (isTag (nameB s))]) := by
  rw [w.seicheref14_Term]; unfold y.seicheref14_Term
  cases s with
  | nil => simp only [yy, List.length_nil, Int.natCast_zero, if_neg (show ¬((0 : Int) < 0) by omega), v.Tag13 [] (by simp)]; rfl
  | cons b r =>
    have hr : r.length <= 1000000000 := by simp at hs; omega
    have h0 : evp .idx [.str (b :: r), .int .i64 0] = some (byteV b) := v_idx (i := 0) rfl
    have hs1 : evp (.sls true false) [.str (b :: r), .int .i64 1] = some (.str r) := v_sls1 (l := 1) (by simp)
    have hl : (0 : Int) < ((b :: r).length : Int) := by simp
    by_cases hb : b = 33
    . subst hb
      simp only [yy, if_pos hl, h0, byteV, hs1, v.Tag13 r (by omega)]
      rw [if_pos (by decide)]; simp [nameB, notB]
    . have hne : ¬((b.toNat : Int) = 33) := fun h => hb (UInt8.toNat_inj.1 (by rw [show (33 : UInt8).toNat = 33 from rfl]; omega))
      simp only [yy, if_pos hl, h0, byteV, if_neg hne, v.Tag13 (b :: r) (by omega)]
      simp [nameB, notB, hb]
theorem v.wrap (sep : Bytes) (l : List Bytes) (hl : l ≠ []) (h : tot sep.length l <= 1000000000) (h2 : l.length <= 1000000000) (hsp : sep.length <= 8) : vl e 79 0 [strs l, .str sep] = some (.str (wrapB sep l)) := by
  match l, hl with
  | x :: r, _ =>
    simp only [tot, List.length_cons] at h h2
    have hj := joinS_length sep (x :: r)
    simp only [tot] at hj
    have key : ∀ (n i : Nat) (t : Bytes), i + n = r.length -> t.length + tot sep.length (r.drop i) <= 1000000000 -> t ++ ((r.drop i).map (sep ++ ·)).flatten = joinS sep (x :: r) ->
        vl e 79 10 [strs (x :: r), .str sep, .str t, strs r, I r.length, I i] = some (.str (wrapB sep (x :: r))) := by
      intro n
      induction n with
      | zero =>
        intro i t hi ht hjn
        rw [List.drop_eq_nil_of_le (by omega)] at hjn
        simp at hjn
        rw [w.seicheref14_wrap_10]; unfold y.seicheref14_wrap_10 wrapB
        by_cases h1 : r = []
        . subst h1
          simp only [yy, if_neg (show ¬((i : Int) < (([] : List Bytes).length : Int)) by simp), v_lenS]
          rw [if_neg (by simp), if_pos (by simp), hjn]
        . have : 0 < r.length := List.length_pos_iff.2 h1
          simp only [yy, if_neg (show ¬((i : Int) < (r.length : Int)) by omega), v_lenS, if_pos (show (1 : Int) < ((x :: r).length : Int) by simp; omega), v_sadd (show ([40] : Bytes).length + t.length <= 4611686018427387904 by simp; omega), v_sadd (show ([40] ++ t : Bytes).length + ([41] : Bytes).length <= 4611686018427387904 by simp; omega)]
          rw [if_neg (by simp [h1]), hjn]; rfl
      | succ n ih =>
        intro i t hi ht hjn
        have hlt : i < r.length := by omega
        rw [List.drop_eq_getElem_cons hlt] at hjn ht
        simp only [tot, List.map_cons, List.flatten_cons] at hjn ht
        rw [w.seicheref14_wrap_10]; unfold y.seicheref14_wrap_10
        simp only [yy, if_pos (show (i : Int) < (r.length : Int) by omega), v_get hlt, v_lds, v_sadd (show t.length + sep.length <= 4611686018427387904 by omega), v_sadd (show (t ++ sep).length + r[i].length <= 4611686018427387904 by simp; omega), next64 hlt (by omega)]
        exact ih (i + 1) _ (by omega) (by simp; omega) (by rw [<- hjn]; simp)
    rw [w.seicheref14_wrap]; unfold y.seicheref14_wrap
    have hs1 : evp (.slc 1 true false false) [strs (x :: r), .int .i64 1] = some (strs r) := v_slc1
    simp only [yy, v_get0, v_lds, hs1]
    exact key r.length 0 x (by omega) (by rw [List.drop_zero]; omega) (by rw [List.drop_zero, joinS_cons])
theorem v.Good_22 (s : Bytes) (l1 l : List Bytes) (k : Nat) (hl : l.length <= 2000000000) (hl1 : k < l1.length) (hl2 : l1.length <= 1000000000) (hb : ∀ x ∈ l, x.length <= 1000000000) : ∀ (n i : Nat), i + n = l.length ->
    vl e 77 22 [.str s, strs l1, I l1.length, I k, strs l, I l.length, I i] = if (l.drop i).all (fun x => (termO x).isSome) then vl e 77 8 [.str s, strs l1, I l1.length, I ((k + 1 : Nat) : Int)] else some (.bool false)
  | 0, i, hi => by
    rw [w.seicheref14_Good_22, List.drop_eq_nil_of_le (by omega)]; unfold y.seicheref14_Good_22
    simp only [yy, if_neg (show ¬((i : Int) < (l.length : Int)) by omega), next64 hl1 (by omega)]
    simp
  | n + 1, i, hi => by
    have hlt : i < l.length := by omega
    rw [w.seicheref14_Good_22, List.drop_eq_getElem_cons hlt, List.all_cons]; unfold y.seicheref14_Good_22
    have et : (termO l[i]).isSome = isTag (nameB l[i]) := by unfold termO; cases isTag (nameB l[i]) <;> rfl
    rw [et]
    have ih := v.Good_22 s l1 l k hl hl1 hl2 hb n (i + 1) (by omega)
    cases ht : isTag (nameB l[i]) <;> simp only [yy, if_pos (show (i : Int) < (l.length : Int) by omega), v_get hlt, v_lds, v.rTerm l[i] (hb _ (List.getElem_mem _)), ht, next64 hlt (by omega), ih] <;> simp
theorem v.Good_8 (s : Bytes) (hs : s.length <= 10000000) (l : List Bytes) (hl : l.length <= 1000000000) (hb : ∀ x ∈ l, x.length <= 100000000) : ∀ (n i : Nat), i + n = l.length ->
    vl e 77 8 [.str s, strs l, I l.length, I i] = some (.bool ((l.drop i).all (fun x => (optionO x).isSome) && decide (fldB blankB s [] ≠ [])))
  | 0, i, hi => by
    rw [w.seicheref14_Good_8, List.drop_eq_nil_of_le (by omega)]; unfold y.seicheref14_Good_8
    simp only [yy, if_neg (show ¬((i : Int) < (l.length : Int)) by omega), v.Words s (by omega)]
    by_cases h0 : fldB blankB s [] = []
    . simp [h0]
    . have : 0 < (fldB blankB s []).length := List.length_pos_iff.2 h0
      rw [decide_eq_true (by omega)]; simp [h0]
  | n + 1, i, hi => by
    have hlt : i < l.length := by omega
    rw [w.seicheref14_Good_8, List.drop_eq_getElem_cons hlt, List.all_cons]; unfold y.seicheref14_Good_8
    have ha := hb l[i] (List.getElem_mem _)
    have h1 := splitOn_length 44 l[i]
    have hbb : ∀ x ∈ splitOn 44 l[i], x.length <= 1000000000 := fun x hx => by have := tot_mem 1 hx; rw [tot_splitOn] at this; omega
    have hc : vl e 52 0 [.str l[i], .int .u8 44] = _ := v.Cut l[i] 44 (by omega)
    have h22 := v.Good_22 (e := e) s l (splitOn 44 l[i]) i (by omega) hlt hl hbb (splitOn 44 l[i]).length 0 (by omega)
    have eo : (optionO l[i]).isSome = (splitOn 44 l[i]).all (fun x => (termO x).isSome) := by unfold optionO; rw [Option.isSome_map, allO_some]
    rw [List.drop_zero, v.Good_8 s hs l hl hb n (i + 1) (by omega)] at h22
    simp only [yy, if_pos (show (i : Int) < (l.length : Int) by omega), v_get hlt, v_lds, hc]
    refine h22.trans ?_
    rw [eo]
    cases (splitOn 44 l[i]).all (fun x => (termO x).isSome) <;> simp
theorem v.Good (s : Bytes) (hs : s.length <= 10000000) : vl e 77 0 [.str s] = some (.bool (lineO s).isSome) := by
  have h2 := fld_tot blankB s []
  have h3 := tot_length 1 (fldB blankB s [])
  simp only [List.length_nil] at h2
  have hb : ∀ x ∈ fldB blankB s [], x.length <= 100000000 := fun x hx => by have := tot_mem 1 hx; omega
  rw [w.seicheref14_Good]; unfold y.seicheref14_Good lineO
  simp only [yy, v.Words s (by omega)]
  refine (v.Good_8 s hs _ (by omega) hb (fldB blankB s []).length 0 (by omega)).trans ?_
  rw [List.drop_zero]
  by_cases h0 : fldB blankB s [] = []
  . rw [if_pos h0, h0]; rfl
  . rw [if_neg h0, Option.isSome_map, allO_some]; simp [h0]
theorem v.rLine (s : Bytes) (hs : s.length <= 1000000) (h0 : fldB blankB s [] ≠ []) : vl e 78 0 [.str s] = some (.str (lineT s)) := by
  have hLim : Lim = 4294967296 := rfl
  have h2 := fld_tot blankB s []
  have h3 := tot_length 1 (fldB blankB s [])
  have h4 := tot_optT (fldB blankB s [])
  simp only [List.length_nil] at h2
  have hb : ∀ x ∈ fldB blankB s [], x.length <= 1000000 := fun x hx => by have := tot_mem 1 hx; omega
  rw [w.seicheref14_Line]; unfold y.seicheref14_Line
  simp only [yy, v.Words s (by omega)]
  generalize hL : fldB blankB s [] = l at h0 h2 h3 h4 hb
  have key : ∀ (n i : Nat) (acc : List Bytes), i + n = l.length -> acc.length = i -> acc ++ (l.drop i).map optT = l.map optT ->
      vl e 78 10 [strs acc, strs l, I l.length, I i] = some (.str (lineT s)) := by
    intro n
    induction n with
    | zero =>
      intro i acc hi ha hall
      rw [List.drop_eq_nil_of_le (by omega)] at hall
      simp at hall
      rw [w.seicheref14_Line_10]; unfold y.seicheref14_Line_10
      have hw := v.wrap (e := e) [32, 124, 124, 32] (l.map optT) (by simpa using h0) (show tot 4 _ <= _ by omega) (by simp; omega) (by decide)
      rw [hall]
      simp only [yy, if_neg (show ¬((i : Int) < (l.length : Int)) by omega), hw]
      unfold lineT; rw [hL]
    | succ n ih =>
      intro i acc hi ha hall
      have hlt : i < l.length := by omega
      rw [List.drop_eq_getElem_cons hlt] at hall
      rw [w.seicheref14_Line_10]; unfold y.seicheref14_Line_10
      have hbi := hb l[i] (List.getElem_mem _)
      have h1 := splitOn_length 44 l[i]
      have h2 : tot 4 (splitOn 44 l[i]) <= 4 * tot 1 (splitOn 44 l[i]) := tot_le 3 _
      rw [tot_splitOn] at h2
      have hc : vl e 52 0 [.str l[i], .int .u8 44] = _ := v.Cut l[i] 44 (by omega)
      have hw := v.wrap (e := e) [32, 38, 38, 32] (splitOn 44 l[i]) (splitOn_ne _ _) (show tot 4 _ <= _ by omega) (by omega) (by decide)
      simp only [yy, if_pos (show (i : Int) < (l.length : Int) by omega), v_get hlt, v_lds, hc, hw, v_bsl1, v_push (show acc.length + 1 <= Lim by omega), next64 hlt (by omega)]
      exact ih (i + 1) _ (by omega) (by simp [ha]) (by rw [<- hall, List.map_cons, List.append_assoc]; rfl)
  exact key l.length 0 [] (by omega) rfl (by simp)
def pairV (t : Option Bytes) : V := .tup [.str (t.getD []), .bool t.isSome]
theorem v.rLines (l : List Bytes) (hs : tot 1 l <= 1000000) : vl e 53 0 [strs l] = some (pairV (linesO l)) := by
  have hLim : Lim = 4294967296 := rfl
  have h3 := tot_length 1 l
  have hb : ∀ x ∈ l, x.length <= 1000000 := fun x hx => by have := tot_mem 1 hx; omega
  have key : ∀ (n i : Nat) (acc : List Bytes), i + n = l.length -> acc.length = i -> allO lineO l = (allO lineO (l.drop i)).map (acc ++ ·) ->
      vl e 53 10 [strs acc, strs l, I l.length, I i] = some (pairV (linesO l)) := by
    intro n
    induction n with
    | zero =>
      intro i acc hi ha hall
      rw [List.drop_eq_nil_of_le (by omega)] at hall
      have hall' : allO lineO l = some acc := by rw [hall]; simp [allO]
      rw [w.seicheref14_Lines_10]; unfold y.seicheref14_Lines_10 linesO
      by_cases h0 : l = []
      . have : acc = [] := List.eq_nil_of_length_eq_zero (by rw [ha]; subst h0; simp at hi; omega)
        subst this
        simp only [yy, if_neg (show ¬((i : Int) < (l.length : Int)) by omega), List.length_nil, Int.natCast_zero, if_true, List.map_nil]
        rw [if_pos h0]; rfl
      . have h1 := allO_tot (a := 16) (b := 1) (k := 4) (fun s t h => by have := line_length h; omega) hall'
        have h5 := allO_ne hall' h0
        have : 0 < acc.length := List.length_pos_iff.2 h5
        have hw := v.wrap (e := e) [32, 38, 38, 32] acc h5 (show tot 4 _ <= _ by omega) (by omega) (by decide)
        simp only [yy, if_neg (show ¬((i : Int) < (l.length : Int)) by omega), if_neg (show ¬((acc.length : Int) = 0) by omega), hw]
        rw [if_neg h0, hall']; rfl
    | succ n ih =>
      intro i acc hi ha hall
      have hlt : i < l.length := by omega
      rw [List.drop_eq_getElem_cons hlt, allO] at hall
      have hbi := hb l[i] (List.getElem_mem _)
      rw [w.seicheref14_Lines_10]; unfold y.seicheref14_Lines_10
      cases hp : lineO l[i] with
      | none =>
        rw [hp] at hall
        simp only [yy, if_pos (show (i : Int) < (l.length : Int) by omega), v_get hlt, v_lds, v.Good l[i] (by omega), hp, Option.isSome_none]
        unfold linesO
        rw [if_neg (fun e => by rw [e] at hlt; simp at hlt), hall]; rfl
      | some x =>
        rw [hp] at hall
        have h0 : fldB blankB l[i] [] ≠ [] := by
          intro e; unfold lineO at hp; rw [if_pos e] at hp; cases hp
        have hx := lineO_eq hp
        simp only [yy, if_pos (show (i : Int) < (l.length : Int) by omega), v_get hlt, v_lds, v.Good l[i] (by omega), hp, Option.isSome_some, v.rLine l[i] hbi h0, <- hx, v_bsl1, v_push (show acc.length + 1 <= Lim by omega), next64 hlt (by omega)]
        refine ih (i + 1) _ (by omega) (by simp [ha]) ?_
        rw [hall]; cases allO lineO (l.drop (i + 1)) <;> simp
  rw [w.seicheref14_Lines]; unfold y.seicheref14_Lines
  simp only [yy, v_lenS]
  exact key l.length 0 [] (by omega) rfl (by cases h : allO lineO l <;> simp [h])
end Go.Proofs.YtanocopjancaiaaGreatDoor
namespace Go.Proofs.YtanocopjancaiaaGreatDoor
open Go.Abs
set_option maxRecDepth 10000
variable {e : Ev}
inductive WF : List Bytes -> Prop
  | tag {t : Bytes} (h : isTag t = true) (hl : t.length <= 1024) : WF [t]
  | not {p : List Bytes} (h : WF p) : WF (p ++ [[33]])
  | bin {p q : List Bytes} (o : Bool) (h : WF p) (h' : WF q) : WF (p ++ q ++ [if o = true then [124, 124] else [38, 38]])
def DocOK (e : Ev) (kr : Nat) (n : Nat) : Prop :=
  ∀ (L out : List Bytes) (d : Nat), L.length <= n -> out.length + L.length <= 1048577 -> d <= 64 -> (∀ x ∈ L, x.length <= 1024) ->
    ∃ (er : Int) (k : Nat) (out' : List Bytes) (dR : Int), vl e kr 1 [strs L, strs out, I d] = some (.tup [I er, strs (L.drop k), strs out', I dR]) /\ k <= L.length /\ out'.length <= out.length + k /\
      (er = 0 -> 0 < k /\ dR = d /\ ∃ p, out' = out ++ p /\ WF p)
theorem headIs_ex {L : List Bytes} {g : Bytes} (h : headIs L g = true) : ∃ r, L = g :: r := by
  cases L with
  | nil => cases h
  | cons x r => exact ⟨r, by rw [of_decide_eq_true h]⟩
theorem pieces_mem : ∀ (n : Nat) (s : Bytes), s.length <= n -> ∀ x ∈ pieces s, x.length <= s.length
  | 0, [], _, x, h => by simp [pieces_nil] at h
  | 0, c :: r, h, _, _ => by simp at h
  | n + 1, [], _, x, h => by simp [pieces_nil] at h
  | n + 1, c :: r, h, x, hx => by
    rw [pieces_cons] at hx
    simp only [List.length_cons] at h ⊢
    by_cases hb : blank c = true
    . rw [if_pos hb] at hx; have := pieces_mem n r (by omega) x hx; omega
    . rw [if_neg hb] at hx
      by_cases ht : tokLen (c :: r) = 0
      . rw [if_pos ht] at hx; simp at hx; subst hx; simp
      . rw [if_neg ht] at hx
        rcases List.mem_cons.1 hx with rfl | hx
        . rw [List.length_take]; simp only [List.length_cons]; omega
        . have := pieces_mem n ((c :: r).drop (tokLen (c :: r))) (by simp; omega) x hx
          simp only [List.length_cons, List.length_drop] at this
          omega
theorem doc_part (n : Nat) (hor : ∀ k, k + 1 = n -> DocOK e 11216 k) : DocOK e 12144 n := by
  have hLim : Lim = 4294967296 := rfl
  intro L out d hn hout hd hb
  rw [w.seiche_seicheref13_Read_Part_h0]
  unfold y.seiche_seicheref13_Read_Part_h0
  have p2 := v.RTake (e := e) L [40] (strs out) (I d)
  cases hh : headIs L [40] with
  | true =>
    obtain ⟨r, rfl⟩ := headIs_ex hh
    rw [hh, if_pos rfl, List.tail_cons] at p2
    simp only [List.length_cons] at hn hout
    by_cases hd64 : d = 64
    . refine ⟨8, 1, out, ((d + 1 : Nat) : Int), ?_, by simp, by omega, fun h => by omega⟩
      simp only [yy, p2, nat1 hd, if_pos (show (64 : Int) < ((d + 1 : Nat) : Int) by omega)]
      rfl
    . obtain ⟨er, k, out', dR, q1, q2, q3, q4⟩ := hor (n - 1) (by omega) r out (d + 1) (by omega) (by omega) (by omega) (fun x hx => hb x (List.mem_cons_of_mem _ hx))
      by_cases her : er = 0
      . obtain ⟨r1, r2, p, r3, r4⟩ := q4 her
        subst her; subst r2; subst r3
        have p4 := v.RTake (e := e) (r.drop k) [41] (strs (out ++ p)) (I d)
        cases hh2 : headIs (r.drop k) [41] with
        | true =>
          rw [hh2, if_pos rfl] at p4
          have hk : k < r.length := by
            obtain ⟨z, hz⟩ := headIs_ex hh2
            have := congrArg List.length hz
            simp at this; omega
          have hdr : (r.drop k).tail = ([40] :: r).drop (k + 2) := by rw [List.tail_drop]; rfl
          refine ⟨0, k + 2, out ++ p, d, ?_, by simp only [List.length_cons]; omega, by omega, fun _ => ⟨by omega, rfl, p, rfl, r4⟩⟩
          rw [<- hdr]
          simp only [yy, p2, nat1 hd, if_neg (show ¬((64 : Int) < ((d + 1 : Nat) : Int)) by omega), q1, decide_true, nat1' hd, p4, if_true]
        | false =>
          rw [hh2, if_neg (by decide)] at p4
          refine ⟨4, k + 1, out ++ p, d, ?_, by simp only [List.length_cons]; omega, by omega, fun h => by omega⟩
          rw [List.drop_succ_cons]
          simp only [yy, p2, nat1 hd, if_neg (show ¬((64 : Int) < ((d + 1 : Nat) : Int)) by omega), q1, decide_true, nat1' hd, p4, if_true]
      . refine ⟨er, k + 1, out', dR, ?_, by simp only [List.length_cons]; omega, by omega, fun h => absurd h her⟩
        rw [List.drop_succ_cons]
        simp only [yy, p2, nat1 hd, if_neg (show ¬((64 : Int) < ((d + 1 : Nat) : Int)) by omega), q1, if_neg her]
  | false =>
    rw [hh, if_neg (by decide)] at p2
    cases L with
    | nil =>
      refine ⟨4, 0, out, d, ?_, by simp, by simp, fun h => by omega⟩
      simp only [yy, p2, List.map_nil, List.length_nil, Int.natCast_zero, if_true]
      rfl
    | cons t r =>
      have htl := hb t (List.mem_cons_self ..)
      simp only [List.length_cons] at hn hout
      have h0 : ∀ r, evp (.elem 1) [strs (t :: r), .int .i64 0] = some (.str t) := fun r => v_elem (i := 0) rfl
      have hs1 : ∀ r, evp (.slc 1 true false false) [strs (t :: r), .int .i64 1] = some (strs r) := fun r => v_slc1
      cases ht : isTag t with
      | false =>
        refine ⟨4, 0, out, d, ?_, by simp, by simp, fun h => by omega⟩
        rw [List.drop_zero]
        simp only [yy, p2, h0, v_ld0 (show (V.str t).sc = true from rfl), v.Tag13 t (by omega), ht]
        rw [if_neg (by simp)]
      | true =>
        refine ⟨0, 1, out ++ [t], d, ?_, by simp, by simp, fun _ => ⟨by omega, rfl, [t], rfl, .tag ht htl⟩⟩
        rw [List.drop_succ_cons, List.drop_zero]
        simp only [yy, p2, h0, v_ld0 (show (V.str t).sc = true from rfl), v.Tag13 t (by omega), ht, v_bsl1, v_push (show out.length + 1 <= Lim by omega), hs1]
        rw [if_neg (by simp)]
theorem doc_not (n : Nat) (hpt : DocOK e 12144 n) : DocOK e 11888 n := by
  have hLim : Lim = 4294967296 := rfl
  intro L out d hn hout hd hb
  rw [w.seiche_seicheref13_Read_Not_h0]
  unfold y.seiche_seicheref13_Read_Not_h0
  have p2 := v.RTake (e := e) L [33] (strs out) (I d)
  cases hh : headIs L [33] with
  | true =>
    obtain ⟨r, rfl⟩ := headIs_ex hh
    rw [hh, if_pos rfl, List.tail_cons] at p2
    simp only [List.length_cons] at hn hout
    obtain ⟨er, k, out', dR, q1, q2, q3, q4⟩ := hpt r out d (by omega) (by omega) hd (fun x hx => hb x (List.mem_cons_of_mem _ hx))
    by_cases her : er = 0
    . obtain ⟨r1, r2, p, r3, r4⟩ := q4 her
      subst her; subst r2; subst r3
      refine ⟨0, k + 1, out ++ p ++ [[33]], d, ?_, by simp only [List.length_cons]; omega, by simp only [List.length_append, List.length_cons, List.length_nil] at q3 ⊢; omega, fun _ => ⟨by omega, rfl, p ++ [[33]], by rw [List.append_assoc], .not r4⟩⟩
      rw [List.drop_succ_cons]
      simp only [yy, p2, q1, if_true, v_bsl1, v_push (show (out ++ p).length + 1 <= Lim by omega)]
    . refine ⟨er, k + 1, out', dR, ?_, by simp only [List.length_cons]; omega, by omega, fun h => absurd h her⟩
      rw [List.drop_succ_cons]
      simp only [yy, p2, q1, if_neg her]
  | false =>
    rw [hh, if_neg (by decide)] at p2
    obtain ⟨er, k, out', dR, q1, q2, q3, q4⟩ := hpt L out d hn hout hd hb
    refine ⟨er, k, out', dR, ?_, q2, q3, q4⟩
    simp only [yy, p2, q1]
    by_cases her : er = 0
    . rw [if_pos her]
    . rw [if_neg her]
section
variable {g : Bytes} {kp kl kq kr : Nat}
theorem doc_loop (hL : Lst e g kp kl kq kr) (o : Bool) (hg : g = if o = true then [124, 124] else [38, 38]) (n : Nat) (hS : DocOK e kq n) : ∀ (m : Nat) (L out p0 : List Bytes) (d : Nat), L.length <= m -> m <= n -> (out ++ p0).length + L.length <= 1048577 -> d <= 64 -> (∀ x ∈ L, x.length <= 1024) -> WF p0 ->
    ∃ (er : Int) (k : Nat) (out' : List Bytes) (dR : Int), vl e kr 8 [I 0, strs L, strs (out ++ p0), I d] = some (.tup [I er, strs (L.drop k), strs out', I dR]) /\ k <= L.length /\ out'.length <= (out ++ p0).length + k /\
      (er = 0 -> dR = d /\ ∃ p, out' = out ++ p /\ WF p) := by
  have hLim : Lim = 4294967296 := rfl
  intro m
  induction m with
  | zero =>
    intro L out p0 d hm hmn hout hd hb hp
    have : L = [] := List.eq_nil_of_length_eq_zero (by omega)
    subst this
    have p2 := v.RTake (e := e) [] g (strs (out ++ p0)) (I d)
    rw [show headIs [] g = false from rfl, if_neg (by decide)] at p2
    refine ⟨0, 0, out ++ p0, d, ?_, by simp, by simp, fun _ => ⟨rfl, p0, rfl, hp⟩⟩
    rw [hL.r8]; unfold rls8
    simp only [yy, p2, if_true]
    rfl
  | succ m ih =>
    intro L out p0 d hm hmn hout hd hb hp
    have p2 := v.RTake (e := e) L g (strs (out ++ p0)) (I d)
    cases hh : headIs L g with
    | true =>
      obtain ⟨r, rfl⟩ := headIs_ex hh
      rw [hh, if_pos rfl, List.tail_cons] at p2
      simp only [List.length_cons] at hm hout
      obtain ⟨er, k, out', dR, q1, q2, q3, q4⟩ := hS r (out ++ p0) d (by omega) (by omega) hd (fun x hx => hb x (List.mem_cons_of_mem _ hx))
      have hbd : out'.length + 1 <= Lim := by omega
      by_cases her : er = 0
      . obtain ⟨r1, r2, p, r3, r4⟩ := q4 her
        subst her; subst r2; subst r3
        have hw : WF (p0 ++ p ++ [g]) := by rw [hg]; exact .bin o hp r4
        have hlen : (out ++ (p0 ++ p ++ [g])).length = (out ++ p0 ++ p).length + 1 := by simp; omega
        obtain ⟨er2, k2, out2, dR2, t1, t2, t3, t4⟩ := ih (r.drop k) out (p0 ++ p ++ [g]) d (by simp; omega) (by omega) (by rw [hlen, List.length_drop]; omega) hd (fun x hx => hb x (List.mem_cons_of_mem _ (List.mem_of_mem_drop hx))) hw
        rw [List.length_drop] at t2
        refine ⟨er2, k + k2 + 1, out2, dR2, ?_, by simp only [List.length_cons]; omega, by omega, t4⟩
        rw [List.drop_succ_cons, <- List.drop_drop]
        rw [hL.r8]; unfold rls8
        have e1 : out ++ p0 ++ p ++ [g] = out ++ (p0 ++ p ++ [g]) := by simp
        simp only [yy, p2, q1, if_true, v_bslS, v_push hbd, e1]
        exact t1
      . refine ⟨er, k + 1, out' ++ [g], dR, ?_, by simp only [List.length_cons]; omega, by simp only [List.length_append, List.length_cons, List.length_nil] at q3 ⊢; omega, fun h => absurd h her⟩
        rw [List.drop_succ_cons]
        rw [hL.r8]; unfold rls8
        simp only [yy, p2, q1, if_true, v_bslS, v_push hbd, r8_err hL her]
    | false =>
      rw [hh, if_neg (by decide)] at p2
      refine ⟨0, 0, out ++ p0, d, ?_, by simp, by simp, fun _ => ⟨rfl, p0, rfl, hp⟩⟩
      rw [hL.r8]; unfold rls8
      rw [List.drop_zero]
      simp only [yy, p2, if_true]
theorem doc_list (hL : Lst e g kp kl kq kr) (o : Bool) (hg : g = if o = true then [124, 124] else [38, 38]) (n : Nat) (hS : DocOK e kq n) : DocOK e kr n := by
  intro L out d hn hout hd hb
  obtain ⟨er, k, out', dR, q1, q2, q3, q4⟩ := hS L out d hn hout hd hb
  by_cases her : er = 0
  . obtain ⟨r1, r2, p, r3, r4⟩ := q4 her
    subst her; subst r2; subst r3
    obtain ⟨er2, k2, out2, dR2, t1, t2, t3, t4⟩ := doc_loop hL o hg n hS n (L.drop k) out p d (by simp; omega) (Nat.le_refl _) (by rw [List.length_drop]; omega) hd (fun x hx => hb x (List.mem_of_mem_drop hx)) r4
    rw [List.length_drop] at t2
    refine ⟨er2, k + k2, out2, dR2, ?_, by omega, by omega, fun h => ⟨by omega, t4 h⟩⟩
    rw [<- List.drop_drop]
    rw [hL.r1]; unfold rls1
    simp only [yy, q1]
    exact t1
  . refine ⟨er, k, out', dR, ?_, q2, q3, fun h => absurd h her⟩
    rw [hL.r1]; unfold rls1
    simp only [yy, q1, r8_err hL her]
end
theorem doc_or : ∀ n, DocOK e 11216 n
  | 0 => doc_list lst_or true rfl 0 (doc_list lst_and false rfl 0 (doc_not 0 (doc_part 0 fun k h => by omega)))
  | n + 1 => by
    have ih := doc_or n
    refine doc_list lst_or true rfl _ (doc_list lst_and false rfl _ (doc_not _ (doc_part (n + 1) fun k h => ?_)))
    obtain rfl : k = n := by omega
    exact ih
theorem strs_inj {a b : List Bytes} (h : strs a = strs b) : a = b := by
  have h1 : a.map V.str = b.map V.str := by injection h
  exact (List.map_inj_right fun x y h => by injection h).1 h1
theorem v.ParsesW (s : Bytes) (hs : s.length <= 1048576) : ∃ (l : List Bytes) (er : Int), vl e 45 0 [.str s] = some (.tup [strs l, I er]) /\ vl e 51 0 [.str s] = some (.tup [strs l, I er]) /\ l.length <= s.length /\ (er = 0 -> WF l /\ l.length <= 1024) := by
  obtain ⟨l, er, p1, p2, p3⟩ := v.Parses (e := e) s hs
  refine ⟨l, er, p1, p2, p3, fun her => ?_⟩
  subst her
  by_cases h1 : s.length <= 1024
  . have hpl := pieces_len s.length s (Nat.le_refl _)
    have hpm := pieces_mem s.length s (Nat.le_refl _)
    obtain ⟨er, k, out', dR, q1, q2, q3, q4⟩ := doc_or (e := e) s.length (pieces s) [] 0 hpl (by simp; omega) (by omega) (fun x hx => by have := hpm x hx; omega)
    have hc3 : evp (.cat [none]) [strs (pieces s)] = some (.agg [strs (pieces s)]) := rfl
    have hc4 : evp (.cat [none, none, none]) [strs (pieces s), .sl false 1 [], .int .i64 0] = some (.agg [strs (pieces s), .sl false 1 [], .int .i64 0]) := rfl
    have q1' : vl e 11216 1 [strs (pieces s), .sl false 1 [], .int .i64 0] = _ := q1
    have hP := v.Pieces (e := e) s hs
    rw [w.seicheref13_Parse] at p2; unfold y.seicheref13_Parse at p2
    by_cases her : er = 0
    . obtain ⟨r1, r2, p, r3, r4⟩ := q4 her
      subst her; subst r2; subst r3
      by_cases hpe : (pieces s).drop k = []
      . have : some (V.tup [strs out', I 0]) = some (V.tup [strs l, I 0]) := by
          rw [<- p2]
          simp only [yy, if_neg (show ¬((1024 : Int) < (s.length : Int)) by omega), hP, hc3, hc4, q1', if_true, decide_true, hpe]
          rw [if_neg (by simp)]
        injection this with this; injection this with this; injection this with this
        have := strs_inj this
        subst this
        exact ⟨r4, by omega⟩
      . have : some (V.tup [strs [], I 4]) = some (V.tup [strs l, I 0]) := by
          rw [<- p2]
          have : 0 < ((pieces s).drop k).length := List.length_pos_iff.2 hpe
          simp only [yy, if_neg (show ¬((1024 : Int) < (s.length : Int)) by omega), hP, hc3, hc4, q1', if_true, decide_true]
          rw [if_pos (by simp at this ⊢; omega)]; rfl
        injection this with this; injection this with this; injection this with _ this; injection this with this
        cases this
    . have : some (V.tup [strs [], I er]) = some (V.tup [strs l, I 0]) := by
        rw [<- p2]
        simp only [yy, if_neg (show ¬((1024 : Int) < (s.length : Int)) by omega), hP, hc3, hc4, q1', if_neg her]; rfl
      injection this with this; injection this with this; injection this with _ this; injection this with this
      injection this with _ this
      exact absurd this her
  . have : some (V.tup [strs [], I 3]) = some (V.tup [strs l, I 0]) := by
      rw [<- p2, w.seicheref13_Parse]; unfold y.seicheref13_Parse
      simp only [yy, if_pos (show (1024 : Int) < (s.length : Int) by omega)]; rfl
    injection this with this; injection this with this; injection this with _ this; injection this with this
    cases this
end Go.Proofs.YtanocopjancaiaaGreatDoor
namespace Go.Proofs.YtanocopjancaiaaGreatDoor
open Go.Abs
set_option maxRecDepth 10000
variable {e : Ev}
def trimP (x : Bytes) : Bytes := if x.headD 0 = 43 then x.tail else x
theorem trim_take (x : Bytes) : (if x.take ([43] : Bytes).length = [43] then x.drop ([43] : Bytes).length else x) = trimP x := by
  cases x with
  | nil => rfl
  | cons b r => by_cases hb : b = 43 <;> simp [trimP, hb]
theorem trim_len (x : Bytes) : (trimP x).length <= x.length := by unfold trimP; split <;> simp
theorem tot_map {f : Bytes -> Bytes} (hf : ∀ x, (f x).length <= x.length) (k : Nat) : ∀ l : List Bytes, tot k (l.map f) <= tot k l
  | [] => Nat.le_refl _
  | x :: r => by have := tot_map hf k r; have := hf x; simp only [List.map_cons, tot]; omega
def Both (e : Ev) (f g : Nat) (s : Bytes) : Prop := ∃ (l : List Bytes) (er : Int), vl e f 0 [.str s] = some (.tup [strs l, I er]) /\ vl e g 0 [.str s] = some (.tup [strs l, I er]) /\ l.length <= 1048576 /\ (er = 0 -> WF l /\ l.length <= 1024)
theorem lines_len {l : List Bytes} {t : Bytes} (h : linesO l = some t) : t.length <= 16 * tot 1 l + 2 := by
  unfold linesO at h
  split at h
  . cases h
  . obtain ⟨m, h1, rfl⟩ := Option.map_eq_some_iff.1 h
    have := allO_tot (a := 16) (b := 1) (k := 4) (fun s t h => by have := line_length h; omega) h1
    have : (wrapB [32, 38, 38, 32] m).length <= tot 4 m + 2 := wrapB_length _ m
    omega
theorem v.pParse (he : EnvX e) (s : Bytes) (hs : s.length <= 65000) : Both e 25 30 s := by
  have hLim : Lim = 4294967296 := rfl
  by_cases h0 : s.take ([43] : Bytes).length = [43]
  . -- of the elder form
    obtain ⟨r, rfl⟩ : ∃ r, s = 43 :: r := by
      cases s with
      | nil => simp at h0
      | cons b r => simp at h0; exact ⟨r, by rw [h0]⟩
    generalize hsr : (43 :: r : Bytes) = s at h0 hs
    have h1 := splitOn_length 10 s
    have htot := tot_splitOn 10 s
    have htm := tot_map trim_len 1 (splitOn 10 s)
    obtain ⟨l2, er2, q1, q2, q3⟩ : ∃ (l2 : List Bytes) (er2 : Int), (∀ t, linesO ((splitOn 10 s).map trimP) = some t -> vl e 45 0 [.str t] = some (.tup [strs l2, I er2]) /\ vl e 51 0 [.str t] = some (.tup [strs l2, I er2])) /\
        (linesO ((splitOn 10 s).map trimP) = none -> l2 = [] /\ er2 = 4) /\ l2.length <= 1048576 /\ (er2 = 0 -> WF l2 /\ l2.length <= 1024) := by
      cases hL : linesO ((splitOn 10 s).map trimP) with
      | none => exact ⟨[], 4, (fun t h => by cases h), (fun _ => ⟨rfl, rfl⟩), by simp, fun h => by omega⟩
      | some t =>
        have htl := lines_len hL
        obtain ⟨l, er, p1, p2, p3, p4⟩ := v.ParsesW (e := e) t (by omega)
        exact ⟨l, er, (fun t' h => by cases h; exact ⟨p1, p2⟩), (fun h => by cases h), by omega, p4⟩
    refine ⟨l2, er2, ?_, ?_, q3⟩
    . have key : ∀ (n i : Nat) (acc : List Bytes), i + n = (splitOn 10 s).length -> acc.length = i -> acc ++ ((splitOn 10 s).drop i).map trimP = (splitOn 10 s).map trimP ->
          vl e 25 18 [strs acc, strs (splitOn 10 s), I (splitOn 10 s).length, I i] = some (.tup [strs l2, I er2]) := by
        intro n
        induction n with
        | zero =>
          intro i acc hi ha hall
          rw [List.drop_eq_nil_of_le (by omega)] at hall
          simp at hall
          rw [w.plus_Parse_18]; unfold y.plus_Parse_18
          rw [hall]
          have hv := v.Lines he ((splitOn 10 s).map trimP) (by omega)
          cases hL : linesO ((splitOn 10 s).map trimP) with
          | none =>
            obtain ⟨rfl, rfl⟩ := q2 hL
            rw [hL] at hv
            simp only [yy, if_neg (show ¬((i : Int) < ((splitOn 10 s).length : Int)) by omega), hv, resO, Option.isSome_none]; rfl
          | some t =>
            rw [hL] at hv
            simp only [yy, if_neg (show ¬((i : Int) < ((splitOn 10 s).length : Int)) by omega), hv, resO, Option.isSome_some, if_true, Option.getD_some, decide_true, (q1 t hL).1]
        | succ n ih =>
          intro i acc hi ha hall
          have hlt : i < (splitOn 10 s).length := by omega
          rw [List.drop_eq_getElem_cons hlt] at hall
          rw [w.plus_Parse_18]; unfold y.plus_Parse_18
          simp only [yy, if_pos (show (i : Int) < ((splitOn 10 s).length : Int) by omega), v_get hlt, v_lds, v.trimPrefix, trim_take, v_bsl1, v_push (show acc.length + 1 <= Lim by omega), next64 hlt (by omega)]
          exact ih (i + 1) _ (by omega) (by simp [ha]) (by rw [<- hall, List.map_cons, List.append_assoc]; rfl)
      rw [w.plus_Parse]; unfold y.plus_Parse
      have hpre := v.hasPrefix (e := e) s [43]
      rw [decide_eq_true h0] at hpre
      simp only [yy, hpre, v.split he s 10 (by omega)]
      exact key _ 0 [] (Nat.zero_add _) rfl (by simp)
    . have key : ∀ (n i : Nat) (acc : List Bytes), i + n = (splitOn 10 s).length -> acc.length = i -> acc ++ ((splitOn 10 s).drop i).map trimP = (splitOn 10 s).map trimP ->
          vl e 30 18 [strs acc, strs (splitOn 10 s), I (splitOn 10 s).length, I i] = some (.tup [strs l2, I er2]) := by
        intro n
        induction n with
        | zero =>
          intro i acc hi ha hall
          rw [List.drop_eq_nil_of_le (by omega)] at hall
          simp at hall
          rw [w.seicheref14_Parse_18]; unfold y.seicheref14_Parse_18
          rw [hall]
          have hv := v.rLines (e := e) ((splitOn 10 s).map trimP) (by omega)
          cases hL : linesO ((splitOn 10 s).map trimP) with
          | none =>
            obtain ⟨rfl, rfl⟩ := q2 hL
            rw [hL] at hv
            simp only [yy, if_neg (show ¬((i : Int) < ((splitOn 10 s).length : Int)) by omega), hv, pairV, Option.isSome_none]; rfl
          | some t =>
            rw [hL] at hv
            simp only [yy, if_neg (show ¬((i : Int) < ((splitOn 10 s).length : Int)) by omega), hv, pairV, Option.isSome_some, Option.getD_some, (q1 t hL).2]
        | succ n ih =>
          intro i acc hi ha hall
          have hlt : i < (splitOn 10 s).length := by omega
          rw [List.drop_eq_getElem_cons hlt] at hall
          have hih := ih (i + 1) (acc ++ [trimP (splitOn 10 s)[i]]) (by omega) (by simp [ha]) (by rw [<- hall, List.map_cons, List.append_assoc]; rfl)
          rw [w.seicheref14_Parse_18]; unfold y.seicheref14_Parse_18
          generalize hx : (splitOn 10 s)[i] = x at hih
          cases x with
          | nil =>
            have ht : trimP [] = [] := rfl
            rw [ht] at hih
            simp only [yy, if_pos (show (i : Int) < ((splitOn 10 s).length : Int) by omega), v_get hlt, hx, v_lds, List.length_nil, Int.natCast_zero, if_neg (show ¬((0 : Int) < 0) by omega), v_bsl1, v_push (show acc.length + 1 <= Lim by omega), next64 hlt (by omega)]
            exact hih
          | cons b q =>
            have h0 : evp .idx [.str (b :: q), .int .i64 0] = some (byteV b) := v_idx (i := 0) rfl
            have hs1 : evp (.sls true false) [.str (b :: q), .int .i64 1] = some (.str q) := v_sls1 (l := 1) (by simp)
            have hl : (0 : Int) < ((b :: q).length : Int) := by simp
            by_cases hb : b = 43
            . subst hb
              have ht : trimP (43 :: q) = q := rfl
              rw [ht] at hih
              simp only [yy, if_pos (show (i : Int) < ((splitOn 10 s).length : Int) by omega), v_get hlt, hx, v_lds, if_pos hl, h0, byteV, hs1, v_bsl1, v_push (show acc.length + 1 <= Lim by omega), next64 hlt (by omega)]
              rw [if_pos (by decide)]; exact hih
            . have hne : ¬((b.toNat : Int) = 43) := fun h => hb (UInt8.toNat_inj.1 (by rw [show (43 : UInt8).toNat = 43 from rfl]; omega))
              have ht : trimP (b :: q) = b :: q := by simp [trimP, hb]
              rw [ht] at hih
              simp only [yy, if_pos (show (i : Int) < ((splitOn 10 s).length : Int) by omega), v_get hlt, hx, v_lds, if_pos hl, h0, byteV, if_neg hne, v_bsl1, v_push (show acc.length + 1 <= Lim by omega), next64 hlt (by omega)]
              exact hih
      rw [w.seicheref14_Parse]; unfold y.seicheref14_Parse
      have hc : vl e 52 0 [.str s, .int .u8 10] = _ := v.Cut s 10 (by omega)
      have hi0 : evp .idx [.str s, .int .i64 0] = some (.int .u8 43) := by rw [<- hsr]; exact v_idx (s := 43 :: r) (i := 0) (c := 43) rfl
      simp only [yy, if_neg (show ¬(s = []) by rw [<- hsr]; simp), hi0, hc, decide_true]
      exact key _ 0 [] (Nat.zero_add _) rfl (by simp)
  . obtain ⟨l, er, p1, p2, p3, p4⟩ := v.ParsesW (e := e) s (by omega)
    refine ⟨l, er, ?_, ?_, by omega, p4⟩
    . rw [w.plus_Parse]; unfold y.plus_Parse
      have hpre := v.hasPrefix (e := e) s [43]
      rw [decide_eq_false h0] at hpre
      simp only [yy, hpre, p1]
    . rw [w.seicheref14_Parse]; unfold y.seicheref14_Parse
      cases s with
      | nil => simp only [yy, if_true, p2]
      | cons b q =>
        have h1 : evp .idx [.str (b :: q), .int .i64 0] = some (byteV b) := v_idx (i := 0) rfl
        have hb : ¬ b = 43 := fun h => h0 (by rw [h]; rfl)
        have hne : ¬((b.toNat : Int) = 43) := fun h => hb (UInt8.toNat_inj.1 (by rw [show (43 : UInt8).toNat = 43 from rfl]; omega))
        simp only [yy, if_neg (show ¬((b :: q) = []) by simp), h1, byteV, if_neg hne, p2]
end Go.Proofs.YtanocopjancaiaaGreatDoor
namespace Go.Proofs.YtanocopjancaiaaGreatDoor
open Go.Abs
set_option maxRecDepth 10000
variable {e : Ev}
abbrev bg (st : List Bool) : V := .agg (st.map .bool)
theorem v_chkd {n i : Int} (h : 0 <= i) (h2 : i < n) : evp .chkd [.int .i64 n, .int .i64 i] = some (.int .i64 i) := if_pos ⟨h, h2⟩
theorem v_chkl {n i : Int} (h : 0 <= i) (h2 : i <= n) : evp .chkl [.int .i64 n, .int .i64 i] = some (.int .i64 i) := if_pos ⟨h, h2⟩
theorem v_ldb {st : List Bool} {i : Int} {b : Bool} (h : st[i.toNat]? = some b) : evp (.ldd none 0 1) [bg st, .int .i64 i] = some (.bool b) := by
  show (st.map V.bool)[0 + i.toNat * 1]? = _
  rw [Nat.zero_add, Nat.mul_one, List.getElem?_map, h]; rfl
theorem v_stb {st : List Bool} {i : Int} {b : Bool} (h : i.toNat < st.length) : evp (.std 1 0 1) [bg st, .int .i64 i, .bool b] = some (bg (st.take i.toNat ++ b :: st.drop (i.toNat + 1))) := by
  show vSet 1 (0 + i.toNat * 1) (bg st) (.bool b) = _
  have hc : (bg st).cells = st.map .bool := rfl
  have hb : (V.bool b).cells = [V.bool b] := rfl
  unfold vSet
  rw [Nat.zero_add, Nat.mul_one, hc, hb, if_pos ⟨rfl, rfl, by simp; omega⟩]
  simp [setAt, List.map_drop, List.map_take]
theorem v_rapp {st : List Bool} {n : Nat} {b : Bool} (h : n <= st.length) (h2 : n + 1 <= Lim) : evp (.rapp 1) [bg st, .int .i64 n, .sl false 1 [.bool b]] = some (bg (st.take n ++ [b])) := by
  refine Eq.trans (b := some (V.agg ((st.map V.bool).take ((n : Int).toNat * 1) ++ [V.bool b]))) (if_pos ⟨by omega, by omega, by rw [show (bg st).cells = st.map V.bool from rfl]; simp; omega, by simpa using h2⟩) ?_
  simp [List.map_take]
theorem v_rlen {n : Nat} {b : Bool} : evp (.rlen 1) [.int .i64 n, .sl false 1 [.bool b]] = some (.int .i64 ((n + 1 : Nat) : Int)) :=
  if_pos (e := none) (show (0 : Int) <= (n : Int) by omega)
theorem v_bslB {b : Bool} : evp (.bsl 1) [.bool b] = some (.sl false 1 [.bool b]) := rfl
noncomputable abbrev evL (e : Ev) (on l : List Bytes) (st : List Bool) (i : Nat) : Option V := vl e 26 10 [strs on, I st.length, strs l, I l.length, I i, bg st]
variable {on l : List Bytes} {i : Nat}
theorem tag_ne {t : Bytes} (h : isTag t = true) : t ≠ [33] /\ t ≠ [38, 38] /\ t ≠ [124, 124] := by
  refine ⟨?_, ?_, ?_⟩ <;> (rintro rfl; exact absurd h (by decide))
theorem ev_tag (hon : on.length <= 1000000) (hl : l.length <= 1000000) (hi : i < l.length) (st : List Bool) (hst : st.length <= 1000000) (ht : isTag l[i] = true) (hb : l[i].length <= 1000000) :
    evL e on l st i = evL e on l (st ++ [inB on l[i]]) (i + 1) := by
  have hLim : Lim = 4294967296 := rfl
  obtain ⟨h1, h2, h3⟩ := tag_ne ht
  have hr := v_rapp (st := st) (b := inB on l[i]) (Nat.le_refl _) (by omega)
  rw [List.take_length] at hr
  unfold evL
  rw [w.expr_Eval_10]; unfold y.expr_Eval_10
  simp only [yy, if_pos (show (i : Int) < (l.length : Int) by omega), v_get hi, v_lds, if_neg h1]
  rw [w.expr_Eval_26]; unfold y.expr_Eval_26
  simp only [yy, if_neg h2, if_neg h3, v.Tag l[i] (by omega), ht, v.Contains on l[i] (by omega), v_bslB, hr, v_rlen, next64 hi (by omega)]
  simp
theorem ev_not (hl : l.length <= 1000000) (hi : i < l.length) (st : List Bool) (b : Bool) (hst : st.length <= 1000000) (ht : l[i] = [33]) :
    evL e on l (st ++ [b]) i = evL e on l (st ++ [!b]) (i + 1) := by
  have e1 : IntKind.i64.wrap (((st ++ [b]).length : Int) - 1) = (st.length : Int) := by rw [w64 _ (by simp; omega)]; simp
  have hlen : ((st ++ [b]).length : Int) = (st.length : Int) + 1 := by simp
  have hld : evp (.ldd none 0 1) [bg (st ++ [b]), .int .i64 (st.length : Int)] = some (.bool b) := v_ldb (by simp)
  have hst' : evp (.std 1 0 1) [bg (st ++ [b]), .int .i64 (st.length : Int), .bool (!b)] = some (bg (st ++ [!b])) := by
    rw [v_stb (by simp)]; simp
  unfold evL
  rw [w.expr_Eval_10]; unfold y.expr_Eval_10
  simp only [yy, if_pos (show (i : Int) < (l.length : Int) by omega), v_get hi, v_lds, ht, if_true]
  rw [w.expr_Eval_26]; unfold y.expr_Eval_26
  simp only [yy, if_pos (show (0 : Int) < ((st ++ [b]).length : Int) by omega), e1, v_chkd (n := ((st ++ [b]).length : Int)) (i := (st.length : Int)) (by omega) (by omega), hld, hst', next64 hi (by omega)]
  simp
theorem ev_bin (hl : l.length <= 1000000) (hi : i < l.length) (st : List Bool) (a b : Bool) (hst : st.length <= 1000000) (o : Bool) (ht : l[i] = if o = true then [124, 124] else [38, 38]) :
    evL e on l (st ++ [a, b]) i = evL e on l (st ++ [if o = true then a || b else a && b]) (i + 1) := by
  have hLim : Lim = 4294967296 := rfl
  have hlen : ((st ++ [a, b]).length : Int) = (st.length : Int) + 2 := by simp
  have hgt : ∀ c d : Bool, (decide ((1 : Int) < ((st ++ [c, d]).length : Int))) = true := fun c d => decide_eq_true (by simp; omega)
  have e1 : IntKind.i64.wrap (((st ++ [a, b]).length : Int) - 1) = ((st.length + 1 : Nat) : Int) := by rw [w64 _ (by omega)]; omega
  have e2 : IntKind.i64.wrap (((st ++ [a, b]).length : Int) - 2) = (st.length : Int) := by rw [w64 _ (by omega)]; omega
  have hl1 : evp (.ldd none 0 1) [bg (st ++ [a, b]), .int .i64 ((st.length + 1 : Nat) : Int)] = some (.bool b) := v_ldb (by simp)
  have hl2 : evp (.ldd none 0 1) [bg (st ++ [a, b]), .int .i64 (st.length : Int)] = some (.bool a) := v_ldb (by simp)
  have hr : ∀ c, evp (.rapp 1) [bg (st ++ [a, b]), .int .i64 (st.length : Int), .sl false 1 [.bool c]] = some (bg (st ++ [c])) := fun c => by rw [v_rapp (by simp) (by omega)]; simp
  have hk : ∀ c : Bool, (st ++ [c]).length = st.length + 1 := fun c => by simp
  have hc1 := v_chkd (n := ((st ++ [a, b]).length : Int)) (i := ((st.length + 1 : Nat) : Int)) (by omega) (by omega)
  have hc2 := v_chkd (n := ((st ++ [a, b]).length : Int)) (i := (st.length : Int)) (by omega) (by omega)
  have hc3 := v_chkl (n := ((st ++ [a, b]).length : Int)) (i := (st.length : Int)) (by omega) (by omega)
  unfold evL
  rw [w.expr_Eval_10]; unfold y.expr_Eval_10
  cases o with
  | false =>
    rw [if_neg (by decide)] at ht
    simp only [yy, if_pos (show (i : Int) < (l.length : Int) by omega), v_get hi, v_lds, ht, if_neg (show ¬(([38, 38] : Bytes) = [33]) by decide)]
    rw [w.expr_Eval_26]; unfold y.expr_Eval_26
    cases a <;> simp only [yy, if_true, hgt, e1, e2, hc1, hc2, hc3, hl1, hl2, hr, hk, v_rlen, v_bslB, next64 hi (by omega)] <;> rfl
  | true =>
    rw [if_pos rfl] at ht
    simp only [yy, if_pos (show (i : Int) < (l.length : Int) by omega), v_get hi, v_lds, ht, if_neg (show ¬(([124, 124] : Bytes) = [33]) by decide)]
    rw [w.expr_Eval_26]; unfold y.expr_Eval_26
    cases a <;> simp only [yy, if_true, if_neg (show ¬(([124, 124] : Bytes) = [38, 38]) by decide), hgt, e1, e2, hc1, hc2, hc3, hl1, hl2, hr, hk, v_rlen, v_bslB, next64 hi (by omega)] <;> rfl
theorem ev_end (l : List Bytes) (b : Bool) : evL e on l [b] l.length = some (.tup [.bool b, I 0]) := by
  have hld : evp (.ldd none 0 1) [bg [b], .int .i64 0] = some (.bool b) := v_ldb rfl
  unfold evL
  rw [w.expr_Eval_10]; unfold y.expr_Eval_10
  simp only [yy, if_neg (show ¬((l.length : Int) < (l.length : Int)) by omega), List.length_cons, List.length_nil]
  rw [if_pos (by decide)]
  have hc := v_chkd (n := ((0 + 1 : Nat) : Int)) (i := 0) (by decide) (by decide)
  simp only [yy, hc, hld]
def EvP (e : Ev) (on : List Bytes) (p : List Bytes) (b : Bool) : Prop :=
  ∀ (pre suf : List Bytes) (st : List Bool), (pre ++ p ++ suf).length <= 1000000 -> st.length + p.length <= 1000000 -> evL e on (pre ++ p ++ suf) st pre.length = evL e on (pre ++ p ++ suf) (st ++ [b]) (pre.length + p.length)
theorem evp_tag (hon : on.length <= 1000000) {t : Bytes} (ht : isTag t = true) (hb : t.length <= 1000000) : EvP e on [t] (inB on t) := by
  intro pre suf st h1 h2
  have hi : pre.length < (pre ++ [t] ++ suf).length := by simp
  have hg : (pre ++ [t] ++ suf)[pre.length] = t := by simp
  have h := ev_tag (e := e) hon h1 hi st (by omega) (by rw [hg]; exact ht) (by rw [hg]; exact hb)
  rw [hg] at h; exact h
theorem evp_not {p : List Bytes} {b : Bool} (h : EvP e on p b) : EvP e on (p ++ [[33]]) (!b) := by
  intro pre suf st h1 h2
  have e1 : pre ++ (p ++ [[33]]) ++ suf = pre ++ p ++ ([33] :: suf) := by simp
  rw [e1] at h1 ⊢
  simp only [List.length_append, List.length_cons, List.length_nil] at h1 h2 ⊢
  rw [h pre _ st (by simp; omega) (by omega)]
  have hi : pre.length + p.length < (pre ++ p ++ [33] :: suf).length := by simp
  have := ev_not (e := e) (on := on) (by simp; omega) hi st b (by omega) (by simp)
  rw [this]; rfl
theorem evp_bin {p q : List Bytes} {a b : Bool} (o : Bool) (h : EvP e on p a) (h' : EvP e on q b) : EvP e on (p ++ q ++ [if o = true then [124, 124] else [38, 38]]) (if o = true then a || b else a && b) := by
  intro pre suf st h1 h2
  generalize hg : (if o = true then [124, 124] else [38, 38] : Bytes) = g at h1 h2 ⊢
  simp only [List.length_append, List.length_cons, List.length_nil] at h1 h2 ⊢
  have e1 : pre ++ (p ++ q ++ [g]) ++ suf = pre ++ p ++ (q ++ g :: suf) := by simp
  have e2 : pre ++ p ++ (q ++ g :: suf) = (pre ++ p) ++ q ++ (g :: suf) := by simp
  rw [e1, h pre _ st (by simp; omega) (by omega), e2]
  have := h' (pre ++ p) (g :: suf) (st ++ [a]) (by simp; omega) (by simp; omega)
  rw [List.length_append] at this
  rw [this]
  have hi : pre.length + p.length + q.length < (pre ++ p ++ q ++ g :: suf).length := by simp; omega
  have hgt : (pre ++ p ++ q ++ g :: suf)[pre.length + p.length + q.length] = g := by
    rw [List.getElem_append_right (by simp; omega)]; simp [Nat.add_assoc]
  have h3 := ev_bin (e := e) (on := on) (by simp; omega) hi st a b (by omega) o (by rw [hg]; exact hgt)
  rw [List.append_assoc st, List.singleton_append, h3, Nat.add_assoc, Nat.add_assoc, Nat.add_assoc]
theorem v.Eval {p : List Bytes} {b : Bool} (h : EvP e on p b) (hp : p.length <= 1000000) : vl e 26 0 [strs p, strs on] = some (.tup [.bool b, I 0]) := by
  rw [w.expr_Eval]; unfold y.expr_Eval
  have h1 := h [] [] [] (by simpa using hp) (by simpa using hp)
  have h2 := ev_end (e := e) (on := on) p b
  simp only [List.nil_append, List.append_nil, List.length_nil, Nat.zero_add] at h1
  rw [h2] at h1
  simp only [yy]
  exact h1
end Go.Proofs.YtanocopjancaiaaGreatDoor
namespace Go.Proofs.YtanocopjancaiaaGreatDoor
open Go.Abs
set_option maxRecDepth 10000
variable {e : Ev}
abbrev bs (st : List Bool) : V := .sl false 1 (st.map V.bool)
theorem vb_nil : evp (.bsl 1) [] = some (bs []) := rfl
theorem vb_one {b : Bool} : evp (.bsl 1) [.bool b] = some (bs [b]) := rfl
theorem vb_app {a b : List Bool} (h : a.length + b.length <= 4000000) : evp (.app 1) [bs a, bs b] = some (bs (a ++ b)) := by
  rw [bs, bs, v_app (by simp [Lim]; omega)]; simp
theorem vb_take {st : List Bool} {k : Nat} (h : k <= st.length) : evp (.slc 1 false true false) [bs st, I k] = some (bs (st.take k)) := by
  simp only [evp, vSlcC, vSlc, vOpt]
  simp [cut3, h]
theorem vb_get {st : List Bool} {k : Nat} {b : Bool} (h : st[k]? = some b) : evp (.elem 1) [bs st, I k] = some (.bool b) := v_elem (by simp [h])
theorem vb_ld {b : Bool} : evp (.ld none 0) [.bool b] = some (.bool b) := rfl
theorem vb_len {st : List Bool} : evp (.len false) [bs st] = some (I st.length) := by rw [bs, v_len, List.length_map]
noncomputable abbrev rvL (e : Ev) (on l : List Bytes) (st : List Bool) (i : Nat) : Option V := vl e 31 10 [strs on, bs st, strs l, I l.length, I i]
variable {on l : List Bytes} {i : Nat}
theorem rv_tag (hon : on.length <= 1000000) (hl : l.length <= 1000000) (hi : i < l.length) (st : List Bool) (hst : st.length <= 1000000) (ht : isTag l[i] = true) (hb : l[i].length <= 1000000) :
    rvL e on l st i = rvL e on l (st ++ [inB on l[i]]) (i + 1) := by
  unfold rvL
  rw [w.seicheref13_Eval_10]; unfold y.seicheref13_Eval_10
  simp only [yy, if_pos (show (i : Int) < (l.length : Int) by omega), v_get hi, v_lds, vb_len, v.Tag13 l[i] (by omega), ht, v.In on l[i] (by omega), vb_one, vb_app (show st.length + [inB on l[i]].length <= 4000000 by simp; omega), next64 hi (by omega)]
theorem rv_not (hl : l.length <= 1000000) (hi : i < l.length) (st : List Bool) (b : Bool) (hst : st.length <= 1000000) (ht : l[i] = [33]) : rvL e on l (st ++ [b]) i = rvL e on l (st ++ [!b]) (i + 1) := by
  have hnt : isTag ([33] : Bytes) = false := by decide
  have hw : IntKind.i64.wrap (((st.length + 1 : Nat) : Int) - 1) = (st.length : Int) := by rw [w64 _ (by omega)]; omega
  have htk : evp (.slc 1 false true false) [bs (st ++ [b]), I st.length] = some (bs st) := by rw [vb_take (by simp)]; simp
  have hg : evp (.elem 1) [bs (st ++ [b]), I st.length] = some (.bool b) := vb_get (by simp)
  have ha : evp (.app 1) [bs [], bs st] = some (bs st) := by rw [vb_app (by simp; omega)]; rfl
  have hln : (st ++ [b]).length = st.length + 1 := by simp
  unfold rvL
  rw [w.seicheref13_Eval_10]; unfold y.seicheref13_Eval_10
  simp only [yy, if_pos (show (i : Int) < (l.length : Int) by omega), v_get hi, v_lds, vb_len, ht, v.Tag13 [33] (by simp), hnt, if_true, hln, decide_eq_true (show (1 : Int) <= ((st.length + 1 : Nat) : Int) by omega)]
  rw [w.seicheref13_Eval_29]; unfold y.seicheref13_Eval_29
  simp only [yy, vb_nil, hw, htk, ha, hg, vb_ld, vb_one, vb_app (show st.length + [!b].length <= 4000000 by simp; omega), next64 hi (by omega)]
theorem rv_bin (hl : l.length <= 1000000) (hi : i < l.length) (st : List Bool) (a b : Bool) (hst : st.length <= 1000000) (o : Bool) (ht : l[i] = if o = true then [124, 124] else [38, 38]) :
    rvL e on l (st ++ [a, b]) i = rvL e on l (st ++ [if o = true then a || b else a && b]) (i + 1) := by
  have hw2 : IntKind.i64.wrap (((st.length + 2 : Nat) : Int) - 2) = (st.length : Int) := by rw [w64 _ (by omega)]; omega
  have hw1 : IntKind.i64.wrap (((st.length + 2 : Nat) : Int) - 1) = ((st.length + 1 : Nat) : Int) := by rw [w64 _ (by omega)]; omega
  have htk : evp (.slc 1 false true false) [bs (st ++ [a, b]), I st.length] = some (bs st) := by rw [vb_take (by simp)]; simp
  have hga : evp (.elem 1) [bs (st ++ [a, b]), I st.length] = some (.bool a) := vb_get (by simp)
  have hgb : evp (.elem 1) [bs (st ++ [a, b]), I ((st.length + 1 : Nat) : Int)] = some (.bool b) := vb_get (by simp)
  have ha : evp (.app 1) [bs [], bs st] = some (bs st) := by rw [vb_app (by simp; omega)]; rfl
  have hp : ∀ c : Bool, evp (.app 1) [bs st, bs [c]] = some (bs (st ++ [c])) := fun c => vb_app (by simp; omega)
  have hln : (st ++ [a, b]).length = st.length + 2 := by simp
  unfold rvL
  rw [w.seicheref13_Eval_10]; unfold y.seicheref13_Eval_10
  cases o with
  | true =>
    simp only [if_true] at ht
    have hnt : isTag ([124, 124] : Bytes) = false := by decide
    simp only [yy, if_pos (show (i : Int) < (l.length : Int) by omega), v_get hi, v_lds, vb_len, ht, v.Tag13 [124, 124] (by simp), hnt, if_neg (show ¬([124, 124] : Bytes) = [33] by decide), hln]
    rw [w.seicheref13_Eval_29]; unfold y.seicheref13_Eval_29
    simp only [yy, if_neg (show ¬([124, 124] : Bytes) = [38, 38] by decide), if_true, if_pos (show (2 : Int) <= ((st.length + 2 : Nat) : Int) by omega), vb_nil, hw2, htk, ha, hga, vb_ld, hw1, hgb, vb_one, hp, next64 hi (by omega)]
    cases a <;> simp only [vif_t, vif_f] <;> rfl
  | false =>
    simp only [Bool.false_eq_true, if_false] at ht
    have hnt : isTag ([38, 38] : Bytes) = false := by decide
    simp only [yy, if_pos (show (i : Int) < (l.length : Int) by omega), v_get hi, v_lds, vb_len, ht, v.Tag13 [38, 38] (by simp), hnt, if_neg (show ¬([38, 38] : Bytes) = [33] by decide), hln]
    rw [w.seicheref13_Eval_29]; unfold y.seicheref13_Eval_29
    simp only [yy, if_true, if_pos (show (2 : Int) <= ((st.length + 2 : Nat) : Int) by omega), vb_nil, hw2, htk, ha, hga, vb_ld, hw1, hgb, vb_one, hp, next64 hi (by omega)]
    cases a <;> simp only [vif_t, vif_f] <;> rfl
theorem rv_end (l : List Bytes) (b : Bool) : rvL e on l [b] l.length = some (.tup [.bool b, .bool true]) := by
  have hg : evp (.elem 1) [bs [b], .int .i64 0] = some (.bool b) := vb_get (k := 0) rfl
  unfold rvL
  rw [w.seicheref13_Eval_10]; unfold y.seicheref13_Eval_10
  simp only [yy, if_neg (show ¬((l.length : Int) < (l.length : Int)) by omega), vb_len, List.length_cons, List.length_nil]
  rw [if_pos (by decide)]
  simp only [yy, hg, vb_ld]
  rfl
end Go.Proofs.YtanocopjancaiaaGreatDoor
namespace Go.Proofs.YtanocopjancaiaaGreatDoor
open Go.Abs
set_option maxRecDepth 10000
variable {e : Ev}
def RvP (e : Ev) (on : List Bytes) (p : List Bytes) (b : Bool) : Prop :=
  ∀ (pre suf : List Bytes) (st : List Bool), (pre ++ p ++ suf).length <= 1000000 -> st.length + p.length <= 1000000 -> rvL e on (pre ++ p ++ suf) st pre.length = rvL e on (pre ++ p ++ suf) (st ++ [b]) (pre.length + p.length)
variable {on : List Bytes}
theorem rvp_tag (hon : on.length <= 1000000) {t : Bytes} (ht : isTag t = true) (hb : t.length <= 1000000) : RvP e on [t] (inB on t) := by
  intro pre suf st h1 h2
  have hi : pre.length < (pre ++ [t] ++ suf).length := by simp
  have hg : (pre ++ [t] ++ suf)[pre.length] = t := by simp
  have h := rv_tag (e := e) hon h1 hi st (by omega) (by rw [hg]; exact ht) (by rw [hg]; exact hb)
  rw [hg] at h; exact h
theorem rvp_not {p : List Bytes} {b : Bool} (h : RvP e on p b) : RvP e on (p ++ [[33]]) (!b) := by
  intro pre suf st h1 h2
  have e1 : pre ++ (p ++ [[33]]) ++ suf = pre ++ p ++ ([33] :: suf) := by simp
  rw [e1] at h1 ⊢
  simp only [List.length_append, List.length_cons, List.length_nil] at h1 h2 ⊢
  rw [h pre _ st (by simp; omega) (by omega)]
  have hi : pre.length + p.length < (pre ++ p ++ [33] :: suf).length := by simp
  have := rv_not (e := e) (on := on) (by simp; omega) hi st b (by omega) (by simp)
  rw [this]; rfl
theorem rvp_bin {p q : List Bytes} {a b : Bool} (o : Bool) (h : RvP e on p a) (h' : RvP e on q b) : RvP e on (p ++ q ++ [if o = true then [124, 124] else [38, 38]]) (if o = true then a || b else a && b) := by
  intro pre suf st h1 h2
  generalize hg : (if o = true then [124, 124] else [38, 38] : Bytes) = g at h1 h2 ⊢
  simp only [List.length_append, List.length_cons, List.length_nil] at h1 h2 ⊢
  have e1 : pre ++ (p ++ q ++ [g]) ++ suf = pre ++ p ++ (q ++ g :: suf) := by simp
  have e2 : pre ++ p ++ (q ++ g :: suf) = (pre ++ p) ++ q ++ (g :: suf) := by simp
  rw [e1, h pre _ st (by simp; omega) (by omega), e2]
  have := h' (pre ++ p) (g :: suf) (st ++ [a]) (by simp; omega) (by simp; omega)
  rw [List.length_append] at this
  rw [this]
  have hi : pre.length + p.length + q.length < (pre ++ p ++ q ++ g :: suf).length := by simp; omega
  have hgt : (pre ++ p ++ q ++ g :: suf)[pre.length + p.length + q.length] = g := by
    rw [List.getElem_append_right (by simp; omega)]; simp [Nat.add_assoc]
  have h3 := rv_bin (e := e) (on := on) (by simp; omega) hi st a b (by omega) o (by rw [hg]; exact hgt)
  rw [List.append_assoc st, List.singleton_append, h3, Nat.add_assoc, Nat.add_assoc, Nat.add_assoc]
theorem v.rEval {p : List Bytes} {b : Bool} (h : RvP e on p b) (hp : p.length <= 1000000) : vl e 31 0 [strs p, strs on] = some (.tup [.bool b, .bool true]) := by
  rw [w.seicheref13_Eval]; unfold y.seicheref13_Eval
  have h1 := h [] [] [] (by simpa using hp) (by simpa using hp)
  have h2 := rv_end (e := e) (on := on) p b
  simp only [List.nil_append, List.append_nil, List.length_nil, Nat.zero_add] at h1
  rw [h2] at h1
  simp only [yy, v_lenS]
  exact h1
theorem wf_eval {on on' : List Bytes} (hon : on.length <= 1000000) (hon' : on'.length <= 1000000) {p : List Bytes} (h : WF p) : (∀ t ∈ p, isTag t = true -> inB on t = inB on' t) -> ∃ b, EvP e on p b /\ EvP e on' p b /\ RvP e on p b := by
  induction h with
  | @tag t ht hl =>
    intro hs
    have h1 := evp_tag (e := e) hon' ht (by omega)
    rw [<- hs t (by simp) ht] at h1
    exact ⟨_, evp_tag hon ht (by omega), h1, rvp_tag hon ht (by omega)⟩
  | not h ih =>
    intro hs
    obtain ⟨b, h1, h2, h3⟩ := ih fun t ht => hs t (List.mem_append_left _ ht)
    exact ⟨_, evp_not h1, evp_not h2, rvp_not h3⟩
  | bin o h h' ih ih' =>
    intro hs
    obtain ⟨a, h1, h2, h3⟩ := ih fun t ht => hs t (List.mem_append_left _ (List.mem_append_left _ ht))
    obtain ⟨b, k1, k2, k3⟩ := ih' fun t ht => hs t (List.mem_append_left _ (List.mem_append_right _ ht))
    exact ⟨_, evp_bin o h1 k1, evp_bin o h2 k2, rvp_bin o h3 k3⟩
theorem wf_mem {p : List Bytes} (h : WF p) : ∀ t ∈ p, (isTag t = true /\ t.length <= 1024) \/ t = [33] \/ t = [38, 38] \/ t = [124, 124] := by
  induction h with
  | tag ht hl => intro t h; rw [List.mem_singleton.1 h]; exact .inl ⟨ht, hl⟩
  | not h ih =>
    intro t ht
    rcases List.mem_append.1 ht with h | h
    . exact ih t h
    . exact .inr (.inl (List.mem_singleton.1 h))
  | bin o h h' ih ih' =>
    intro t ht
    rcases List.mem_append.1 ht with h | h
    . rcases List.mem_append.1 h with h | h
      . exact ih t h
      . exact ih' t h
    . rw [List.mem_singleton.1 h]; cases o <;> simp
end Go.Proofs.YtanocopjancaiaaGreatDoor
namespace Go.Proofs.YtanocopjancaiaaGreatDoor
open Go.Abs
set_option maxRecDepth 10000
variable {e : Ev}
abbrev aggS (l : List Bytes) : V := .agg (l.map .str)
theorem v_chkdN {n i : Nat} (h : i < n) : evp .chkd [I n, I i] = some (I i) := by
  show (if 0 <= (i : Int) /\ (i : Int) < (n : Int) then some (V.int .i64 (i : Int)) else none) = _
  rw [if_pos (by omega)]
theorem v_chklN {n i : Nat} (h : i <= n) : evp .chkl [I n, I i] = some (I i) := by
  show (if 0 <= (i : Int) /\ (i : Int) <= (n : Int) then some (V.int .i64 (i : Int)) else none) = _
  rw [if_pos (by omega)]
theorem v_lddS {l : List Bytes} {i : Nat} (h : i < l.length) : evp (.ldd none 0 1) [aggS l, I i] = some (.str l[i]) := by
  show (l.map V.str)[0 + (i : Int).toNat * 1]? = _
  simp [h]
theorem v_stdS {l : List Bytes} {i : Nat} {x : Bytes} (h : i < l.length) : evp (.std 1 0 1) [aggS l, I i, .str x] = some (aggS (l.set i x)) := by
  show vSet 1 (0 + (i : Int).toNat * 1) (aggS l) (.str x) = _
  unfold vSet
  rw [if_pos (by simp [V.cells, V.sc]; omega)]
  simp only [V.cells, Nat.zero_add, Int.toNat_natCast, Nat.mul_one, setAt, List.length_singleton]
  rw [List.set_eq_take_append_cons_drop, if_pos h]
  simp
theorem v_clrxS {l : List Bytes} {i : Nat} (h : i < l.length) : evp (.clrx (.str [])) [aggS l, I l.length, I i] = some (aggS (l.take i ++ List.replicate (l.length - i) [])) := by
  show (if 0 <= (i : Int) /\ (i : Int) < (l.length : Int) /\ (l.length : Int).toNat <= (aggS l).cells.length then some (V.agg (setAt (aggS l).cells (i : Int).toNat (List.replicate ((l.length : Int).toNat - (i : Int).toNat) (V.str [])))) else none) = _
  rw [if_pos ⟨by omega, by omega, by simp [V.cells]⟩]
  simp only [V.cells, Int.toNat_natCast, setAt, List.length_replicate]
  rw [List.drop_eq_nil_of_le (by simp; omega)]
  simp
theorem v_snapxS {l : List Bytes} {i : Nat} (h : i <= l.length) : evp .snapx [aggS l, I i] = some (strs (l.take i)) := by
  show (if 0 <= (i : Int) /\ (i : Int).toNat <= (aggS l).cells.length then some (V.sl false 1 ((aggS l).cells.take (i : Int).toNat)) else none) = _
  rw [if_pos ⟨by omega, by simp [V.cells]; omega⟩]
  simp [V.cells]
theorem v.CloneS (l : List Bytes) (hl : l.length <= 1000000) : vl e 10448 1 [strs l] = some (.tup [I l.length, aggS l]) := by
  rw [w.slices_Clone_Lstring_string_h0]; unfold y.slices_Clone_Lstring_string_h0
  have h1 : evp (.rapp 1) [.agg [], I (0 : Nat), strs l] = some (aggS l) := by
    show vRapp 1 (.agg []) (I (0 : Nat)) (strs l) = _
    have hf : fits 1 (l.map V.str) = true := by simp [fits, V.cells, V.sc]
    simp only [vRapp, vTail, Option.bind_some, vFlat, hf, if_true, true_or]
    rw [if_pos ⟨by omega, by omega, by simp, by simp [Lim]; omega⟩]
    have hfl : ∀ l : List Bytes, (l.map V.str).flatMap V.cells = l.map V.str := fun l => by
      induction l with
      | nil => rfl
      | cons x r ih => simp only [List.map_cons, List.flatMap_cons, ih]; rfl
    simp only [V.cells, Int.toNat_natCast, Nat.zero_mul, List.take_zero, List.nil_append, hfl]
  have h2 : evp (.rlen 1) [I (0 : Nat), strs l] = some (I l.length) := by
    show vRlen 1 (I (0 : Nat)) (strs l) = _
    simp [vRlen, vTail]
  have h1' : evp (.rapp 1) [.agg [], .int .i64 0, strs l] = some (aggS l) := h1
  have h2' : evp (.rlen 1) [.int .i64 0, strs l] = some (I l.length) := h2
  simp only [yy, h1', h2']
  cases l with
  | nil =>
    have : vamb (V.sl false 1 []) (some (V.tup [.int .i64 0, .agg []])) (some (V.tup [.int .i64 0, .agg []])) = some (V.tup [.int .i64 0, .agg []]) := by
      unfold vamb
      exact if_pos rfl
    exact this
  | cons x r => rfl
section
variable (he : EnvC e) (o a : Bytes) (g : Bool) (lv : Int) (ts : List Bytes) (hl : ts.length <= 1000000000)
include he hl
theorem v.delS (t : Bytes) (ht : t.length <= 1000000) : vl e 10464 1 [.str t, cfV o a g lv ts] = some (.tup [.bool (!onB o a g lv ts t), cfV o a g lv ts]) := by
  rw [w.cond_Holds_1_h0]; unfold y.cond_Holds_1_h0
  have e5 : evp (.ld (some 5) 0) [cfV o a g lv ts] = some (cfV o a g lv ts) := rfl
  simp only [yy, e5, v.On he o a g lv ts hl t ht]
theorem v.IndexS (l : List Bytes) (hn : l.length <= 1000000) (hb : ∀ t ∈ l, t.length <= 1000000) : ∀ (n i : Nat), i + n = l.length -> (∀ t ∈ l.take i, onB o a g lv ts t = true) ->
    (∃ k, k < l.length /\ (∀ t ∈ l.take k, onB o a g lv ts t = true) /\ onB o a g lv ts (l.getD k []) = false /\ vl e 10800 8 [I l.length, I l.length, I i, aggS l, cfV o a g lv ts] = some (.tup [I k, aggS l, cfV o a g lv ts])) \/
    ((∀ t ∈ l, onB o a g lv ts t = true) /\ vl e 10800 8 [I l.length, I l.length, I i, aggS l, cfV o a g lv ts] = some (.tup [I (-1), aggS l, cfV o a g lv ts])) := by
  intro n
  induction n with
  | zero =>
    intro i hi hp
    refine .inr ⟨by rw [List.take_of_length_le (by omega)] at hp; exact hp, ?_⟩
    rw [w.slices_IndexFunc_Lstring_string_h0_8]; unfold y.slices_IndexFunc_Lstring_string_h0_8
    simp only [yy, if_neg (show ¬((i : Int) < (l.length : Int)) by omega)]
  | succ n ih =>
    intro i hi hp
    have hlt : i < l.length := by omega
    have hd := v.delS he o a g lv ts hl l[i] (hb _ (List.getElem_mem hlt))
    rw [w.slices_IndexFunc_Lstring_string_h0_8]; unfold y.slices_IndexFunc_Lstring_string_h0_8
    cases hon : onB o a g lv ts l[i] with
    | false =>
      rw [hon] at hd
      refine .inl ⟨i, hlt, hp, by simp [List.getD, hlt, hon], ?_⟩
      simp only [yy, if_pos (show (i : Int) < (l.length : Int) by omega), v_chkdN hlt, v_lddS hlt, hd]
    | true =>
      rw [hon] at hd
      have := ih (i + 1) (by omega) (fun t ht => by
        rw [List.take_succ_eq_append_getElem hlt] at ht
        rcases List.mem_append.1 ht with h | h
        . exact hp t h
        . rw [List.mem_singleton.1 h]; exact hon)
      simp only [yy, if_pos (show (i : Int) < (l.length : Int) by omega), v_chkdN hlt, v_lddS hlt, hd, next64 hlt (by omega)]
      exact this
theorem v.DelS18 (l : List Bytes) (hn : l.length <= 1000000) (hb : ∀ t ∈ l, t.length <= 1000000) : ∀ (n j i : Nat) (m : List Bytes), j + n = l.length -> i < j -> m.length = l.length -> m.take i = (l.take j).filter (onB o a g lv ts) -> i = ((l.take j).filter (onB o a g lv ts)).length -> m.drop j = l.drop j ->
    ∃ m' : List Bytes, m'.length = l.length /\ m'.take (l.filter (onB o a g lv ts)).length = l.filter (onB o a g lv ts) /\
      vl e 10432 18 [I l.length, I i, I j, aggS m, cfV o a g lv ts] = some (.tup [I (l.filter (onB o a g lv ts)).length, aggS m', cfV o a g lv ts]) := by
  intro n
  induction n with
  | zero =>
    intro j i m hj hij hm ht hi hd
    have hlj : l.take j = l := List.take_of_length_le (by omega)
    rw [hlj] at ht hi
    rw [w.slices_DeleteFunc_Lstring_string_h0_18]; unfold y.slices_DeleteFunc_Lstring_string_h0_18
    have hilt : i < l.length := by omega
    have hc : evp (.clrx (.str [])) [aggS m, I l.length, I i] = some (aggS (m.take i ++ List.replicate (m.length - i) [])) := by
      rw [<- hm]; exact v_clrxS (by omega)
    refine ⟨m.take i ++ List.replicate (m.length - i) [], by simp; omega, ?_, ?_⟩
    . rw [<- hi, List.take_append_of_le_length (by simp; omega), List.take_take, Nat.min_self]; exact ht
    . simp only [yy, if_neg (show ¬((j : Int) < (l.length : Int)) by omega), v_chkdN hilt, hc, v_chklN (Nat.le_of_lt hilt)]
      rw [<- hi]
  | succ n ih =>
    intro j i m hj hij hm ht hi hd
    have hlt : j < l.length := by omega
    have hmj : m[j]'(by omega) = l[j] := by
      have := congrArg (fun z => z[0]?) hd
      simp only [List.getElem?_drop, Nat.add_zero] at this
      rw [List.getElem?_eq_getElem (by omega), List.getElem?_eq_getElem hlt] at this
      exact Option.some.inj this
    have hdl := v.delS he o a g lv ts hl l[j] (hb _ (List.getElem_mem hlt))
    have hld : evp (.ldd none 0 1) [aggS m, I j] = some (.str l[j]) := by rw [v_lddS (by omega), hmj]
    have hdr : m.drop (j + 1) = l.drop (j + 1) := by rw [<- List.drop_drop, <- List.drop_drop, hd]
    have htk : l.take (j + 1) = l.take j ++ [l[j]] := List.take_succ_eq_append_getElem hlt
    rw [w.slices_DeleteFunc_Lstring_string_h0_18]; unfold y.slices_DeleteFunc_Lstring_string_h0_18
    cases hon : onB o a g lv ts l[j] with
    | false =>
      rw [hon] at hdl
      have := ih (j + 1) i m (by omega) (by omega) hm (by rw [htk, List.filter_append]; simp [hon, ht]) (by rw [htk, List.filter_append]; simp [hon, hi]) hdr
      simp only [yy, if_pos (show (j : Int) < (l.length : Int) by omega), v_chkdN hlt, hld, hdl, next64 hlt (by omega)]
      exact this
    | true =>
      rw [hon] at hdl
      have hst : evp (.std 1 0 1) [aggS m, I i, .str l[j]] = some (aggS (m.set i l[j])) := v_stdS (by omega)
      have hi2 : ((l.take j).filter (onB o a g lv ts)).length = i := hi.symm
      have := ih (j + 1) (i + 1) (m.set i l[j]) (by omega) (by omega) (by simp [hm]) (by
        rw [htk, List.filter_append]
        simp only [List.filter_cons, hon, if_true, List.filter_nil]
        rw [List.take_succ_eq_append_getElem (by simp; omega), List.take_set_of_le (Nat.le_refl i), ht]
        simp) (by rw [htk, List.filter_append]; simp [hon, hi2]) (by rw [List.drop_set_of_lt (by omega)]; exact hdr)
      simp only [yy, if_pos (show (j : Int) < (l.length : Int) by omega), v_chkdN hlt, hld, hdl, v_chkdN (show i < l.length by omega), hst, next64 hlt (by omega), next64 (show i < l.length by omega) (by omega)]
      exact this
theorem v.DelS (l : List Bytes) (hn : l.length <= 1000000) (hb : ∀ t ∈ l, t.length <= 1000000) :
    ∃ m' : List Bytes, m'.length = l.length /\ m'.take (l.filter (onB o a g lv ts)).length = l.filter (onB o a g lv ts) /\
      vl e 10432 1 [I l.length, aggS l, cfV o a g lv ts] = some (.tup [I (l.filter (onB o a g lv ts)).length, aggS m', cfV o a g lv ts]) := by
  have hidx : vl e 10800 1 [I l.length, aggS l, cfV o a g lv ts] = vl e 10800 8 [I l.length, I l.length, I (0 : Nat), aggS l, cfV o a g lv ts] := by
    rw [w.slices_IndexFunc_Lstring_string_h0]; rfl
  rw [w.slices_DeleteFunc_Lstring_string_h0]; unfold y.slices_DeleteFunc_Lstring_string_h0
  rcases v.IndexS he o a g lv ts hl l hn hb l.length 0 (by omega) (by simp) with ⟨k, hk, hall, hno, hv⟩ | ⟨hall, hv⟩
  . have hx : l[k] = l.getD k [] := by simp [List.getD, hk]
    have hft : (l.take k).filter (onB o a g lv ts) = l.take k := List.filter_eq_self.2 hall
    have htk : (l.take (k + 1)).filter (onB o a g lv ts) = l.take k := by
      rw [<- hx] at hno
      rw [List.take_succ_eq_append_getElem hk, List.filter_append, hft]; simp [hno]
    have := v.DelS18 he o a g lv ts hl l hn hb (l.length - (k + 1)) (k + 1) k l (by omega) (by omega) rfl htk.symm (by rw [htk]; simp; omega) rfl
    simp only [yy, hidx, hv, if_neg (show ¬((k : Int) = -1) by omega), next64 hk (by omega)]
    exact this
  . have hf : l.filter (onB o a g lv ts) = l := List.filter_eq_self.2 hall
    refine ⟨l, rfl, by rw [hf]; simp, ?_⟩
    simp only [yy, hidx, hv]
    rw [hf]; rfl
end
end Go.Proofs.YtanocopjancaiaaGreatDoor
namespace Go.Proofs.YtanocopjancaiaaGreatDoor
open Go.ChangeShapes Go.WideShapes Go.RowKit Go.Abs
theorem ownK : ownKnob Tryz.prog.godebug = none := by kernel_rfl
theorem kids : Kids Tryz.prog (· < Tryz.prog.types.size) := kids_rows (by kernel_rfl) (by kernel_rfl)
theorem full : ∀ t e, t < Tryz.prog.types.size -> Tryz.prog.underlying t = some (.slice e) -> 0 < Tryz.prog.cellsOf e := slices_full_of Tryz.prog (by kernel_rfl)
section
variable {P : Program} {m : Nat} {t e : TypeId} {vs : List V}
theorem in_bool (hu : P.underlying t = some .bool) (h : HasT P (m + 1) t vs) : ∃ x : Bool, nfL vs = [V.bool x] := by
  simp only [HasT, hu] at h
  obtain ⟨b, rfl⟩ := h; exact ⟨b, rfl⟩
theorem in_int {k : IntKind} (hu : P.underlying t = some (.int k)) (h : HasT P (m + 1) t vs) : ∃ x : Int, nfL vs = [V.int k x] := by
  simp only [HasT, hu] at h
  obtain ⟨n, rfl, _⟩ := h; exact ⟨n, rfl⟩
theorem in_str (hu : P.underlying t = some .string) (h : HasT P (m + 1) t vs) : ∃ x : Bytes, nfL vs = [V.str x] := by
  simp only [HasT, hu] at h
  obtain ⟨b, rfl⟩ := h; exact ⟨b, rfl⟩
theorem in_sl {α : Type} {E : α -> V} {c : Nat} (hu : P.underlying t = some (.slice e)) (hc : P.cellsOf e = c) (he : ∀ ws, HasT P m e ws -> ∃ x, (elV P e ws).nf = E x) (h : HasT P (m + 1) t vs) : ∃ l : List α, nfL vs = [V.sl false c (l.map E)] := by
  simp only [HasT, hu, hc] at h
  rcases h with rfl | ⟨xs, rfl, hx⟩
  . exact ⟨[], rfl⟩
  . have : ∃ l : List α, nfL xs = l.map E := by
      clear hc
      induction xs with
      | nil => exact ⟨[], rfl⟩
      | cons x r ih =>
        obtain ⟨l, hl⟩ := ih fun y hy => hx y (by simp [hy])
        obtain ⟨ws, hw, rfl⟩ := hx x (by simp)
        obtain ⟨a, ha⟩ := he ws hw
        exact ⟨a :: l, by rw [nfL, ha, hl]; rfl⟩
    obtain ⟨l, hl⟩ := this
    exact ⟨l, by show [V.sl false c (nfL xs)] = _; rw [hl]⟩
theorem el_agg (ha : isAgT P t = true) {l : List V} (h : nfL vs = l) : (elV P t vs).nf = .agg l := by
  unfold elV; rw [if_pos ha]; show V.agg (nfL vs) = _; rw [h]
theorem el_one (ha : isAgT P t = false) {v : V} (h : nfL vs = [v]) : (elV P t vs).nf = v := by
  unfold elV; rw [if_neg (by simp [ha])]
  cases vs with
  | nil => cases h
  | cons x r => rw [nfL] at h; exact (List.cons.inj h).1
theorem nfL_flat : ∀ {wss : List (List V)}, nfL wss.flatten = (wss.map nfL).flatten
  | [] => rfl
  | w :: r => by rw [List.flatten_cons, nfL_append, nfL_flat]; rfl
end
mutual
theorem nf_wt : ∀ v : V, v.nf.wt <= v.wt
  | .agg cs => by simp only [V.nf, V.wt]; have := nfL_wt cs; omega
  | .sl true sz [] => by simp [V.nf, V.wt]
  | .sl true _ (x :: xs) => by simp [V.nf, V.wt]
  | .sl false sz xs => by simp only [V.nf, V.wt]; have := nfL_wt xs; omega
  | .el cs off => by simp [V.nf, V.wt]
  | .tup cs => by simp [V.nf, V.wt]
  | .fn f cs => by simp [V.nf, V.wt]
  | .mfn f cs => by simp [V.nf, V.wt]
  | .iface t v => by simp [V.nf, V.wt]
  | .bool b => Nat.le_refl _
  | .int k n => Nat.le_refl _
  | .str s => Nat.le_refl _
  | .osl a b c d e => Nat.le_refl _
  | .gp g o => Nat.le_refl _
  | .ptr i o => Nat.le_refl _
  | .nilptr => Nat.le_refl _
  | .map i => Nat.le_refl _
  | .nilmap => Nat.le_refl _
  | .nilfn => Nat.le_refl _
  | .nilif => Nat.le_refl _
theorem nfL_wt : ∀ l : List V, wtL (nfL l) <= wtL l
  | [] => Nat.le_refl _
  | v :: r => by simp only [nfL, wtL]; have := nf_wt v; have := nfL_wt r; omega
end
theorem wt_of {v w : V} {n : Nat} (h : v.nf = w) (hn : v.wt <= n) : w.wt <= n := by rw [<- h]; exact Nat.le_trans (nf_wt v) hn
theorem wt_sl {α : Type} {E : α -> V} {c : Nat} {l : List α} {n : Nat} (h : (V.sl false c (l.map E)).wt <= n) : l.length <= n /\ ∀ a ∈ l, (E a).wt <= n := by
  simp only [V.wt] at h
  refine ⟨by have := wtL_length (l.map E); simp at this; omega, fun a ha => ?_⟩
  have := wtL_mem (List.mem_map_of_mem (f := E) ha)
  omega
theorem wt_str {s : Bytes} {n : Nat} (h : (V.str s).wt <= n) : s.length <= n := by simp only [V.wt] at h; omega
theorem wt_mem {cs : List V} {v : V} {n : Nat} (h : (V.agg cs).wt <= n) (hv : v ∈ cs) : v.wt <= n := by
  simp only [V.wt] at h
  have := wtL_mem hv; omega
end Go.Proofs.YtanocopjancaiaaGreatDoor
namespace Go.Proofs.YtanocopjancaiaaGreatDoor
open Go.Abs
set_option maxRecDepth 10000
variable {e : Ev}
theorem v.Great (o a : Bytes) (g : Bool) (lv : Int) (ts : List Bytes) (ho : o.length <= 1048576) (ha : a.length <= 1048576) (hl : ts.length <= 1048576) (hb : ∀ t ∈ ts, t.length <= 1048576) :
    ∃ b, vl e 10 0 [cfV o a g lv ts] = some (.bool b) /\ (b = false -> ts.length <= 20) := by
  have key : ∀ (n i m : Nat), i + n = ts.length -> m <= 2097664 -> ∃ b, vl e 10 10 [I m, strs ts, I ts.length, I i, cfV o a g lv ts] = some (.bool b) /\ (b = false -> ts.length <= 20) := by
    intro n
    induction n with
    | zero =>
      intro i m hi hm
      have e4 : evp (.ld none 4) [cfV o a g lv ts] = some (strs ts) := rfl
      rw [w.seicheref16_Great_10]; unfold y.seicheref16_Great_10
      by_cases h20 : (20 : Int) < (ts.length : Int)
      . exact ⟨true, by simp only [yy, if_neg (show ¬((i : Int) < (ts.length : Int)) by omega), e4, v_lenS, if_pos h20], fun h => nomatch h⟩
      . exact ⟨decide ((512 : Int) < (m : Int)), by simp only [yy, if_neg (show ¬((i : Int) < (ts.length : Int)) by omega), e4, v_lenS, if_neg h20], fun _ => by omega⟩
    | succ n ih =>
      intro i m hi hm
      have hlt : i < ts.length := by omega
      have hti := hb ts[i] (List.getElem_mem hlt)
      rw [w.seicheref16_Great_10]; unfold y.seicheref16_Great_10
      have hw : IntKind.i64.wrap ((m : Int) + (ts[i].length : Int)) = ((m + ts[i].length : Nat) : Int) := by rw [<- Int.natCast_add]; exact w64 _ (by omega)
      by_cases hgt : (512 : Int) < ((m + ts[i].length : Nat) : Int)
      . exact ⟨true, by simp only [yy, if_pos (show (i : Int) < (ts.length : Int) by omega), v_get hlt, v_lds, hw, if_pos hgt], fun h => nomatch h⟩
      . obtain ⟨b, h1, h2⟩ := ih (i + 1) (m + ts[i].length) (by omega) (by omega)
        exact ⟨b, by simp only [yy, if_pos (show (i : Int) < (ts.length : Int) by omega), v_get hlt, v_lds, hw, if_neg hgt, next64 hlt (by omega)]; exact h1, h2⟩
  rw [w.seicheref16_Great]; unfold y.seicheref16_Great
  obtain ⟨b, h1, h2⟩ := key ts.length 0 (o.length + a.length) (by omega) (by omega)
  refine ⟨b, ?_, h2⟩
  have e0 : evp (.ld none 0) [cfV o a g lv ts] = some (.str o) := rfl
  have e1 : evp (.ld none 1) [cfV o a g lv ts] = some (.str a) := rfl
  have e4 : evp (.ld none 4) [cfV o a g lv ts] = some (strs ts) := rfl
  have hw : IntKind.i64.wrap ((o.length : Int) + (a.length : Int)) = ((o.length + a.length : Nat) : Int) := by rw [<- Int.natCast_add]; exact w64 _ (by omega)
  simp only [yy, v_scs5, e0, e1, e4, hw, v_lenS]
  exact h1
theorem lenS {l : List Bytes} (h : (strs l).wt <= 1048576) : l.length <= 1048576 /\ ∀ t ∈ l, t.length <= 1048576 := by
  obtain ⟨h1, h2⟩ := wt_sl (E := V.str) h
  exact ⟨h1, fun t ht => wt_str (h2 t ht)⟩
end Go.Proofs.YtanocopjancaiaaGreatDoor
namespace Go.Proofs.YtanocopjancaiaaGreatDoor
open Go.Abs
set_option maxRecDepth 20000
variable {e : Ev}
structure EnvH (e : Ev) : Prop where
  c : EnvC e
  x : EnvX e
section
variable (he : EnvC e) (hx : EnvX e) (o a : Bytes) (g : Bool) (lv : Int) (ts : List Bytes) (hl : ts.length <= 1000000000)
include he hl
theorem v.HoldsP {s : Bytes} (h0 : s ≠ []) {p : List Bytes} {er : Int} (hp : vl e 25 0 [.str s] = some (.tup [strs p, I er])) (hw : er = 0 -> WF p /\ p.length <= 1024) :
    vl e 13 0 [cfV o a g lv ts, .str s] = if er = 0 then vl e 26 0 [strs p, strs (p.filter (onB o a g lv ts))] else some (.tup [.bool false, I er]) := by
  rw [w.cond_Holds]; unfold y.cond_Holds
  by_cases her : er = 0
  . subst her
    obtain ⟨w1, w2⟩ := hw rfl
    have hb : ∀ t ∈ p, t.length <= 1000000 := fun t ht => by
      rcases wf_mem w1 t ht with ⟨_, h⟩ | rfl | rfl | rfl
      . omega
      . simp
      . simp
      . simp
    have hc := v.CloneS (e := e) p (by omega)
    obtain ⟨m', d1, d2, d3⟩ := v.DelS he o a g lv ts hl p (by omega) hb
    have hlen : (p.filter (onB o a g lv ts)).length <= p.length := List.length_filter_le ..
    have hs : evp .snapx [aggS m', I (p.filter (onB o a g lv ts)).length] = some (strs (p.filter (onB o a g lv ts))) := by
      rw [v_snapxS (by omega), d2]
    obtain ⟨b, e1, _, _⟩ := wf_eval (e := e) (on := p.filter (onB o a g lv ts)) (on' := p.filter (onB o a g lv ts)) (by omega) (by omega) w1 (fun _ _ _ => rfl)
    have hv := v.Eval e1 (by omega)
    have hf : evp .flr [.tup [.bool b, I 0]] = some (.tup [.bool b, I 0]) := rfl
    simp only [yy, v_scs5, if_neg h0, hp, if_true, decide_true, hc, d3, hs, hv, hf]
  . simp only [yy, v_scs5, if_neg h0, hp, if_neg her]
end
section
variable (o a : Bytes) (g : Bool) (lv : Int) (ts : List Bytes)
theorem v.rHolds28 {p : List Bytes} (hn : p.length <= 1024) (hon : ∀ t ∈ p, vl e 12 0 [cfV o a g lv ts, .str t] = some (.bool (onB o a g lv ts t))) {b : Bool}
    (hv : vl e 31 0 [strs p, strs (p.filter (onB o a g lv ts))] = some (.tup [.bool b, .bool true])) : ∀ (n i : Nat) (acc : List Bytes), i + n = p.length -> acc.length <= i -> acc ++ (p.drop i).filter (onB o a g lv ts) = p.filter (onB o a g lv ts) ->
    vl e 14 28 [strs p, strs acc, strs p, I p.length, I i, cfV o a g lv ts] = some (.tup [.bool b, I 0]) := by
  intro n
  have e5 : evp (.ld (some 5) 0) [cfV o a g lv ts] = some (cfV o a g lv ts) := rfl
  have hLim : Lim = 4294967296 := rfl
  induction n with
  | zero =>
    intro i acc hi ha hall
    rw [List.drop_eq_nil_of_le (by omega), List.filter_nil, List.append_nil] at hall
    rw [w.seicheref16_Holds_28]; unfold y.seicheref16_Holds_28
    rw [hall]
    simp only [yy, if_neg (show ¬((i : Int) < (p.length : Int)) by omega), hv]
  | succ n ih =>
    intro i acc hi ha hall
    have hlt : i < p.length := by omega
    rw [List.drop_eq_getElem_cons hlt, List.filter_cons] at hall
    have ho := hon p[i] (List.getElem_mem hlt)
    rw [w.seicheref16_Holds_28]; unfold y.seicheref16_Holds_28
    cases hb : onB o a g lv ts p[i] with
    | true =>
      rw [hb] at ho
      rw [hb, if_pos rfl] at hall
      have := ih (i + 1) (acc ++ [p[i]]) (by omega) (by simp; omega) (by rw [<- hall]; simp)
      simp only [yy, if_pos (show (i : Int) < (p.length : Int) by omega), v_get hlt, v_lds, e5, ho, v_bsl1, v_push (show acc.length + 1 <= Lim by omega), next64 hlt (by omega)]
      exact this
    | false =>
      rw [hb] at ho
      rw [hb, if_neg (by decide)] at hall
      have := ih (i + 1) acc (by omega) (by omega) hall
      simp only [yy, if_pos (show (i : Int) < (p.length : Int) by omega), v_get hlt, v_lds, e5, ho, next64 hlt (by omega)]
      exact this
end
section
variable (he : EnvC e) (hx : EnvX e) (o a : Bytes) (g : Bool) (lv : Int) (ts : List Bytes) (hl : ts.length <= 1000000000)
include he hl
include hx
theorem v.Holds (s : Bytes) (hs : s.length <= 65000) : ∃ (b : Bool) (er : Int), vl e 13 0 [cfV o a g lv ts, .str s] = some (.tup [.bool b, I er]) /\ vl e 14 0 [cfV o a g lv ts, .str s] = some (.tup [.bool b, I er]) := by
  by_cases h0 : s = []
  . refine ⟨true, 0, ?_, ?_⟩
    . rw [w.cond_Holds]; unfold y.cond_Holds
      simp only [yy, v_scs5, if_pos h0]
    . rw [w.seicheref16_Holds]; unfold y.seicheref16_Holds
      simp only [yy, v_scs5, if_pos h0]
  . obtain ⟨p, er, p1, p2, _, p4⟩ := v.pParse hx s hs
    have hP := v.HoldsP he o a g lv ts hl h0 p1 p4
    by_cases her : er = 0
    . subst her
      obtain ⟨w1, w2⟩ := p4 rfl
      have hlen : (p.filter (onB o a g lv ts)).length <= p.length := List.length_filter_le ..
      obtain ⟨b, e1, _, e3⟩ := wf_eval (e := e) (on := p.filter (onB o a g lv ts)) (on' := p.filter (onB o a g lv ts)) (by omega) (by omega) w1 (fun _ _ _ => rfl)
      rw [if_pos rfl, v.Eval e1 (by omega)] at hP
      refine ⟨b, 0, hP, ?_⟩
      have hon : ∀ t ∈ p, vl e 12 0 [cfV o a g lv ts, .str t] = some (.bool (onB o a g lv ts t)) := fun t ht => by
        rcases wf_mem w1 t ht with ⟨h1, h2⟩ | rfl | rfl | rfl
        . exact v.rOn he o a g lv ts hl t (by omega) h1
        . exact v.rOn2 he o a g lv ts hl _ (by simp) (by simp)
        . exact v.rOn2 he o a g lv ts hl _ (by simp) (by simp)
        . exact v.rOn2 he o a g lv ts hl _ (by simp) (by simp)
      have := v.rHolds28 (e := e) o a g lv ts w2 hon (v.rEval e3 (by omega)) p.length 0 [] (by omega) (by simp) (by simp)
      rw [w.seicheref16_Holds]; unfold y.seicheref16_Holds
      simp only [yy, v_scs5, if_neg h0, p2, if_true, decide_true, v_lenS]
      exact this
    . rw [if_neg her] at hP
      refine ⟨false, er, hP, ?_⟩
      rw [w.seicheref16_Holds]; unfold y.seicheref16_Holds
      simp only [yy, v_scs5, if_neg h0, p2, if_neg her]
end
end Go.Proofs.YtanocopjancaiaaGreatDoor
namespace Go.Proofs.YtanocopjancaiaaGreatDoor
open Go.Abs
set_option maxRecDepth 20000
variable {e : Ev}
def endsW (s p : Bytes) : Bool := decide (p.length <= s.length /\ s.drop (s.length - p.length) = p)
theorem sub_len {s p : Bytes} (h : p.length <= s.length) (hs : s.length <= 1000000000) : IntKind.i64.wrap ((s.length : Int) - (p.length : Int)) = ((s.length - p.length : Nat) : Int) := by
  have : (s.length : Int) - (p.length : Int) = ((s.length - p.length : Nat) : Int) := by omega
  rw [this]; exact w64 _ (by omega)
theorem v.hasSuffix0 (s p : Bytes) (hs : s.length <= 1000000000) : vl e 59 0 [.str s, .str p] = some (.bool (endsW s p)) := by
  rw [w.internal_stringslite_HasSuffix]; unfold y.internal_stringslite_HasSuffix endsW
  by_cases h : p.length <= s.length
  . have hw := sub_len h hs
    simp only [yy, if_pos (show (p.length : Int) <= (s.length : Int) by omega), hw, v_sls1 (s := s) (l := s.length - p.length) (by omega)]
    by_cases h2 : s.drop (s.length - p.length) = p
    . rw [decide_eq_true h2, decide_eq_true ⟨h, h2⟩]
    . rw [decide_eq_false h2, decide_eq_false (fun k => h2 k.2)]
  . simp only [yy, if_neg (show ¬((p.length : Int) <= (s.length : Int)) by omega)]
    rw [decide_eq_false (fun k => h k.1)]
theorem v.hasSuffix (s p : Bytes) (hs : s.length <= 1000000000) : vl e 35 0 [.str s, .str p] = some (.bool (endsW s p)) := by
  rw [w.strings_HasSuffix]; unfold y.strings_HasSuffix
  simp only [yy, v.hasSuffix0 s p hs]
theorem v.Ends (s p : Bytes) (hs : s.length <= 1000000000) : vl e 37 0 [.str s, .str p] = some (.bool (endsW s p)) := by
  rw [w.seicheref15_Ends]; unfold y.seicheref15_Ends endsW
  by_cases h : p.length <= s.length
  . have hw := sub_len h hs
    simp only [yy, if_pos (show (p.length : Int) <= (s.length : Int) by omega), hw, v_sls1 (s := s) (l := s.length - p.length) (by omega)]
    by_cases h2 : s.drop (s.length - p.length) = p
    . rw [decide_eq_true h2, decide_eq_true ⟨h, h2⟩]
    . rw [decide_eq_false h2, decide_eq_false (fun k => h2 k.2)]
  . simp only [yy, if_neg (show ¬((p.length : Int) <= (s.length : Int)) by omega)]
    rw [decide_eq_false (fun k => h k.1)]
theorem endsW_le {s p : Bytes} (h : endsW s p = true) : p.length <= s.length := (of_decide_eq_true h).1
theorem v.cutSuffix (s p : Bytes) (hs : s.length <= 1000000000) : vl e 55 0 [.str s, .str p] = some (.tup [.str (if endsW s p = true then s.take (s.length - p.length) else s), .bool (endsW s p)]) := by
  rw [w.strings_CutSuffix]; unfold y.strings_CutSuffix
  have h1 : vl e 81 0 [.str s, .str p] = some (.tup [.str (if endsW s p = true then s.take (s.length - p.length) else s), .bool (endsW s p)]) := by
    rw [w.internal_stringslite_CutSuffix]; unfold y.internal_stringslite_CutSuffix
    cases h : endsW s p with
    | true =>
      have hle := endsW_le h
      have hw := sub_len hle hs
      simp only [yy, v.hasSuffix0 s p hs, h, hw, v_sls0 (s := s) (h := s.length - p.length) (by omega)]
      simp
    | false =>
      simp only [yy, v.hasSuffix0 s p hs, h]
      simp
  simp only [yy, h1]
def procM : List Bytes := [[51,56,54],[97,109,100,54,52],[97,114,109],[97,114,109,54,52],[108,111,111,110,103,54,52],[109,105,112,115],[109,105,112,115,54,52],[109,105,112,115,54,52,108,101],[109,105,112,115,108,101],[112,112,99,54,52],[112,112,99,54,52,108,101],[114,105,115,99,118,54,52],[115,51,57,48,120],[119,97,115,109]]
theorem v.rProcessors (he : EnvC e) : vl e 19 0 [] = some (strs procM) := run_eq (T := ents) (e16_ok he) 400 (by kernel_rfl)
theorem v.rProcessor (he : EnvC e) (o : Bytes) : vl e 60 0 [.str o] = some (.bool (inB procM o)) := by
  rw [w.seicheref15_Processor]; unfold y.seicheref15_Processor
  have h := v.In (e := e) procM o (by decide)
  simp only [yy, v.rProcessors he, h]
theorem v.System (o : Bytes) : vl e 56 0 [.str o] = some (.bool (inB sysM o)) := by
  rw [w.suffix_System]; unfold y.suffix_System
  have h := v.Contains (e := e) sysM o (by decide)
  refine bind_eq (v := strs sysM) rfl ?_
  simp only [yy, h]
theorem v.Processor (o : Bytes) : vl e 57 0 [.str o] = some (.bool (inB procM o)) := by
  rw [w.suffix_Processor]; unfold y.suffix_Processor
  have h := v.Contains (e := e) procM o (by decide)
  refine bind_eq (v := strs procM) rfl ?_
  simp only [yy, h]
def ofW (ws : List Bytes) : Bytes × Bytes :=
  if 2 <= ws.length /\ inB sysM (ws.getD (ws.length - 2) []) = true /\ inB procM (ws.getD (ws.length - 1) []) = true then (ws.getD (ws.length - 2) [], ws.getD (ws.length - 1) [])
  else if 1 <= ws.length /\ inB sysM (ws.getD (ws.length - 1) []) = true then (ws.getD (ws.length - 1) [], [])
  else if 1 <= ws.length /\ inB procM (ws.getD (ws.length - 1) []) = true then ([], ws.getD (ws.length - 1) [])
  else ([], [])
def baseW (s : Bytes) : Bytes := s.take (s.length - 3)
def testW (s : Bytes) : Bool := endsW (baseW s) [95, 116, 101, 115, 116]
def stemW (s : Bytes) : Bytes := if testW s = true then (baseW s).take ((baseW s).length - 5) else baseW s
def isW (s : Bytes) : Bool := endsW s [46, 103, 111] && !(decide (s.headD 0 = 95) || decide (s.headD 0 = 46))
def wordsW (s : Bytes) : List Bytes := (splitOn 95 (stemW s)).tail
abbrev nmV (is t : Bool) (o a : Bytes) : V := .agg [.bool is, .bool t, .str o, .str a]
def ofV (s : Bytes) : V := if isW s = true then nmV true (testW s) (ofW (wordsW s)).1 (ofW (wordsW s)).2 else nmV false false [] []
def ofT (s : Bytes) : V := if isW s = true then .tup [.bool true, .bool (testW s), .str (ofW (wordsW s)).1, .str (ofW (wordsW s)).2] else .tup [.bool false, .bool false, .str [], .str []]
theorem v_elemS {l : List Bytes} {i : Nat} (h : i < l.length) : evp (.elem 1) [strs l, I i] = some (.str (l.getD i [])) := by
  rw [v_get h]; simp [List.getD, h]
theorem cat4 {a b : Bool} {o p : Bytes} : evp (.cat [none, none, none, none]) [.bool a, .bool b, .str o, .str p] = some (nmV a b o p) := rfl
theorem v_scS {s : Bytes} : evp .sc [.str s] = some (.str s) := rfl
theorem v_scB {b : Bool} : evp .sc [.bool b] = some (.bool b) := rfl
theorem v.Of26 (ws : List Bytes) (hw : ws.length <= 1000000) (t b : Bool) (x0 x1 x2 x3 : V) (hb : b = decide (2 <= ws.length /\ inB sysM (ws.getD (ws.length - 2) []) = true /\ inB procM (ws.getD (ws.length - 1) []) = true)) :
    vl e 32 26 [strs ws, I ((ws.length : Int) - 1), .bool b, x0, x1, x2, x3, .bool true, .bool t, .str [], .str []] = some (nmV true t (ofW ws).1 (ofW ws).2) := by
  rw [w.suffix_Of_26]; unfold y.suffix_Of_26 ofW
  cases b with
  | true =>
    have hc := of_decide_eq_true hb.symm
    rw [if_pos hc]
    have e1 : (ws.length : Int) - 1 = ((ws.length - 1 : Nat) : Int) := by omega
    have e2 : IntKind.i64.wrap (((ws.length - 1 : Nat) : Int) - 1) = ((ws.length - 2 : Nat) : Int) := by rw [w64 _ (by omega)]; omega
    rw [e1]
    simp only [yy, e2, v_elemS (show ws.length - 2 < ws.length by omega), v_elemS (show ws.length - 1 < ws.length by omega), v_lds, v_scS, cat4]
  | false =>
    have hc := of_decide_eq_false hb.symm
    rw [if_neg hc]
    by_cases h0 : ws = []
    . subst h0
      simp only [yy, List.length_nil, if_neg (show ¬((0 : Int) <= ((0 : Nat) : Int) - 1) by omega), cat4]
      simp
    . have hpos : 0 < ws.length := List.length_pos_iff.2 h0
      have e1 : (ws.length : Int) - 1 = ((ws.length - 1 : Nat) : Int) := by omega
      rw [e1]
      simp only [yy, if_pos (show (0 : Int) <= ((ws.length - 1 : Nat) : Int) by omega), v_elemS (show ws.length - 1 < ws.length by omega), v_lds, v.System, v.Processor, v_scS, cat4]
      cases h1 : inB sysM (ws.getD (ws.length - 1) []) with
      | true => simp only [vif_t]; rw [if_pos (by simp; omega)]
      | false =>
        simp only [vif_f]
        rw [if_neg (by simp)]
        cases h2 : inB procM (ws.getD (ws.length - 1) []) with
        | true => simp only [vif_t]; rw [if_pos (by simp; omega)]
        | false => simp only [vif_f]; rw [if_neg (by simp)]
theorem v.Of (he : EnvC e) (s : Bytes) (hs : s.length <= 1000000) : vl e 32 0 [.str s] = some (ofV s) := by
  have fin : ∀ b : Bool, (b = true <-> ¬ isW s = true) -> (isW s = true -> endsW s [46, 103, 111] = true) ->
      vl e 32 9 [.str (if endsW s [46, 103, 111] = true then s.take (s.length - 3) else s), .bool b, .bool false, .bool false, .str [], .str []] = some (ofV s) := by
    intro b hb hg
    rw [w.suffix_Of_9]; unfold y.suffix_Of_9 ofV
    cases b with
    | true =>
      have hn := hb.1 rfl
      rw [if_neg hn]
      have c0 : evp (.cat []) [] = some (.agg []) := rfl
      simp only [yy, c0, cat4]
    | false =>
      have hn : isW s = true := by
        cases h : isW s with
        | true => rfl
        | false => have := hb.2 (by rw [h]; decide); cases this
      have hg' := hg hn
      rw [if_pos hn, if_pos hg']
      have c1 : evp (.cat [none]) [.bool true] = some (.agg [.bool true]) := rfl
      have hbl : (baseW s).length <= s.length := by unfold baseW; simp
      have hst : (stemW s).length <= s.length := by
        unfold stemW
        split
        . rw [List.length_take]; omega
        . exact hbl
      have hcs := v.cutSuffix (e := e) (baseW s) [95, 116, 101, 115, 116] (by omega)
      have hsp := v.splitC he (stemW s) 95 (by omega)
      have hlen := splitOn_length 95 (stemW s)
      have e5 : ([95, 116, 101, 115, 116] : Bytes).length = 5 := rfl
      rw [e5] at hcs
      have hcs' : vl e 55 0 [.str (s.take (s.length - 3)), .str [95, 116, 101, 115, 116]] = some (.tup [.str (stemW s), .bool (testW s)]) := hcs
      unfold wordsW
      cases hw : splitOn 95 (stemW s) with
      | nil => exact absurd hw (splitOn_ne _ _)
      | cons w0 ws =>
        rw [hw] at hsp hlen
        simp only [List.length_cons] at hlen
        have hsl : evp (.slc 1 true false false) [strs (w0 :: ws), .int .i64 1] = some (strs ws) := v_slc1
        have ew : IntKind.i64.wrap ((ws.length : Int) - 1) = (ws.length : Int) - 1 := w64 _ (by omega)
        rw [List.tail_cons]
        by_cases h2 : 2 <= ws.length
        . have e1 : (ws.length : Int) - 1 = ((ws.length - 1 : Nat) : Int) := by omega
          have e2 : IntKind.i64.wrap (((ws.length - 1 : Nat) : Int) - 1) = ((ws.length - 2 : Nat) : Int) := by rw [w64 _ (by omega)]; omega
          have h26 := fun b hb => v.Of26 (e := e) ws (by omega) (testW s) b (.bool false) (.bool false) (.str []) (.str []) hb
          have ew' : IntKind.i64.wrap ((ws.length : Int) - 1) = ((ws.length - 1 : Nat) : Int) := by rw [ew, e1]
          rw [e1] at h26
          simp only [yy, c1, cat4, hcs', v_scB, hsp, hsl, v_lenS, ew', if_pos (show (0 : Int) < ((ws.length - 1 : Nat) : Int) by omega), e2, v_elemS (show ws.length - 2 < ws.length by omega), v_elemS (show ws.length - 1 < ws.length by omega), v_lds, v.System, v.Processor]
          cases h3 : inB sysM (ws.getD (ws.length - 2) []) with
          | true =>
            simp only [vif_t]
            exact h26 _ (by simp only [h2, h3, true_and]; cases inB procM (ws.getD (ws.length - 1) []) <;> simp)
          | false =>
            simp only [vif_f]
            exact h26 false (decide_eq_false (fun k => by rw [h3] at k; exact absurd k.2.1 (by decide))).symm
        . have h26 := v.Of26 (e := e) ws (by omega) (testW s) false (.bool false) (.bool false) (.str []) (.str []) (decide_eq_false (fun h => h2 h.1)).symm
          simp only [yy, c1, cat4, hcs', v_scB, hsp, hsl, v_lenS, ew, if_neg (show ¬((0 : Int) < (ws.length : Int) - 1) by omega)]
          exact h26
  have hc := v.cutSuffix (e := e) s [46, 103, 111] (by omega)
  have e3 : ([46, 103, 111] : Bytes).length = 3 := rfl
  rw [e3] at hc
  have hp1 := v.hasPrefix (e := e) s [95]
  have hp2 := v.hasPrefix (e := e) s [46]
  rw [w.suffix_Of]; unfold y.suffix_Of
  cases hg : endsW s [46, 103, 111] with
  | false =>
    rw [hg] at hc fin
    simp only [yy, hc]
    exact fin true (by simp [isW, hg]) (by simp [isW, hg])
  | true =>
    rw [hg] at hc fin
    have hle := endsW_le hg
    obtain ⟨c, r, rfl⟩ : ∃ c r, s = c :: r := by
      cases s with
      | nil => simp at hle
      | cons c r => exact ⟨c, r, rfl⟩
    have t1 : ∀ b : UInt8, decide ((c :: r).take ([b] : Bytes).length = [b]) = decide (c = b) := fun b => by simp
    rw [t1] at hp1 hp2
    by_cases h1 : c = 95
    . rw [decide_eq_true h1] at hp1
      simp only [yy, hc, hp1]
      exact fin true (by simp [isW, hg, h1]) (fun _ => rfl)
    . rw [decide_eq_false h1] at hp1
      simp only [yy, hc, hp1, hp2]
      refine fin _ ?_ (fun _ => rfl)
      by_cases h2 : c = 46 <;> simp [isW, hg, h1, h2]
theorem v.rOf29 (he : EnvC e) (w0 : Bytes) (ws : List Bytes) (hw : ws.length <= 1000000) (t b : Bool) (hb : b = decide (2 <= ws.length /\ inB sysM (ws.getD (ws.length - 2) []) = true /\ inB procM (ws.getD (ws.length - 1) []) = true)) :
    vl e 36 29 [.bool t, strs (w0 :: ws), I ((ws.length + 1 : Nat) : Int), .bool b] = some (.tup [.bool true, .bool t, .str (ofW ws).1, .str (ofW ws).2]) := by
  have gl : ∀ j, 1 <= j -> j <= ws.length -> evp (.elem 1) [strs (w0 :: ws), I ((ws.length + 1 - j : Nat) : Int)] = some (.str (ws.getD (ws.length - j) [])) := fun j h1 h2 => by
    rw [v_elemS (by simp; omega)]
    rw [show ws.length + 1 - j = (ws.length - j) + 1 by omega]
    rfl
  have e1 : IntKind.i64.wrap (((ws.length + 1 : Nat) : Int) - 1) = ((ws.length + 1 - 1 : Nat) : Int) := by rw [w64 _ (by omega)]; omega
  rw [w.seicheref15_Of_29]; unfold y.seicheref15_Of_29 ofW
  cases b with
  | true =>
    have hc := of_decide_eq_true hb.symm
    rw [if_pos hc]
    have e2 : IntKind.i64.wrap (((ws.length + 1 : Nat) : Int) - 2) = ((ws.length + 1 - 2 : Nat) : Int) := by rw [w64 _ (by omega)]; omega
    simp only [yy, e1, e2, gl 1 (by omega) (by omega), gl 2 (by omega) hc.1, v_lds]
  | false =>
    have hc := of_decide_eq_false hb.symm
    rw [if_neg hc]
    by_cases h0 : ws = []
    . subst h0
      simp only [yy, List.length_nil, if_neg (show ¬((2 : Int) <= ((0 + 1 : Nat) : Int)) by omega)]
      simp
    . have hpos : 0 < ws.length := List.length_pos_iff.2 h0
      simp only [yy, if_pos (show (2 : Int) <= ((ws.length + 1 : Nat) : Int) by omega), e1, gl 1 (by omega) (by omega), v_lds, v.rSystem he, v.rProcessor he]
      cases h1 : inB sysM (ws.getD (ws.length - 1) []) with
      | true => simp only [vif_t]; rw [if_pos (by simp; omega)]
      | false =>
        simp only [vif_f]
        rw [if_neg (by simp)]
        cases h2 : inB procM (ws.getD (ws.length - 1) []) with
        | true => simp only [vif_t]; rw [if_pos (by simp; omega)]
        | false => simp only [vif_f]; rw [if_neg (by simp)]
theorem v.rOf22 (he : EnvC e) (s : Bytes) (hs : s.length <= 1000000) (t : Bool) : vl e 36 22 [.str s, .bool t] = some (.tup [.bool true, .bool t, .str (ofW (splitOn 95 s).tail).1, .str (ofW (splitOn 95 s).tail).2]) := by
  have hcut := v.Cut (e := e) s 95 (by omega)
  have hcut' : vl e 52 0 [.str s, .int .u8 95] = some (strs (splitOn 95 s)) := hcut
  have hlen := splitOn_length 95 s
  rw [w.seicheref15_Of_22]; unfold y.seicheref15_Of_22
  cases hw : splitOn 95 s with
  | nil => exact absurd hw (splitOn_ne _ _)
  | cons w0 ws =>
    rw [hw] at hcut' hlen
    simp only [List.length_cons] at hlen
    rw [List.tail_cons]
    have h29 := fun b hb => v.rOf29 he w0 ws (by omega) t b hb
    by_cases h2 : 2 <= ws.length
    . have e1 : IntKind.i64.wrap (((ws.length + 1 : Nat) : Int) - 1) = ((ws.length - 1 + 1 : Nat) : Int) := by rw [w64 _ (by omega)]; omega
      have e2 : IntKind.i64.wrap (((ws.length + 1 : Nat) : Int) - 2) = ((ws.length - 2 + 1 : Nat) : Int) := by rw [w64 _ (by omega)]; omega
      have gl : ∀ j, j < ws.length -> evp (.elem 1) [strs (w0 :: ws), I ((j + 1 : Nat) : Int)] = some (.str (ws.getD j [])) := fun j h => by rw [v_elemS (by simp; omega)]; rfl
      simp only [yy, hcut', v_lenS, List.length_cons, if_pos (show (3 : Int) <= ((ws.length + 1 : Nat) : Int) by omega), e1, e2, gl _ (show ws.length - 2 < ws.length by omega), gl _ (show ws.length - 1 < ws.length by omega), v_lds, v.rSystem he, v.rProcessor he]
      cases h3 : inB sysM (ws.getD (ws.length - 2) []) with
      | true =>
        simp only [vif_t]
        exact h29 _ (by simp only [h2, h3, true_and]; cases inB procM (ws.getD (ws.length - 1) []) <;> simp)
      | false =>
        simp only [vif_f]
        exact h29 false (decide_eq_false (fun k => by rw [h3] at k; exact absurd k.2.1 (by decide))).symm
    . simp only [yy, hcut', v_lenS, List.length_cons, if_neg (show ¬((3 : Int) <= ((ws.length + 1 : Nat) : Int)) by omega)]
      exact h29 false (decide_eq_false (fun h => h2 h.1)).symm
theorem v.rOf (he : EnvC e) (s : Bytes) (hs : s.length <= 1000000) : vl e 36 0 [.str s] = some (ofT s) := by
  have hE := v.Ends (e := e) s [46, 103, 111] (by omega)
  have fin : ∀ b : Bool, (b = true <-> ¬ isW s = true) -> (isW s = true -> endsW s [46, 103, 111] = true) -> vl e 36 7 [.str s, .bool b] = some (ofT s) := by
    intro b hb hg
    rw [w.seicheref15_Of_7]; unfold y.seicheref15_Of_7 ofT
    cases b with
    | true =>
      rw [if_neg (hb.1 rfl)]
      simp only [yy, ]
    | false =>
      have hn : isW s = true := by
        cases h : isW s with
        | true => rfl
        | false => have := hb.2 (by rw [h]; decide); cases this
      rw [if_pos hn]
      have hle := endsW_le (hg hn)
      have e3 : ([46, 103, 111] : Bytes).length = 3 := rfl
      rw [e3] at hle
      have w3 : IntKind.i64.wrap ((s.length : Int) - 3) = ((s.length - 3 : Nat) : Int) := by rw [w64 _ (by omega)]; omega
      have sl : evp (.sls false true) [.str s, I ((s.length - 3 : Nat) : Int)] = some (.str (baseW s)) := v_sls0 (by omega)
      have hbl : (baseW s).length <= s.length := by unfold baseW; simp
      have hE2 := v.Ends (e := e) (baseW s) [95, 116, 101, 115, 116] (by omega)
      unfold wordsW stemW
      cases ht : testW s with
      | true =>
        have ht' : endsW (baseW s) [95, 116, 101, 115, 116] = true := ht
        rw [ht'] at hE2
        have hle2 := endsW_le ht'
        have e5 : ([95, 116, 101, 115, 116] : Bytes).length = 5 := rfl
        rw [e5] at hle2
        have w5 : IntKind.i64.wrap (((baseW s).length : Int) - 5) = (((baseW s).length - 5 : Nat) : Int) := by rw [w64 _ (by omega)]; omega
        have sl2 : evp (.sls false true) [.str (baseW s), I (((baseW s).length - 5 : Nat) : Int)] = some (.str ((baseW s).take ((baseW s).length - 5))) := v_sls0 (by omega)
        simp only [yy, w3, sl, hE2, w5, sl2, v.rOf22 he ((baseW s).take ((baseW s).length - 5)) (by simp; omega) true, if_true]
      | false =>
        have ht' : endsW (baseW s) [95, 116, 101, 115, 116] = false := ht
        rw [ht'] at hE2
        simp only [yy, w3, sl, hE2, v.rOf22 he (baseW s) (by omega) false, Bool.false_eq_true, if_false]
  rw [w.seicheref15_Of]; unfold y.seicheref15_Of
  cases hg : endsW s [46, 103, 111] with
  | false =>
    rw [hg] at hE
    simp only [yy, hE]
    exact fin true (by simp [isW, hg]) (by simp [isW, hg])
  | true =>
    rw [hg] at hE
    have hle := endsW_le hg
    obtain ⟨c, r, rfl⟩ : ∃ c r, s = c :: r := by
      cases s with
      | nil => simp at hle
      | cons c r => exact ⟨c, r, rfl⟩
    have h0 : evp .idx [.str (c :: r), .int .i64 0] = some (byteV c) := v_idx (i := 0) rfl
    have ne : ∀ b : UInt8, c ≠ b -> ¬((c.toNat : Int) = (b.toNat : Int)) := fun b hb h => hb (UInt8.toNat_inj.1 (by omega))
    by_cases h1 : c = 95
    . subst h1
      simp only [yy, hE, h0, byteV]
      exact fin true (by simp [isW, hg]) (fun _ => hg)
    . have n1 : ¬((c.toNat : Int) = 95) := ne 95 h1
      by_cases h2 : c = 46
      . subst h2
        simp only [yy, hE, h0, byteV, if_neg n1]
        exact fin true (by simp [isW, hg]) (fun _ => hg)
      . have n2 : ¬((c.toNat : Int) = 46) := ne 46 h2
        simp only [yy, hE, h0, byteV, if_neg n1, decide_eq_false n2]
        exact fin false (by simp [isW, hg, h1, h2]) (fun _ => hg)
theorem ofW_mem (ws : List Bytes) : ((ofW ws).1 = [] \/ (ofW ws).1 ∈ sysM) /\ ((ofW ws).2 = [] \/ (ofW ws).2 ∈ procM) := by
  have hm : ∀ {l : List Bytes} {t : Bytes}, inB l t = true -> t ∈ l := fun h => of_decide_eq_true h
  unfold ofW
  split
  . rename_i h; exact ⟨.inr (hm h.2.1), .inr (hm h.2.2)⟩
  . split
    . rename_i h; exact ⟨.inr (hm h.2), .inl rfl⟩
    . split
      . rename_i h; exact ⟨.inl rfl, .inr (hm h.2)⟩
      . exact ⟨.inl rfl, .inl rfl⟩
end Go.Proofs.YtanocopjancaiaaGreatDoor
namespace Go.Proofs.YtanocopjancaiaaGreatDoor
open Go.Abs
set_option maxRecDepth 20000
variable {e : Ev}
abbrev imV (im : List T.Import) : V := .sl false 3 (im.map E.Import)
abbrev hdV (nm : Bytes) (im : List T.Import) (bd : Bytes) (em : V) (ft : Int) (a : V) : V := .agg [.str nm, imV im, .str bd, em, I ft, a]
def impC (im : List T.Import) : Bool := im.any fun i => decide (i.Path = [67])
theorem v_getI {im : List T.Import} {i : Nat} (h : i < im.length) : evp (.elem 3) [imV im, I i] = some (E.Import im[i]) := v_elem (by simp [h])
theorem v_ldI (x : T.Import) : evp (.ld (some 3) 0) [E.Import x] = some (E.Import x) := rfl
theorem v_scI (x : T.Import) : evp .scs [E.Import x] = some (E.Import x) := rfl
theorem v_catI (x : T.Import) : evp (.cat [some 3]) [E.Import x] = some (E.Import x) := rfl
theorem v_pathI (x : T.Import) : evp (.ld none 1) [E.Import x] = some (.str x.Path) := rfl
theorem v_lenI (im : List T.Import) : evp (.len false) [imV im] = some (I im.length) := by rw [v_len, List.length_map]
theorem v.isC (x : T.Import) : vl e 34 0 [E.Import x] = some (.bool (decide (x.Path = [67]))) := by
  rw [w.cond_In_1]; unfold y.cond_In_1
  simp only [yy, v_scI, v_pathI]
theorem v.idxI (im : List T.Import) (hn : im.length <= 1000000) : ∀ (n i : Nat), i + n = im.length -> ∃ r : Int, vl e 58 8 [imV im, .fn 34 [], I im.length, I i] = some (I r) /\ (0 <= r <-> impC (im.drop i) = true) := by
  intro n
  induction n with
  | zero =>
    intro i hi
    refine ⟨-1, ?_, ?_⟩
    . rw [w.slices_IndexFunc_Lseiche_api_Import_seiche_api_Import_8]; unfold y.slices_IndexFunc_Lseiche_api_Import_seiche_api_Import_8
      simp only [yy, if_neg (show ¬((i : Int) < (im.length : Int)) by omega)]
    . rw [List.drop_eq_nil_of_le (by omega)]; simp [impC]
  | succ n ih =>
    intro i hi
    have hlt : i < im.length := by omega
    have hv : vApply (vl e) (.fn 34 []) [E.Import im[i]] = some (.bool (decide (im[i].Path = [67]))) := v.isC _
    obtain ⟨r, h1, h2⟩ := ih (i + 1) (by omega)
    have hd : impC (im.drop i) = (decide (im[i].Path = [67]) || impC (im.drop (i + 1))) := by rw [List.drop_eq_getElem_cons hlt]; rfl
    rw [w.slices_IndexFunc_Lseiche_api_Import_seiche_api_Import_8]; unfold y.slices_IndexFunc_Lseiche_api_Import_seiche_api_Import_8
    cases hc : decide (im[i].Path = [67]) with
    | true =>
      rw [hc] at hv hd
      refine ⟨i, ?_, by rw [hd]; simp⟩
      simp only [yy, cv, if_pos (show (i : Int) < (im.length : Int) by omega), v_getI hlt, v_ldI, hv]
    | false =>
      rw [hc] at hv hd
      refine ⟨r, ?_, by rw [hd, Bool.false_or]; exact h2⟩
      simp only [yy, cv, if_pos (show (i : Int) < (im.length : Int) by omega), v_getI hlt, v_ldI, hv, next64 hlt (by omega), h1]
theorem v.cfI (im : List T.Import) (hn : im.length <= 1000000) : vl e 33 0 [imV im, .fn 34 []] = some (.bool (impC im)) := by
  rw [w.slices_ContainsFunc_Lseiche_api_Import_seiche_api_Import]; unfold y.slices_ContainsFunc_Lseiche_api_Import_seiche_api_Import
  obtain ⟨r, h1, h2⟩ := v.idxI (e := e) im hn im.length 0 (by omega)
  have hI : vl e 58 0 [imV im, .fn 34 []] = some (I r) := by
    rw [w.slices_IndexFunc_Lseiche_api_Import_seiche_api_Import]; unfold y.slices_IndexFunc_Lseiche_api_Import_seiche_api_Import
    simp only [yy, v_lenI]; exact h1
  simp only [yy, hI]
  rw [List.drop_zero] at h2
  cases h : impC im
  . rw [h] at h2; rw [decide_eq_false (fun h' => absurd (h2.1 h') (by decide))]
  . rw [h] at h2; rw [decide_eq_true (h2.2 rfl)]
def kindW (t : Bool) : Int := if t then 2 else 1
def blW (on : Bytes -> Bool) (is : Bool) (x z : Bytes) : Bool := !is || (!decide (x = []) && !on x) || (!decide (z = []) && !on z)
def inR (bl t g : Bool) (nm : Bytes) (im : List T.Import) (ft : Int) (hb : Bool) (er : Int) : Int × Int :=
  if bl = true then (0, 0) else if ft ≠ 0 then (kindW t, ft) else if er ≠ 0 then (kindW t, 4) else if hb = false then (0, 0) else if g = false /\ impC im = true then (0, 0) else if t = true /\ endsW nm [95, 116, 101, 115, 116] = true then (3, 0) else (kindW t, 0)
section
variable (o a : Bytes) (g : Bool) (lv : Int) (ts : List Bytes)
theorem v.In9 {nm : Bytes} {im : List T.Import} {bd : Bytes} {em : V} {ft : Int} {at' : V} {hb : Bool} {er : Int} (hn : nm.length <= 1000000) (hi : im.length <= 1000000) (hh : vl e 13 0 [cfV o a g lv ts, .str bd] = some (.tup [.bool hb, I er])) (bl is t : Bool) (x z : Bytes) :
    vl e 15 9 [.bool bl, cfV o a g lv ts, hdV nm im bd em ft at', nmV is t x z] = some (.tup [I (inR bl t g nm im ft hb er).1, I (inR bl t g nm im ft hb er).2]) := by
  rw [w.cond_In_9]; unfold y.cond_In_9 inR
  cases bl with
  | true => simp only [yy, if_true]
  | false =>
    have n1 : evp (.ld none 1) [nmV is t x z] = some (.bool t) := rfl
    have h4 : evp (.ld none 4) [hdV nm im bd em ft at'] = some (I ft) := rfl
    have h2 : evp (.ld none 2) [hdV nm im bd em ft at'] = some (.str bd) := rfl
    have h1 : evp (.ld none 1) [hdV nm im bd em ft at'] = some (imV im) := rfl
    have h0 : evp (.ld none 0) [hdV nm im bd em ft at'] = some (.str nm) := rfl
    have e5 : evp (.ld (some 5) 0) [cfV o a g lv ts] = some (cfV o a g lv ts) := rfl
    have e2 : evp (.ld none 2) [cfV o a g lv ts] = some (.bool g) := rfl
    have hs := v.hasSuffix (e := e) nm [95, 116, 101, 115, 116] (by omega)
    rw [if_neg (by decide)]
    have fin : ∀ k : Int, k = kindW t -> ∀ A B : Option V, (A = if ft ≠ 0 then some (V.tup [I k, I ft]) else B) -> True := fun _ _ _ _ _ => trivial
    cases t <;> by_cases hf : ft = 0
    . subst hf
      rw [if_neg (by simp)]
      by_cases her : er = 0
      . subst her
        rw [if_neg (by simp)]
        cases hb with
        | false => simp only [yy, n1, h4, h2, h1, h0, e5, e2, hh, if_true, decide_true]
        | true =>
          rw [if_neg (by decide)]
          cases g with
          | true => simp only [yy, n1, h4, h2, h1, h0, e5, e2, hh, if_true, decide_true, kindW]; try simp
          | false =>
            cases hc : impC im <;> (simp only [yy, n1, h4, h2, h1, h0, e5, e2, hh, if_true, decide_true, v.cfI im hi, hc, kindW]; try simp)
      . simp only [yy, n1, h4, h2, h1, h0, e5, e2, hh, if_true, if_neg her, decide_true, kindW]
        rw [if_pos her]; try simp
    . rw [if_pos hf]
      simp only [yy, n1, h4, if_neg hf, kindW]
      simp
    . subst hf
      rw [if_neg (by simp)]
      by_cases her : er = 0
      . subst her
        rw [if_neg (by simp)]
        cases hb with
        | false => simp only [yy, n1, h4, h2, h1, h0, e5, e2, hh, if_true, decide_true]
        | true =>
          rw [if_neg (by decide)]
          cases hs' : endsW nm [95, 116, 101, 115, 116] <;> rw [hs'] at hs <;> cases g with
          | true => simp only [yy, n1, h4, h2, h1, h0, e5, e2, hh, hs, if_true, decide_true, kindW]; try simp
          | false =>
            cases hc : impC im <;> (simp only [yy, n1, h4, h2, h1, h0, e5, e2, hh, hs, if_true, decide_true, v.cfI im hi, hc, kindW]; try simp)
      . simp only [yy, n1, h4, h2, h1, h0, e5, e2, hh, if_true, if_neg her, decide_true, kindW]
        rw [if_pos her]; try simp
    . rw [if_pos hf]
      simp only [yy, n1, h4, if_neg hf, kindW]
      simp
theorem v.rIn52 (t : Bool) (k : Int) {nm : Bytes} {im : List T.Import} {bd : Bytes} {em : V} {ft : Int} {at' : V} (hn : nm.length <= 1000000) (hi : im.length <= 1000000) : ∀ (n i : Nat), i + n = im.length ->
    vl e 16 52 [.bool t, I k, imV im, I im.length, I i, cfV o a g lv ts, hdV nm im bd em ft at'] = some (if g = false /\ impC (im.drop i) = true then .tup [I 0, I 0] else if t = true /\ endsW nm [95, 116, 101, 115, 116] = true then .tup [I 3, I 0] else .tup [I k, I 0]) := by
  have h0 : evp (.ld none 0) [hdV nm im bd em ft at'] = some (.str nm) := rfl
  have e2 : evp (.ld none 2) [cfV o a g lv ts] = some (.bool g) := rfl
  have hs := v.Ends (e := e) nm [95, 116, 101, 115, 116] (by omega)
  intro n
  induction n with
  | zero =>
    intro i hi'
    rw [w.seicheref16_In_52]; unfold y.seicheref16_In_52
    rw [List.drop_eq_nil_of_le (by omega), if_neg (by simp [impC])]
    cases t with
    | false => simp only [yy, if_neg (show ¬((i : Int) < (im.length : Int)) by omega)]; simp
    | true =>
      cases hs' : endsW nm [95, 116, 101, 115, 116] <;> rw [hs'] at hs <;> (simp only [yy, if_neg (show ¬((i : Int) < (im.length : Int)) by omega), h0, hs]; try simp)
  | succ n ih =>
    intro i hi'
    have hlt : i < im.length := by omega
    have := ih (i + 1) (by omega)
    have hd : impC (im.drop i) = (decide (im[i].Path = [67]) || impC (im.drop (i + 1))) := by rw [List.drop_eq_getElem_cons hlt]; rfl
    rw [w.seicheref16_In_52]; unfold y.seicheref16_In_52
    rw [hd]
    by_cases hp : im[i].Path = [67]
    . rw [decide_eq_true hp, Bool.true_or]
      cases g with
      | true =>
        simp only [yy, if_pos (show (i : Int) < (im.length : Int) by omega), v_getI hlt, v_ldI, v_catI, v_pathI, if_pos hp, e2, next64 hlt (by omega), this]
        simp
      | false =>
        simp only [yy, if_pos (show (i : Int) < (im.length : Int) by omega), v_getI hlt, v_ldI, v_catI, v_pathI, if_pos hp, e2]
        simp
    . rw [decide_eq_false hp, Bool.false_or]
      simp only [yy, if_pos (show (i : Int) < (im.length : Int) by omega), v_getI hlt, v_ldI, v_catI, v_pathI, if_neg hp, next64 hlt (by omega), this]
theorem v.rIn22 {nm : Bytes} {im : List T.Import} {bd : Bytes} {em : V} {ft : Int} {at' : V} {hb : Bool} {er : Int} (hn : nm.length <= 1000000) (hi : im.length <= 1000000) (hh : vl e 14 0 [cfV o a g lv ts, .str bd] = some (.tup [.bool hb, I er])) (t : Bool) :
    vl e 16 22 [.bool t, I (kindW t), cfV o a g lv ts, hdV nm im bd em ft at'] = some (.tup [I (inR false t g nm im ft hb er).1, I (inR false t g nm im ft hb er).2]) := by
  have h4 : evp (.ld none 4) [hdV nm im bd em ft at'] = some (I ft) := rfl
  have h2 : evp (.ld none 2) [hdV nm im bd em ft at'] = some (.str bd) := rfl
  have h1 : evp (.ld none 1) [hdV nm im bd em ft at'] = some (imV im) := rfl
  have e5 : evp (.ld (some 5) 0) [cfV o a g lv ts] = some (cfV o a g lv ts) := rfl
  have h52 := v.rIn52 (e := e) o a g lv ts t (kindW t) (nm := nm) (im := im) (bd := bd) (em := em) (ft := ft) (at' := at') hn hi im.length 0 (by omega)
  rw [List.drop_zero] at h52
  rw [w.seicheref16_In_22]; unfold y.seicheref16_In_22 inR
  rw [if_neg (by decide)]
  by_cases hf : ft = 0
  . subst hf
    rw [if_neg (by simp)]
    by_cases her : er = 0
    . subst her
      rw [if_neg (by simp)]
      cases hb with
      | false => simp only [yy, h4, h2, h1, e5, hh, if_true, decide_true]
      | true =>
        rw [if_neg (by decide)]
        simp only [yy, h4, h2, h1, e5, hh, if_true, decide_true, v_lenI]
        refine h52.trans ?_
        by_cases c1 : g = false /\ impC im = true
        . rw [if_pos c1, if_pos c1]
        . rw [if_neg c1, if_neg c1]
          by_cases c2 : t = true /\ endsW nm [95, 116, 101, 115, 116] = true
          . rw [if_pos c2, if_pos c2]
          . rw [if_neg c2, if_neg c2]
    . simp only [yy, h4, h2, h1, e5, hh, if_true, if_neg her, decide_true]
      rw [if_pos her]
  . rw [if_pos hf]
    simp only [yy, h4, if_neg hf]
theorem v.rIn9 {nm : Bytes} {im : List T.Import} {bd : Bytes} {em : V} {ft : Int} {at' : V} {hb : Bool} {er : Int} (hn : nm.length <= 1000000) (hi : im.length <= 1000000) (hh : vl e 14 0 [cfV o a g lv ts, .str bd] = some (.tup [.bool hb, I er])) (bl t : Bool) :
    vl e 16 9 [.bool t, .bool bl, cfV o a g lv ts, hdV nm im bd em ft at'] = some (.tup [I (inR bl t g nm im ft hb er).1, I (inR bl t g nm im ft hb er).2]) := by
  rw [w.seicheref16_In_9]; unfold y.seicheref16_In_9
  cases bl with
  | true => simp only [yy, inR, if_true]
  | false =>
    have := v.rIn22 (e := e) o a g lv ts hn hi hh (em := em) (ft := ft) (at' := at') t
    cases t <;> simp only [yy, ] <;> exact this
end
section
variable (he : EnvC e) (o a : Bytes) (g : Bool) (lv : Int) (ts : List Bytes) (hl : ts.length <= 1000000000)
include he hl
theorem v.InC {file nm : Bytes} {im : List T.Import} {bd : Bytes} {em : V} {ft : Int} {at' : V} {hb : Bool} {er : Int} (hf : file.length <= 1000000) (hn : nm.length <= 1000000) (hi : im.length <= 1000000) (hem : em.sc = true) (hat : at'.sc = true)
    (hh : vl e 13 0 [cfV o a g lv ts, .str bd] = some (.tup [.bool hb, I er])) {is t : Bool} {x z : Bytes} (hof : ofV file = nmV is t x z) (hx : x.length <= 1000) (hz : z.length <= 1000) :
    vl e 15 0 [cfV o a g lv ts, .str file, hdV nm im bd em ft at'] = some (.tup [I (inR (blW (onB o a g lv ts) is x z) t g nm im ft hb er).1, I (inR (blW (onB o a g lv ts) is x z) t g nm im ft hb er).2]) := by
  have h9 := fun bl => v.In9 (e := e) o a g lv ts hn hi hh (em := em) (ft := ft) (at' := at') bl is t x z
  have hO := v.Of he file hf
  rw [hof] at hO
  have sh : evp .scs [hdV nm im bd em ft at'] = some (hdV nm im bd em ft at') := by
    show (if (hdV nm im bd em ft at').cells.all V.sc = true then _ else none) = _
    have hall : (hdV nm im bd em ft at').cells.all V.sc = true := by
      show ((V.str nm).sc && ((imV im).sc && ((V.str bd).sc && (em.sc && ((I ft).sc && (at'.sc && true)))))) = true
      rw [hem, hat]; rfl
    rw [if_pos hall]
  have c4 : evp (.cat [some 4]) [nmV is t x z] = some (nmV is t x z) := rfl
  have n0 : evp (.ld none 0) [nmV is t x z] = some (.bool is) := rfl
  have n2 : evp (.ld none 2) [nmV is t x z] = some (.str x) := rfl
  have n3 : evp (.ld none 3) [nmV is t x z] = some (.str z) := rfl
  have e5 : evp (.ld (some 5) 0) [cfV o a g lv ts] = some (cfV o a g lv ts) := rfl
  have hox := v.On he o a g lv ts hl x (by omega)
  have hoz := v.On he o a g lv ts hl z (by omega)
  rw [w.cond_In]; unfold y.cond_In
  cases is with
  | false =>
    simp only [yy, v_scs5, sh, hO, c4, n0]
    exact h9 true
  | true =>
    by_cases h1 : x = []
    . have hb1 : blW (onB o a g lv ts) true x z = (!decide (z = []) && !onB o a g lv ts z) := by simp [blW, h1]
      rw [hb1]
      by_cases h2 : z = []
      . simp only [yy, v_scs5, sh, hO, c4, n0, n2, n3, e5, if_pos h1, if_pos h2]
        rw [decide_eq_true h2]; exact h9 false
      . simp only [yy, v_scs5, sh, hO, c4, n0, n2, n3, e5, if_pos h1, if_neg h2, hoz]
        rw [decide_eq_false h2]; exact h9 _
    . cases hon : onB o a g lv ts x with
      | false =>
        have hb1 : blW (onB o a g lv ts) true x z = true := by simp [blW, h1, hon]
        rw [hon] at hox
        rw [hb1]
        simp only [yy, v_scs5, sh, hO, c4, n0, n2, n3, e5, if_neg h1, hox]
        exact h9 true
      | true =>
        have hb1 : blW (onB o a g lv ts) true x z = (!decide (z = []) && !onB o a g lv ts z) := by simp [blW, hon]
        rw [hon] at hox
        rw [hb1]
        by_cases h2 : z = []
        . simp only [yy, v_scs5, sh, hO, c4, n0, n2, n3, e5, if_neg h1, hox, if_pos h2]
          rw [decide_eq_true h2]; exact h9 false
        . simp only [yy, v_scs5, sh, hO, c4, n0, n2, n3, e5, if_neg h1, hox, if_neg h2, hoz]
          rw [decide_eq_false h2]; exact h9 _
end
section
variable (he : EnvC e) (o a : Bytes) (g : Bool) (lv : Int) (ts : List Bytes)
include he
theorem v.rInC {file nm : Bytes} {im : List T.Import} {bd : Bytes} {em : V} {ft : Int} {at' : V} {hb : Bool} {er : Int} (hf : file.length <= 1000000) (hn : nm.length <= 1000000) (hi : im.length <= 1000000) (hem : em.sc = true) (hat : at'.sc = true)
    (hh : vl e 14 0 [cfV o a g lv ts, .str bd] = some (.tup [.bool hb, I er])) {is t : Bool} {x z : Bytes} (hof : ofT file = .tup [.bool is, .bool t, .str x, .str z])
    (hx : x ≠ [] -> vl e 12 0 [cfV o a g lv ts, .str x] = some (.bool (onB o a g lv ts x))) (hz : z ≠ [] -> vl e 12 0 [cfV o a g lv ts, .str z] = some (.bool (onB o a g lv ts z))) :
    vl e 16 0 [cfV o a g lv ts, .str file, hdV nm im bd em ft at'] = some (.tup [I (inR (blW (onB o a g lv ts) is x z) t g nm im ft hb er).1, I (inR (blW (onB o a g lv ts) is x z) t g nm im ft hb er).2]) := by
  have h9 := fun bl => v.rIn9 (e := e) o a g lv ts hn hi hh (em := em) (ft := ft) (at' := at') bl t
  have hO := v.rOf he file hf
  rw [hof] at hO
  have sh : evp .scs [hdV nm im bd em ft at'] = some (hdV nm im bd em ft at') := by
    show (if (hdV nm im bd em ft at').cells.all V.sc = true then _ else none) = _
    have hall : (hdV nm im bd em ft at').cells.all V.sc = true := by
      show ((V.str nm).sc && ((imV im).sc && ((V.str bd).sc && (em.sc && ((I ft).sc && (at'.sc && true)))))) = true
      rw [hem, hat]; rfl
    rw [if_pos hall]
  have e5 : evp (.ld (some 5) 0) [cfV o a g lv ts] = some (cfV o a g lv ts) := rfl
  rw [w.seicheref16_In]; unfold y.seicheref16_In
  cases is with
  | false =>
    simp only [yy, v_scs5, sh, hO]
    exact h9 true
  | true =>
    by_cases h1 : x = []
    . have hb1 : blW (onB o a g lv ts) true x z = (!decide (z = []) && !onB o a g lv ts z) := by simp [blW, h1]
      rw [hb1]
      by_cases h2 : z = []
      . simp only [yy, v_scs5, sh, hO, e5, if_pos h1, if_pos h2]
        rw [decide_eq_true h2]; exact h9 false
      . simp only [yy, v_scs5, sh, hO, e5, if_pos h1, if_neg h2, hz h2]
        rw [decide_eq_false h2]; exact h9 _
    . have hox := hx h1
      cases hon : onB o a g lv ts x with
      | false =>
        have hb1 : blW (onB o a g lv ts) true x z = true := by simp [blW, h1, hon]
        rw [hon] at hox
        rw [hb1]
        simp only [yy, v_scs5, sh, hO, e5, if_neg h1, hox]
        exact h9 true
      | true =>
        have hb1 : blW (onB o a g lv ts) true x z = (!decide (z = []) && !onB o a g lv ts z) := by simp [blW, hon]
        rw [hon] at hox
        rw [hb1]
        by_cases h2 : z = []
        . simp only [yy, v_scs5, sh, hO, e5, if_neg h1, hox, if_pos h2]
          rw [decide_eq_true h2]; exact h9 false
        . simp only [yy, v_scs5, sh, hO, e5, if_neg h1, hox, if_neg h2, hz h2]
          rw [decide_eq_false h2]; exact h9 _
end
theorem words_ok : (sysM.all fun t => isTag t && decide (t.length <= 20) && decide (t ≠ [45])) = true /\ (procM.all fun t => isTag t && decide (t.length <= 20) && decide (t ≠ [45])) = true := ⟨by decide, by decide⟩
theorem of_spec (s : Bytes) : ∃ is t x z, ofV s = nmV is t x z /\ ofT s = .tup [.bool is, .bool t, .str x, .str z] /\ x.length <= 1000 /\ z.length <= 1000 /\ (x ≠ [] -> isTag x = true /\ x ≠ [45]) /\ (z ≠ [] -> isTag z = true /\ z ≠ [45]) := by
  obtain ⟨h1, h2⟩ := ofW_mem (wordsW s)
  have k1 : (ofW (wordsW s)).1.length <= 1000 /\ ((ofW (wordsW s)).1 ≠ [] -> isTag (ofW (wordsW s)).1 = true /\ (ofW (wordsW s)).1 ≠ [45]) := by
    rcases h1 with h | h
    . rw [h]; exact ⟨by simp, fun h => absurd rfl h⟩
    . have := List.all_eq_true.1 words_ok.1 _ h
      simp only [Bool.and_eq_true, decide_eq_true_eq] at this
      exact ⟨by omega, fun _ => ⟨this.1.1, this.2⟩⟩
  have k2 : (ofW (wordsW s)).2.length <= 1000 /\ ((ofW (wordsW s)).2 ≠ [] -> isTag (ofW (wordsW s)).2 = true /\ (ofW (wordsW s)).2 ≠ [45]) := by
    rcases h2 with h | h
    . rw [h]; exact ⟨by simp, fun h => absurd rfl h⟩
    . have := List.all_eq_true.1 words_ok.2 _ h
      simp only [Bool.and_eq_true, decide_eq_true_eq] at this
      exact ⟨by omega, fun _ => ⟨this.1.1, this.2⟩⟩
  unfold ofV ofT
  cases h : isW s with
  | true => exact ⟨_, _, _, _, if_pos rfl, if_pos rfl, k1.1, k2.1, k1.2, k2.2⟩
  | false => exact ⟨_, _, _, _, if_neg (by decide), if_neg (by decide), by simp, by simp, fun h => absurd rfl h, fun h => absurd rfl h⟩
theorem p_condIn (hH : EnvH e) (c : T.Config) (file : Bytes) (h : T.Header) (hc : (E.Config c).wt <= 1048576) (_ : (V.str file).wt <= 1048576) (_ : (E.Header h).wt <= 1048576) : vl e 5 0 [E.Config c, .str file, E.Header h] = some (.bool true) := by
  obtain ⟨he, hx⟩ := hH
  obtain ⟨o, a, g, lv, ts⟩ := c
  obtain ⟨nm, im, bd, em, ft, at'⟩ := h
  have hc' : (cfV o a g lv ts).wt <= 1048576 := hc
  show vl e 5 0 [cfV o a g lv ts, .str file, hdV nm im bd (strs em) ft (I at')] = _
  have ho := wt_str (wt_mem hc' (v := .str o) (by simp))
  have ha := wt_str (wt_mem hc' (v := .str a) (by simp))
  obtain ⟨hl, hb⟩ := lenS (wt_mem hc' (v := strs ts) (by simp))
  obtain ⟨b, hG, _⟩ := v.Great (e := e) o a g lv ts ho ha hl hb
  have e5 : evp (.ld (some 5) 0) [cfV o a g lv ts] = some (cfV o a g lv ts) := rfl
  have sh : evp .scs [hdV nm im bd (strs em) ft (I at')] = some (hdV nm im bd (strs em) ft (I at')) := rfl
  have h2 : evp (.ld none 2) [hdV nm im bd (strs em) ft (I at')] = some (.str bd) := rfl
  have h1 : evp (.ld none 1) [hdV nm im bd (strs em) ft (I at')] = some (imV im) := rfl
  have h0 : evp (.ld none 0) [hdV nm im bd (strs em) ft (I at')] = some (.str nm) := rfl
  have h6 : evp (.ld (some 6) 0) [hdV nm im bd (strs em) ft (I at')] = some (hdV nm im bd (strs em) ft (I at')) := rfl
  have hfl : file.length <= 1048576 := wt_str (by assumption)
  have hbl : bd.length <= 1048576 := by
    have hw : (hdV nm im bd (strs em) ft (I at')).wt <= 1048576 := by assumption
    exact wt_str (wt_mem hw (v := .str bd) (by simp))
  have hnl : nm.length <= 1048576 := by
    have hw : (hdV nm im bd (strs em) ft (I at')).wt <= 1048576 := by assumption
    exact wt_str (wt_mem hw (v := .str nm) (by simp))
  have w1 : IntKind.i64.wrap ((file.length : Int) + (bd.length : Int)) = ((file.length + bd.length : Nat) : Int) := by rw [<- Int.natCast_add]; exact w64 _ (by omega)
  have w2 : IntKind.i64.wrap (((file.length + bd.length : Nat) : Int) + (nm.length : Int)) = ((file.length + bd.length + nm.length : Nat) : Int) := by rw [<- Int.natCast_add]; exact w64 _ (by omega)
  rw [w.seichelaw16_CondIn]; unfold y.seichelaw16_CondIn
  simp only [yy, v_scs5, sh, v.alive16 he, e5, hG, h2, h0, h1, w1, w2, v_lenI]
  cases b with
  | true => rfl
  | false =>
    simp only [vif_f]
    by_cases c1 : (1024 : Int) < ((file.length + bd.length + nm.length : Nat) : Int)
    . rw [if_pos c1]
    . rw [if_neg c1]
      by_cases c2 : (20 : Int) < (im.length : Int)
      . rw [if_pos c2]
      . rw [if_neg c2]
        obtain ⟨x, er, q1, q2⟩ := v.Holds he hx o a g lv ts (by omega) bd (by omega)
        obtain ⟨is, t, x1, z1, f1, f2, f3, f4, f5, f6⟩ := of_spec file
        have r1 := v.InC he o a g lv ts (by omega) (file := file) (nm := nm) (im := im) (em := strs em) (ft := ft) (at' := I at') (by omega) (by omega) (by omega) rfl rfl q1 f1 f3 f4
        have r2 := v.rInC he o a g lv ts (file := file) (nm := nm) (im := im) (em := strs em) (ft := ft) (at' := I at') (by omega) (by omega) (by omega) rfl rfl q2 f2 (fun h => v.rOn he o a g lv ts (by omega) x1 (by omega) (f5 h).1) (fun h => v.rOn he o a g lv ts (by omega) z1 (by omega) (f6 h).1)
        simp only [yy, h6, r1, r2, if_true, decide_true]
end Go.Proofs.YtanocopjancaiaaGreatDoor
namespace Go.Proofs.YtanocopjancaiaaGreatDoor
open Go.Abs Go.RowKit
def exts : List FC := [K.strings_Split, K.strconv_Atoi, K.strconv_Itoa, K.strings_FieldsFunc_plus_Line_1, K.strings_Join]
theorem exts_ok (w : World) (hw : EnvE w) : ∀ c ∈ exts, c.Holds (cxD w) := by
  intro c hc
  simp only [exts, List.mem_cons, List.not_mem_nil, or_false] at hc
  rcases hc with rfl | rfl | rfl | rfl | rfl
  . exact H.strings_Split w hw.toOK
  . exact H.strconv_Atoi w hw
  . exact H.strconv_Itoa w hw
  . exact H.strings_FieldsFunc_plus_Line_1 w hw.toOK
  . exact H.strings_Join w hw.toOK
theorem exts_own : ∀ c ∈ exts, cfg.ow c.f = true -> c.own = true := by
  intro c hc h
  simp only [exts, List.mem_cons, List.not_mem_nil, or_false] at hc
  rcases hc with rfl | rfl | rfl | rfl | rfl
  . rfl
  . exact absurd h (by rw [show cfg.ow K.strconv_Atoi.f = false by kernel_rfl]; decide)
  . exact absurd h (by rw [show cfg.ow K.strconv_Itoa.f = false by kernel_rfl]; decide)
  . rfl
  . exact absurd h (by rw [show cfg.ow K.strings_Join.f = false by kernel_rfl]; decide)
theorem envX : EnvH (extOf exts) where
  c :=
  { split := fun s c hs => extOf_eq (cs := exts) (c := K.strings_Split) rfl ⟨(s, [c]), splitOn c s, rfl, by simp [g.strings_Split, hs], rfl⟩
    atoi := fun s hs => extOf_eq (cs := exts) (c := K.strconv_Atoi) rfl ⟨s, atoiV s, rfl, by simp [g.strconv_Atoi, hs], rfl⟩
    itoa := fun n h0 h1 => extOf_eq (cs := exts) (c := K.strconv_Itoa) rfl ⟨n, Lib.itoa n, rfl, by simp [g.strconv_Itoa, h0, h1], rfl⟩ }
  x :=
  { split := fun s c hs => extOf_eq (cs := exts) (c := K.strings_Split) rfl ⟨(s, [c]), splitOn c s, rfl, by simp [g.strings_Split, hs], rfl⟩
    fields := fun s hs => extOf_eq (cs := exts) (c := K.strings_FieldsFunc_plus_Line_1) rfl ⟨s, fldB blankB s [], rfl, by simp [g.strings_FieldsFunc_plus_Line_1, hs], rfl⟩
    join := fun l s hl hj => extOf_eq (cs := exts) (c := K.strings_Join) rfl ⟨(l, s), joinS s l, rfl, by simp only [g.strings_Join, lib_joinS]; rw [if_pos ⟨hl, hj⟩], rfl⟩ }
end Go.Proofs.YtanocopjancaiaaGreatDoor
namespace Go.Proofs.YtanocopjancaiaaGreatDoor
open Go.Abs Go.RowKit Go.ChangeShapes Go.WideShapes
section
variable {P : Program} {w : World}
theorem laid_mem {n : String} {d : DataW Unit} : ∀ {l : List (String × DataW Unit)} {ps : List MemPlace}, DataW.LaidVars P w l ps -> (n, d) ∈ l ->
    ∃ g t cs fuel p, P.globalNamed n = some g /\ (P.globals[g]?).map (·.type) = some t /\ w.var? P n = some cs /\ DataW.trod (fun _ => ()) P w 0 (fun _ => true) false fuel t cs.toList = some (d, p)
  | [], _, _, h => by cases h
  | (m, c) :: r, ps, hl, h => by
    obtain ⟨g, t, cs, fuel, p, q, h1, h2, h3, h4, h5, _⟩ := hl
    rcases List.mem_cons.1 h with e | h
    . cases e; exact ⟨g, t, cs, fuel, p, h1, h2, h3, h4⟩
    . exact laid_mem h5 h
theorem var_cells {n : String} {g : Nat} {cs : Array Value} (hg : P.globalNamed n = some g) (h : w.var? P n = some cs) : ∃ t x, w.heap[g]? = some (.cells cs t x) := by
  unfold World.var? at h
  rw [hg, Option.bind_some] at h
  split at h
  . rename_i c t x hx; cases h; exact ⟨t, x, hx⟩
  . cases h
theorem trod_int {enc : TypeId × Value -> Unit} {held : Bool} {fuel : Nat} {e : TypeId} {k k' : IntKind} {cs : List Value} {n : Int} {p : List MemPlace} (he : P.underlying e = some (.int k)) (h : DataW.trod enc P w 0 (fun _ => true) held fuel e cs = some (.lit (.int k' n), p)) : cs = [.int k n] /\ k' = k := by
  cases fuel with
  | zero => simp [DataW.trod] at h
  | succ m =>
    unfold DataW.trod at h
    rw [he] at h
    split at h <;> simp_all
theorem trod_str {enc : TypeId × Value -> Unit} {held : Bool} {fuel : Nat} {e : TypeId} {cs : List Value} {s : Bytes} {p : List MemPlace} (he : P.underlying e = some .string) (h : DataW.trod enc P w 0 (fun _ => true) held fuel e cs = some (.lit (.string s), p)) : ∃ b : ByteArray, cs = [.string b] /\ b.data.toList = s := by
  cases fuel with
  | zero => simp [DataW.trod] at h
  | succ m =>
    unfold DataW.trod at h
    rw [he] at h
    split at h <;> simp_all
theorem gl_strs {laid : List (String × DataW Unit)} {n : String} {d : DataW Unit} {g : Nat} {t e : TypeId} (ss : List Bytes) (h : laidMet P laid w) (hm : (n, d) ∈ laid) (hg : P.globalNamed n = some g) (ht : (P.globals[g]?).map (·.type) = some t)
    (hu : P.underlying t = some (.slice e)) (he : P.underlying e = some .string) (hc : P.cellsOf e = 1) (hd : ∃ r, d = .slice (ss.map fun s => .lit (.string s)) r) (hne : ss ≠ []) : Row w (G0 w) (fun _ => none) [.sl false 1 (ss.map V.str)] g 0 /\ ([V.sl false 1 (ss.map V.str)] : List V).length <= G0 w g := by
  obtain ⟨ps, hl, _, _⟩ := h
  obtain ⟨g', t', cs, fuel, p, h1, h2, h3, h4⟩ := laid_mem hl hm
  rw [hg] at h1; cases h1
  rw [ht] at h2; cases h2
  obtain ⟨t1, x1, hh⟩ := var_cells hg h3
  obtain ⟨rr, hd⟩ := hd
  rcases DataW.trod_slice hu h4 with ⟨_, hx⟩ | ⟨a, len, cap, elems, rest, fu, _, hcs, hx, _, hlc, _, hel, hget, _, _⟩
  . have := (Prod.mk.inj hx).1; rw [hd] at this; cases this
  . have hxs : elems.map (·.1) = ss.map fun s => (DataW.lit (.string s) : DataW Unit) := by
      have := (Prod.mk.inj hx).1
      rw [hd] at this
      exact (DataW.slice.inj this).1.symm
    have hnl : elems.length = ss.length := by have := congrArg List.length hxs; simpa using this
    have hcell : ∀ i, (hi : i < ss.length) -> ∃ b : ByteArray, w.cell? ((a.add i).add 0) = some (.string b) /\ b.data.toList = ss[i] := by
      intro i hi
      have h5 := hget i (by omega)
      rw [hc, Nat.mul_one, List.getElem?_eq_getElem (by omega)] at h5
      obtain ⟨cc, h51, h52⟩ := Option.bind_eq_some_iff.1 h5
      have h6 : elems[i].1 = DataW.lit (.string ss[i]) := by
        have h7 : (elems.map (·.1))[i]? = (ss.map fun s => (DataW.lit (.string s) : DataW Unit))[i]? := by rw [hxs]
        rw [List.getElem?_map, List.getElem?_map, List.getElem?_eq_getElem (by omega), List.getElem?_eq_getElem hi] at h7
        simpa using h7
      obtain ⟨b, rfl, hb⟩ := trod_str (s := ss[i]) (p := elems[i].2) he (by rw [h52]; exact congrArg some (Prod.ext h6 rfl))
      refine ⟨b, ?_, hb⟩
      have h8 := (World.cells?_some h51).2.2 0 (by decide)
      simpa using h8
    have hpos : 0 < ss.length := List.length_pos_iff.2 hne
    obtain ⟨ab, ao, am⟩ := a
    have ham : am = none := by
      obtain ⟨b, hb, _⟩ := hcell 0 hpos
      unfold World.cell? at hb
      split at hb
      . cases am with
        | none => rfl
        | some _ => simp [Addr.add] at hb
      . cases hb
    subst ham
    have hcell : ∀ i, (hi : i < ss.length) -> ∃ b : ByteArray, w.cell? ⟨ab, ao + i, none⟩ = some (.string b) /\ b.data.toList = ss[i] := by
      intro i hi
      obtain ⟨b, h1, h2⟩ := hcell i hi
      rw [addr_add, addr_add, Nat.add_zero] at h1
      exact ⟨b, h1, h2⟩
    have hsz : cs = #[.slice (some ⟨ab, ao, none⟩) len cap] := by cases cs; simp_all
    refine ⟨⟨fun c hc => ?_, fun i c hc => ?_⟩, ?_⟩
    . obtain rfl := List.mem_singleton.1 hc; rfl
    . cases i with
      | succ i => simp at hc
      | zero =>
        simp at hc; subst hc
        refine ⟨.slice (some ⟨ab, ao, none⟩) len cap, by simp [World.cell?, hh, hsz], ?_⟩
        have hlen : (ss.map V.str).length = len := by simp; omega
        have hrep := Rep.sl (W := w) (G := G0 w) (φ := fun _ => none) 1 (ss.map V.str) ab ao cap (fun k => (w.cell? ⟨ab, ao + k, none⟩).getD undef) (by omega) ?_ ?_ ?_ ?_
        . rw [hlen] at hrep; exact hrep
        . obtain ⟨b, hb, _⟩ := hcell (ss.length - 1) (by omega)
          have := (cell_lt hb).2
          simp only [List.length_map, Nat.mul_one]; omega
        . intro x hx
          obtain ⟨s, _, rfl⟩ := List.mem_map.1 hx
          exact ⟨rfl, fun c hc => by obtain rfl := List.mem_singleton.1 hc; rfl⟩
        . intro k hk
          simp only [List.length_map, Nat.mul_one] at hk
          obtain ⟨b, hb, _⟩ := hcell k hk
          have hb' : w.cell? ⟨ab, ao + k, none⟩ = some (.string b) := hb
          rw [hb']; rfl
        . intro i x j c hx hj
          rw [List.getElem?_map] at hx
          obtain ⟨s, hs, rfl⟩ := Option.map_eq_some_iff.1 hx
          obtain ⟨hi, hs⟩ := List.getElem?_eq_some_iff.1 hs
          cases j with
          | succ j => simp [V.cells] at hj
          | zero =>
            simp [V.cells] at hj; subst hj
            obtain ⟨b, hb, hbs⟩ := hcell i hi
            have hb' : w.cell? ⟨ab, ao + (i * 1 + 0), none⟩ = some (.string b) := by rw [Nat.mul_one]; exact hb
            show Rep _ _ _ _ ((w.cell? ⟨ab, ao + (i * 1 + 0), none⟩).getD undef)
            rw [hb']; exact .str s b (by rw [hbs, hs])
    . simp only [G0, hh, hsz]; simp
end
noncomputable def cxG (gls : Nat -> Option (List V)) (w : World) : Cx := ⟨Tryz.prog, w, gls⟩
theorem okw_gl {gls : Nat -> Option (List V)} {w W : World} {G : Nat -> Nat} (h : OKW (cxG gls w) W G) : OKW (cxD w) W G := ⟨h.below, h.Glo, h.Gz⟩
theorem pc_gl {gls : Nat -> Option (List V)} {w : World} {f : FuncId} {args : List V} {r : V × Bool} (h : PC (cxD w) f args r) : PC (cxG gls w) f args r := ⟨h.1, fun W G φ xs ho hr => h.2 W G φ xs (okw_gl ho) hr⟩
theorem hold_gl {gls : Nat -> Option (List V)} {w : World} {c : FC} (h : c.Holds (cxD w)) : c.Holds (cxG gls w) := fun args y hr => by
  obtain ⟨v, o, h1, h2⟩ := h args y hr
  exact ⟨v, o, pc_gl h1, h2⟩
theorem gl_met {laid : List (String × DataW Unit)} {w : World} (h : laidMetH Tryz.prog laid w) (hn : (laid.filter fun x => x.2.handleName?.isSome) = []) : laidMet Tryz.prog laid w := by
  unfold laidMetH at h
  rw [hn] at h; exact h
end Go.Proofs.YtanocopjancaiaaGreatDoor
