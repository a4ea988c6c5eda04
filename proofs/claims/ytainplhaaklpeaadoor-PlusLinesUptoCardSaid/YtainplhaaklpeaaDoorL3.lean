/-
  Ext: strings.FieldsFunc at blanks and tabs, strings.Join, out of the kit's contracts. Own work of this seat.
-/
import Derived.Test.YtainplhaaklpeaaDoorL2
import Derived.Lib.FieldsP
import Derived.Lib.TrimUEq
namespace Go.Proofs.YtainplhaaklpeaaDoor
open Go.Abs Go.RowKit Go.Shelf Go.Sort

/-! ### words: by bytes -/
def fldB (q : UInt8 → Bool) : Bytes → Bytes → List Bytes
  | [], cur => if cur = [] then [] else [cur]
  | b :: r, cur => if q b then (if cur = [] then fldB q r [] else cur :: fldB q r []) else fldB q r (cur ++ [b])
theorem fld_run {q : UInt8 → Bool} {r : Bytes} : ∀ {xs cur : Bytes}, (∀ x ∈ xs, q x = false) → fldB q (xs ++ r) cur = fldB q r (cur ++ xs)
  | [], cur, _ => by simp
  | x :: xs, cur, h => by
    rw [List.cons_append, fldB, h x (by simp), if_neg (by simp), fld_run fun y hy => h y (by simp [hy])]; simp
theorem dec_facts {n b0 b1 b2 b3 : Nat} (hn : 1 ≤ n) (h0 : 128 ≤ b0) : 128 ≤ (Lib.decodeN n b0 b1 b2 b3).1 ∧ 1 ≤ (Lib.decodeN n b0 b1 b2 b3).2 ∧ (Lib.decodeN n b0 b1 b2 b3).2 ≤ n ∧ (Lib.decodeN n b0 b1 b2 b3).2 ≤ 4 ∧
    (2 ≤ (Lib.decodeN n b0 b1 b2 b3).2 → 128 ≤ b1) ∧ (3 ≤ (Lib.decodeN n b0 b1 b2 b3).2 → 128 ≤ b2) ∧ (4 ≤ (Lib.decodeN n b0 b1 b2 b3).2 → 128 ≤ b3) := by
  unfold Lib.decodeN
  repeat' split
  all_goals (simp only; omega)
theorem dec_low {n b0 b1 b2 b3 : Nat} (h0 : b0 < 128) : Lib.decodeN n b0 b1 b2 b3 = (b0, 1) := by unfold Lib.decodeN; rw [if_pos h0]
def spanB (s : Bytes) (x : Nat × Nat) : Bytes := (s.take x.2).drop x.1
theorem spans_fld {p : Nat → Bool} {q : UInt8 → Bool} (hq : ∀ b : UInt8, q b = (decide (b.toNat < 128) && p b.toNat)) (hp : ∀ r, 128 ≤ r → p r = false) (s : ByteArray) (L : Bytes) (hL : s.data.toList = L) (hsz : s.size = L.length) :
    ∀ (f pos : Nat) (st : Option Nat) (acc : List (Nat × Nat)), pos ≤ s.size → s.size ≤ f + pos → (∀ a, st = some a → a < pos) →
      (Lib.closeSpans s (Lib.spansFromP p s f pos st acc)).map (spanB L) = acc.map (spanB L) ++ fldB q (L.drop pos) (match st with | some a => (L.take pos).drop a | none => [])
  | 0, pos, st, acc, h1, h2, h3 => by
    have e : pos = s.size := by omega
    subst e
    rw [hsz, List.drop_length, List.take_length]
    simp only [Lib.spansFromP, Lib.closeSpans]
    cases st with
    | none => simp [fldB]
    | some a =>
      have ha := h3 a rfl
      rw [hsz] at ha
      have : L.drop a ≠ [] := fun e => by have := congrArg List.length e; rw [List.length_drop, List.length_nil] at this; omega
      simp only [List.map_append, List.map_cons, List.map_nil, spanB, fldB, if_neg this, hsz, List.take_length]
  | f + 1, pos, st, acc, h1, h2, h3 => by
    unfold Lib.spansFromP
    have e1 : (L.take pos).drop pos = [] := List.drop_eq_nil_of_le (by simp; omega)
    by_cases hlt : pos < s.size
    · rw [if_pos hlt]
      have hltl : pos < L.length := by rw [← hsz]; exact hlt
      have hg : ∀ k (hk : pos + k < L.length), L.getD (pos + k) 0 = L[pos + k] := fun k hk => by simp [List.getD, hk]
      have hd := Lib.decode_N s pos
      rw [hL] at hd
      by_cases hb : L[pos].toNat < 128
      · have hdec : Utf8.decode s pos = (L[pos].toNat, 1) := by
          have h0 : L.getD pos 0 = L[pos] := hg 0 hltl
          rw [hd, h0]; exact dec_low hb
        have hqb : q L[pos] = p L[pos].toNat := by rw [hq, decide_eq_true hb, Bool.true_and]
        rw [hdec, List.drop_eq_getElem_cons hltl, fldB, hqb]
        simp only
        cases hpb : p L[pos].toNat
        · simp only [Bool.false_eq_true, if_false]
          cases st with
          | none =>
            rw [spans_fld hq hp s L hL hsz f (pos + 1) (some pos) acc (by omega) (by omega) (fun a h => by cases h; omega)]
            simp only [List.nil_append]
            rw [List.take_add_one, List.getElem?_eq_getElem hltl, List.drop_append_of_le_length (by simp; omega), e1]; rfl
          | some a =>
            have ha := h3 a rfl
            rw [spans_fld hq hp s L hL hsz f (pos + 1) (some a) acc (by omega) (by omega) (fun a' h => by cases h; omega)]
            simp only
            rw [List.take_add_one, List.getElem?_eq_getElem hltl, List.drop_append_of_le_length (by simp; omega)]; rfl
        · simp only [if_true]
          cases st with
          | none => rw [spans_fld hq hp s L hL hsz f (pos + 1) none acc (by omega) (by omega) (fun a h => by cases h)]; simp
          | some a =>
            have ha := h3 a rfl
            have hne : (L.take pos).drop a ≠ [] := fun e => by have := congrArg List.length e; rw [List.length_drop, List.length_take, List.length_nil] at this; omega
            rw [spans_fld hq hp s L hL hsz f (pos + 1) none _ (by omega) (by omega) (fun a h => by cases h), if_neg hne]
            simp [spanB]
      · have hb' : 128 ≤ L[pos].toNat := by omega
        obtain ⟨k1, k2, k3, k4, k5, k6, k7⟩ := dec_facts (n := L.length - pos) (b0 := (L.getD pos 0).toNat) (b1 := (L.getD (pos + 1) 0).toNat) (b2 := (L.getD (pos + 2) 0).toNat) (b3 := (L.getD (pos + 3) 0).toNat) (by omega) (by have h0 : L.getD pos 0 = L[pos] := hg 0 hltl; rw [h0]; exact hb')
        rw [← hd] at k1 k2 k3 k4 k5 k6 k7
        generalize hw : (Utf8.decode s pos).2 = w at k2 k3 k4 k5 k6 k7 ⊢
        generalize hr : (Utf8.decode s pos).1 = r at k1 ⊢
        rw [hp r k1, if_neg (by simp)]
        have hall : ∀ x ∈ (L.drop pos).take w, q x = false := by
          intro x hx
          obtain ⟨j, hj, rfl⟩ := List.getElem_of_mem hx
          simp only [List.length_take, List.length_drop] at hj
          simp only [List.getElem_take, List.getElem_drop]
          have h128 : 128 ≤ L[pos + j].toNat := by
            match j, hj with
            | 0, _ => exact hb'
            | 1, hj => have := k5 (by omega); rw [hg 1 (by omega)] at this; exact this
            | 2, hj => have := k6 (by omega); rw [hg 2 (by omega)] at this; exact this
            | 3, hj => have := k7 (by omega); rw [hg 3 (by omega)] at this; exact this
            | j + 4, hj => omega
          rw [hq, decide_eq_false (by omega)]; rfl
        have hsp : L.drop pos = (L.drop pos).take w ++ L.drop (pos + w) := by
          rw [← List.drop_drop, List.take_append_drop]
        have htk : L.take (pos + w) = L.take pos ++ (L.drop pos).take w := List.take_add
        cases st with
        | none =>
          simp only
          rw [spans_fld hq hp s L hL hsz f (pos + w) (some pos) acc (by omega) (by omega) (fun a h => by cases h; omega)]
          rw [hsp, fld_run hall]
          simp only
          rw [htk, List.drop_append_of_le_length (by simp; omega), e1]
        | some a =>
          have ha := h3 a rfl
          simp only
          rw [spans_fld hq hp s L hL hsz f (pos + w) (some a) acc (by omega) (by omega) (fun a' h => by cases h; omega)]
          rw [hsp, fld_run hall]
          simp only
          rw [htk, List.drop_append_of_le_length (by simp; omega)]
    · rw [if_neg hlt]
      have e : pos = s.size := by omega
      have := spans_fld hq hp s L hL hsz 0 pos st acc h1 (by omega) h3
      simp only [Lib.spansFromP] at this
      exact this
theorem fields_data {p : Nat → Bool} {q : UInt8 → Bool} (hq : ∀ b : UInt8, q b = (decide (b.toNat < 128) && p b.toNat)) (hp : ∀ r, 128 ≤ r → p r = false) (s : ByteArray) :
    (Lib.goFieldsP p s).map (·.data.toList) = fldB q s.data.toList [] := by
  have := spans_fld hq hp s _ rfl (Lib.size_eq s) s.size 0 none [] (Nat.zero_le _) (by omega) (fun a h => by cases h)
  simp only [List.map_nil, List.nil_append, List.drop_zero] at this
  rw [← this]
  unfold Lib.goFieldsP Lib.spansOfP
  rw [List.map_map]
  apply List.map_congr_left
  intro x _
  simp only [Function.comp, spanB, Lib.extract_data, List.drop_take]

/-- .. a contract that gives a row of texts of its own, just as long as it is -/
theorem texts_own {cx : Cx} {f : FuncId} {args : List V} {l : List Bytes} (hc : Callable cx.P f)
    (h : ∀ W G φ xs, OKW cx W G → RepL W G φ args xs → Calls cx.P f xs W fun e W' => ∃ (ss : List ByteArray) (A : Nat), ss.map (·.data.toList) = l ∧ e = .returned (.slice (some ⟨A, 0, none⟩) ss.length ss.length) ∧ W.heap.size ≤ A ∧
      W'.ownsRow W.heap.size 9 1 (.slice (some ⟨A, 0, none⟩) ss.length ss.length) ss.length (ss.map .string) ∧ Below W.heap.size W W') :
    PC cx f args (.sl false 1 (l.map .str), true) := by
  refine .of hc fun W G φ xs hW hxs => (h W G φ xs hW hxs).mono fun e W' => ?_
  rintro ⟨ss, A, rfl, rfl, hA, hown, hB⟩
  obtain ⟨g, cap, he, hb, hlt, hn, hm, hlen, hH⟩ := Lib.holds_of_ownsRow (enc := Value.string) (zs := ss) hown (by simp)
  cases he
  refine ⟨fun b => if b = A then ss.length else G b, _, rfl, hB, fun b hb => if_neg (by omega), fun b hb => ?_, ?_, fun _ ow q how sz ys b off len cap sp hv hx => ?_⟩
  · dsimp only; rw [if_neg (by omega)]; exact hW.Gz b (Nat.le_trans hB.size hb)
  · have := Rep.sl (W := W') (G := fun b => if b = A then ss.length else G b) (φ := φ) 1 ((ss.map (·.data.toList)).map V.str) A 0 ss.length (fun k => .string (ss.getD k default)) (by simp) (by simp) (fun x hx => ?_) (fun k hk => ?_) (fun i x j c hi hj => ?_)
    · simpa using this
    · obtain ⟨s, _, rfl⟩ := List.mem_map.1 hx; simp
    · simp at hk
      rw [(hH k (by simpa using hk)).1]
      simp [List.getD, hk, getElem!_pos]
    · simp only [List.map_map, List.getElem?_map, Option.map_eq_some_iff] at hi
      obtain ⟨s, hs, rfl⟩ := hi
      cases j with
      | zero => simp at hj; subst hj; simp [List.getD, hs]; exact .str _ _ rfl
      | succ j => simp at hj
  · cases hx; exact .inl rfl

/-! ### strings.FieldsFunc at blanks and tabs -/
def blankR (r : Nat) : Bool := decide (r = 32) || decide (r = 9)
def blankB (b : UInt8) : Bool := decide (b = 32) || decide (b = 9)
theorem blank_gives (x : Nat) (hx : x ≤ 1114111) (W : World) : Go.Proofs.FnGives Tryd.prog 84 #[] #[Go.Proofs.encR x] (.bool (blankR x)) W := by
  show Calls Tryd.prog 84 #[.int .i32 (x : Int)] W _
  go_enter Tryd.func84, Tryd.ntmps84
  go_wp2
  · rename_i h
    have : x = 32 := by omega
    subst this
    go_ret
    exact ⟨rfl, 0, rfl⟩
  · rename_i h
    go_ret
    refine ⟨?_, 0, rfl⟩
    have e : ((x : Int) == 32 || (x : Int) == 9) = blankR x := by
      unfold blankR
      rw [Bool.eq_iff_iff]; simp; omega
    rw [← e]; rfl
theorem blank_enters (args : Array Value) (w : World) : (callFunc 84 args).run Tryd.prog w = .ok (.enter 84 args) w := Go.Proofs.enters_of Tryd.func84 (by kernel_rfl) rfl args w
theorem blank_hq (b : UInt8) : blankB b = (decide (b.toNat < 128) && blankR b.toNat) := by
  unfold blankB blankR
  rw [Bool.eq_iff_iff]
  simp only [Bool.or_eq_true, decide_eq_true_eq, Bool.and_eq_true]
  constructor
  · rintro (h | h) <;> rw [h] <;> decide
  · rintro ⟨_, h | h⟩
    · left; exact UInt8.toNat_inj.1 (by rw [h]; rfl)
    · right; exact UInt8.toNat_inj.1 (by rw [h]; rfl)
theorem blank_hp (r : Nat) (h : 128 ≤ r) : blankR r = false := by
  unfold blankR
  rw [decide_eq_false (by omega), decide_eq_false (by omega)]; rfl
def g.strings_FieldsFunc_plus_Line_1 (s : Bytes) : Option (List Bytes) := if s.length ≤ 4294967296 then some (fldB blankB s []) else none
theorem fnv_eq {v : V} {f : Nat} (h : v.nf = .fn f []) : v = .fn f [] := by
  obtain ⟨cs, rfl, hc⟩ := nf_fn h
  rw [nfL_nil hc]
def K.strings_FieldsFunc_plus_Line_1 : FC := fc 83 (fun avs => isFn 84 avs[1]?) true (fun (a : Bytes) => [V.str a, V.fn 84 []]) (fun (y : List Bytes) => .sl false 1 (y.map .str)) (fun a => g.strings_FieldsFunc_plus_Line_1 a)
  (fun _ => rfl) (fun y => cleanL_map (fun _ => rfl) y) (fun a b h => V.str.inj (List.cons.inj h).1)
theorem H.strings_FieldsFunc_plus_Line_1 (w : World) (_hw : EnvOK w) : K.strings_FieldsFunc_plus_Line_1.Holds (cxD w) := by
  rintro args y ⟨s, r, ha, hg, rfl⟩
  obtain ⟨u, v, rfl, h1, h2⟩ := nfL_cons ha
  obtain ⟨u', v', rfl, h3, h4⟩ := nfL_cons h2
  obtain rfl := nfL_nil h4
  obtain rfl := nf_str h1
  obtain rfl := fnv_eq h3
  simp only [g.strings_FieldsFunc_plus_Line_1] at hg
  split at hg
  · rename_i hc
    cases hg
    refine ⟨.sl false 1 ((fldB blankB s []).map .str), true, ?_, by show V.sl false 1 (nfL _) = _; rw [nfL_strs], fun _ => .inl rfl⟩
    refine texts_own (callable_of Tryd.func83 (by kernel_rfl) (by kernel_rfl)) fun W G φ xs hW hxs => ?_
    obtain ⟨x, y, rfl, hx, hy⟩ := repL2 hxs
    obtain ⟨t, rfl, rfl⟩ := rep_str hx
    have hy' : y = .func (.func 84) #[] #[] := by
      cases hy with
      | fn f cs zs hl h =>
        have : zs = #[] := by simpa using hl.symm
        rw [this]
    subst hy'
    refine (Tryd.strings_FieldsFunc_runes 84 #[] blank_enters blankR t W (by rw [Lib.size_eq]; exact hc) (fun W' x hx _ => blank_gives x hx W')).mono fun e W' => ?_
    rintro ⟨A, he, hA, hown, hB⟩
    exact ⟨_, A, fields_data blank_hq blank_hp t, he, hA, hown, hB⟩
  · cases hg

/-! ### strings.Join -/
def g.strings_Join (l : List Bytes) (s : Bytes) : Option Bytes :=
  if l.length ≤ 1000000000 ∧ (Lib.join l s).length ≤ 140737488355328 then some (Lib.join l s) else none
def K.strings_Join : FC := fc 75 (fun _ => true) false (fun (a : List Bytes × Bytes) => [V.sl false 1 (a.1.map .str), V.str a.2]) (fun (y : Bytes) => .str y) (fun a => g.strings_Join a.1 a.2)
  (fun l => cleanL_mk (cleanL_map (fun _ => rfl) l.1) rfl) (fun _ => rfl) (fun ⟨a, b⟩ ⟨c, d⟩ h => by
    obtain ⟨h1, h2⟩ := List.cons.inj h
    simp only [V.sl.injEq, true_and] at h1
    have h3 := V.str.inj (List.cons.inj h2).1
    have h4 : a = c := map_inj (fun x y h => V.str.inj h) h1
    simp only at h3
    rw [h4, h3])
theorem H.strings_Join (w : World) (_hw : EnvOK w) : K.strings_Join.Holds (cxD w) := by
  rintro args y ⟨⟨l, s⟩, r, ha, hg, rfl⟩
  obtain ⟨u, v, rfl, h1, h2⟩ := nfL_cons ha
  obtain ⟨u', v', rfl, h3, h4⟩ := nfL_cons h2
  obtain rfl := nfL_nil h4
  obtain rfl := nf_str h3
  simp only [g.strings_Join] at hg
  split at hg
  · rename_i hc
    cases hg
    obtain ⟨nl, rfl⟩ : ∃ nl, u = .sl nl 1 (l.map .str) := by
      obtain ⟨nl, xs, rfl, h3, _⟩ := nf_sl h1
      exact ⟨nl, by rw [nf_strs h3]⟩
    refine ⟨.str _, false, ?_, rfl, fun h => nomatch h⟩
    refine PC.pure (callable_of Tryd.func75 (by kernel_rfl) (by kernel_rfl)) fun W G φ xs hW hxs => ?_
    obtain ⟨x, y, rfl, hx, hy⟩ := repL2 hxs
    obtain ⟨t, rfl, rfl⟩ := rep_str hy
    have hnone : ∀ (a : Option Addr), l = [] → Calls Tryd.prog 75 #[.slice a 0 0, .string t] W fun e W' => ∃ y, e = .returned y ∧ Below W.heap.size W W' ∧ ∀ (W'' : World) (G' : Nat → Nat), Rep W'' G' φ (.str (Lib.join l t.data.toList)) y := by
      rintro a rfl
      refine (Tryd.strings_Join_none a 0 t W).mono fun e W' => ?_
      rintro ⟨rfl, rfl⟩
      exact ⟨_, rfl, .refl _ _, fun _ _ => .str _ _ rfl⟩
    rcases rep_texts hx with ⟨rfl, e⟩ | ⟨a, rfl, e⟩ | ⟨b, off, cap, zs, rfl, hz, hcc, hcells⟩
    · exact hnone none e
    · exact hnone _ e
    · have hlz : zs.length = l.length := by rw [← hz]; simp
      rcases Nat.eq_zero_or_pos zs.length with h0 | h0
      · have e : l = [] := List.eq_nil_of_length_eq_zero (by omega)
        have ez : zs = [] := List.eq_nil_of_length_eq_zero h0
        subst e; subst ez
        refine (Tryd.strings_Join_none _ cap t W).mono fun e W' => ?_
        rintro ⟨rfl, rfl⟩
        exact ⟨_, rfl, .refl _ _, fun _ _ => .str _ _ rfl⟩
      · have hb : b < W.heap.size := by
          have := hcells 0 h0
          rcases Nat.lt_or_ge b W.heap.size with h | h
          · exact h
          · simp [World.cell?, Array.getElem?_eq_none h] at this
        refine (Tryd.strings_Join b off cap zs t W (fun j x hj => ?_) hb (by omega) hcc (by rw [hz]; exact hc.2)).mono fun e W' => ?_
        · rw [hcells j (List.getElem?_eq_some_iff.1 hj).1]; simp [List.getD, hj]
        · rintro ⟨rfl, hB⟩
          exact ⟨_, rfl, hB, fun _ _ => .str _ _ (by rw [hz])⟩
  · cases hg
end Go.Proofs.YtainplhaaklpeaaDoor
