/-
  Ext: path.Join, out of the kit's contracts of slices.Clone, slices.DeleteFunc and strings.Join. Own work of this seat.
-/
import Derived.Test.YtainplhaaklpeaaDoorL1
import Derived.Test.YtainplhaaklpeaaDoorShelfB
import Derived.WalkKit
import Derived.Lib.OwnBridge
namespace Go.Proofs.YtainplhaaklpeaaDoor
open Go.Abs Go.RowKit Go.Shelf Go.Sort

theorem rep_texts {W : World} {G φ} {nl : Bool} {l : List Bytes} {x : Value} (h : Rep W G φ (.sl nl 1 (l.map .str)) x) :
    (x = .slice none 0 0 ∧ l = []) ∨ (∃ a, x = .slice (some a) 0 0 ∧ l = []) ∨ ∃ (b off cap : Nat) (zs : List ByteArray), x = .slice (some ⟨b, off, none⟩) zs.length cap ∧ zs.map (·.data.toList) = l ∧ zs.length ≤ cap ∧
      ∀ j, j < zs.length → W.cell? ⟨b, off + j, none⟩ = some (.string (zs.getD j ByteArray.empty)) := by
  generalize hv : l.map V.str = ys at h
  cases h with
  | slnil => exact .inl ⟨rfl, List.map_eq_nil_iff.1 hv⟩
  | sl0 _ a => exact .inr (.inl ⟨a, rfl, List.map_eq_nil_iff.1 hv⟩)
  | sl _ _ b off cap rd hcap hG hx hrd h =>
    subst hv
    right; right
    have hs : ∀ i s, l[i]? = some s → ∃ t : ByteArray, rd i = .string t ∧ t.data.toList = s := by
      intro i s hi
      have := h i (.str s) 0 (.str s) (by simp [hi]) rfl
      simp only [Nat.mul_one, Nat.add_zero] at this
      obtain ⟨t, h1, h2⟩ := rep_str this
      exact ⟨t, h1, h2⟩
    refine ⟨b, off, cap, (List.range l.length).map fun i => match rd i with | .string t => t | _ => ByteArray.empty, by simp, ?_, by simpa using hcap, fun j hj => ?_⟩
    · apply List.ext_getElem?
      intro i
      rcases Nat.lt_or_ge i l.length with hi | hi
      · obtain ⟨t, h1, h2⟩ := hs i _ (List.getElem?_eq_getElem hi)
        simp [hi, h1, h2]
      · simp [Nat.not_lt.2 hi, hi]
    · have hj' : j < l.length := by simpa using hj
      obtain ⟨t, h1, h2⟩ := hs j _ (List.getElem?_eq_getElem hj')
      rw [hrd j (by simpa using hj'), h1]
      simp [List.getD, hj', h1]

def isEmp (x : ByteArray) : Bool := x.toList.isEmpty
theorem isEmp_gives (x : ByteArray) (W : World) : Go.Proofs.FnGives Tryd.prog 78 #[] #[.string x] (.bool (isEmp x)) W := by
  show Calls Tryd.prog 78 #[.string x] W _
  go_enter Tryd.func78, Tryd.ntmps78
  go_wp2
  go_ret
  exact ⟨rfl, 0, rfl⟩
theorem isEmp_enters (args : Array Value) (w : World) : (callFunc 78 args).run Tryd.prog w = .ok (.enter 78 args) w := Go.Proofs.enters_of Tryd.func78 (by kernel_rfl) rfl args w

theorem df_block (g cap : Nat) (zs : List ByteArray) (w : World) (hH : Holds Value.string w g 0 zs.toArray) (hsz : zs.length ≤ 9223372036854775807) (hcap : zs.length ≤ cap) :
    Calls Tryd.prog 76 #[.slice (some ⟨g, 0, none⟩) zs.length cap, .func (.func 78) #[] #[]] w fun e w' => e = .returned (.slice (some ⟨g, 0, none⟩) (zs.filter fun x => !isEmp x).length cap) ∧
      ∃ q, w' = putRow Value.string (Sort.ahead w q) g 0 ((zs.filter fun x => !isEmp x) ++ List.replicate (zs.length - (zs.filter fun x => !isEmp x).length) (ByteArray.mk #[])).toArray := by
  have h := Go.Proofs.AnyE.slices_DeleteFunc Tryd.laysDf Value.string (fun _ => rfl) isEmp 78 #[] isEmp_enters (ByteArray.mk #[]) Tryd.zeroValue9 g 0 cap zs.toArray w
    (fun W x _ => isEmp_gives x W) (fun _ _ _ x _ => isEmp_gives x _) hH (by simpa using hsz) (by simpa using hcap)
  simp only [List.size_toArray] at h
  exact h
theorem df_nil (w : World) :
    Calls Tryd.prog 76 #[.slice none 0 0, .func (.func 78) #[] #[]] w fun e w' => e = .returned (.slice none 0 0) ∧ w' = w := by
  have hI : Calls Tryd.prog 101 #[.slice none 0 0, .func (.func 78) #[] #[]] w fun e w' => e = .returned (.int .i64 (-1)) ∧ w' = w :=
    Go.Proofs.AnyE.slices_IndexFunc_empty (P := Tryd.prog) (ρ := Tryd.laysDf_ren) { Tryd.laysDf with } none 0 (.func (.func 78) #[] #[]) w
  go_enter Tryd.func76, Tryd.ntmps76
  go_wp2_with (go_at_call 101; refine hI.mono ?_; rintro e w' ⟨rfl, rfl⟩)
  go_ret
  exact ⟨rfl, rfl⟩

/-- slices.Clone -/
theorem clone_any {W : World} {G φ} {nl : Bool} {l : List Bytes} {x : Value} (h : Rep W G φ (.sl nl 1 (l.map .str)) x) (hl : l.length ≤ 1000000000) :
    (l = [] ∧ Calls Tryd.prog 77 #[x] W fun e w' => e = .returned (.slice none 0 0) ∧ w' = W) ∨
    Calls Tryd.prog 77 #[x] W fun e w' => ∃ (g cap : Nat) (zs : List ByteArray), e = .returned (.slice (some ⟨g, 0, none⟩) zs.length cap) ∧
      zs.map (·.data.toList) = l ∧ zs.length ≤ cap ∧ W.heap.size ≤ g ∧ Below W.heap.size W w' ∧ w'.ownsRow W.heap.size 9 1 (.slice (some ⟨g, 0, none⟩) zs.length cap) zs.length (zs.map .string) := by
  rcases rep_texts h with ⟨rfl, rfl⟩ | ⟨a, rfl, rfl⟩ | ⟨b, off, cap, zs, rfl, hz, hc, hcells⟩
  · exact .inl ⟨rfl, Tryd.slices_Clone_string_nil 0 0 W⟩
  · refine .inr ((Tryd.slices_Clone_string_zero a 0 W).mono fun e w' => ?_)
    rintro ⟨v', he, hown, hne, hB⟩
    obtain ⟨g, cap, rfl, hb, hlt, hn, hm, hlen, hH⟩ := Lib.holds_of_ownsRow (enc := Value.string) (zs := []) hown hne
    exact ⟨g, cap, [], he, rfl, Nat.zero_le _, hb, hB, by simpa using hown⟩
  · have hlz : zs.length = l.length := by rw [← hz]; simp
    refine .inr ((Tryd.slices_Clone_string b off zs.length cap zs W (Nat.le_refl _) (by omega) hcells).mono fun e w' => ?_)
    rintro ⟨v', he, hown, hne, hB⟩
    rw [List.take_length] at hown
    obtain ⟨g, cap', rfl, hb, hlt, hn, hm, hlen, hH⟩ := Lib.holds_of_ownsRow (enc := Value.string) (zs := zs) hown hne
    exact ⟨g, cap', zs, he, hz, hn, hb, hB, hown⟩

/-- strings.Join of what a row of its own holds -/
theorem join_row {w : World} {base g k cap : Nat} {zs : List ByteArray} {sep : ByteArray} (h : w.ownsRow base 9 1 (.slice (some ⟨g, 0, none⟩) k cap) k (zs.map .string)) (hk : zs.length ≤ 1000000000) (hl : (Lib.join (zs.map (·.data.toList)) sep.data.toList).length ≤ 140737488355328) :
    Calls Tryd.prog 75 #[.slice (some ⟨g, 0, none⟩) k cap, .string sep] w fun e w' => e = .returned (.string ⟨(Lib.join (zs.map (·.data.toList)) sep.data.toList).toArray⟩) ∧ Below w.heap.size w w' := by
  obtain ⟨g', cap', he, hb, hlt, hn, hm, hlen, hH⟩ := Lib.holds_of_ownsRow (enc := Value.string) (zs := zs) h (by simp)
  cases he
  subst hlen
  refine Tryd.strings_Join g 0 cap zs sep w (fun j x hx => ?_) hlt (by omega) hn hl
  have hj : j < zs.length := (List.getElem?_eq_some_iff.1 hx).1
  have := (hH j (by simpa using hj)).1
  rw [this]
  have e := (List.getElem?_eq_some_iff.1 hx).2
  simp [getElem!_pos, hj, e]

def g.path_Join (l : List Bytes) : Option Bytes :=
  if l.length ≤ 1000000000 ∧ (Lib.join (l.filter fun x => !x.isEmpty) [47]).length ≤ 140737488355328 then some (Lib.join (l.filter fun x => !x.isEmpty) [47]) else none
def K.path_Join : FC := fc 34 (fun _ => true) false (fun (a : List Bytes) => [V.sl false 1 (a.map .str)]) (fun (y : Bytes) => .str y) (fun a => g.path_Join a)
  (fun l => cleanL_mk (cleanL_map (fun _ => rfl) l) rfl) (fun _ => rfl) (fun a b h => by
    have := (List.cons.inj h).1
    simp only [V.sl.injEq, true_and] at this
    exact map_inj (fun x y h => V.str.inj h) this)
theorem isEmp_eq (x : ByteArray) : isEmp x = x.data.toList.isEmpty := by rw [isEmp, Abs.toList_data]
theorem filter_data (zs : List ByteArray) : (zs.filter fun x => !isEmp x).map (·.data.toList) = (zs.map (·.data.toList)).filter fun x => !x.isEmpty := by
  rw [List.filter_map]
  congr 1
  apply List.filter_congr
  intro x _
  simp [isEmp_eq]
theorem nf_strs : ∀ {xs : List V} {l : List Bytes}, nfL xs = l.map V.str → xs = l.map V.str
  | [], [], _ => rfl
  | [], _ :: _, h => by simp [nfL] at h
  | _ :: _, [], h => by simp [nfL] at h
  | x :: xs, y :: l, h => by
    obtain ⟨h1, h2⟩ := List.cons.inj (show x.nf :: nfL xs = V.str y :: l.map V.str from h)
    rw [nf_str h1, nf_strs h2]; rfl
theorem path_Join_walk {W : World} {G φ} {nl : Bool} {l : List Bytes} {x : Value} (h : Rep W G φ (.sl nl 1 (l.map .str)) x) (hl : l.length ≤ 1000000000) (hj : (Lib.join (l.filter fun x => !x.isEmpty) [47]).length ≤ 140737488355328) :
    Calls Tryd.prog 34 #[x] W fun e w' => e = .returned (.string ⟨(Lib.join (l.filter fun x => !x.isEmpty) [47]).toArray⟩) ∧ Below W.heap.size W w' := by
  rcases clone_any h hl with ⟨rfl, hC⟩ | hC
  · clear h hj hl
    go_enter Tryd.func34, Tryd.ntmps34
    go_wp2_with (first
      | (go_at_call 77; refine hC.mono ?_; rintro e w1 ⟨rfl, rfl⟩)
      | (go_at_call 76; refine (df_nil _).mono ?_; rintro e w2 ⟨rfl, rfl⟩)
      | (go_at_call 75; refine (Tryd.strings_Join_none none 0 _ _).mono ?_; rintro e w3 ⟨rfl, rfl⟩))
    go_ret
    exact ⟨rfl, .refl _ _⟩
  · clear h
    go_enter Tryd.func34, Tryd.ntmps34
    go_wp2_with (first
      | (go_at_call 77; refine hC.mono ?_; rintro e w1 ⟨g, cap, zs, rfl, hz, hc, hg, hB, hown⟩
         have hlz : zs.length ≤ 1000000000 := by rw [← hz] at hl; simpa using hl
         obtain ⟨g', cap', he, _, _, _, _, _, hH⟩ := Lib.holds_of_ownsRow (enc := Value.string) (zs := zs) hown (by simp)
         cases he
         have hdf := df_block g cap zs w1 hH (by omega) hc
         have X : Aside (Below W.heap.size W w1 ∧ w1.ownsRow W.heap.size 9 1 (.slice (some ⟨g, 0, none⟩) zs.length cap) zs.length (zs.map .string)) := ⟨hB, hown⟩
         clear hB hown hH hC)
      | (go_at_call 76; refine hdf.mono ?_; rintro e w2 ⟨rfl, q, rfl⟩
         have hfl : (zs.filter fun x => !isEmp x).length ≤ zs.length := List.length_filter_le _ _
         have h1 := Lib.ownsRow_putRow (q := q) (ys := (zs.filter fun x => !isEmp x) ++ List.replicate (zs.length - (zs.filter fun x => !isEmp x).length) (ByteArray.mk #[])) (k := (zs.filter fun x => !isEmp x).length) X.out.2 (by simp; omega) hfl
         rw [List.take_left] at h1
         have h2 := Lib.below_putRow (enc := Value.string) (q := q) (d := ((zs.filter fun x => !isEmp x) ++ List.replicate (zs.length - (zs.filter fun x => !isEmp x).length) (ByteArray.mk #[])).toArray) X.out.1 hg
         have hjj := join_row (sep := ⟨#[47]⟩) h1 (by omega) (by rw [filter_data, hz]; exact hj)
         have Y : Aside (W.heap.size = W.heap.size ∧ Below W.heap.size W (putRow Value.string (Sort.ahead w1 q) g 0 ((zs.filter fun x => !isEmp x) ++ List.replicate (zs.length - (zs.filter fun x => !isEmp x).length) (ByteArray.mk #[])).toArray)) := ⟨rfl, h2⟩
         clear h1 h2 X hdf)
      | (go_at_call 75; refine hjj.mono ?_; rintro e w3 ⟨rfl, hb3⟩))
    go_ret
    refine ⟨?_, Y.out.2.trans (hb3.mono (by simpa [putRow, mapBlock, Sort.ahead] using Y.out.2.size))⟩
    rw [filter_data, hz]; rfl
theorem H.path_Join (w : World) (_hw : EnvOK w) : K.path_Join.Holds (cxD w) := by
  rintro args y ⟨l, r, ha, hg, rfl⟩
  obtain ⟨u, v, rfl, h1, h2⟩ := nfL_cons ha
  obtain rfl := nfL_nil h2
  simp only [g.path_Join] at hg
  split at hg
  · rename_i hc
    cases hg
    obtain ⟨nl, rfl⟩ : ∃ nl, u = .sl nl 1 (l.map .str) := by
      obtain ⟨nl, xs, rfl, h3, _⟩ := nf_sl h1
      have : xs = l.map .str := nf_strs h3
      exact ⟨nl, by rw [this]⟩
    refine ⟨.str _, false, ?_, rfl, fun h => nomatch h⟩
    refine PC.pure (callable_of Tryd.func34 (by kernel_rfl) (by kernel_rfl)) fun W G φ xs hW hxs => ?_
    obtain ⟨hl, hx⟩ := hxs
    obtain ⟨xl⟩ := xs
    match xl, hl with
    | [x], _ =>
      refine (path_Join_walk (hx 0 _ x rfl rfl) hc.1 hc.2).mono fun e W' ⟨he, hB⟩ => ⟨_, he, hB, fun _ _ => .str _ _ (by simp)⟩
  · cases hg
end Go.Proofs.YtainplhaaklpeaaDoor
