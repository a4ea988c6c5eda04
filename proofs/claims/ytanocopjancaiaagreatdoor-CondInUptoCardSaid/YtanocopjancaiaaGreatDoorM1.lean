/-
  Parts of the proof, one behind the other. Own work of this seat; some printed by its programs.
-/
import Derived.Test.YtanocopjancaiaaGreatDoorM0
import Derived.IntWalk
import Derived.Test.YtanocopjancaiaaGreatDoorRows
import Derived.Deep.Slices
import Derived.ReadAgain
import Derived.Carry
import Derived.OpenShut
namespace Go.Abs
open Go.RowKit
variable {cx : Cx} {w : World} {B : Nat -> Prop} {GB : Gh} {g : Gh} {st : St} {a : Act} {W : World} {Γ : Spec}
inductive RowOp (P : Program) (n : Nat) (op : Op) : AOp -> Prop
  | nro (sz : Nat) (h : op = .move (.const (.slice none 0 0)) \/ op = .assign (.const (.slice none 0 0))) : RowOp P n op (.nro sz)
  | clo (f : Nat) (args : Array Operand) (ts : Array TypeId) (xs : List Opd) (h : op = .call { callee := .value (.func f), args := args, argTypes := ts }) (hx : cOpds P n ts.toList args.toList = some xs) : RowOp P n op (.callh f xs)
  | nrb (sz : Nat) (t : TypeId) (hs : slE P t = some sz) (h : op = .buildSlice t 0 #[]) : RowOp P n op (.nro sz)
  | mko (t e : TypeId) (l c : Operand) (sz : Nat) (z : List V) (l' c' : Opd) (h : op = .makeSlice t l c) (hs : slE P t = some sz) (hu : P.underlying t = some (.slice e)) (hz : zeroV P e = some z) (h1 : cOpd P n 0 l = some l') (h2 : cOpd P n 0 c = some c') : RowOp P n op (.mko sz z l' c')
  | appo (s x : Operand) (t tx : TypeId) (sz : Nat) (s' x' : Opd) (cl : Call) (h : op = .call cl) (hcl : cl.callee = .builtin .append) (ha : cl.args = #[s, x]) (ht : cl.argTypes = #[t, tx]) (hs : slE P t = some sz)
      (hk : (isSl P tx || isStr P tx) = true) (h1 : cOpd P n t s = some s') (h2 : cOpd P n tx x = some x') : RowOp P n op (.appo sz s' x')
  | cpy (d s : Operand) (t ts : TypeId) (d' s' : Opd) (cl : Call) (h : op = .call cl) (hcl : cl.callee = .builtin .copy) (ha : cl.args = #[d, s]) (ht : cl.argTypes = #[t, ts]) (hs : slE P t = some 1) (hk : isStr P ts = true) (h1 : cOpd P n t d = some d') (h2 : cOpd P n ts s = some s') : RowOp P n op (.cpy d' s')
  | clr (d : Operand) (t e : TypeId) (z : List V) (d' : Opd) (cl : Call) (h : op = .call cl) (hcl : cl.callee = .builtin .clear) (ha : cl.args = #[d]) (ht : cl.argTypes = #[t]) (hu : P.underlying t = some (.slice e)) (hz : zeroV P e = some z) (hl : z.length = 1) (h1 : cOpd P n t d = some d') : RowOp P n op (.clr z d')
theorem list2 {α : Type} {xs : Array α} {a b : α} (h : xs.toList = [a, b]) : xs = #[a, b] := by cases xs; simp at h; rw [h]
theorem list1 {α : Type} {xs : Array α} {a : α} (h : xs.toList = [a]) : xs = #[a] := by cases xs; simp at h; rw [h]
theorem cOpR_cases {P : Program} {R : TypeId -> Bool} {n : Nat} {ops : Array Oper} {o : Oper} {x : AOp} (h : cOpR P R n ops o = some x) : cOp P n ops o = some x \/ RowOp P n o.op x := by
  unfold cOpR at h
  split at h
  . rename_i y hop
    split at h
    . split at h
      . simp only [Option.map_eq_some_iff] at h
        obtain ⟨sz, _, rfl⟩ := h
        exact .inr (.nro sz (.inl hop))
      . exact .inl h
    . exact .inl h
  . rename_i y hop
    split at h
    . split at h
      . simp only [Option.map_eq_some_iff] at h
        obtain ⟨sz, _, rfl⟩ := h
        exact .inr (.nro sz (.inr hop))
      . exact .inl h
    . exact .inl h
  . rename_i f args ts hop
    split at h
    . simp only [Option.map_eq_some_iff] at h
      obtain ⟨xs, hxs, rfl⟩ := h
      exact .inr (.clo f args ts xs hop hxs)
    . exact .inl h
  . rename_i t hop
    split at h
    . simp only [Option.map_eq_some_iff] at h
      obtain ⟨sz, hsz, rfl⟩ := h
      exact .inr (.nrb sz t hsz hop)
    . exact .inl h
  . rename_i t l c hop
    split at h
    . simp only [Option.bind_eq_some_iff] at h
      obtain ⟨sz, hsz, h⟩ := h
      split at h
      . rename_i e hu
        simp only [Option.bind_eq_some_iff] at h
        obtain ⟨z, hz, h⟩ := h
        split at h
        . simp only [Option.bind_eq_some_iff, Option.map_eq_some_iff] at h
          obtain ⟨l', h1, c', h2, rfl⟩ := h
          exact .inr (.mko t e l c sz z l' c' hop hsz hu hz h1 h2)
        . cases h
      . cases h
    . exact .inl h
  . rename_i args ts hop
    split at h
    . rename_i s x t tx ha ht
      split at h
      . simp only [Option.bind_eq_some_iff] at h
        obtain ⟨sz, hsz, h⟩ := h
        split at h
        . rename_i hk
          simp only [Option.bind_eq_some_iff, Option.map_eq_some_iff] at h
          obtain ⟨s', h1, x', h2, rfl⟩ := h
          exact .inr (.appo s x t tx sz s' x' _ hop rfl (list2 ha) (list2 ht) hsz hk h1 h2)
        . cases h
      . exact .inl h
    . cases h
  . rename_i args ts hop
    split at h
    . rename_i d s t tx ha ht
      simp only [Option.bind_eq_some_iff] at h
      obtain ⟨sz, hsz, h⟩ := h
      split at h
      . rename_i hk
        obtain ⟨rfl, hk⟩ := hk
        simp only [Option.bind_eq_some_iff, Option.map_eq_some_iff] at h
        obtain ⟨d', h1, s', h2, rfl⟩ := h
        exact .inr (.cpy d s t tx d' s' _ hop rfl (list2 ha) (list2 ht) hsz hk h1 h2)
      . cases h
    . cases h
  . rename_i args ts hop
    split at h
    . rename_i d t ha ht
      split at h
      . rename_i e hu
        simp only [Option.bind_eq_some_iff] at h
        obtain ⟨z, hz, h⟩ := h
        split at h
        . rename_i hl
          simp only [Option.map_eq_some_iff] at h
          obtain ⟨d', h1, rfl⟩ := h
          exact .inr (.clr d t e z d' _ hop rfl (list1 ha) (list1 ht) hu hz hl h1)
        . cases h
      . cases h
    . cases h
  . exact .inl h
theorem fits_of {sz : Nat} {ys fs : List V} (h : vFlat sz ys = some fs) : (∀ y ∈ ys, y.cells.length = sz /\ ∀ c ∈ y.cells, c.sc = true) /\ fs = flat ys := by
  unfold vFlat at h
  split at h
  . rename_i hf
    cases h
    refine ⟨fun y hy => ?_, rfl⟩
    have := List.all_eq_true.1 hf y hy
    simp only [Bool.and_eq_true, beq_iff_eq] at this
    exact ⟨this.1, fun c hc => List.all_eq_true.1 this.2 c hc⟩
  . cases h
theorem flat_sc' {sz : Nat} {ys : List V} (h : ∀ y ∈ ys, y.cells.length = sz /\ ∀ c ∈ y.cells, c.sc = true) : ∀ c ∈ flat ys, c.sc = true := by
  intro c hc
  obtain ⟨y, hy, hc⟩ := List.mem_flatMap.1 hc
  exact (h y hy).2 c hc
theorem repP_app {W : World} {G : Nat -> Nat} {φ : Nat -> Option Nat} {cs fs : List V} {olds news : List Value} {more : Array Value} (ho : olds.length = cs.length) (hn : news.length = fs.length) (h1 : ∀ (j : Nat) (c : V), cs[j]? = some c -> ∃ y, olds[j]? = some y /\ Rep W G φ c y)
    (h2 : ∀ (j : Nat) (c : V), fs[j]? = some c -> ∃ y, news[j]? = some y /\ Rep W G φ c y) : RepP W G φ (cs ++ fs) ((olds ++ news).toArray ++ more) := by
  refine ⟨by simp; omega, fun i c x hc hx => ?_⟩
  have hx' : (olds ++ news ++ more.toList)[i]? = some x := by rw [<- Array.getElem?_toList] at hx; simpa using hx
  rw [List.append_assoc] at hx'
  rcases Nat.lt_or_ge i cs.length with hlt | hge
  . rw [List.getElem?_append_left hlt] at hc
    rw [List.getElem?_append_left (by omega)] at hx'
    obtain ⟨y, h3, h4⟩ := h1 i c hc
    rw [h3] at hx'; cases hx'; exact h4
  . rw [List.getElem?_append_right hge] at hc
    rw [List.getElem?_append_right (by omega), ho] at hx'
    obtain ⟨y, h3, h4⟩ := h2 _ c hc
    have hlt := (List.getElem?_eq_some_iff.1 hc).1
    rw [List.getElem?_append_left (by omega)] at hx'
    rw [h3] at hx'; cases hx'; exact h4
theorem appo_sound (h : SR w B GB g st a W) {P : Program} {sz : Nat} {s u v : V} {xs xu : Value} {t tx ty e : TypeId} {ie : TypeInfo} {z : Value} {st' : St}
    (ht : P.underlying t = some (.slice e)) (he : P.info? e = some ie) (hz : ie.zero = some z) (hsz : ie.size = sz) (hzs : z.cells.size = sz) (hby : ie.bytes <= 4096) (hk : (∃ e', P.underlying tx = some (.slice e')) \/ P.underlying tx = some .string)
    (hs : Rep W g.G g.φ s xs) (hu : Rep W g.G g.φ u xu) (hv : st.appOb sz s u = some (st', v)) :
    ∃ y W' g', (Builtin.append_ #[t, tx] ty #[xs, xu]).run P W = .ok y W' /\ SR w B GB g' st' a W' /\ Rep W' g'.G g'.φ v y := by
  subst hsz
  unfold St.appOb at hv
  split at hv
  rotate_left
  . cases hv
  rename_i id len cap s' ys htail
  split at hv
  rotate_left
  . cases hv
  rename_i cs fs hcs hfs
  split at hv
  rotate_left
  . cases hv
  rename_i hcond
  obtain ⟨rfl, hpos, hlen, hlim⟩ := hcond
  simp only [Option.some.injEq, Prod.mk.injEq] at hv
  obtain ⟨rfl, rfl⟩ := hv
  obtain ⟨news, hsrc, hfit, hnl, hnr⟩ := d_tail (P := P) h hk hu htail
  obtain ⟨_, rfl⟩ := fits_of hfs
  have hfl : (flat ys).length = ys.length * ie.size := flat_length fun y hy => (hfit y hy).1
  have hH : st.H id = some (.cells cs) := hCells_some hcs
  have hk0 := h.kill id
  have hscs : ∀ c ∈ cs.take (len * ie.size) ++ flat ys, c.sc = true := fun c hc => by
    rcases List.mem_append.1 hc with hc | hc
    . exact (h.ob id _ hH).sc c (List.mem_of_mem_take hc)
    . exact flat_sc' hfit c hc
  have htl : (cs.take (len * ie.size)).length = len * ie.size := by simp; omega
  have hfitsB : ∀ (l c : Nat), c < l + ys.length -> l = len -> Builtin.nextslicecap (l + ys.length) c * ie.bytes <= 281474976710656 := fun l c h1 h2 => growslice_fits h1 (by
    subst h2
    have : (l + ys.length) * ie.bytes <= 4294967296 * 4096 := Nat.mul_le_mul (by unfold Lim at hlim; omega) hby
    omega)
  cases hs with
  | osln _ _ _ p =>
    by_cases hy : ys = []
    . subst hy
      have hn0 : news = [] := by simpa using hnl
      subst hn0
      refine ⟨.slice p 0 0, W, g, ?_, ?_, ?_⟩
      . simp only [List.length_nil] at hsrc
        have h1 := hsrc.len
        have h2 := hsrc.cells
        cases p <;> rcases hk with ⟨e', hk⟩ | hk <;> simp [Builtin.append_, run_underlying ht, run_underlying hk, run_sizeOf' he, h1, h2, storeCells]
      . have e : cs.take (0 * ie.size) ++ flat [] = [] := by simp [flat]
        rw [e]; exact hk0.newNil
      . exact .osln _ _ _ _
    . have hpos : 0 < ys.length := List.length_pos_iff.2 hy
      have hrun := run_append_grow_src (P := P) W t tx ty e ie z ht he hz p 0 0 [] (by cases p with | none => exact run_firstCells_none W.drew _ _ _ _ | some a0 => exact run_firstCells_zero W.drew _ a0) xu ys.length news hsrc (by omega) (by unfold Lim at hlim; omega) (hfitsB 0 0 (by omega) rfl)
      obtain ⟨g', h1, h2⟩ := hk0.newObW (cs := cs.take (0 * ie.size) ++ flat ys) (below_drew_alloc W _) (by simp) (heap_new W _) (by
        rw [Nat.zero_mul, List.take_zero, List.nil_append]
        exact repP_app (W := W) (G := g.G) (φ := g.φ) (cs := []) (fs := flat ys) (olds := []) (news := news) (more := Builtin.zeroCells z.cells (grownCap W (0 + ys.length) 0 e - (0 + ys.length))) rfl (by rw [hnl, hfl]) (fun j c hj => by simp at hj) hnr) hscs
      have hcapG := grownCap_ge W (0 + ys.length) 0 e
      refine ⟨_, _, g', hrun, h1, .osl _ _ _ _ _ _ _ h2 (Nat.le_refl _) (by omega) ?_⟩
      rw [Nat.zero_add]
      unfold csz; rw [heap_new]
      simp only [Array.size_append, List.size_toArray, List.nil_append, hnl, size_zeroCells, hzs]
      rw [<- Nat.add_mul]
      exact Nat.mul_le_mul_right _ (by omega)
  | osl _ _ _ _ _ b cap' hφ hlc hc' hcz =>
    obtain ⟨ys0, t0, hblk, hrep, hsc0, _⟩ := (h.ob id _ hH).cells hφ
    have hcb : csz W b = ys0.size := by unfold csz; rw [hblk]
    have hdead : ∀ id', g.φ id' = some b -> (st.kill id).H id' = none := fun id' h' => by
      simp only [St.kill, upd]
      split
      . rfl
      . rename_i hne
        cases hH' : st.H id' with
        | none => rfl
        | some o => exact absurd (h.inj id' id b h' hφ (by rw [hH']; simp) (by rw [hH]; simp)) hne
    obtain ⟨hG0, how0⟩ := h.live id b hφ
    have hoverall : len * ie.size <= ys0.size := Nat.le_trans hlen hrep.1
    by_cases hroom : len + ys.length <= cap'
    . have hm1 : (len + ys.length) * ie.size <= cap' * ie.size := Nat.mul_le_mul_right _ hroom
      have hm2 : (len + ys.length) * ie.size = len * ie.size + ys.length * ie.size := Nat.add_mul _ _ _
      have hrun := run_append_room_src (P := P) W t tx ty e ie ht he b 0 len cap' xu ys.length news hsrc hroom
        (fun j hj => by rw [cell_of_row _ b _ ys0 t0 (0, 0) hblk]; simp; omega) (fun j hj => by simp [World.frozen?, hblk])
      obtain ⟨s1, s2, s3, s4⟩ := setCells_same b news (0 + len * ie.size) W
      have hrow := setCells_row (o := 0 + len * ie.size) (vs := news) hblk (by omega)
      obtain ⟨g', h1, h2⟩ := hk0.rebind hφ hdead hG0 how0 hblk hrow (by simp; rw [setL_length _ _ _ (by simp; omega)]; simp) (fun k hk => setCells_far b _ _ _ _ hk) ⟨s1, s2, s3, s4⟩ (cs := cs.take (len * ie.size) ++ flat ys) (by
        refine ⟨by simp; rw [setL_length _ _ _ (by simp; omega)]; simp; omega, fun i c x hc hx => ?_⟩
        simp only [List.getElem?_toArray] at hx
        rw [setL_get _ _ _ (by simp; omega), Nat.zero_add] at hx
        rcases Nat.lt_or_ge i (len * ie.size) with hlt | hge
        . rw [List.getElem?_append_left (by omega), List.getElem?_take_of_lt hlt] at hc
          rw [if_neg (by omega)] at hx
          exact hrep.2 i c x hc (by simpa using hx)
        . rw [List.getElem?_append_right (by omega), htl] at hc
          have hli := (List.getElem?_eq_some_iff.1 hc).1
          rw [if_pos (by omega)] at hx
          obtain ⟨y, h3, h4⟩ := hnr _ c hc
          rw [h3] at hx; cases hx; exact h4) hscs
      refine ⟨_, _, g', hrun, h1, .osl _ _ _ _ _ _ _ h2 (Nat.le_refl _) hroom ?_⟩
      rw [csz_setCells hblk]; exact hcz
    . have holds : ∃ olds : List Value, olds.length = len * ie.size /\ (∀ j u, olds[j]? = some u -> W.cell? ((⟨b, 0, none⟩ : Addr).add j) = some u) /\ ∀ (j : Nat) (c : V), (cs.take (len * ie.size))[j]? = some c -> ∃ y, olds[j]? = some y /\ Rep W g.G g.φ c y := by
        refine ⟨ys0.toList.take (len * ie.size), by simp; omega, fun j u hu => ?_, fun j c hc => ?_⟩
        . have hj := (List.getElem?_eq_some_iff.1 hu).1
          simp only [List.length_take, Array.length_toList] at hj
          rw [List.getElem?_take_of_lt (by omega)] at hu
          rw [addr_add, Nat.zero_add, cell_of_row _ b _ ys0 t0 (0, 0) hblk]; simpa using hu
        . have hj := (List.getElem?_eq_some_iff.1 hc).1
          rw [htl] at hj
          rw [List.getElem?_take_of_lt hj] at hc
          exact ⟨ys0[j]'(by omega), by rw [List.getElem?_take_of_lt hj]; simp, hrep.2 j c _ hc (Array.getElem?_eq_getElem (by omega))⟩
      obtain ⟨olds, hol, holc, hor⟩ := holds
      have hrun := run_append_grow_src (P := P) W t tx ty e ie z ht he hz (some ⟨b, 0, none⟩) len cap' olds (run_firstCells_some W.drew ie.size _ _ _ _ olds hol (by simpa using holc)) xu ys.length news hsrc (by omega) (by unfold Lim at hlim; omega) (hfitsB len cap' (by omega) rfl)
      obtain ⟨g', h1, h2⟩ := hk0.newObW (cs := cs.take (len * ie.size) ++ flat ys) (below_drew_alloc W _) (by simp) (heap_new W _) (by
        exact repP_app (W := W) (G := g.G) (φ := g.φ) (more := Builtin.zeroCells z.cells (grownCap W (len + ys.length) cap' e - (len + ys.length))) (by rw [hol, htl]) (by rw [hnl, hfl]) hor hnr) hscs
      have hcapG := grownCap_ge W (len + ys.length) cap' e
      refine ⟨_, _, g', hrun, h1, .osl _ _ _ _ _ _ _ h2 (Nat.le_refl _) (by omega) ?_⟩
      rw [Nat.zero_add]
      unfold csz; rw [heap_new]
      simp only [Array.size_append, List.size_toArray, List.length_append, hol, hnl, size_zeroCells, hzs]
      rw [<- Nat.add_mul, <- Nat.add_mul]
      exact Nat.mul_le_mul_right _ (by omega)
theorem SR.setOb' (h : SR w B GB g st a W) {id b off : Nat} {cs ys : List V} {zs : Array Value} (hH : st.H id = some (.cells cs)) (hφ : g.φ id = some b) (hle : off + ys.length <= cs.length)
    (hr : RepL W g.G g.φ ys zs) (hsc : ∀ c ∈ ys, c.sc = true) : SR w B GB g (st.setOb id cs off ys) a (W.setCells b off zs.toList) := by
  refine SR.setObj (own' := (st.setOb id cs off ys).own) h hH hφ hle hr hsc fun p hp2 => .inr ?_
  cases p with
  | slot t => exact ⟨hp2, fun j e => by cases e⟩
  | cell i' j =>
    simp only [St.setOb] at hp2
    split at hp2
    . cases hp2
    . rename_i hne
      refine ⟨hp2, fun j' e => ?_⟩
      simp only [Pos.cell.injEq] at e
      obtain ⟨rfl, rfl⟩ := e
      omega
theorem zero_one {P : Program} {e : TypeId} {ie : TypeInfo} {z : Value} {zv : V} {W : World} {G : Nat -> Nat} {φ : Nat -> Option Nat} (he : P.info? e = some ie) (hz : ie.zero = some z) (h : zeroV P e = some [zv]) : ∃ x, z.cells = #[x] /\ Rep W G φ zv x /\ zv.sc = true := by
  unfold zeroV at h
  rw [he] at h
  simp only [hz] at h
  obtain ⟨h1, h2⟩ := rep_cVs (W := W) (G := G) (φ := φ) h
  have hl : z.cells.size = 1 := by have := h1.1; simpa using this.symm
  refine ⟨z.cells[0], ?_, h1.2 0 zv _ rfl (by simp), h2 zv (by simp)⟩
  apply Array.ext'
  apply List.ext_getElem?
  intro j
  cases j with
  | zero => simp
  | succ j => simp; omega
theorem repP_rep {W : World} {G : Nat -> Nat} {φ : Nat -> Option Nat} {v : V} {x : Value} (h : Rep W G φ v x) {n : Nat} {xs : Array Value} (hn : n <= xs.size) (hx : ∀ (i : Nat) (y : Value), xs[i]? = some y -> y = x) : RepP W G φ (List.replicate n v) xs := by
  refine ⟨by simpa using hn, fun i c y hc hy => ?_⟩
  rw [hx i y hy, (List.mem_replicate.1 (List.mem_of_getElem? hc)).2]; exact h
theorem mko_sound (h : SR w B GB g st a W) {P : Program} {sz : Nat} {zero : List V} {l c v : V} {xl xc : Value} {t e : TypeId} {ie : TypeInfo} {z : Value} {st' : St}
    (ht : P.underlying t = some (.slice e)) (he : P.info? e = some ie) (hz : ie.zero = some z) (hsz : ie.size = sz) (hby : ie.bytes <= 4096) (hzv : zeroV P e = some zero)
    (hl : Rep W g.G g.φ l xl) (hc : Rep W g.G g.φ c xc) (hv : st.mkOb sz zero l c = some (st', v)) :
    ∃ y W' g', (Instr.makeSlice t xl xc).run P W = .ok y W' /\ SR w B GB g' st' a W' /\ Rep W' g'.G g'.φ v y := by
  subst hsz
  unfold St.mkOb at hv
  split at hv
  rotate_left
  . cases hv
  rename_i kl n kc m
  split at hv
  rotate_left
  . cases hv
  rename_i zv
  split at hv
  rotate_left
  . cases hv
  rename_i hcond
  obtain ⟨h0, hnm, hlim, hs1, hsc⟩ := hcond
  simp only [Option.some.injEq, Prod.mk.injEq] at hv
  obtain ⟨rfl, rfl⟩ := hv
  cases hl; cases hc
  obtain ⟨x, hzc, hrz, _⟩ := zero_one (W := W) (G := g.G) (φ := g.φ) he hz hzv
  have hbig : (ie.bytes : Int) * m <= 281474976710656 := by
    unfold Lim at hlim
    obtain ⟨k, rfl⟩ : ∃ k : Nat, m = k := ⟨m.toNat, by omega⟩
    have h1 : ie.bytes * k <= 4096 * 4294967296 := Nat.mul_le_mul hby (by omega)
    have h2 : ((ie.bytes * k : Nat) : Int) = (ie.bytes : Int) * (k : Int) := Int.natCast_mul _ _
    omega
  have hrun := run_make (P := P) W t e ie z ht he hz kl kc n m h0 hnm hbig (by unfold Lim at hlim; omega)
  obtain ⟨g', h1, h2⟩ := h.newObW (cs := List.replicate n.toNat zv) (below_alloc' W (.cells (madeCells z.cells (m.toNat * ie.size)) e)) (by simp) (heap_alloc_new _ _) (repP_rep hrz (by rw [size_madeCells, hs1]; omega) (fun i y hy => by
    have hi := (Array.getElem?_eq_some_iff.1 hy).1
    rw [size_madeCells] at hi
    simp only [madeCells, hzc, List.size_toArray, List.length_cons, List.length_nil, Nat.zero_add, Nat.mod_one] at hy
    simp [hi] at hy
    exact hy.symm)) (fun c hc => by rw [(List.mem_replicate.1 hc).2]; exact hsc)
  refine ⟨_, _, g', hrun, h1, .osl _ _ _ _ _ _ _ h2 (Nat.le_refl _) (by omega) ?_⟩
  unfold csz; rw [heap_alloc_new]
  simp only [size_madeCells, hs1]; omega
theorem cpy_sound (h : SR w B GB g st a W) {P : Program} {d s v : V} {xd xs : Value} {t ts ty e : TypeId} {ie : TypeInfo} {st' : St}
    (ht : P.underlying t = some (.slice e)) (he : P.info? e = some ie) (hsz : ie.size = 1) (hd : Rep W g.G g.φ d xd) (hs : Rep W g.G g.φ s xs) (hv : st.cpyOb d s = some (st', v)) :
    ∃ y W', (Builtin.copy_ #[t, ts] ty #[xd, xs]).run P W = .ok y W' /\ SR w B GB g st' a W' /\ Rep W' g.G g.φ v y := by
  unfold St.cpyOb at hv
  split at hv
  rotate_left
  . cases hv
  rename_i id off len cap ys hsrc
  split at hv
  rotate_left
  . cases hv
  rename_i cs hcs
  split at hv
  rotate_left
  . cases hv
  rename_i hcond
  obtain ⟨hle, hpos⟩ := hcond
  simp only [Option.some.injEq, Prod.mk.injEq] at hv
  obtain ⟨rfl, rfl⟩ := hv
  cases hs <;> simp only [vSrc, reduceCtorEq, Option.some.injEq] at hsrc
  subst hsrc
  rename_i bs s' hb
  cases hd with
  | osln _ _ _ _ => omega
  | osl _ _ _ _ _ b cap' hφ hlc hc' hcz =>
    have hH : st.H id = some (.cells cs) := hCells_some hcs
    obtain ⟨ys0, t0, hblk, hrep, hsc0, _⟩ := (h.ob id _ hH).cells hφ
    have hs' : s'.size = bs.length := by rw [<- hb]; rfl
    have hel : (encB bs).length = bs.length := by simp [encB]
    obtain ⟨k, hk⟩ : ∃ k, k = Nat.min s'.size len := ⟨_, rfl⟩
    have hk2 : k <= bs.length /\ k <= len /\ (k = bs.length \/ k = len) := by
      rw [hk, hs']
      have := Nat.min_def (m := len) (n := bs.length)
      show min bs.length len <= _ /\ min bs.length len <= _ /\ (min bs.length len = _ \/ min bs.length len = _)
      omega
    have htk : (encB bs).take len = encB (bs.take k) := by
      simp only [encB, <- List.map_take]
      congr 1
      rcases hk2.2.2 with e | e
      . rw [e, List.take_of_length_le (by omega : bs.length <= len), List.take_of_length_le (Nat.le_refl _)]
      . rw [e]
    have hnews : ((s'.extract 0 k).data.map fun b => Value.int .u8 b.toNat) = ((bs.take k).map fun b => Value.int .u8 (b.toNat : Int)).toArray := by
      rw [<- hb]
      apply Array.ext'
      simp
    have hrl : RepL W g.G g.φ (encB (bs.take k)) ((bs.take k).map fun b => Value.int .u8 (b.toNat : Int)).toArray := by
      refine ⟨by simp [encB], fun i c x hc hx => ?_⟩
      simp only [encB, List.getElem?_map, Option.map_eq_some_iff] at hc
      simp only [List.getElem?_toArray, List.getElem?_map, Option.map_eq_some_iff] at hx
      obtain ⟨u, hu, rfl⟩ := hc
      obtain ⟨u', hu', rfl⟩ := hx
      rw [hu] at hu'; cases hu'
      exact .int _ _
    have hle2 : off + (encB (bs.take k)).length <= cs.length := by simp [encB]; omega
    have hstore := run_storeCells_cells (P := P) b off ((bs.take k).map fun b => Value.int .u8 (b.toNat : Int)) 0 W (fun j hj => by
        simp only [List.length_map, List.length_take] at hj
        rw [cell_of_row _ b _ ys0 t0 (0, 0) hblk]
        have := hrep.1
        simp; omega) (fun j hj => by simp [World.frozen?, hblk]) (fun y hy => by
        obtain ⟨_, _, rfl⟩ := List.mem_map.1 hy; rfl)
    rw [Nat.add_zero] at hstore
    rw [htk]
    refine ⟨.int .i64 (k : Int), _, ?_, h.setOb' hH hφ hle2 hrl (fun c hc => ?_), ?_⟩
    . subst hb
      rw [List.map_take] at hstore
      simp [Builtin.copy_, run_underlying ht, Builtin.lenOf, run_sizeOf' he, hsz, Builtin.firstCells, <- hk, hstore, goInt]
    . obtain ⟨_, _, rfl⟩ := List.mem_map.1 hc; rfl
    . have : (min ((encB bs).length : Int) (len : Int)) = (k : Int) := by rw [hel]; omega
      rw [this]; exact .int _ _
theorem clr_sound (h : SR w B GB g st a W) {P : Program} {d zv : V} {xd : Value} {t ty e : TypeId} {ie : TypeInfo} {z : Value} {st' : St}
    (ht : P.underlying t = some (.slice e)) (he : P.info? e = some ie) (hz : ie.zero = some z) (hzv : zeroV P e = some [zv]) (hd : Rep W g.G g.φ d xd) (hv : st.clrOb [zv] d = some st') :
    ∃ W', (Builtin.clear_ #[t] ty #[xd]).run P W = .ok undef W' /\ SR w B GB g st' a W' := by
  unfold St.clrOb at hv
  split at hv
  rotate_left
  . cases hv
  rename_i id off len cap z1 hz1
  cases hz1
  split at hv
  rotate_left
  . cases hv
  rename_i cs hcs
  split at hv
  rotate_left
  . cases hv
  rename_i hcond
  obtain ⟨hle, hpos, hsc⟩ := hcond
  simp only [Option.some.injEq] at hv
  subst hv
  cases hd with
  | osln _ _ _ _ => omega
  | osl _ _ _ _ _ b cap' hφ hlc hc' hcz =>
    have hH : st.H id = some (.cells cs) := hCells_some hcs
    obtain ⟨ys0, t0, hblk, hrep, hsc0, _⟩ := (h.ob id _ hH).cells hφ
    obtain ⟨x, hzc, hrz, hzs⟩ := zero_one (W := W) (G := g.G) (φ := g.φ) he hz hzv
    obtain ⟨news, hn⟩ : ∃ news, news = Builtin.zeroCells z.cells len := ⟨_, rfl⟩
    have hns : news.size = len := by rw [hn, size_zeroCells, hzc]; simp
    have hnx : ∀ (i : Nat) (y : Value), news[i]? = some y -> y = x := fun i y hy => by
      have hi := (Array.getElem?_eq_some_iff.1 hy).1
      rw [hns] at hi
      rw [hn] at hy
      simp only [Builtin.zeroCells, hzc, List.size_toArray, List.length_cons, List.length_nil, Nat.zero_add, Nat.mod_one, Nat.mul_one] at hy
      simp [hi] at hy
      exact hy.symm
    have hrl : RepL W g.G g.φ (List.replicate len zv) news := ⟨by simp [hns], (repP_rep hrz (by omega) hnx).2⟩
    have hstore := run_storeCells_cells (P := P) b off news.toList 0 W (fun j hj => by
        simp only [Array.length_toList] at hj
        rw [cell_of_row _ b _ ys0 t0 (0, 0) hblk]
        have := hrep.1
        simp; omega) (fun j hj => by simp [World.frozen?, hblk]) (fun y hy => by
        obtain ⟨i, hi⟩ := List.getElem?_of_mem hy
        rw [hnx i y (by simpa using hi)]
        exact hrz.one hzs)
    rw [Nat.add_zero] at hstore
    obtain ⟨n, rfl⟩ : ∃ n, len = n + 1 := ⟨len - 1, by omega⟩
    refine ⟨_, ?_, h.setOb' hH hφ (by simpa using hle) hrl (fun c hc => by rw [(List.mem_replicate.1 hc).2]; exact hsc)⟩
    simp [Builtin.clear_, run_underlying ht, zeroValue, run_typeInfo he, hz, <- hn, hstore]
    rfl
theorem exec1_soundR (hs : Scope cx w B GB) (hΓ : Sound cx Γ) (h : SR w B GB g st a W) {n : Nat} (hn : a.tmps.size = n) {R : TypeId -> Bool} {ops : Array Oper} {o : Oper} {ao : AOper} (hc : cOpR cx.P R n ops o = some ao.op) (hd : ao.dst = o.dst) {st' : St}
    (he : exec1 Γ cx.gl ao st = some st') {next : Act -> World -> Prop} {Q : Exit -> Act -> World -> Prop} (hnext : ∀ g' a' W', SR w B GB g' st' a' W' -> a'.tmps.size = n -> next a' W') : o.wp cx.P a W next Q := by
  rcases cOpR_cases hc with hc | hrow
  . exact exec1_sound hs hΓ h hn hc hd he hnext
  . obtain ⟨d, op, gd, af⟩ := ao
    simp only at hd hrow; subst hd
    obtain ⟨dst, oop, ty, pos, after, guard⟩ := o
    simp only at hrow he hnext ⊢
    cases hrow with
    | nro sz hop =>
      simp only [exec1, Option.some.injEq] at he
      subst he
      refine wp_value' (y := .slice none 0 0) (by rcases hop with rfl | rfl <;> rfl) (hnext g _ _ ((h.newNil).put dst _ false _ (.osln _ _ _ _) (fun _ _ h => by cases h)) (by rw [put_size]; exact hn))
    | clo f args ts xs ho hxs =>
      simp only [exec1, St.doCall, Option.map_eq_some_iff] at he
      obtain ⟨r0, hr0, rfl⟩ := he
      obtain ⟨hl, hr⟩ := cOpds_rep h hn hxs
      have hL : RepL W g.G g.φ (xs.map (evO st.tm)) (args.map a.eval) := ⟨by simp [hl], fun i c x hc hx => hr i c x hc (by simpa using hx)⟩
      obtain ⟨e1, e2⟩ := callh_sound hs h (hΓ.h _ _ _ _ hr0) hL dst
      refine wp_call (f := f) (xs := args.map a.eval) ?_ e2 fun y W' ⟨g', hsr⟩ => hnext g' _ _ hsr (by rw [put_size]; exact hn)
      simpa [execOp, ho, resolve, Deferred.ofValue, invoke, Act.eval] using e1
    | nrb sz t hsz hop =>
      subst hop
      simp only [exec1, Option.some.injEq] at he
      subst he
      obtain ⟨e', ie, zz, hu', hi, hzz, hzs, hby, his⟩ := slE_spec hsz
      obtain ⟨y, W', g', hrun, hadv, _, _⟩ := d_bsl h (P := cx.P) (sz := sz) (xs := []) (ys := []) (q := .slot 0) hu' hi hzz his (by rw [hzs]; exact his) (by simp) rfl (fun i c x hc => by simp at hc) rfl
      have hrun2 : (Instr.buildSlice t 0 #[]).run cx.P W = .ok (.slice (some ⟨W.heap.size, 0, none⟩) 0 0) (W.alloc (.cells #[] e')) := by
        simp [Instr.buildSlice, run_underlying hu', run_sizeOf' hi, newRow, Instr.fill]
        congr 2
        apply Array.ext'; simp
      have hrun3 : (Instr.buildSlice t 0 #[]).run cx.P W = .ok y W' := by simpa using hrun
      rw [hrun2] at hrun3
      simp only [Result.ok.injEq] at hrun3
      obtain ⟨rfl, rfl⟩ := hrun3
      have hsr : SR w B GB g' st a (W.alloc (.cells #[] e')) := by have := h.adv hadv; simpa [St.take] using this
      exact wp_value rfl (show (Instr.buildSlice t 0 _).run cx.P W = _ by simpa using hrun2) (hnext g' _ _ ((hsr.newNil).put dst _ false _ (.osln _ _ _ _) (fun _ _ h => by cases h)) (by rw [put_size]; exact hn))
    | mko t e l c sz z l' c' hop hsz hu hz h1 h2 =>
      subst hop
      simp only [exec1, Option.map_eq_some_iff] at he
      obtain ⟨⟨s1, v⟩, he, rfl⟩ := he
      obtain ⟨e', ie, zz, hu', hi, hzz, hzs, hby, his⟩ := slE_spec hsz
      rw [hu] at hu'; cases hu'
      obtain ⟨y, W', g', hrun, hsr, hrep⟩ := mko_sound h hu hi hzz his hby hz (cOpd_rep h hn h1) (cOpd_rep h hn h2) he
      exact wp_value rfl hrun (hnext g' _ _ (hsr.put dst v false y hrep (fun _ _ h => by cases h)) (by rw [put_size]; exact hn))
    | appo s x t tx sz s' x' cl hop hcl ha hts hsz hk h1 h2 =>
      subst hop
      obtain ⟨callee, args, argTypes⟩ := cl
      simp only at hcl ha hts; subst hcl; subst ha; subst hts
      simp only [exec1, Option.map_eq_some_iff] at he
      obtain ⟨⟨s1, v⟩, he, rfl⟩ := he
      obtain ⟨e, ie, z, hu, hi, hz, hzs, hby, his⟩ := slE_spec hsz
      have hk' : (∃ e', cx.P.underlying tx = some (.slice e')) \/ cx.P.underlying tx = some .string := by
        simp only [Bool.or_eq_true] at hk
        rcases hk with hk | hk
        . left; unfold isSl at hk; split at hk
          . rename_i e' he'; exact ⟨e', he'⟩
          . simp at hk
        . right; unfold isStr at hk; split at hk
          . assumption
          . simp at hk
      obtain ⟨y, W', g', hrun, hsr, hrep⟩ := appo_sound (ty := ty) h hu hi hz his (by rw [hzs]; exact his) hby hk' (cOpd_rep h hn h1) (cOpd_rep h hn h2) he
      refine wp_value' ?_ (hnext g' _ _ (hsr.put dst v false y hrep (fun _ _ h => by cases h)) (by rw [put_size]; exact hn))
      simp only [execOp, resolve, invoke, builtin, Sem.run_bind, Sem.run_pure, Result.andThen_ok]
      simp [hrun]
    | cpy dd s t ts d' s' cl hop hcl ha hts hsz hk h1 h2 =>
      subst hop
      obtain ⟨callee, args, argTypes⟩ := cl
      simp only at hcl ha hts; subst hcl; subst ha; subst hts
      simp only [exec1, Option.map_eq_some_iff] at he
      obtain ⟨⟨s1, v⟩, he, rfl⟩ := he
      obtain ⟨e, ie, z, hu, hi, hz, hzs, hby, his⟩ := slE_spec hsz
      obtain ⟨y, W', hrun, hsr, hrep⟩ := cpy_sound (ts := ts) (ty := ty) h hu hi his (cOpd_rep h hn h1) (cOpd_rep h hn h2) he
      refine wp_value' ?_ (hnext g _ _ (hsr.put dst v false y hrep (fun _ _ h => by cases h)) (by rw [put_size]; exact hn))
      simp only [execOp, resolve, invoke, builtin, Sem.run_bind, Sem.run_pure, Result.andThen_ok]
      simp [hrun]
    | clr dd t e z d' cl hop hcl ha hts hu hz hl h1 =>
      subst hop
      obtain ⟨callee, args, argTypes⟩ := cl
      simp only at hcl ha hts; subst hcl; subst ha; subst hts
      simp only [exec1, Option.map_eq_some_iff] at he
      obtain ⟨s1, he, rfl⟩ := he
      match z, hl with
      | [zv], _ =>
      have hz0 := hz
      unfold zeroV at hz0
      split at hz0
      . rename_i ie hi
        split at hz0
        . rename_i zz hzz
          obtain ⟨W', hrun, hsr⟩ := clr_sound (ty := ty) h hu hi hzz hz (cOpd_rep h hn h1) he
          refine wp_value' ?_ (hnext g _ _ (hsr.putNil dst) (by rw [put_size]; exact hn))
          simp only [execOp, resolve, invoke, builtin, Sem.run_bind, Sem.run_pure, Result.andThen_ok]
          simp [hrun]
        . cases hz0
      . cases hz0
end Go.Abs
namespace Go.Abs
open Go.RowKit
def cGuard (n : Nat) (ops : Array Oper) : Option (Nat × Bool) -> Option (Option (Nat × Bool))
  | none => some none
  | some (j, wt) => match (ops[j]?).bind (·.dst) with
    | some s => if s < n then some (some (s, wt)) else none
    | none => none
def afters (o : Oper) : List Nat := (o.after.toList.filter (Region.binds .any)).map (·.on)
def cOper (P : Program) (R : TypeId -> Bool) (n : Nat) (ops : Array Oper) (o : Oper) : Option AOper :=
  (cOpR P R n ops o).bind fun ao => (cGuard n ops o.guard).map fun gd => ⟨o.dst, ao, gd, afters o⟩
def cOpers (P : Program) (R : TypeId -> Bool) (n : Nat) (ops : Array Oper) : List Oper -> Option (List AOper)
  | [] => some []
  | o :: r => (cOper P R n ops o).bind fun a => (cOpers P R n ops r).map (a :: ·)
variable {cx : Cx} {w : World} {B : Nat -> Prop} {GB : Gh} {g : Gh} {st : St} {a : Act} {W : World} {Γ : Spec} {R : TypeId -> Bool}
theorem cOpers_get {P : Program} {R : TypeId -> Bool} {n : Nat} {ops : Array Oper} : ∀ {os : List Oper} {aos : List AOper}, cOpers P R n ops os = some aos -> aos.length = os.length /\ ∀ (i : Nat) (o : Oper), os[i]? = some o -> ∃ x, aos[i]? = some x /\ cOper P R n ops o = some x
  | [], aos, h => by simp [cOpers] at h; subst h; exact ⟨rfl, fun i o hi => by simp at hi⟩
  | o :: r, aos, h => by
    simp only [cOpers, Option.bind_eq_some_iff, Option.map_eq_some_iff] at h
    obtain ⟨x, h1, xs, h2, rfl⟩ := h
    obtain ⟨h3, h4⟩ := cOpers_get h2
    refine ⟨by simp [h3], fun i o' hi => ?_⟩
    cases i with
    | zero => simp at hi; subst hi; exact ⟨x, rfl, h1⟩
    | succ i => simpa using h4 i o' (by simpa using hi)
theorem wants_eq (h : SR w B GB g st a W) {n : Nat} (hn : a.tmps.size = n) {ops : Array Oper} {o : Oper} {x : AOper} (hc : cOper cx.P R n ops o = some x) : Region.wanted o (yielded ops a.tmps) = st.wants x := by
  simp only [cOper, Option.bind_eq_some_iff, Option.map_eq_some_iff] at hc
  obtain ⟨ao, _, gd, hg, rfl⟩ := hc
  unfold cGuard at hg
  unfold Region.wanted St.wants
  split at hg
  . rename_i he
    simp only [Option.some.injEq] at hg; subst hg
    rw [he]
  . rename_i j wt he
    rw [he]
    split at hg
    . rename_i s hs
      split at hg
      . rename_i hlt
        simp only [Option.some.injEq] at hg; subst hg
        simp only [yielded, hs, Option.bind_some]
        obtain ⟨y, hx⟩ : ∃ y, a.tmps[s]? = some y := ⟨_, Array.getElem?_eq_getElem (show s < a.tmps.size by rw [hn]; exact hlt)⟩
        have hr := h.tm s _ hx
        rw [hx]
        generalize st.tm s = v at hr
        cases hr <;> simp
      . simp at hg
    . simp at hg
theorem exec_wpOp (hs : Scope cx w B GB) (hΓ : Sound cx Γ) (h : SR w B GB g st a W) {n : Nat} (hn : a.tmps.size = n) {ops : Array Oper} {i : Nat} {o : Oper} {x : AOper} (ho : ops[i]? = some o) (hc : cOper cx.P R n ops o = some x) {st' : St}
    (he : exec Γ cx.gl x st = some st') {K : Act -> World -> Prop} {Q : Exit -> Act -> World -> Prop} (hnext : ∀ g' a' W', SR w B GB g' st' a' W' -> a'.tmps.size = n -> K a' W') : wpOp cx.P ops Q i K a W := by
  unfold wpOp
  simp only [ho]
  have hw := wants_eq h hn hc
  have hc' := hc
  simp only [cOper, Option.bind_eq_some_iff, Option.map_eq_some_iff] at hc'
  obtain ⟨ao, h1, gd, _, rfl⟩ := hc'
  rw [hw]
  unfold exec at he
  split at he
  . rename_i hwt
    rw [if_pos hwt]
    exact .inl (exec1_soundR hs hΓ h hn (ao := ⟨o.dst, ao, gd, afters o⟩) h1 rfl he hnext)
  . rename_i hwt
    rw [if_neg hwt]
    simp only [Option.some.injEq] at he
    subst he
    exact hnext g _ _ (h.putNil o.dst) (by rw [put_size]; exact hn)
theorem execs_wpOps (hs : Scope cx w B GB) (hΓ : Sound cx Γ) {n : Nat} {ops : Array Oper} {aos : List AOper} (hc : cOpers cx.P R n ops ops.toList = some aos) {Q : Exit -> Act -> World -> Prop} {st' : St}
    (hnext : ∀ g' a' W', SR w B GB g' st' a' W' -> a'.tmps.size = n -> Q .normal a' W') : ∀ (m k : Nat) (g : Gh) (st : St) (a : Act) (W : World), k + m = ops.size -> SR w B GB g st a W -> a.tmps.size = n -> execs Γ cx.gl (aos.drop k) st = some st' ->
    wpOps cx.P ops Q (List.range' k m) a W := by
  obtain ⟨hl, hget⟩ := cOpers_get hc
  intro m
  induction m with
  | zero =>
    intro k g st a W hk h hn he
    have : aos.drop k = [] := List.drop_eq_nil_of_le (by rw [hl]; simp; omega)
    rw [this] at he
    simp only [execs, Option.some.injEq] at he
    subst he
    exact hnext g a W h hn
  | succ m ih =>
    intro k g st a W hk h hn he
    have hlt : k < ops.size := by omega
    obtain ⟨x, hx, hcx⟩ := hget k ops[k] (by simp [hlt])
    have hxl : k < aos.length := (List.getElem?_eq_some_iff.1 hx).1
    have hd : aos.drop k = x :: aos.drop (k + 1) := by
      rw [List.drop_eq_getElem_cons hxl]
      congr 1
      have := List.getElem?_eq_getElem hxl
      rw [hx] at this; exact (Option.some.inj this).symm
    rw [hd] at he
    simp only [execs] at he
    split at he
    . rename_i st1 he1
      rw [List.range'_succ, wpOps_cons]
      exact exec_wpOp hs hΓ h hn (Array.getElem?_eq_getElem hlt) hcx he1 fun g' a' W' h' hn' => ih (k + 1) g' st1 a' W' (by omega) h' hn' he
    . simp at he
def opdR : Opd -> List Nat
  | .tmp t => [t]
  | .const _ => []
def opdsR (xs : List Opd) : List Nat := xs.flatMap opdR
def optR : Option Opd -> List Nat
  | some x => opdR x
  | none => []
def AOp.reads : AOp -> List Nat
  | .mv x | .ext x _ | .un _ x | .len _ x | .faddr _ x | .load _ x | .ldp _ x | .ldo x | .fld _ _ x | .s2b x | .b2s x | .i2i _ x | .s2s x | .s2a _ x | .nilck x | .box x => opdR x
  | .mvo t => [t]
  | .pick c x y => opdR c ++ opdR x ++ opdR y
  | .bin _ _ x y | .mnx _ x y | .iaddr _ x y | .iarr _ _ x y | .idx x y | .idxa _ _ _ x y | .app _ x y | .mks _ _ x y => opdR x ++ opdR y
  | .sls x lo hi => opdR x ++ optR lo ++ optR hi
  | .slc _ x lo hi mx | .slca _ _ x lo hi mx => opdR x ++ optR lo ++ optR hi ++ optR mx
  | .build _ ps => ps.flatMap fun p => opdR p.2.2
  | .bsl _ xs | .call _ xs | .mkf _ xs | .mkm _ xs | .callh _ xs => opdsR xs
  | .callv f xs | .callvh f xs => opdR f ++ opdsR xs
  | .new _ | .nro _ => []
  | .mko _ _ x y | .appo _ x y | .cpy x y => opdR x ++ opdR y
  | .clr _ x => opdR x
  | .store _ x y => opdR x ++ opdR y
  | .sto x t => opdR x ++ [t]
def AOp.owns : AOp -> List Nat
  | .mvo t => [t]
  | .app _ x _ => opdR x
  | _ => []
def AOp.isLdo : AOp -> Bool
  | .ldo _ => true
  | _ => false
def AOp.isNew : AOp -> Bool
  | .new _ | .box _ => true
  | _ => false
def AOp.isStore : AOp -> Bool
  | .store _ _ _ | .sto _ _ | .callh _ _ | .callvh _ _ | .nro _ | .mko _ _ _ _ | .appo _ _ _ | .cpy _ _ | .clr _ _ => true
  | _ => false
theorem evO_congr {tm tm' : Nat -> V} {x : Opd} (h : ∀ t ∈ opdR x, tm t = tm' t) : evO tm x = evO tm' x := by
  cases x with
  | tmp t => exact h t (by simp [opdR])
  | const v => rfl
theorem evOs_congr {tm tm' : Nat -> V} {xs : List Opd} (h : ∀ t ∈ opdsR xs, tm t = tm' t) : xs.map (evO tm) = xs.map (evO tm') := by
  apply List.map_congr_left
  intro x hx
  exact evO_congr fun t ht => h t (List.mem_flatMap.2 ⟨x, hx, ht⟩)
theorem evOo_congr {tm tm' : Nat -> V} {x : Option Opd} (h : ∀ t ∈ optR x, tm t = tm' t) : x.map (evO tm) = x.map (evO tm') := by
  cases x with
  | none => rfl
  | some x => simp only [Option.map_some]; rw [evO_congr h]
theorem peval_congr {gl : Nat -> Option (List V)} {H : Hp} {own own' : Pos -> Bool} {tm tm' : Nat -> V} {ao : AOp} (h : ∀ t ∈ ao.reads, tm t = tm' t) (ho : ∀ t ∈ ao.owns, own (.slot t) = own' (.slot t)) (hl : ao.isLdo = true -> ∀ id j, own (.cell id j) = own' (.cell id j)) :
    peval Γ gl H own tm ao = peval Γ gl H own' tm' ao := by
  cases ao <;> simp only [AOp.reads, AOp.owns, AOp.isLdo] at h ho hl <;> simp only [peval]
  case mv x => rw [evO_congr h]
  case mvo t => rw [h t (by simp), ho t (by simp)]
  case pick c x y =>
    rw [evO_congr fun t ht => h t (by simp [ht]), evO_congr (x := x) fun t ht => h t (by simp [ht]), evO_congr (x := y) fun t ht => h t (by simp [ht])]
  case build z ps =>
    congr 3
    apply List.map_congr_left
    intro p hp
    rw [evO_congr fun t ht => h t (List.mem_flatMap.2 ⟨p, hp, ht⟩)]
  case bsl sz xs => rw [evOs_congr h]
  case call f xs => rw [evOs_congr h]
  case mkf f xs => rw [evOs_congr h]
  case mkm f xs => rw [evOs_congr h]
  case callv f xs => rw [evO_congr fun t ht => h t (List.mem_append_left _ ht), evOs_congr fun t ht => h t (List.mem_append_right _ ht)]
  case sls x lo hi =>
    rw [evO_congr (x := x) fun t ht => h t (by simp [ht]), evOo_congr (x := lo) fun t ht => h t (by simp [ht]), evOo_congr (x := hi) fun t ht => h t (by simp [ht])]
  case slc sz x lo hi mx =>
    rw [evO_congr (x := x) fun t ht => h t (by simp [ht]), evOo_congr (x := lo) fun t ht => h t (by simp [ht]), evOo_congr (x := hi) fun t ht => h t (by simp [ht]), evOo_congr (x := mx) fun t ht => h t (by simp [ht])]
  case slca n sz x lo hi mx =>
    rw [evO_congr (x := x) fun t ht => h t (by simp [ht]), evOo_congr (x := lo) fun t ht => h t (by simp [ht]), evOo_congr (x := hi) fun t ht => h t (by simp [ht]), evOo_congr (x := mx) fun t ht => h t (by simp [ht])]
  case ldo x =>
    rw [evO_congr h]
    cases evO tm' x <;> simp only [vLdo]
    rename_i id o
    rw [hl trivial id o]
  case app sz s x =>
    rw [evO_congr (x := s) fun t ht => h t (by simp [ht]), evO_congr (x := x) fun t ht => h t (by simp [ht])]
    congr 1
    cases s with
    | tmp t => exact ho t (by simp [opdR])
    | const v => rfl
  all_goals first
    | rw [evO_congr h]
    | rw [evO_congr (fun t ht => h t (List.mem_append_left _ ht)), evO_congr (fun t ht => h t (List.mem_append_right _ ht))]
    | rfl
end Go.Abs
namespace Go.Abs
open Go.RowKit
variable {cx : Cx} {w : World} {B : Nat -> Prop} {GB : Gh} {g : Gh} {st : St} {a : Act} {W : World} {Γ : Spec}
structure Ud where
  d : Option Nat
  v : V
  o : Bool
  tk : Option Pos
  nw : Option (List V)
def Ud.app (u : Ud) (st : St) : St :=
  match u.nw with
  | none => (st.take u.tk).put u.d u.v u.o
  | some cs => (st.new cs).put u.d (.ptr st.nH 0) false
def udOf (Γ : Spec) (gl : Nat -> Option (List V)) (x : AOper) (st : St) : Option Ud :=
  if st.wants x then
    match x.op with
    | .new cs => some ⟨x.dst, Nil, false, none, some cs⟩
    | .box y => if (st.ev y).cells.all V.sc then some ⟨x.dst, Nil, false, none, some (st.ev y).cells⟩ else none
    | op => (peval Γ gl st.H st.own st.tm op).map fun r => ⟨x.dst, r.v, r.o, r.tk, none⟩
  else some ⟨x.dst, Nil, false, none, none⟩
theorem exec_of_ud {gl : Nat -> Option (List V)} {x : AOper} {st : St} {u : Ud} (hns : x.op.isStore = false) (h : udOf Γ gl x st = some u) : exec Γ gl x st = some (u.app st) := by
  unfold udOf at h
  unfold exec
  split at h
  . rename_i hw
    rw [if_pos hw]
    obtain ⟨d, op, gd, af⟩ := x
    cases op <;> simp only [AOp.isStore, Bool.true_eq_false] at hns <;> simp only at h
    case new cs => simp only [Option.some.injEq] at h; subst h; rfl
    case box y =>
      split at h
      . rename_i hall
        simp only [Option.some.injEq] at h; subst h
        simp only [exec1, hall, if_true]; rfl
      . simp at h
    all_goals
      simp only [Option.map_eq_some_iff] at h
      obtain ⟨r, hr, rfl⟩ := h
      simp only [exec1, hr, Option.map_some]
      rfl
  . rename_i hw
    rw [if_neg hw]
    simp only [Option.some.injEq] at h; subst h; rfl
theorem ud_of_exec {gl : Nat -> Option (List V)} {x : AOper} {st st' : St} (hns : x.op.isStore = false) (h : exec Γ gl x st = some st') : ∃ u, udOf Γ gl x st = some u /\ st' = u.app st := by
  unfold exec at h
  unfold udOf
  split at h
  . rename_i hw
    rw [if_pos hw]
    obtain ⟨d, op, gd, af⟩ := x
    cases op <;> simp only [AOp.isStore, Bool.true_eq_false] at hns <;> simp only [exec1] at h
    case new cs => simp only [Option.some.injEq] at h; subst h; exact ⟨_, rfl, rfl⟩
    case box y =>
      split at h
      . rename_i hall
        simp only [Option.some.injEq] at h; subst h
        exact ⟨⟨d, Nil, false, none, some (st.ev y).cells⟩, by simp only [hall, if_true], rfl⟩
      . simp at h
    all_goals
      simp only [Option.map_eq_some_iff] at h
      obtain ⟨r, hr, rfl⟩ := h
      exact ⟨⟨d, r.v, r.o, r.tk, none⟩, by simp only [hr, Option.map_some], rfl⟩
  . rename_i hw
    rw [if_neg hw]
    simp only [Option.some.injEq] at h; subst h
    exact ⟨_, rfl, rfl⟩
theorem ud_d {gl : Nat -> Option (List V)} {x : AOper} {st : St} {u : Ud} (h : udOf Γ gl x st = some u) : u.d = x.dst := by
  unfold udOf at h
  split at h
  . split at h
    . simp only [Option.some.injEq] at h; subst h; rfl
    . split at h
      . simp only [Option.some.injEq] at h; subst h; rfl
      . simp at h
    . simp only [Option.map_eq_some_iff] at h; obtain ⟨r, _, rfl⟩ := h; rfl
  . simp only [Option.some.injEq] at h; subst h; rfl
theorem ud_tk {gl : Nat -> Option (List V)} {x : AOper} {st : St} {u : Ud} (h : udOf Γ gl x st = some u) : u.tk = none \/ (∃ t, u.tk = some (.slot t) /\ t ∈ x.op.owns) \/ (x.op.isLdo = true /\ ∃ id j, u.tk = some (.cell id j)) := by
  unfold udOf at h
  split at h
  . rename_i hw
    obtain ⟨d, op, gd, af⟩ := x
    cases op <;> simp only at h
    case new cs => simp only [Option.some.injEq] at h; subst h; exact .inl rfl
    case box y =>
      split at h
      . simp only [Option.some.injEq] at h; subst h; exact .inl rfl
      . simp at h
    all_goals
      simp only [Option.map_eq_some_iff] at h
      obtain ⟨r, hr, rfl⟩ := h
      simp only [peval] at hr
    case mvo t => simp only [Option.some.injEq] at hr; subst hr; exact .inr (.inl ⟨t, rfl, by simp [AOp.owns]⟩)
    case ldo x =>
      unfold vLdo at hr
      split at hr
      . simp only [Option.bind_eq_some_iff, Option.map_eq_some_iff] at hr
        obtain ⟨_, _, _, _, rfl⟩ := hr
        exact .inr (.inr ⟨rfl, _, _, rfl⟩)
      . simp at hr
    case app sz s x =>
      unfold vApp at hr
      split at hr
      . split at hr
        . simp only [Option.some.injEq] at hr; subst hr; exact .inl rfl
        . simp at hr
      . split at hr
        . simp only [Option.some.injEq] at hr; subst hr
          cases s with
          | tmp t => exact .inr (.inl ⟨t, rfl, by simp [AOp.owns, opdR]⟩)
          | const v => exact .inl rfl
        . simp at hr
      . simp at hr
    case slc sz x lo hi mx =>
      unfold vSlc at hr
      split at hr
      . split at hr
        . simp only [Option.map_eq_some_iff] at hr; obtain ⟨_, _, rfl⟩ := hr; exact .inl rfl
        . simp at hr
      . split at hr
        . simp only [Option.bind_eq_some_iff] at hr; obtain ⟨_, _, hr⟩ := hr
          split at hr
          . cases hr; exact .inl rfl
          . cases hr
        . simp at hr
      . simp at hr
    case bsl sz xs => split at hr <;> simp at hr; subst hr; exact .inl rfl
    case s2b x => unfold vS2b at hr; split at hr <;> simp at hr; subst hr; exact .inl rfl
    case mks sz z x y =>
      unfold vMks at hr
      split at hr
      . split at hr
        . simp only [Option.some.injEq] at hr; subst hr; exact .inl rfl
        . simp at hr
      . simp at hr
    case call f xs =>
      unfold vCall at hr
      split at hr
      . cases hr
      split at hr
      . simp only [Option.bind_eq_some_iff] at hr; obtain ⟨_, _, _, _, _, _, _, _, hr⟩ := hr
        split at hr
        . cases hr; exact .inl rfl
        . cases hr
      . simp only [Option.map_eq_some_iff] at hr; obtain ⟨_, _, rfl⟩ := hr; exact .inl rfl
    case callv f xs =>
      unfold vCallv at hr
      split at hr
      . simp only [Option.map_eq_some_iff] at hr; obtain ⟨_, _, rfl⟩ := hr; exact .inl rfl
      . simp at hr
    case mv x => simp only [Option.some.injEq] at hr; subst hr; exact .inl rfl
    case mkf f xs => simp only [Option.some.injEq] at hr; subst hr; exact .inl rfl
    case mkm f xs => simp only [Option.some.injEq] at hr; subst hr; exact .inl rfl
    all_goals first
      | (obtain ⟨_, _, rfl⟩ := resV_some hr; exact .inl rfl)
      | simp at hr
  . simp only [Option.some.injEq] at h; subst h; exact .inl rfl
theorem St.ext' {s t : St} (h1 : s.tm = t.tm) (h2 : s.own = t.own) (h3 : s.H = t.H) (h4 : s.nH = t.nH) : s = t := by cases s; cases t; simp_all
def Ud.val (u : Ud) (st : St) : V := match u.nw with | none => u.v | some _ => .ptr st.nH 0
def Ud.flag (u : Ud) : Bool := match u.nw with | none => u.o | some _ => false
def Ud.took (u : Ud) : Option Pos := match u.nw with | none => u.tk | some _ => none
theorem app_tm (u : Ud) (st : St) (t : Nat) : (u.app st).tm t = if u.d = some t then u.val st else st.tm t := by
  obtain ⟨d, v, o, tk, nw⟩ := u
  cases nw <;> cases d <;> simp [Ud.app, Ud.val, St.put, upd, St.new, eq_comm]
def isCellOf (id : Nat) : Pos -> Bool
  | .cell i _ => i == id
  | .slot _ => false
theorem app_own (u : Ud) (st : St) (p : Pos) : (u.app st).own p = if u.d.map Pos.slot = some p then u.flag else if u.took = some p then false else if u.nw.isSome = true /\ isCellOf st.nH p = true then false else st.own p := by
  obtain ⟨d, v, o, tk, nw⟩ := u
  have h1 : ∀ d : Nat, (Option.map Pos.slot (some d) = some p) <-> p = .slot d := fun d => by simp [eq_comm (a := p)]
  have h2 : ∀ q : Pos, (some q = some p) <-> p = q := fun q => by simp [eq_comm (a := p)]
  have h3 : (Option.map Pos.slot (none : Option Nat) = some p) <-> False := by simp
  have h4 : ((none : Option Pos) = some p) <-> False := by simp
  cases nw with
  | none =>
    cases d with
    | none =>
      cases tk with
      | none => simp [Ud.app, Ud.took, St.put, St.take]
      | some q => simp only [Ud.app, Ud.took, St.put, St.take, updP, h2, h3, if_false]; simp
    | some d =>
      cases tk with
      | none => simp only [Ud.app, Ud.took, Ud.flag, St.put, St.take, updP, h1, h4, if_false]; simp
      | some q => simp only [Ud.app, Ud.took, Ud.flag, St.put, St.take, updP, h1, h2]; simp
  | some cs =>
    cases d with
    | none => cases p <;> simp [Ud.app, Ud.took, St.put, St.new, isCellOf]
    | some d =>
      simp only [Ud.app, Ud.took, Ud.flag, St.put, St.new, updP, h1, h4, if_false]
      cases p <;> simp [isCellOf]
theorem app_H (u : Ud) (st : St) : (u.app st).H = (match u.nw with | none => st.H | some cs => upd st.H st.nH (some (.cells cs))) /\ (u.app st).nH = st.nH + (if u.nw.isSome then 1 else 0) := by
  obtain ⟨d, v, o, tk, nw⟩ := u
  cases nw <;> cases d <;> simp [Ud.app, St.put, St.new]
def isCell : Option Pos -> Bool
  | some (.cell _ _) => true
  | _ => false
structure Apart (u v : Ud) : Prop where
  d : ∀ t, u.d = some t -> v.d ≠ some t
  tu : ∀ t, u.tk = some (.slot t) -> v.d ≠ some t /\ v.tk ≠ some (.slot t)
  tv : ∀ t, v.tk = some (.slot t) -> u.d ≠ some t /\ u.tk ≠ some (.slot t)
  c : ¬(isCell u.tk = true /\ isCell v.tk = true)
  n : ¬(u.nw.isSome = true /\ v.nw.isSome = true)
  nu : u.nw.isSome = true -> isCell v.tk = false
  nv : v.nw.isSome = true -> isCell u.tk = false
theorem Ud.took_slot {u : Ud} {t : Nat} (h : u.took = some (.slot t)) : u.tk = some (.slot t) := by
  unfold Ud.took at h; split at h
  . exact h
  . cases h
theorem Ud.took_cell {u : Ud} {id j : Nat} (h : u.took = some (.cell id j)) : isCell u.tk = true /\ u.nw = none := by
  unfold Ud.took at h; split at h
  . rename_i e; rw [h]; exact ⟨rfl, e⟩
  . cases h
theorem app_comm {u v : Ud} (h : Apart u v) (st : St) : u.app (v.app st) = v.app (u.app st) := by
  obtain ⟨hu1, hu2⟩ := app_H u st
  obtain ⟨hv1, hv2⟩ := app_H v st
  obtain ⟨huv1, huv2⟩ := app_H u (v.app st)
  obtain ⟨hvu1, hvu2⟩ := app_H v (u.app st)
  have hn : u.nw = none \/ v.nw = none := by
    cases hu : u.nw with
    | none => exact .inl rfl
    | some a => cases hv : v.nw with
      | none => exact .inr rfl
      | some b => exact absurd ⟨by simp [hu], by simp [hv]⟩ h.n
  have valu : u.val (v.app st) = u.val st := by
    unfold Ud.val
    rcases hn with e | e
    . rw [e]
    . rw [hv2, e]; rfl
  have valv : v.val (u.app st) = v.val st := by
    unfold Ud.val
    rcases hn with e | e
    . rw [hu2, e]; rfl
    . rw [e]
  apply St.ext'
  . funext t
    rw [app_tm, app_tm, app_tm, app_tm, valu, valv]
    by_cases e1 : u.d = some t
    . rw [if_pos e1, if_neg (h.d t e1), if_pos e1]
    . rw [if_neg e1, if_neg e1]
  . funext p
    rw [app_own, app_own, app_own, app_own]
    cases p with
    | slot t =>
      have e : ∀ x : Option Nat, (x.map Pos.slot = some (.slot t)) <-> x = some t := by intro x; cases x <;> simp
      simp only [e, isCellOf, Bool.false_eq_true, and_false, if_false]
      by_cases c1 : u.d = some t
      . have c2 := h.d t c1
        have c3 : v.took ≠ some (.slot t) := fun e => (h.tv t (Ud.took_slot e)).1 c1
        simp [c1, c2, c3]
      . by_cases c2 : v.d = some t
        . have c3 : u.took ≠ some (.slot t) := fun e => (h.tu t (Ud.took_slot e)).1 c2
          simp [c1, c2, c3]
        . simp only [c1, c2, if_false]
          by_cases c3 : u.took = some (.slot t) <;> by_cases c4 : v.took = some (.slot t) <;> simp [c3, c4]
    | cell id j =>
      have e : ∀ x : Option Nat, (x.map Pos.slot = some (Pos.cell id j)) <-> False := by intro x; cases x <;> simp
      simp only [e, if_false]
      have c2 : ∀ (x : Ud) (s s' : St), x.nw = none -> ((x.nw.isSome = true /\ isCellOf s.nH (.cell id j) = true) <-> False) := fun x s s' hx => by simp [hx]
      rcases hn with hu | hv
      . have hnH : (u.app st).nH = st.nH := by rw [hu2, hu]; simp
        rw [hnH]
        simp only [hu, Option.isSome_none, Bool.false_eq_true, false_and, if_false]
        by_cases c3 : u.took = some (.cell id j)
        . by_cases c4 : v.took = some (.cell id j)
          . simp [c3, c4]
          . simp only [c3, c4, if_true, if_false]
            by_cases c5 : v.nw.isSome = true /\ isCellOf st.nH (.cell id j) = true
            . exact absurd (Ud.took_cell c3).1 (by rw [h.nv c5.1]; simp)
            . simp [c5]
        . simp only [c3, if_false]
      . have hnH : (v.app st).nH = st.nH := by rw [hv2, hv]; simp
        rw [hnH]
        simp only [hv, Option.isSome_none, Bool.false_eq_true, false_and, if_false]
        by_cases c3 : v.took = some (.cell id j)
        . by_cases c4 : u.took = some (.cell id j)
          . simp [c3, c4]
          . simp only [c3, c4, if_true, if_false]
            by_cases c5 : u.nw.isSome = true /\ isCellOf st.nH (.cell id j) = true
            . exact absurd (Ud.took_cell c3).1 (by rw [h.nu c5.1]; simp)
            . simp [c5]
        . simp only [c3, if_false]
  . rw [huv1, hvu1]
    rcases hn with hu | hv
    . rw [hu]; simp only; rw [hv1]; rw [hu1, hu2, hu]; simp
    . rw [hv]; simp only; rw [hu1]; rw [hv1, hv2, hv]; simp
  . rw [huv2, hvu2, hu2, hv2]; omega
end Go.Abs
namespace Go.Abs
open Go.RowKit
variable {cx : Cx} {w : World} {B : Nat -> Prop} {GB : Gh} {g : Gh} {st : St} {a : Act} {W : World} {Γ : Spec}
def refId : V -> Option Nat
  | .ptr id _ => some id
  | .osl id _ len _ _ => if len = 0 then none else some id
  | _ => none
def AOp.hOpds : AOp -> List Opd
  | .load _ x | .ldo x | .b2s x | .app _ _ x | .slca _ _ x _ _ _ => [x]
  | .call _ xs => xs
  | _ => []
def opdOk (n : Nat) : Opd -> Bool
  | .tmp t => decide (t < n)
  | .const v => (refId v).isNone
theorem hCells_congr {H H' : Hp} {id : Nat} (h : H id = H' id) : hCells H id = hCells H' id := by unfold hCells; rw [h]
theorem snapV_congr {nl : Bool} {H H' : Hp} {v : V} (h : ∀ id, refId v = some id -> H id = H' id) : snapV nl H v = snapV nl H' v := by
  unfold snapV
  split
  . rename_i id off len cap
    by_cases h0 : len = 0
    . rw [if_pos h0, if_pos h0]
    . rw [hCells_congr (h id (by simp [refId, h0]))]
  . rfl
  . rfl
theorem snapL_congr {nl : Bool} {H H' : Hp} : ∀ {vs : List V}, (∀ v ∈ vs, ∀ id, refId v = some id -> H id = H' id) -> snapL nl H vs = snapL nl H' vs
  | [], _ => rfl
  | v :: vs, h => by
    simp only [snapL]
    rw [snapV_congr (h v (by simp)), snapL_congr fun x hx => h x (by simp [hx])]
theorem peval_H {gl : Nat -> Option (List V)} {H H' : Hp} {own : Pos -> Bool} {tm : Nat -> V} {ao : AOp} (h : ∀ x ∈ ao.hOpds, ∀ id, refId (evO tm x) = some id -> H id = H' id) : peval Γ gl H own tm ao = peval Γ gl H' own tm ao := by
  cases ao <;> simp only [peval] <;> simp only [AOp.hOpds, List.mem_singleton, forall_eq] at h
  case load n x =>
    cases hx : evO tm x <;> simp only [vLoad]
    rename_i id o
    rw [hCells_congr (h id (by rw [hx]; rfl))]
  case ldo x =>
    cases hx : evO tm x <;> simp only [vLdo]
    rename_i id o
    rw [hCells_congr (h id (by rw [hx]; rfl))]
  case b2s x =>
    have : vB2s H (evO tm x) = vB2s H' (evO tm x) := by
      unfold vB2s
      split
      . rfl
      . rename_i i o l c hx
        split
        . rfl
        . rename_i h0
          rw [hCells_congr (h i (by rw [hx]; simp [refId, h0]))]
      . rfl
    rw [this]
  case slca n sz x lo hi mx =>
    have : vSlca H n sz (evO tm x) (lo.map (evO tm)) (hi.map (evO tm)) (mx.map (evO tm)) = vSlca H' n sz (evO tm x) (lo.map (evO tm)) (hi.map (evO tm)) (mx.map (evO tm)) := by
      unfold vSlca
      split
      . rename_i hx
        rw [hCells_congr (h _ (by rw [hx]; rfl))]
      . rfl
    rw [this]
  case call f xs =>
    unfold vCall
    rw [snapL_congr (nl := true) (H := H) (H' := H') fun v hv id hid => by
      obtain ⟨x, hx, rfl⟩ := List.mem_map.1 hv
      exact h x hx id hid, snapL_congr (nl := false) (H := H) (H' := H') fun v hv id hid => by
      obtain ⟨x, hx, rfl⟩ := List.mem_map.1 hv
      exact h x hx id hid]
  case app sz s x =>
    have : vTail H sz (evO tm x) = vTail H' sz (evO tm x) := by
      cases hx : evO tm x <;> simp only [vTail]
      rename_i id o l c s
      by_cases h0 : l = 0
      . simp [h0]
      . rw [hCells_congr (h id (by rw [hx]; simp [refId, h0]))]
    unfold vApp
    rw [this]
theorem snapV_some {nl : Bool} {H : Hp} {v u : V} (h : snapV nl H v = some u) (hp : v.isPtrV = false) : ∀ id, refId v = some id -> (H id).isSome = true := by
  have hc : ∀ {id cs}, hCells H id = some cs -> (H id).isSome = true := fun h => by rw [hCells_some h]; rfl
  intro id hid
  cases v <;> simp only [refId, reduceCtorEq, Option.some.injEq] at hid
  . rename_i i off len cap sz
    split at hid
    . cases hid
    . simp only [Option.some.injEq] at hid; subst hid
      unfold snapV at h
      split at h
      . rename_i h0 _ _ _ _ _ heq
        cases heq
        rw [if_neg h0] at h
        simp only [Option.bind_eq_some_iff] at h
        obtain ⟨cs, hcs, _⟩ := h
        exact hc hcs
      . cases h
      . rename_i h1 h2; exact absurd rfl (h2 _ _ _ _ _)
  . simp [V.isPtrV] at hp
theorem snapL_some {nl : Bool} {H : Hp} : ∀ {vs us : List V}, snapL nl H vs = some us -> vs.any V.isPtrV = false -> ∀ v ∈ vs, ∀ id, refId v = some id -> (H id).isSome = true
  | [], _, _, _, v, hv => by cases hv
  | v :: vs, us, h, hp, x, hx => by
    simp only [snapL, Option.bind_eq_some_iff, Option.map_eq_some_iff] at h
    obtain ⟨u, h1, us', h2, rfl⟩ := h
    simp only [List.any_cons, Bool.or_eq_false_iff] at hp
    rcases List.mem_cons.1 hx with rfl | hx
    . exact snapV_some h1 hp.1
    . exact snapL_some h2 hp.2 x hx
theorem peval_some {gl : Nat -> Option (List V)} {H : Hp} {own : Pos -> Bool} {tm : Nat -> V} {ao : AOp} {r : Res} (h : peval Γ gl H own tm ao = some r) : ∀ x ∈ ao.hOpds, ∀ id, refId (evO tm x) = some id -> (H id).isSome = true := by
  have hc : ∀ {id cs}, hCells H id = some cs -> (H id).isSome = true := fun h => by rw [hCells_some h]; rfl
  cases ao <;> simp only [AOp.hOpds, List.mem_singleton, forall_eq, List.not_mem_nil, false_implies, implies_true] <;> intro i hid
  case load n x =>
    replace h := resV_some (show resV (vLoad gl H n (evO tm x)) = some r from h); obtain ⟨v, h, rfl⟩ := h
    generalize evO tm x = u at h hid
    cases u <;> simp only [refId, Option.some.injEq, reduceCtorEq] at hid
    . simp [vLoad] at h
    . subst hid; simp only [vLoad, Option.bind_eq_some_iff] at h; obtain ⟨cs, hcs, _⟩ := h; exact hc hcs
  case ldo x =>
    replace h : vLdo H own (evO tm x) = some r := h
    generalize evO tm x = u at h hid
    cases u <;> simp only [refId, Option.some.injEq, reduceCtorEq] at hid
    . simp [vLdo] at h
    . subst hid; simp only [vLdo, Option.bind_eq_some_iff] at h; obtain ⟨cs, hcs, _⟩ := h; exact hc hcs
  case b2s x =>
    replace h := resV_some (show resV (vB2s H (evO tm x)) = some r from h); obtain ⟨v, h, rfl⟩ := h
    generalize evO tm x = u at h hid
    unfold vB2s at h
    split at h
    . simp [refId] at hid
    . simp only [refId] at hid
      split at hid
      . cases hid
      . rename_i h0
        rw [if_neg h0] at h
        simp only [Option.some.injEq] at hid
        subst hid
        simp only [Option.bind_eq_some_iff] at h; obtain ⟨cs, hcs, _⟩ := h; exact hc hcs
    . simp at h
  case app sz s x =>
    replace h : vApp H (ownO own s) sz (posO s) (evO tm s) (evO tm x) = some r := h
    have ht : ∃ ys, vTail H sz (evO tm x) = some ys := by
      unfold vApp at h
      split at h
      . rename_i e; exact ⟨_, e⟩
      . rename_i e; exact ⟨_, e⟩
      . simp at h
    obtain ⟨ys, ht⟩ := ht
    generalize evO tm x = u at ht hid
    cases u <;> simp only [refId, Option.some.injEq, reduceCtorEq] at hid
    . split at hid
      . cases hid
      . rename_i h0
        simp only [Option.some.injEq] at hid
        subst hid
        simp only [vTail, if_neg h0] at ht
        split at ht
        . simp only [Option.bind_eq_some_iff] at ht; obtain ⟨cs, hcs, _⟩ := ht; exact hc hcs
        . simp at ht
    . simp [vTail] at ht
  case slca n sz x lo hi mx =>
    replace h := resV_some (show resV (vSlca H n sz (evO tm x) (lo.map (evO tm)) (hi.map (evO tm)) (mx.map (evO tm))) = some r from h); obtain ⟨v, h, rfl⟩ := h
    unfold vSlca at h
    split at h
    . rename_i hx
      rw [hx] at hid
      simp only [refId, Option.some.injEq] at hid
      subst hid
      simp only [Option.bind_eq_some_iff] at h; obtain ⟨cs, hcs, _⟩ := h; exact hc hcs
    . cases h
  case call f xs =>
    replace h : vCall Γ H f (xs.map (evO tm)) = some r := h
    intro id hx
    unfold vCall at h
    split at h
    . cases h
    rename_i hp
    have hp' : (xs.map (evO tm)).any V.isPtrV = false := by simpa using hp
    split at h
    . simp only [Option.bind_eq_some_iff] at h
      obtain ⟨l, hl, _⟩ := h
      exact snapL_some hl hp' _ (List.mem_map_of_mem hid) id hx
    . rename_i ho
      exfalso
      have h1 := List.any_eq_false.1 hp' _ (List.mem_map_of_mem hid)
      have ho' : (xs.map (evO tm)).any V.isOsl = false := by simpa using ho
      have h2 := List.any_eq_false.1 ho' _ (List.mem_map_of_mem hid)
      generalize evO tm i = u at hx h1 h2
      cases u <;> simp [refId, V.isPtrV, V.isOsl] at hx h1 h2
theorem SR.ref (h : SR w B GB g st a W) {n : Nat} (hn : a.tmps.size = n) {x : Opd} (hx : opdOk n x = true) {id : Nat} (hid : refId (evO st.tm x) = some id) : id < st.nH := by
  cases x with
  | const v => simp only [opdOk, Option.isNone_iff_eq_none] at hx; simp only [evO] at hid; rw [hx] at hid; cases hid
  | tmp t =>
    have hr := h.get (t := t) (by rw [hn]; simpa [opdOk] using hx)
    simp only [evO] at hid
    generalize st.tm t = v at hr hid
    generalize a.eval (.tmp t) = y at hr
    cases hr <;> simp only [refId, Option.some.injEq, reduceCtorEq, if_true] at hid
    . split at hid
      . cases hid
      . simp only [Option.some.injEq] at hid; subst hid; exact (h.φ _ _ (by assumption)).2.2
    . subst hid; exact (h.φ _ _ (by assumption)).2.2
def foldU (U : Nat -> Ud) (S : Nat -> Bool) (s0 : St) : Nat -> St
  | 0 => s0
  | n + 1 => if S n then (U n).app (foldU U S s0 n) else foldU U S s0 n
section
variable {U : Nat -> Ud} {S S' : Nat -> Bool} {s0 : St} {m : Nat}
def OneNew (U : Nat -> Ud) (m : Nat) : Prop := ∀ k k', k < m -> k' < m -> (U k).nw.isSome = true -> (U k').nw.isSome = true -> k = k'
theorem foldU_H0 : ∀ {n : Nat}, (∀ k, k < n -> S k = true -> (U k).nw = none) -> (foldU U S s0 n).H = s0.H /\ (foldU U S s0 n).nH = s0.nH
  | 0, _ => ⟨rfl, rfl⟩
  | n + 1, h => by
    obtain ⟨h1, h2⟩ := foldU_H0 (n := n) fun k hk => h k (by omega)
    simp only [foldU]
    split
    . rename_i hs
      obtain ⟨e1, e2⟩ := app_H (U n) (foldU U S s0 n)
      have := h n (by omega) hs
      rw [e1, e2, this]; exact ⟨h1, by simpa using h2⟩
    . exact ⟨h1, h2⟩
theorem foldU_H1 (ho : OneNew U m) {k : Nat} {cs : List V} (hk : (U k).nw = some cs) (hs : S k = true) : ∀ {n : Nat}, k < n -> n <= m -> (foldU U S s0 n).H = upd s0.H s0.nH (some (.cells cs)) /\ (foldU U S s0 n).nH = s0.nH + 1
  | 0, h, _ => by omega
  | n + 1, h, hm => by
    simp only [foldU]
    by_cases hn : k = n
    . subst hn
      rw [if_pos hs]
      obtain ⟨h1, h2⟩ := foldU_H0 (U := U) (S := S) (s0 := s0) (n := k) fun j hj _ => by
        cases hj' : (U j).nw with
        | none => rfl
        | some x => have := ho j k (by omega) (by omega) (by rw [hj']; rfl) (by rw [hk]; rfl); omega
      obtain ⟨e1, e2⟩ := app_H (U k) (foldU U S s0 k)
      rw [e1, e2, hk]; simp [h1, h2]
    . obtain ⟨h1, h2⟩ := foldU_H1 ho hk hs (n := n) (by omega) (by omega)
      split
      . have hnn : (U n).nw = none := by
          cases hj' : (U n).nw with
          | none => rfl
          | some x => exact absurd (ho k n (by omega) (by omega) (by rw [hk]; rfl) (by rw [hj']; rfl)) hn
        obtain ⟨e1, e2⟩ := app_H (U n) (foldU U S s0 n)
        rw [e1, e2, hnn]; exact ⟨h1, by simpa using h2⟩
      . exact ⟨h1, h2⟩
theorem foldU_nH (ho : OneNew U m) {n : Nat} (hn : n < m) (hnw : (U n).nw.isSome = true) : (foldU U S s0 n).nH = s0.nH :=
  (foldU_H0 fun k hk _ => by
    cases hj' : (U k).nw with
    | none => rfl
    | some x => have := ho k n (by omega) hn (by rw [hj']; rfl) hnw; omega).2
theorem foldU_tm (ho : OneNew U m) {t : Nat} : ∀ {n : Nat}, n <= m -> (∀ k, k < n -> (U k).d = some t -> S k = S' k) -> (foldU U S s0 n).tm t = (foldU U S' s0 n).tm t
  | 0, _, _ => rfl
  | n + 1, hm, h => by
    have ih := foldU_tm ho (n := n) (by omega) fun k hk => h k (by omega)
    have hval : (U n).val (foldU U S s0 n) = (U n).val (foldU U S' s0 n) := by
      unfold Ud.val
      split
      . rfl
      . rename_i cs hcs
        rw [foldU_nH ho (by omega) (by rw [hcs]; rfl), foldU_nH ho (by omega) (by rw [hcs]; rfl)]
    simp only [foldU]
    by_cases hd : (U n).d = some t
    . rw [h n (by omega) hd]
      split
      . rw [app_tm, app_tm, if_pos hd, if_pos hd, hval]
      . exact ih
    . have e1 : ∀ s : St, ((U n).app s).tm t = s.tm t := fun s => by rw [app_tm, if_neg hd]
      split <;> split <;> (try simp only [e1]) <;> exact ih
def touches (u : Ud) : Pos -> Bool
  | .slot t => u.d == some t || u.tk == some (.slot t)
  | .cell _ _ => isCell u.tk || u.nw.isSome
theorem app_own_far {u : Ud} {p : Pos} (h : touches u p = false) (s : St) : (u.app s).own p = s.own p := by
  rw [app_own]
  cases p with
  | slot t =>
    simp only [touches, Bool.or_eq_false_iff, beq_eq_false_iff_ne, ne_eq] at h
    have h1 : ¬(u.d.map Pos.slot = some (.slot t)) := fun e => h.1 (by cases hd : u.d <;> rw [hd] at e <;> simp at e; rw [e])
    have h2 : ¬(u.took = some (.slot t)) := fun e => h.2 (Ud.took_slot e)
    simp [h1, h2, isCellOf]
  | cell id j =>
    simp only [touches, Bool.or_eq_false_iff] at h
    have h1 : ¬(u.d.map Pos.slot = some (Pos.cell id j)) := fun e => by cases hd : u.d <;> rw [hd] at e <;> simp at e
    have h2 : ¬(u.took = some (.cell id j)) := fun e => by have := (Ud.took_cell e).1; rw [h.1] at this; cases this
    simp [h1, h2, h.2]
theorem foldU_own (ho : OneNew U m) {p : Pos} : ∀ {n : Nat}, n <= m -> (∀ k, k < n -> touches (U k) p = true -> S k = S' k) -> (foldU U S s0 n).own p = (foldU U S' s0 n).own p
  | 0, _, _ => rfl
  | n + 1, hm, h => by
    have ih := foldU_own ho (n := n) (by omega) fun k hk => h k (by omega)
    simp only [foldU]
    cases ht : touches (U n) p with
    | false =>
      split <;> split <;> (try simp only [app_own_far ht]) <;> exact ih
    | true =>
      rw [h n (by omega) ht]
      split
      . rw [app_own, app_own, ih]
        by_cases hnw : (U n).nw.isSome = true
        . rw [foldU_nH ho (by omega) hnw, foldU_nH ho (by omega) hnw]
        . simp [hnw]
      . exact ih
theorem foldU_lt {i : Nat} : ∀ {n : Nat}, i <= n -> foldU U (fun k => decide (k < i)) s0 n = foldU U (fun _ => true) s0 i
  | 0, h => by have : i = 0 := by omega
               subst this; rfl
  | n + 1, h => by
    by_cases hi : i = n + 1
    . subst hi
      have : ∀ j, j <= n + 1 -> foldU U (fun k => decide (k < n + 1)) s0 j = foldU U (fun _ => true) s0 j := by
        intro j
        induction j with
        | zero => intro _; rfl
        | succ j ih => intro hj; simp only [foldU, show decide (j < n + 1) = true by simp; omega, if_true, ih (by omega)]
      exact this _ (Nat.le_refl _)
    . simp only [foldU, show decide (n < i) = false by simp; omega, Bool.false_eq_true, if_false]
      exact foldU_lt (by omega)
theorem foldU_congr : ∀ {n : Nat}, (∀ k, k < n -> S k = S' k) -> foldU U S s0 n = foldU U S' s0 n
  | 0, _ => rfl
  | n + 1, h => by simp only [foldU, h n (by omega), foldU_congr (n := n) fun k hk => h k (by omega)]
theorem foldU_add {i : Nat} (hi : S i = false) (hS' : ∀ k, S' k = (S k || k == i)) : ∀ {n : Nat}, i < n -> (∀ k, i < k -> k < n -> S k = true -> Apart (U k) (U i)) -> foldU U S' s0 n = (U i).app (foldU U S s0 n)
  | 0, h, _ => by omega
  | n + 1, h, hap => by
    by_cases hn : i = n
    . subst hn
      simp only [foldU, hS', hi, beq_self_eq_true, Bool.or_true, if_true, Bool.false_eq_true, if_false]
      rw [foldU_congr (S := S') (S' := S) fun k hk => by rw [hS']; simp; omega]
    . have hne : (n == i) = false := by simp; omega
      have ih := foldU_add hi hS' (n := n) (by omega) fun k h1 h2 => hap k h1 (by omega)
      simp only [foldU, hS', hne, Bool.or_false]
      split
      . rename_i hs
        rw [ih, app_comm (hap n (by omega) (by omega) hs)]
      . exact ih
end
def AOper.rd (x : AOper) : List Nat := x.op.reads ++ (match x.guard with | some (t, _) => [t] | none => [])
def AOper.ws (x : AOper) : List Nat := x.dst.toList
def meets (l m : List Nat) : Bool := l.any fun t => m.contains t
def confl (x y : AOper) : Bool :=
  meets x.ws (y.rd ++ y.ws ++ y.op.owns) || meets y.ws (x.rd ++ x.op.owns) || meets x.op.owns y.op.owns ||
  (x.op.isLdo && y.op.isLdo) || (x.op.isNew && y.op.isNew) || (x.op.isNew && y.op.isLdo) || (x.op.isLdo && y.op.isNew)
def dd : List Nat -> List Nat
  | [] => []
  | a :: r => match r.any (Nat.beq a) with | true => dd r | false => a :: dd r
def ancs : List AOper -> List (List Nat) -> List (List Nat)
  | [], acc => acc
  | x :: r, acc => ancs r (acc ++ [dd (x.after ++ x.after.flatMap fun e => acc.getD e [])])
def drawOk (n : Nat) (aos : List AOper) (m : Nat) : Bool :=
  let an := ancs aos []
  let N := aos.length
  (List.range N).all fun i =>
    let x := aos.getD i default
    let ai := an.getD i []
    x.after.all (fun e => decide (e < i)) &&
    ai.all (fun j => x.after.contains j || x.after.any fun e => (an.getD e []).contains j) &&
    (if i < m then !x.op.isStore && x.op.hOpds.all (opdOk n) &&
        (List.range i).all fun j => (ai.contains j || !confl (aos.getD j default) x) && !(x.op.isNew && (aos.getD j default).op.isNew)
     else (List.range i).all fun j => ai.contains j)
end Go.Abs
namespace Go.Abs
open Go.RowKit
variable {cx : Cx} {w : World} {B : Nat -> Prop} {GB : Gh} {g : Gh} {st : St} {a : Act} {W : World} {Γ : Spec} {R : TypeId -> Bool}
theorem meets_false {l m : List Nat} (h : meets l m = false) {t : Nat} (hl : t ∈ l) : t ∉ m := by
  intro hm
  have := List.any_eq_false.1 h t hl
  simp [hm] at this
theorem apart_of {gl : Nat -> Option (List V)} {x y : AOper} {s s' : St} {u v : Ud} (hu : udOf Γ gl x s = some u) (hv : udOf Γ gl y s' = some v) (hc : confl x y = false) (hnu : u.nw.isSome = true -> x.op.isNew = true) (hnv : v.nw.isSome = true -> y.op.isNew = true) : Apart u v := by
  simp only [confl, Bool.or_eq_false_iff] at hc
  obtain ⟨⟨⟨⟨⟨⟨c1, c2⟩, c3⟩, c4⟩, c5⟩, c6⟩, c7⟩ := hc
  have du := ud_d hu
  have dv := ud_d hv
  have tu := ud_tk hu
  have tv := ud_tk hv
  have mem : ∀ {z : AOper} {t : Nat}, z.dst = some t -> t ∈ z.ws := fun h => by simp [AOper.ws, h]
  have cellu : isCell u.tk = true -> x.op.isLdo = true := fun h => by
    rcases tu with e | ⟨t, e, _⟩ | ⟨e, _⟩
    . rw [e] at h; cases h
    . rw [e] at h; cases h
    . exact e
  have cellv : isCell v.tk = true -> y.op.isLdo = true := fun h => by
    rcases tv with e | ⟨t, e, _⟩ | ⟨e, _⟩
    . rw [e] at h; cases h
    . rw [e] at h; cases h
    . exact e
  have slotu : ∀ t, u.tk = some (.slot t) -> t ∈ x.op.owns := fun t h => by
    rcases tu with e | ⟨t', e, h'⟩ | ⟨_, id, j, e⟩
    . rw [e] at h; cases h
    . rw [e] at h; cases h; exact h'
    . rw [e] at h; cases h
  have slotv : ∀ t, v.tk = some (.slot t) -> t ∈ y.op.owns := fun t h => by
    rcases tv with e | ⟨t', e, h'⟩ | ⟨_, id, j, e⟩
    . rw [e] at h; cases h
    . rw [e] at h; cases h; exact h'
    . rw [e] at h; cases h
  refine ⟨fun t h1 h2 => ?_, fun t h => ⟨fun h2 => ?_, fun h2 => ?_⟩, fun t h => ⟨fun h2 => ?_, fun h2 => ?_⟩, fun ⟨h1, h2⟩ => ?_, fun ⟨h1, h2⟩ => ?_, fun h => ?_, fun h => ?_⟩
  . rw [du] at h1; rw [dv] at h2
    exact meets_false c1 (mem h1) (by simp [mem h2])
  . rw [dv] at h2
    exact meets_false c2 (mem h2) (by simp [slotu t h])
  . exact meets_false c3 (slotu t h) (slotv t h2)
  . rw [du] at h2
    exact meets_false c1 (mem h2) (by simp [slotv t h])
  . exact meets_false c3 (slotu t h2) (slotv t h)
  . rw [cellu h1, cellv h2] at c4; cases c4
  . rw [hnu h1, hnv h2] at c5; cases c5
  . cases hh : isCell v.tk with
    | false => rfl
    | true => rw [hnu h, cellv hh] at c6; cases c6
  . cases hh : isCell u.tk with
    | false => rfl
    | true => rw [hnv h, cellu hh] at c7; cases c7
theorem confl_symm {x y : AOper} (h : confl x y = false) : confl y x = false := by
  simp only [confl, Bool.or_eq_false_iff] at h ⊢
  obtain ⟨⟨⟨⟨⟨⟨c1, c2⟩, c3⟩, c4⟩, c5⟩, c6⟩, c7⟩ := h
  have m1 : ∀ {l m : List Nat}, (∀ t ∈ l, t ∉ m) -> meets l m = false := fun h => List.any_eq_false.2 fun t ht => by simpa using h t ht
  refine ⟨⟨⟨⟨⟨⟨m1 fun t ht hm => ?_, m1 fun t ht hm => ?_⟩, m1 fun t ht hm => meets_false c3 hm ht⟩, by rw [Bool.and_comm]; exact c4⟩, by rw [Bool.and_comm]; exact c5⟩, by rw [Bool.and_comm]; exact c7⟩, by rw [Bool.and_comm]; exact c6⟩
  . simp only [List.append_assoc, List.mem_append] at hm
    rcases hm with hm | hm | hm
    . exact meets_false c2 ht (by simp [hm])
    . exact meets_false c1 hm (by simp [ht])
    . exact meets_false c2 ht (by simp [hm])
  . simp only [List.mem_append] at hm
    rcases hm with hm | hm
    . exact meets_false c1 ht (by simp [hm])
    . exact meets_false c1 ht (by simp [hm])
theorem ud_new {gl : Nat -> Option (List V)} {x : AOper} {s : St} {u : Ud} (h : udOf Γ gl x s = some u) (hn : u.nw.isSome = true) : x.op.isNew = true := by
  unfold udOf at h
  split at h
  . split at h
    . rename_i e; simp [AOp.isNew, e]
    . rename_i e; simp [AOp.isNew, e]
    . simp only [Option.map_eq_some_iff] at h; obtain ⟨r, _, rfl⟩ := h; simp at hn
  . simp only [Option.some.injEq] at h; subst h; simp at hn
theorem ud_congr {gl : Nat -> Option (List V)} {x : AOper} {s s' : St} {u : Ud} (hns : x.op.isStore = false) (h : udOf Γ gl x s = some u) (htm : ∀ t ∈ x.rd, s'.tm t = s.tm t) (how : ∀ t ∈ x.op.owns, s'.own (.slot t) = s.own (.slot t))
    (hl : x.op.isLdo = true -> ∀ id j, s'.own (.cell id j) = s.own (.cell id j))
    (hH : ∀ y ∈ x.op.hOpds, ∀ id, refId (evO s.tm y) = some id -> (s.H id).isSome = true -> s'.H id = s.H id) : udOf Γ gl x s' = some u := by
  have hr : ∀ t ∈ x.op.reads, s'.tm t = s.tm t := fun t ht => htm t (by simp [AOper.rd, ht])
  have hw : s'.wants x = s.wants x := by
    unfold St.wants
    split
    . rfl
    . rename_i t wt e
      rw [htm t (by simp [AOper.rd, e])]
  unfold udOf at h ⊢
  rw [hw]
  split at h
  . rename_i hwt
    rw [if_pos hwt]
    split at h
    . exact h
    . rename_i y e
      rw [e] at hr
      have : s'.ev y = s.ev y := evO_congr fun t ht => hr t (by simp [AOp.reads, ht])
      rw [this]; exact h
    . rename_i op h1 h2
      simp only [Option.map_eq_some_iff] at h
      obtain ⟨r, hr0, rfl⟩ := h
      have hsome := peval_some hr0
      have e : peval Γ gl s'.H s'.own s'.tm x.op = some r := by
        rw [<- hr0, <- peval_congr (Γ := Γ) (gl := gl) (H := s'.H) (own := s.own) (own' := s'.own) (tm := s.tm) (tm' := s'.tm) (ao := x.op) (fun t ht => (hr t ht).symm) (fun t ht => (how t ht).symm) (fun hx id j => (hl hx id j).symm)]
        exact peval_H fun y hy id hid => hH y hy id hid (hsome y hy id hid)
      rw [e]; rfl
  . rename_i hwt
    rw [if_neg hwt]; exact h
theorem getD_map {α : Type} [Inhabited α] {l : List α} {i : Nat} {x : α} (h : l[i]? = some x) : l.getD i default = x := by simp [List.getD, h]
theorem draw_wpAny (hs : Scope cx w B GB) (hΓ : Sound cx Γ) {n : Nat} {ops : Array Oper} {aos : List AOper} (hc : cOpers cx.P R n ops ops.toList = some aos) {m : Nat} (hm : m <= aos.length) (hok : drawOk n aos m = true) (h : SR w B GB g st a W) (hn : a.tmps.size = n)
    {st' : St} (he : execs Γ cx.gl aos st = some st') {Q : Exit -> Act -> World -> Prop} (hnext : ∀ g' a' W', SR w B GB g' st' a' W' -> a'.tmps.size = n -> Q .normal a' W') :
    wpAny cx.P .any ops Q ops.size (Array.replicate ops.size false) a W := by
  obtain ⟨hl, hget⟩ := cOpers_get hc
  simp only [Array.length_toList] at hl
  have hget' : ∀ i, i < ops.size -> ∃ (o : Oper) (x : AOper), ops[i]? = some o /\ aos[i]? = some x /\ cOper cx.P R n ops o = some x := fun i hi => by
    obtain ⟨x, h1, h2⟩ := hget i ops[i] (by simp [hi])
    exact ⟨ops[i], x, Array.getElem?_eq_getElem hi, h1, h2⟩
  -- the states of the text's order
  obtain ⟨s, hs0, hsn, hstep⟩ : ∃ s : Nat -> St, s 0 = st /\ s aos.length = st' /\ ∀ (i : Nat) (x : AOper), aos[i]? = some x -> exec Γ cx.gl x (s i) = some (s (i + 1)) := by
    have key : ∀ (l : List AOper) (s0 s1 : St), execs Γ cx.gl l s0 = some s1 -> ∃ s : Nat -> St, s 0 = s0 /\ s l.length = s1 /\ ∀ (i : Nat) (x : AOper), l[i]? = some x -> exec Γ cx.gl x (s i) = some (s (i + 1)) := by
      intro l
      induction l with
      | nil => intro s0 s1 h; simp only [execs, Option.some.injEq] at h; subst h; exact ⟨fun _ => s0, rfl, rfl, fun i x h => by simp at h⟩
      | cons x r ih =>
        intro s0 s1 h
        simp only [execs] at h
        split at h
        . rename_i s2 h2
          obtain ⟨s, h3, h4, h5⟩ := ih s2 s1 h
          refine ⟨fun i => if i = 0 then s0 else s (i - 1), by simp, by simp [h4], fun i y hy => ?_⟩
          cases i with
          | zero => simp at hy; subst hy; simp [h3, h2]
          | succ i => have := h5 i y (by simpa using hy); simpa using this
        . simp at h
    exact key aos st st' he
  -- what the check says
  have hchk : ∀ i, i < aos.length -> ∀ x, aos[i]? = some x -> (∀ e ∈ x.after, e < i) /\ (∀ j ∈ (ancs aos []).getD i [], j ∈ x.after \/ ∃ e ∈ x.after, j ∈ (ancs aos []).getD e []) /\
      (i < m -> x.op.isStore = false /\ (∀ y ∈ x.op.hOpds, opdOk n y = true) /\ ∀ j, j < i -> ∀ y, aos[j]? = some y -> (j ∈ (ancs aos []).getD i [] \/ confl y x = false) /\ ¬(x.op.isNew = true /\ y.op.isNew = true)) /\
      (m <= i -> ∀ j, j < i -> j ∈ (ancs aos []).getD i []) := by
    intro i hi x hx
    have := List.all_eq_true.1 hok i (List.mem_range.2 hi)
    simp only [getD_map hx, Bool.and_eq_true, List.all_eq_true, decide_eq_true_eq, Bool.or_eq_true, List.any_eq_true, List.contains_iff_mem] at this
    obtain ⟨⟨h1, h2⟩, h3⟩ := this
    refine ⟨h1, h2, fun hlt => ?_, fun hge => ?_⟩
    . rw [if_pos hlt] at h3
      simp only [Bool.and_eq_true, List.all_eq_true, List.mem_range, Bool.or_eq_true, List.contains_iff_mem, Bool.not_eq_true', Bool.and_eq_false_iff] at h3
      obtain ⟨⟨h3, h4⟩, h5⟩ := h3
      refine ⟨h3, h4, fun j hj y hy => ?_⟩
      obtain ⟨h6, h7⟩ := h5 j hj
      rw [getD_map hy] at h6 h7
      exact ⟨h6, fun ⟨e1, e2⟩ => by rcases h7 with h7 | h7 <;> simp_all⟩
    . rw [if_neg (by omega)] at h3
      simp only [List.all_eq_true, List.mem_range, List.contains_iff_mem] at h3
      exact h3
  have hud : ∀ i, ∃ u : Ud, i < m -> ∃ x, aos[i]? = some x /\ udOf Γ cx.gl x (s i) = some u /\ s (i + 1) = u.app (s i) := by
    intro i
    by_cases hi : i < m
    . have hx := List.getElem?_eq_getElem (show i < aos.length by omega)
      obtain ⟨u, h1, h2⟩ := ud_of_exec ((hchk i (by omega) _ hx).2.2.1 hi).1 (hstep i _ hx)
      exact ⟨u, fun _ => ⟨_, hx, h1, h2⟩⟩
    . exact ⟨⟨none, Nil, false, none, none⟩, fun h => absurd h hi⟩
  obtain ⟨U, hU⟩ := Classical.axiomOfChoice hud
  have hfold : ∀ i, i <= m -> foldU U (fun _ => true) st i = s i := by
    intro i
    induction i with
    | zero => intro _; exact hs0.symm
    | succ i ih =>
      intro hi
      obtain ⟨x, _, _, h3⟩ := hU i (by omega)
      simp only [foldU, if_true, ih (by omega), h3]
  have hone : OneNew U m := by
    intro k k' hk hk' h1 h2
    obtain ⟨x, hx, hux, _⟩ := hU k hk
    obtain ⟨y, hy, huy, _⟩ := hU k' hk'
    have n1 := ud_new hux h1
    have n2 := ud_new huy h2
    rcases Nat.lt_trichotomy k k' with hlt | heq | hgt
    . exact absurd ⟨n2, n1⟩ (((hchk k' (by omega) y hy).2.2.1 hk').2.2 k hlt x hx).2
    . exact heq
    . exact absurd ⟨n1, n2⟩ (((hchk k (by omega) x hx).2.2.1 hk).2.2 k' hgt y hy).2
  -- one more operation of the unordered part
  have step1 : ∀ (S : Nat -> Bool) (i : Nat), i < m -> S i = false -> (∀ k, S k = true -> k < m) -> (∀ k, S k = true -> ∀ j ∈ (ancs aos []).getD k [], S j = true) -> (∀ j ∈ (ancs aos []).getD i [], S j = true) ->
      ∀ g' a' W', SR w B GB g' (foldU U S st m) a' W' -> a'.tmps.size = n -> ∀ x, aos[i]? = some x -> exec Γ cx.gl x (foldU U S st m) = some (foldU U (fun k => S k || k == i) st m) := by
    intro S i hi hSi hSm hcl hpre g' a' W' hsr hn' x hx
    obtain ⟨x', hx', hux, _⟩ := hU i hi
    rw [hx] at hx'; cases hx'
    obtain ⟨hst, hop, hpair⟩ := (hchk i (by omega) x hx).2.2.1 hi
    -- those that meet i stand on the right side of it
    have side : ∀ k y, k < m -> aos[k]? = some y -> k ≠ i -> confl y x = true -> S k = decide (k < i) := by
      intro k y hk hy hne hcf
      rcases Nat.lt_or_ge k i with hlt | hge
      . have := (hpair k hlt y hy).1
        rw [hcf] at this
        rw [hpre k (this.resolve_right (by simp))]; simp [hlt]
      . have hgt : i < k := by omega
        have := (((hchk k (by omega) y hy).2.2.1 hk).2.2 i hgt x hx).1
        have hcf' : confl x y = true := by
          cases hh : confl x y with
          | true => rfl
          | false => rw [confl_symm hh] at hcf; cases hcf
        rw [hcf'] at this
        have hin := this.resolve_right (by simp)
        cases hSk : S k with
        | false => simp; omega
        | true => rw [hcl k hSk i hin] at hSi; cases hSi
    have hsi : foldU U (fun k => decide (k < i)) st m = s i := by rw [foldU_lt (by omega), hfold i (by omega)]
    have cf : ∀ {y : AOper}, (∃ t, t ∈ y.ws /\ (t ∈ x.rd \/ t ∈ x.ws \/ t ∈ x.op.owns)) -> confl y x = true := by
      intro y ⟨t, h1, h2⟩
      cases hh : confl y x with
      | true => rfl
      | false =>
        simp only [confl, Bool.or_eq_false_iff] at hh
        exact absurd (by simp only [List.append_assoc, List.mem_append]; exact h2) (meets_false hh.1.1.1.1.1.1 h1)
    have cf2 : ∀ {y : AOper} {t : Nat}, t ∈ y.op.owns -> t ∈ x.op.owns -> confl y x = true := by
      intro y t h1 h2
      cases hh : confl y x with
      | true => rfl
      | false =>
        simp only [confl, Bool.or_eq_false_iff] at hh
        exact absurd h2 (meets_false hh.1.1.1.1.2 h1)
    have htm : ∀ t ∈ x.rd, (foldU U S st m).tm t = (s i).tm t := by
      intro t ht
      rw [<- hsi]
      refine foldU_tm hone (Nat.le_refl _) fun k hk hd => ?_
      by_cases hki : k = i
      . subst hki; rw [hSi]; simp
      . obtain ⟨y, hy, huy, _⟩ := hU k hk
        rw [ud_d huy] at hd
        exact side k y hk hy hki (cf ⟨t, by simp [AOper.ws, hd], .inl ht⟩)
    have how : ∀ t ∈ x.op.owns, (foldU U S st m).own (.slot t) = (s i).own (.slot t) := by
      intro t ht
      rw [<- hsi]
      refine foldU_own hone (Nat.le_refl _) fun k hk hd => ?_
      by_cases hki : k = i
      . subst hki; rw [hSi]; simp
      . obtain ⟨y, hy, huy, _⟩ := hU k hk
        simp only [touches, Bool.or_eq_true, beq_iff_eq] at hd
        rcases hd with hd | hd
        . rw [ud_d huy] at hd
          exact side k y hk hy hki (cf ⟨t, by simp [AOper.ws, hd], .inr (.inr ht)⟩)
        . rcases ud_tk huy with e | ⟨t', e, h'⟩ | ⟨_, id, j, e⟩
          . rw [e] at hd; cases hd
          . rw [e] at hd; cases hd; exact side k y hk hy hki (cf2 h' ht)
          . rw [e] at hd; cases hd
    have hldo : x.op.isLdo = true -> ∀ id j, (foldU U S st m).own (.cell id j) = (s i).own (.cell id j) := by
      intro hx1 id j
      rw [<- hsi]
      refine foldU_own hone (Nat.le_refl _) fun k hk hd => ?_
      by_cases hki : k = i
      . subst hki; rw [hSi]; simp
      . obtain ⟨y, hy, huy, _⟩ := hU k hk
        simp only [touches, Bool.or_eq_true] at hd
        refine side k y hk hy hki ?_
        rcases hd with hd | hd
        . have hy1 : y.op.isLdo = true := by
            rcases ud_tk huy with e | ⟨t', e, _⟩ | ⟨h, _⟩
            . rw [e] at hd; cases hd
            . rw [e] at hd; cases hd
            . exact h
          simp [confl, hx1, hy1]
        . have hy1 := ud_new huy hd
          simp [confl, hx1, hy1]
    have hH : ∀ y ∈ x.op.hOpds, ∀ id, refId (evO (s i).tm y) = some id -> ((s i).H id).isSome = true -> (foldU U S st m).H id = (s i).H id := by
      intro y hy id hid hsome
      have hid' : refId (evO (foldU U S st m).tm y) = some id := by
        rw [<- hid]; congr 1
        refine evO_congr fun t ht => htm t ?_
        have : t ∈ x.op.reads := by
          revert hy; cases x.op <;> simp only [AOp.hOpds, List.mem_singleton, List.not_mem_nil, false_implies] <;> intro hy <;> first | (subst hy; simp [AOp.reads, ht]; done) | exact List.mem_flatMap.2 ⟨y, hy, ht⟩
        simp [AOper.rd, this]
      have hlt := hsr.ref hn' (hop y hy) hid'
      by_cases hex : ∃ k, k < m /\ (U k).nw.isSome = true
      . obtain ⟨k, hk, hnw⟩ := hex
        obtain ⟨cs, hcs⟩ := Option.isSome_iff_exists.1 hnw
        have none_of : ∀ (T : Nat -> Bool), T k = false -> (∀ j, j < m -> T j = true -> (U j).nw = none) := by
          intro T hT j hj hTj
          cases hjn : (U j).nw with
          | none => rfl
          | some z => have := hone j k hj hk (by rw [hjn]; rfl) hnw; subst this; rw [hT] at hTj; cases hTj
        have hsid : ∀ (b : Bool), decide (k < i) = b -> (s i).H = (if b = true then upd st.H st.nH (some (.cells cs)) else st.H) := by
          intro b hb
          rw [<- hsi]
          cases b with
          | true => rw [(foldU_H1 (S := fun k => decide (k < i)) hone hcs (by simpa using hb) hk (Nat.le_refl _)).1]; simp
          | false => rw [(foldU_H0 (n := m) (none_of (fun k => decide (k < i)) hb)).1]; simp
        cases hSk : S k with
        | true =>
          rw [(foldU_H1 hone hcs hSk hk (Nat.le_refl _)).1]
          rw [hsid _ rfl] at hsome ⊢
          by_cases hki : k < i
          . simp [hki]
          . simp only [hki, decide_false, Bool.false_eq_true, if_false] at hsome ⊢
            have : id ≠ st.nH := fun e => by subst e; rw [h.obn _ (Nat.le_refl _)] at hsome; cases hsome
            simp [upd, this]
        | false =>
          obtain ⟨e1, e2⟩ := foldU_H0 (s0 := st) (n := m) (none_of S hSk)
          rw [e2] at hlt
          rw [e1, hsid _ rfl]
          by_cases hki : k < i
          . simp only [hki, decide_true, if_true]
            have : id ≠ st.nH := by omega
            simp [upd, this]
          . simp [hki]
      . have hnone : ∀ (T : Nat -> Bool) j, j < m -> T j = true -> (U j).nw = none := fun T j hj _ => by
          cases hjn : (U j).nw with
          | none => rfl
          | some z => exact absurd ⟨j, hj, by rw [hjn]; rfl⟩ hex
        rw [(foldU_H0 (n := m) (hnone S)).1, <- hsi, (foldU_H0 (n := m) (hnone _)).1]
    have hu := ud_congr hst hux htm how hldo hH
    rw [exec_of_ud hst hu]
    congr 1
    symm
    refine foldU_add hSi (fun k => rfl) hi fun k h1 h2 h3 => ?_
    obtain ⟨y, hy, huy, _⟩ := hU k h2
    refine apart_of huy hux ?_ (fun h => ud_new huy h) (fun h => ud_new hux h)
    cases hh : confl y x with
    | false => rfl
    | true => have := side k y h2 hy (by omega) hh; rw [h3] at this; simp at this; omega
  -- the induction
  have hnl : aos.length = ops.size := hl
  have aft : ∀ (i : Nat) (o : Oper) (x : AOper), ops[i]? = some o -> cOper cx.P R n ops o = some x -> x.after = afters o := fun i o x _ hx => by
    simp only [cOper, Option.bind_eq_some_iff, Option.map_eq_some_iff] at hx
    obtain ⟨_, _, _, _, rfl⟩ := hx; rfl
  have getD_lt : ∀ (l : Array Bool) (k : Nat), l.size = ops.size -> k < ops.size -> l.getD k true = l.getD k false := fun l k h1 h2 => by simp [Array.getD, show k < l.size by omega]
  have nolist : ∀ (l : Array Bool), l.size = ops.size -> Region.ready .any ops l = [] -> ∀ k, k < ops.size -> l.getD k false = true := by
    intro l hls hre k
    induction k using Nat.strongRecOn with
    | _ k ih =>
      intro hk
      cases hv : l.getD k false with
      | true => rfl
      | false =>
        obtain ⟨o, x, ho, hx, hcx⟩ := hget' k hk
        have : k ∈ Region.ready .any ops l := by
          refine mem_ready.2 ⟨by rw [getD_lt l k hls hk]; exact hv, o, ho, fun e he hb => ?_⟩
          have hea : e.on ∈ x.after := by rw [aft k o x ho hcx]; exact List.mem_map.2 ⟨e, List.mem_filter.2 ⟨by simpa using he, hb⟩, rfl⟩
          have hlt := (hchk k (by omega) x hx).1 _ hea
          exact ih e.on hlt (by omega)
        rw [hre] at this; cases this
  have main : ∀ (fuel : Nat) (l : Array Bool) (g' : Gh) (a' : Act) (W' : World), l.size = ops.size -> l.toList.count false <= fuel ->
      ((∀ k, l.getD k false = true -> k < m) /\ (∀ k, l.getD k false = true -> ∀ j ∈ (ancs aos []).getD k [], l.getD j false = true) /\ SR w B GB g' (foldU U (fun k => l.getD k false) st m) a' W' \/
        ∃ i, m <= i /\ i <= ops.size /\ (∀ k, k < ops.size -> l.getD k false = decide (k < i)) /\ SR w B GB g' (s i) a' W') -> a'.tmps.size = n -> wpAny cx.P .any ops Q fuel l a' W' := by
    intro fuel
    have fin : ∀ (l : Array Bool) (g' : Gh) (a' : Act) (W' : World), l.size = ops.size -> (∀ k, k < ops.size -> l.getD k false = true) ->
        ((∀ k, l.getD k false = true -> k < m) /\ (∀ k, l.getD k false = true -> ∀ j ∈ (ancs aos []).getD k [], l.getD j false = true) /\ SR w B GB g' (foldU U (fun k => l.getD k false) st m) a' W' \/
          ∃ i, m <= i /\ i <= ops.size /\ (∀ k, k < ops.size -> l.getD k false = decide (k < i)) /\ SR w B GB g' (s i) a' W') -> a'.tmps.size = n -> Q .normal a' W' := by
      intro l g' a' W' hls hall hj hn'
      rcases hj with ⟨h1, _, h3⟩ | ⟨i, h1, h2, h3, h4⟩
      . have hmn : m = ops.size := by
          rcases Nat.lt_or_ge m ops.size with hlt | hge
          . have := h1 m (hall m hlt); omega
          . omega
        have e : foldU U (fun k => l.getD k false) st m = st' := by
          rw [foldU_congr (S' := fun _ => true) fun k hk => hall k (by omega), hfold m (Nat.le_refl _), <- hsn, hnl, hmn]
        rw [e] at h3
        exact hnext g' a' W' h3 hn'
      . have : i = ops.size := by
          rcases Nat.lt_or_ge i ops.size with hlt | hge
          . have := h3 i hlt; rw [hall i hlt] at this; simp at this
          . omega
        subst this
        rw [<- hnl, hsn] at h4
        exact hnext g' a' W' h4 hn'
    induction fuel with
    | zero =>
      intro l g' a' W' hls hcnt hj hn'
      have hall : ∀ k, k < ops.size -> l.getD k false = true := by
        intro k hk
        cases hv : l.getD k false with
        | true => rfl
        | false =>
          have hk' : k < l.size := by omega
          have : false ∈ l.toList := by
            have e : l[k] = false := by simpa [Array.getD, hk'] using hv
            rw [<- e]; simp
          have := List.count_pos_iff.2 this
          omega
      refine ⟨?_, fin l g' a' W' hls hall hj hn'⟩
      apply List.eq_nil_iff_forall_not_mem.2
      intro k hk
      obtain ⟨h1, o, h2, _⟩ := mem_ready.1 hk
      have hlt := (Array.getElem?_eq_some_iff.1 h2).1
      rw [getD_lt l k hls hlt, hall k hlt] at h1; cases h1
    | succ fuel ih =>
      intro l g' a' W' hls hcnt hj hn'
      refine ⟨fun hre => fin l g' a' W' hls (nolist l hls hre) hj hn', fun i hi => ?_⟩
      obtain ⟨h1, o, ho, hedges⟩ := mem_ready.1 hi
      have hilt := (Array.getElem?_eq_some_iff.1 ho).1
      rw [getD_lt l i hls hilt] at h1
      obtain ⟨o', x, ho', hx, hcx⟩ := hget' i hilt
      rw [ho] at ho'; cases ho'
      have hilt' : i < l.size := by omega
      have hls' : (l.setIfInBounds i true).size = ops.size := by simpa using hls
      have hcnt' : (l.setIfInBounds i true).toList.count false <= fuel := by
        have hi2 : i < l.toList.length := by simpa using hilt'
        have e : l.toList[i] = false := by simpa [Array.getD, hilt'] using h1
        have hpos : 0 < l.toList.count false := List.count_pos_iff.2 (by rw [<- e]; exact List.getElem_mem hi2)
        rw [Array.toList_setIfInBounds, List.count_set hi2, e]
        simp only [show (false == false) = true from rfl, show (true == false) = false from rfl, if_true, Bool.false_eq_true, if_false]
        omega
      have hS' : ∀ k, (l.setIfInBounds i true).getD k false = (l.getD k false || k == i) := by
        intro k
        by_cases hki : k = i
        . subst hki; simp [Array.getD, hilt']
        . rw [getD_set_ne false (fun e => hki e.symm)]; simp [hki]
      have haft : ∀ e ∈ x.after, l.getD e false = true := by
        intro e he
        rw [aft i o x ho hcx] at he
        obtain ⟨ed, hed, rfl⟩ := List.mem_map.1 he
        obtain ⟨hed1, hed2⟩ := List.mem_filter.1 hed
        exact hedges ed (by simpa using hed1) hed2
      obtain ⟨c1, c2, c3, c4⟩ := hchk i (by omega) x hx
      have hclosed : ∀ k, l.getD k false = true -> ∀ j ∈ (ancs aos []).getD k [], l.getD j false = true := by
        rcases hj with ⟨_, h, _⟩ | ⟨i0, _, h2, h3, _⟩
        . exact h
        . intro k hk j hj'
          have hk' : k < ops.size := by
            rcases Nat.lt_or_ge k ops.size with h | h
            . exact h
            . simp [Array.getD, show ¬ k < l.size by omega] at hk
          have hxk := List.getElem?_eq_getElem (show k < aos.length by omega)
          obtain ⟨d1, d2, _, _⟩ := hchk k (by omega) _ hxk
          have hki0 : k < i0 := by have := h3 k hk'; rw [hk] at this; simpa using this.symm
          have jlt : ∀ k, k < aos.length -> ∀ j ∈ (ancs aos []).getD k [], j < k := by
            intro k
            induction k using Nat.strongRecOn with
            | _ k ihk =>
              intro hk2 j hj2
              have hxk := List.getElem?_eq_getElem hk2
              obtain ⟨d1, d2, _, _⟩ := hchk k hk2 _ hxk
              rcases d2 j hj2 with h | ⟨e, he, h⟩
              . exact d1 j h
              . have := d1 e he
                have := ihk e this (by omega) j h
                omega
          have := jlt k (by omega) j hj'
          rw [h3 j (by omega)]; simp; omega
      have hpre : ∀ j ∈ (ancs aos []).getD i [], l.getD j false = true := by
        intro j hj'
        rcases c2 j hj' with h | ⟨e, he, h⟩
        . exact haft j h
        . exact hclosed e (haft e he) j h
      have hst : ∀ (st2 : St), SR w B GB g' st2 a' W' -> ∀ st3, exec Γ cx.gl x st2 = some st3 -> (∀ g2 a2 W2, SR w B GB g2 st3 a2 W2 -> ((∀ k, (l.setIfInBounds i true).getD k false = true -> k < m) /\ (∀ k, (l.setIfInBounds i true).getD k false = true -> ∀ j ∈ (ancs aos []).getD k [], (l.setIfInBounds i true).getD j false = true) /\ SR w B GB g2 (foldU U (fun k => (l.setIfInBounds i true).getD k false) st m) a2 W2 \/
          ∃ i', m <= i' /\ i' <= ops.size /\ (∀ k, k < ops.size -> (l.setIfInBounds i true).getD k false = decide (k < i')) /\ SR w B GB g2 (s i') a2 W2)) ->
          wpOp cx.P ops Q i (wpAny cx.P .any ops Q fuel (l.setIfInBounds i true)) a' W' :=
        fun st2 hsr st3 hex hnx => exec_wpOp hs hΓ hsr hn' ho hcx hex fun g2 a2 W2 h2 hn2 => ih _ g2 a2 W2 hls' hcnt' (hnx g2 a2 W2 h2) hn2
      by_cases him : i < m
      . rcases hj with ⟨j1, j2, j3⟩ | ⟨i0, j1, j2, j3, _⟩
        . refine hst _ j3 _ (step1 (fun k => l.getD k false) i him h1 j1 j2 hpre g' a' W' j3 hn' x hx) fun g2 a2 W2 h2 => .inl ⟨fun k hk => ?_, fun k hk j hj' => ?_, ?_⟩
          . rw [hS'] at hk; simp only [Bool.or_eq_true, beq_iff_eq] at hk
            rcases hk with hk | rfl
            . exact j1 k hk
            . exact him
          . rw [hS'] at hk ⊢; simp only [Bool.or_eq_true, beq_iff_eq] at hk
            rcases hk with hk | rfl
            . simp [j2 k hk j hj']
            . simp [hpre j hj']
          . rw [foldU_congr (S' := fun k => l.getD k false || k == i) fun k _ => hS' k]; exact h2
        . have := j3 i hilt; rw [h1] at this; simp at this; omega
      . have hge : m <= i := by omega
        have hall := c4 hge
        have hfull : ∀ j, j < i -> l.getD j false = true := fun j hj' => hpre j (hall j hj')
        have hsi : SR w B GB g' (s i) a' W' := by
          rcases hj with ⟨j1, _, j3⟩ | ⟨i0, j1, j2, j3, j4⟩
          . have him' : i = m := by
              rcases Nat.lt_or_ge m i with hlt | hge'
              . have := j1 m (hfull m hlt); omega
              . omega
            rw [foldU_congr (S' := fun _ => true) fun k hk => hfull k (by omega), hfold m (Nat.le_refl _), <- him'] at j3
            exact j3
          . have hii : i = i0 := by
              have h5 := j3 i hilt
              rw [h1] at h5
              have h6 : ¬ i < i0 := by simpa using h5.symm
              rcases Nat.lt_or_ge i0 i with hlt | hge'
              . have h7 := j3 i0 (by omega)
                rw [hfull i0 hlt] at h7; simp at h7
              . omega
            rw [hii]; exact j4
        refine hst _ hsi _ (hstep i x hx) fun g2 a2 W2 h2 => .inr ⟨i + 1, by omega, by omega, fun k hk => ?_, h2⟩
        rw [hS']
        rcases Nat.lt_trichotomy k i with hlt | heq | hgt
        . rw [hfull k hlt]; simp; omega
        . subst heq; simp
        . have hkf : l.getD k false = false := by
            rcases hj with ⟨j1, _, _⟩ | ⟨i0, j1, j2, j3, _⟩
            . cases hv : l.getD k false with
              | false => rfl
              | true => have := j1 k hv; omega
            . have h5 := j3 i hilt
              rw [h1] at h5
              rw [j3 k hk]
              have h6 : ¬ i < i0 := by simpa using h5.symm
              simp; omega
          have q1 : (k == i) = false := by simp; omega
          have q2 : decide (k < i + 1) = false := by simp; omega
          rw [hkf, q1, q2]; rfl
  refine main ops.size (Array.replicate ops.size false) g a W (by simp) (by simp [List.count_replicate]) (.inl ⟨fun k hk => ?_, fun k hk => ?_, ?_⟩) hn
  . exfalso; revert hk; simp [Array.getD]
  . exfalso; revert hk; simp [Array.getD]
  . have : ∀ j, foldU U (fun k => (Array.replicate ops.size false).getD k false) st j = st := by
      intro j
      induction j with
      | zero => rfl
      | succ j ih => simp only [foldU]; rw [if_neg (by simp [Array.getD]), ih]
    rw [this]; exact h
end Go.Abs
namespace Go.Abs
open Go.RowKit
variable {cx : Cx} {w : World} {B : Nat -> Prop} {GB : Gh} {g : Gh} {st : St} {a : Act} {W : World} {Γ : Spec} {R : TypeId -> Bool}
def AOper.toP (x : AOper) : AOper := match x.op with
  | .load n a => ⟨x.dst, .ldp n a, x.guard, x.after⟩
  | _ => x
theorem toP_after (x : AOper) : x.toP.after = x.after := by unfold AOper.toP; split <;> rfl
theorem exec_toP {gl : Nat -> Option (List V)} {x : AOper} {st st' : St} (h : exec Γ gl x.toP st = some st') : exec Γ gl x st = some st' := by
  obtain ⟨d, op, gd, af⟩ := x
  unfold AOper.toP at h
  cases op <;> try exact h
  rename_i n a
  simp only at h
  unfold exec at h ⊢
  have hw : st.wants ⟨d, .ldp n a, gd, af⟩ = st.wants ⟨d, .load n a, gd, af⟩ := rfl
  rw [hw] at h
  split at h
  . rename_i hwt
    rw [if_pos hwt]
    have h' : (peval Γ gl st.H st.own st.tm (.ldp n a)).map (fun r => (st.take r.tk).put d r.v r.o) = some st' := h
    show (peval Γ gl st.H st.own st.tm (.load n a)).map (fun r => (st.take r.tk).put d r.v r.o) = some st'
    have e : ∀ v, vLdp gl n (evO st.tm a) = some v -> vLoad gl st.H n (evO st.tm a) = some v := by
      intro v hv
      generalize evO st.tm a = u at hv ⊢
      cases u <;> first | exact hv | (simp [vLdp] at hv)
    simp only [Option.map_eq_some_iff] at h' ⊢
    obtain ⟨r, hr, rfl⟩ := h'
    obtain ⟨v, hv, rfl⟩ := resV_some (show resV (vLdp gl n (evO st.tm a)) = some r from hr)
    exact ⟨_, by show resV (vLoad gl st.H n (evO st.tm a)) = _; rw [e v hv]; rfl, rfl⟩
  . rename_i hwt
    rw [if_neg hwt]; exact h
def AOp.quiet (op : AOp) : Bool := op.hOpds.isEmpty && !op.isNew && !op.isLdo && !op.isStore
def earlyAt (n : Nat) (x : AOper) : Bool := match x.op, x.guard, x.dst with
  | .store _ a _, none, none => opdOk n a
  | _, _, _ => false
def drawOkE (n : Nat) (aos : List AOper) (m k : Nat) : Bool :=
  let an := ancs aos []
  let N := aos.length
  earlyAt n (aos.getD k default) &&
  (List.range N).all fun i =>
    let x := aos.getD i default
    let ai := an.getD i []
    x.after.all (fun e => decide (e < i)) &&
    ai.all (fun j => x.after.contains j || x.after.any fun e => (an.getD e []).contains j) &&
    (if i < m then
      (if i = k then (List.range i).all fun j => ai.contains j || ((aos.getD j default).op.quiet && !confl (aos.getD j default) x)
       else !x.op.isStore && x.op.hOpds.all (opdOk n) &&
        (List.range i).all fun j => if j = k then x.op.quiet && (ai.contains j || !confl (aos.getD j default) x)
          else (ai.contains j || !confl (aos.getD j default) x) && !(x.op.isNew && (aos.getD j default).op.isNew))
     else (List.range i).all fun j => ai.contains j)
def patch (b : Bool) (id : Nat) (cs : List V) (off : Nat) (ys : List V) (st : St) : St := if b then st.setOb id cs off ys else st
theorem patch_tm (b : Bool) (id : Nat) (cs : List V) (off : Nat) (ys : List V) (st : St) : (patch b id cs off ys st).tm = st.tm := by unfold patch; split <;> rfl
theorem patch_slot (b : Bool) (id : Nat) (cs : List V) (off : Nat) (ys : List V) (st : St) (t : Nat) : (patch b id cs off ys st).own (.slot t) = st.own (.slot t) := by unfold patch; split <;> rfl
theorem patch_app {u : Ud} (hn : u.nw = none) (ht : isCell u.tk = false) (b : Bool) (id : Nat) (cs : List V) (off : Nat) (ys : List V) (st : St) : patch b id cs off ys (u.app st) = u.app (patch b id cs off ys st) := by
  cases b with
  | false => rfl
  | true =>
    show (u.app st).setOb id cs off ys = u.app (st.setOb id cs off ys)
    have hk : u.took = u.tk := by unfold Ud.took; rw [hn]
    have hv : ∀ s s' : St, u.val s = u.val s' := fun s s' => by unfold Ud.val; rw [hn]
    apply St.ext'
    . funext t
      show (u.app st).tm t = _
      rw [app_tm, app_tm, hv st (st.setOb id cs off ys)]; rfl
    . funext p
      cases p with
      | slot t =>
        show (u.app st).own (.slot t) = _
        rw [app_own, app_own, hn]; rfl
      | cell i j =>
        rw [app_own]
        show (if i = id /\ off <= j /\ j < off + ys.length then false else (u.app st).own (.cell i j)) = _
        rw [app_own, hn, hk]
        have h1 : ¬(u.d.map Pos.slot = some (.cell i j)) := by cases u.d <;> simp
        have h2 : ¬(u.tk = some (.cell i j)) := fun h => by rw [h] at ht; cases ht
        simp only [if_neg h1, if_neg h2]
        rfl
    . show upd (u.app st).H id _ = _
      rw [(app_H u st).1, (app_H u _).1, hn]; rfl
    . show (u.app st).nH = _
      rw [(app_H u st).2, (app_H u _).2, hn]; rfl
theorem quiet_ud {gl : Nat -> Option (List V)} {x : AOper} {s : St} {u : Ud} (hq : x.op.quiet = true) (h : udOf Γ gl x s = some u) : u.nw = none /\ isCell u.tk = false := by
  unfold AOp.quiet at hq
  simp only [Bool.and_eq_true, Bool.not_eq_true'] at hq
  constructor
  . cases hn : u.nw with
    | none => rfl
    | some cs => have := ud_new h (by rw [hn]; rfl); rw [hq.1.1.2] at this; cases this
  . rcases ud_tk h with e | ⟨t, e, _⟩ | ⟨h', _⟩
    . rw [e]; rfl
    . rw [e]; rfl
    . rw [hq.1.2] at h'; cases h'
theorem wpAny_of (hs : Scope cx w B GB) (hΓ : Sound cx Γ) {n : Nat} {ops : Array Oper} {aos : List AOper} (hc : cOpers cx.P R n ops ops.toList = some aos) {m : Nat} (hm : m <= aos.length) (an : List (List Nat))
    (F : (Nat -> Bool) -> St) (hFc : ∀ S S' : Nat -> Bool, (∀ k, k < m -> S k = S' k) -> F S = F S') (hF0 : F (fun _ => false) = st) {s : Nat -> St} (hFm : F (fun _ => true) = s m) {st' : St} (hsn : s ops.size = st')
    (hchk : ∀ i, i < aos.length -> ∀ x, aos[i]? = some x -> (∀ e ∈ x.after, e < i) /\ (∀ j ∈ an.getD i [], j ∈ x.after \/ ∃ e ∈ x.after, j ∈ an.getD e []) /\ (m <= i -> ∀ j, j < i -> j ∈ an.getD i []))
    (step1 : ∀ (S : Nat -> Bool) (i : Nat), i < m -> S i = false -> (∀ k, S k = true -> k < m) -> (∀ k, S k = true -> ∀ j ∈ an.getD k [], S j = true) -> (∀ j ∈ an.getD i [], S j = true) ->
      ∀ g' a' W', SR w B GB g' (F S) a' W' -> a'.tmps.size = n -> ∀ x, aos[i]? = some x -> exec Γ cx.gl x (F S) = some (F (fun k => S k || k == i)))
    (hstep : ∀ (i : Nat) (x : AOper), m <= i -> aos[i]? = some x -> exec Γ cx.gl x (s i) = some (s (i + 1)))
    (h : SR w B GB g st a W) (hn : a.tmps.size = n) {Q : Exit -> Act -> World -> Prop} (hnext : ∀ g' a' W', SR w B GB g' st' a' W' -> a'.tmps.size = n -> Q .normal a' W') :
    wpAny cx.P .any ops Q ops.size (Array.replicate ops.size false) a W := by
  obtain ⟨hl, hget⟩ := cOpers_get hc
  simp only [Array.length_toList] at hl
  have hget' : ∀ i, i < ops.size -> ∃ (o : Oper) (x : AOper), ops[i]? = some o /\ aos[i]? = some x /\ cOper cx.P R n ops o = some x := fun i hi => by
    obtain ⟨x, h1, h2⟩ := hget i ops[i] (by simp [hi])
    exact ⟨ops[i], x, Array.getElem?_eq_getElem hi, h1, h2⟩
  -- the induction
  have hnl : aos.length = ops.size := hl
  have aft : ∀ (i : Nat) (o : Oper) (x : AOper), ops[i]? = some o -> cOper cx.P R n ops o = some x -> x.after = afters o := fun i o x _ hx => by
    simp only [cOper, Option.bind_eq_some_iff, Option.map_eq_some_iff] at hx
    obtain ⟨_, _, _, _, rfl⟩ := hx; rfl
  have getD_lt : ∀ (l : Array Bool) (k : Nat), l.size = ops.size -> k < ops.size -> l.getD k true = l.getD k false := fun l k h1 h2 => by simp [Array.getD, show k < l.size by omega]
  have nolist : ∀ (l : Array Bool), l.size = ops.size -> Region.ready .any ops l = [] -> ∀ k, k < ops.size -> l.getD k false = true := by
    intro l hls hre k
    induction k using Nat.strongRecOn with
    | _ k ih =>
      intro hk
      cases hv : l.getD k false with
      | true => rfl
      | false =>
        obtain ⟨o, x, ho, hx, hcx⟩ := hget' k hk
        have : k ∈ Region.ready .any ops l := by
          refine mem_ready.2 ⟨by rw [getD_lt l k hls hk]; exact hv, o, ho, fun e he hb => ?_⟩
          have hea : e.on ∈ x.after := by rw [aft k o x ho hcx]; exact List.mem_map.2 ⟨e, List.mem_filter.2 ⟨by simpa using he, hb⟩, rfl⟩
          have hlt := (hchk k (by omega) x hx).1 _ hea
          exact ih e.on hlt (by omega)
        rw [hre] at this; cases this
  have main : ∀ (fuel : Nat) (l : Array Bool) (g' : Gh) (a' : Act) (W' : World), l.size = ops.size -> l.toList.count false <= fuel ->
      ((∀ k, l.getD k false = true -> k < m) /\ (∀ k, l.getD k false = true -> ∀ j ∈ an.getD k [], l.getD j false = true) /\ SR w B GB g' (F (fun k => l.getD k false)) a' W' \/
        ∃ i, m <= i /\ i <= ops.size /\ (∀ k, k < ops.size -> l.getD k false = decide (k < i)) /\ SR w B GB g' (s i) a' W') -> a'.tmps.size = n -> wpAny cx.P .any ops Q fuel l a' W' := by
    intro fuel
    have fin : ∀ (l : Array Bool) (g' : Gh) (a' : Act) (W' : World), l.size = ops.size -> (∀ k, k < ops.size -> l.getD k false = true) ->
        ((∀ k, l.getD k false = true -> k < m) /\ (∀ k, l.getD k false = true -> ∀ j ∈ an.getD k [], l.getD j false = true) /\ SR w B GB g' (F (fun k => l.getD k false)) a' W' \/
          ∃ i, m <= i /\ i <= ops.size /\ (∀ k, k < ops.size -> l.getD k false = decide (k < i)) /\ SR w B GB g' (s i) a' W') -> a'.tmps.size = n -> Q .normal a' W' := by
      intro l g' a' W' hls hall hj hn'
      rcases hj with ⟨h1, _, h3⟩ | ⟨i, h1, h2, h3, h4⟩
      . have hmn : m = ops.size := by
          rcases Nat.lt_or_ge m ops.size with hlt | hge
          . have := h1 m (hall m hlt); omega
          . omega
        have e : F (fun k => l.getD k false) = st' := by
          rw [hFc _ (fun _ => true) fun k hk => hall k (by omega), hFm, <- hsn, hmn]
        rw [e] at h3
        exact hnext g' a' W' h3 hn'
      . have : i = ops.size := by
          rcases Nat.lt_or_ge i ops.size with hlt | hge
          . have := h3 i hlt; rw [hall i hlt] at this; simp at this
          . omega
        subst this
        rw [hsn] at h4
        exact hnext g' a' W' h4 hn'
    induction fuel with
    | zero =>
      intro l g' a' W' hls hcnt hj hn'
      have hall : ∀ k, k < ops.size -> l.getD k false = true := by
        intro k hk
        cases hv : l.getD k false with
        | true => rfl
        | false =>
          have hk' : k < l.size := by omega
          have : false ∈ l.toList := by
            have e : l[k] = false := by simpa [Array.getD, hk'] using hv
            rw [<- e]; simp
          have := List.count_pos_iff.2 this
          omega
      refine ⟨?_, fin l g' a' W' hls hall hj hn'⟩
      apply List.eq_nil_iff_forall_not_mem.2
      intro k hk
      obtain ⟨h1, o, h2, _⟩ := mem_ready.1 hk
      have hlt := (Array.getElem?_eq_some_iff.1 h2).1
      rw [getD_lt l k hls hlt, hall k hlt] at h1; cases h1
    | succ fuel ih =>
      intro l g' a' W' hls hcnt hj hn'
      refine ⟨fun hre => fin l g' a' W' hls (nolist l hls hre) hj hn', fun i hi => ?_⟩
      obtain ⟨h1, o, ho, hedges⟩ := mem_ready.1 hi
      have hilt := (Array.getElem?_eq_some_iff.1 ho).1
      rw [getD_lt l i hls hilt] at h1
      obtain ⟨o', x, ho', hx, hcx⟩ := hget' i hilt
      rw [ho] at ho'; cases ho'
      have hilt' : i < l.size := by omega
      have hls' : (l.setIfInBounds i true).size = ops.size := by simpa using hls
      have hcnt' : (l.setIfInBounds i true).toList.count false <= fuel := by
        have hi2 : i < l.toList.length := by simpa using hilt'
        have e : l.toList[i] = false := by simpa [Array.getD, hilt'] using h1
        have hpos : 0 < l.toList.count false := List.count_pos_iff.2 (by rw [<- e]; exact List.getElem_mem hi2)
        rw [Array.toList_setIfInBounds, List.count_set hi2, e]
        simp only [show (false == false) = true from rfl, show (true == false) = false from rfl, if_true, Bool.false_eq_true, if_false]
        omega
      have hS' : ∀ k, (l.setIfInBounds i true).getD k false = (l.getD k false || k == i) := by
        intro k
        by_cases hki : k = i
        . subst hki; simp [Array.getD, hilt']
        . rw [getD_set_ne false (fun e => hki e.symm)]; simp [hki]
      have haft : ∀ e ∈ x.after, l.getD e false = true := by
        intro e he
        rw [aft i o x ho hcx] at he
        obtain ⟨ed, hed, rfl⟩ := List.mem_map.1 he
        obtain ⟨hed1, hed2⟩ := List.mem_filter.1 hed
        exact hedges ed (by simpa using hed1) hed2
      obtain ⟨c1, c2, c4⟩ := hchk i (by omega) x hx
      have hclosed : ∀ k, l.getD k false = true -> ∀ j ∈ an.getD k [], l.getD j false = true := by
        rcases hj with ⟨_, h, _⟩ | ⟨i0, _, h2, h3, _⟩
        . exact h
        . intro k hk j hj'
          have hk' : k < ops.size := by
            rcases Nat.lt_or_ge k ops.size with h | h
            . exact h
            . simp [Array.getD, show ¬ k < l.size by omega] at hk
          have hxk := List.getElem?_eq_getElem (show k < aos.length by omega)
          obtain ⟨d1, d2, _⟩ := hchk k (by omega) _ hxk
          have hki0 : k < i0 := by have := h3 k hk'; rw [hk] at this; simpa using this.symm
          have jlt : ∀ k, k < aos.length -> ∀ j ∈ an.getD k [], j < k := by
            intro k
            induction k using Nat.strongRecOn with
            | _ k ihk =>
              intro hk2 j hj2
              have hxk := List.getElem?_eq_getElem hk2
              obtain ⟨d1, d2, _⟩ := hchk k hk2 _ hxk
              rcases d2 j hj2 with h | ⟨e, he, h⟩
              . exact d1 j h
              . have := d1 e he
                have := ihk e this (by omega) j h
                omega
          have := jlt k (by omega) j hj'
          rw [h3 j (by omega)]; simp; omega
      have hpre : ∀ j ∈ an.getD i [], l.getD j false = true := by
        intro j hj'
        rcases c2 j hj' with h | ⟨e, he, h⟩
        . exact haft j h
        . exact hclosed e (haft e he) j h
      have hst : ∀ (st2 : St), SR w B GB g' st2 a' W' -> ∀ st3, exec Γ cx.gl x st2 = some st3 -> (∀ g2 a2 W2, SR w B GB g2 st3 a2 W2 -> ((∀ k, (l.setIfInBounds i true).getD k false = true -> k < m) /\ (∀ k, (l.setIfInBounds i true).getD k false = true -> ∀ j ∈ an.getD k [], (l.setIfInBounds i true).getD j false = true) /\ SR w B GB g2 (F (fun k => (l.setIfInBounds i true).getD k false)) a2 W2 \/
          ∃ i', m <= i' /\ i' <= ops.size /\ (∀ k, k < ops.size -> (l.setIfInBounds i true).getD k false = decide (k < i')) /\ SR w B GB g2 (s i') a2 W2)) ->
          wpOp cx.P ops Q i (wpAny cx.P .any ops Q fuel (l.setIfInBounds i true)) a' W' :=
        fun st2 hsr st3 hex hnx => exec_wpOp hs hΓ hsr hn' ho hcx hex fun g2 a2 W2 h2 hn2 => ih _ g2 a2 W2 hls' hcnt' (hnx g2 a2 W2 h2) hn2
      by_cases him : i < m
      . rcases hj with ⟨j1, j2, j3⟩ | ⟨i0, j1, j2, j3, _⟩
        . refine hst _ j3 _ (step1 (fun k => l.getD k false) i him h1 j1 j2 hpre g' a' W' j3 hn' x hx) fun g2 a2 W2 h2 => .inl ⟨fun k hk => ?_, fun k hk j hj' => ?_, ?_⟩
          . rw [hS'] at hk; simp only [Bool.or_eq_true, beq_iff_eq] at hk
            rcases hk with hk | rfl
            . exact j1 k hk
            . exact him
          . rw [hS'] at hk ⊢; simp only [Bool.or_eq_true, beq_iff_eq] at hk
            rcases hk with hk | rfl
            . simp [j2 k hk j hj']
            . simp [hpre j hj']
          . rw [hFc _ (fun k => l.getD k false || k == i) fun k _ => hS' k]; exact h2
        . have := j3 i hilt; rw [h1] at this; simp at this; omega
      . have hge : m <= i := by omega
        have hall := c4 hge
        have hfull : ∀ j, j < i -> l.getD j false = true := fun j hj' => hpre j (hall j hj')
        have hsi : SR w B GB g' (s i) a' W' := by
          rcases hj with ⟨j1, _, j3⟩ | ⟨i0, j1, j2, j3, j4⟩
          . have him' : i = m := by
              rcases Nat.lt_or_ge m i with hlt | hge'
              . have := j1 m (hfull m hlt); omega
              . omega
            rw [hFc _ (fun _ => true) fun k hk => hfull k (by omega), hFm, <- him'] at j3
            exact j3
          . have hii : i = i0 := by
              have h5 := j3 i hilt
              rw [h1] at h5
              have h6 : ¬ i < i0 := by simpa using h5.symm
              rcases Nat.lt_or_ge i0 i with hlt | hge'
              . have h7 := j3 i0 (by omega)
                rw [hfull i0 hlt] at h7; simp at h7
              . omega
            rw [hii]; exact j4
        refine hst _ hsi _ (hstep i x hge hx) fun g2 a2 W2 h2 => .inr ⟨i + 1, by omega, by omega, fun k hk => ?_, h2⟩
        rw [hS']
        rcases Nat.lt_trichotomy k i with hlt | heq | hgt
        . rw [hfull k hlt]; simp; omega
        . subst heq; simp
        . have hkf : l.getD k false = false := by
            rcases hj with ⟨j1, _, _⟩ | ⟨i0, j1, j2, j3, _⟩
            . cases hv : l.getD k false with
              | false => rfl
              | true => have := j1 k hv; omega
            . have h5 := j3 i hilt
              rw [h1] at h5
              rw [j3 k hk]
              have h6 : ¬ i < i0 := by simpa using h5.symm
              simp; omega
          have q1 : (k == i) = false := by simp; omega
          have q2 : decide (k < i + 1) = false := by simp; omega
          rw [hkf, q1, q2]; rfl
  refine main ops.size (Array.replicate ops.size false) g a W (by simp) (by simp [List.count_replicate]) (.inl ⟨fun k hk => ?_, fun k hk => ?_, ?_⟩) hn
  . exfalso; revert hk; simp [Array.getD]
  . exfalso; revert hk; simp [Array.getD]
  . rw [hFc _ (fun _ => false) fun k hk => by simp [Array.getD], hF0]; exact h
def Ud.idle : Ud := ⟨none, Nil, false, none, none⟩
theorem idle_app (s : St) : Ud.idle.app s = s := rfl
theorem apart_idle (u : Ud) : Apart Ud.idle u where
  d t h := by cases h
  tu t h := by cases h
  tv t h := ⟨by simp [Ud.idle], by simp [Ud.idle]⟩
  c := fun h => by simp [Ud.idle, isCell] at h
  n := fun h => by simp [Ud.idle] at h
  nu := fun h => by simp [Ud.idle] at h
  nv := fun _ => rfl
theorem apart_idle' (u : Ud) : Apart u Ud.idle where
  d t h := by simp [Ud.idle]
  tu t h := ⟨by simp [Ud.idle], by simp [Ud.idle]⟩
  tv t h := by cases h
  c := fun h => by simp [Ud.idle, isCell] at h
  n := fun h => by simp [Ud.idle] at h
  nu := fun _ => rfl
  nv := fun h => by simp [Ud.idle] at h
theorem early_exec {gl : Nat -> Option (List V)} {n : Nat} {x : AOper} {s s' : St} (he : earlyAt n x = true) (h : exec Γ gl x s = some s') : ∃ k a y id cs off, x.op = .store k a y /\ x.guard = none /\ x.dst = none /\ opdOk n a = true /\ s.ev a = .ptr id off /\ hCells s.H id = some cs /\
    s' = s.setOb id cs off (s.ev y).cells /\ ∀ s2 : St, s2.ev a = s.ev a -> s2.ev y = s.ev y -> hCells s2.H id = some cs -> exec Γ gl x s2 = some (s2.setOb id cs off (s.ev y).cells) := by
  obtain ⟨d, op, gd, af⟩ := x
  unfold earlyAt at he
  split at he
  . rename_i k a y e1 e2 e3
    simp only at e1 e2 e3
    subst e1; subst e2; subst e3
    have hw : ∀ st : St, st.wants ⟨none, .store k a y, none, af⟩ = true := fun _ => rfl
    unfold exec at h
    rw [if_pos (hw s)] at h
    simp only [exec1] at h
    split at h
    . rename_i id off ep
      split at h
      . rename_i cs ec
        simp only [Option.map_eq_some_iff, St.storeOb] at h
        obtain ⟨s1, h1, rfl⟩ := h
        split at h1
        . rename_i hcnd
          simp only [Option.some.injEq] at h1
          subst h1
          refine ⟨k, a, y, id, cs, off, rfl, rfl, rfl, he, ep, ec, rfl, fun s2 q1 q2 q3 => ?_⟩
          unfold exec
          rw [if_pos (hw s2)]
          simp only [exec1]
          rw [q1, ep]
          simp only [q3, q2]
          unfold St.storeOb
          rw [if_pos hcnd]; rfl
        . cases h1
      . cases h
    . cases h
  . cases he
theorem draw_wpAnyE (hs : Scope cx w B GB) (hΓ : Sound cx Γ) {n : Nat} {ops : Array Oper} {aos0 aos : List AOper} (hc : cOpers cx.P R n ops ops.toList = some aos0) (hlen : aos.length = aos0.length) (hturn : ∀ (i : Nat) (x : AOper), aos[i]? = some x -> ∃ x0 : AOper, aos0[i]? = some x0 /\ (x = x0 \/ x = x0.toP))
    {m k : Nat} (hm : m <= aos.length) (hkm : k < m) (hok : drawOkE n aos m k = true) (h : SR w B GB g st a W) (hn : a.tmps.size = n)
    {st' : St} (he : execs Γ cx.gl aos st = some st') {Q : Exit -> Act -> World -> Prop} (hnext : ∀ g' a' W', SR w B GB g' st' a' W' -> a'.tmps.size = n -> Q .normal a' W') :
    wpAny cx.P .any ops Q ops.size (Array.replicate ops.size false) a W := by
  obtain ⟨hl, _⟩ := cOpers_get hc
  simp only [Array.length_toList] at hl
  -- the states of the text's order
  obtain ⟨s, hs0, hsn, hstep⟩ : ∃ s : Nat -> St, s 0 = st /\ s aos.length = st' /\ ∀ (i : Nat) (x : AOper), aos[i]? = some x -> exec Γ cx.gl x (s i) = some (s (i + 1)) := by
    have key : ∀ (l : List AOper) (s0 s1 : St), execs Γ cx.gl l s0 = some s1 -> ∃ s : Nat -> St, s 0 = s0 /\ s l.length = s1 /\ ∀ (i : Nat) (x : AOper), l[i]? = some x -> exec Γ cx.gl x (s i) = some (s (i + 1)) := by
      intro l
      induction l with
      | nil => intro s0 s1 h; simp only [execs, Option.some.injEq] at h; subst h; exact ⟨fun _ => s0, rfl, rfl, fun i x h => by simp at h⟩
      | cons x r ih =>
        intro s0 s1 h
        simp only [execs] at h
        split at h
        . rename_i s2 h2
          obtain ⟨s, h3, h4, h5⟩ := ih s2 s1 h
          refine ⟨fun i => if i = 0 then s0 else s (i - 1), by simp, by simp [h4], fun i y hy => ?_⟩
          cases i with
          | zero => simp at hy; subst hy; simp [h3, h2]
          | succ i => have := h5 i y (by simpa using hy); simpa using this
        . simp at h
    exact key aos st st' he
  -- what the check says
  simp only [drawOkE, Bool.and_eq_true] at hok
  obtain ⟨hearly, hok⟩ := hok
  have hxk := List.getElem?_eq_getElem (show k < aos.length by omega)
  rw [getD_map hxk] at hearly
  have hchk : ∀ i, i < aos.length -> ∀ x, aos[i]? = some x -> (∀ e ∈ x.after, e < i) /\ (∀ j ∈ (ancs aos []).getD i [], j ∈ x.after \/ ∃ e ∈ x.after, j ∈ (ancs aos []).getD e []) /\
      (i < m -> i ≠ k -> x.op.isStore = false /\ (k < i -> x.op.quiet = true) /\ (∀ y ∈ x.op.hOpds, opdOk n y = true) /\ ∀ j, j < i -> ∀ y, aos[j]? = some y -> (j ∈ (ancs aos []).getD i [] \/ confl y x = false) /\ (j ≠ k -> ¬(x.op.isNew = true /\ y.op.isNew = true))) /\
      (i = k -> ∀ j, j < i -> ∀ y, aos[j]? = some y -> j ∈ (ancs aos []).getD i [] \/ (y.op.quiet = true /\ confl y x = false)) /\
      (m <= i -> ∀ j, j < i -> j ∈ (ancs aos []).getD i []) := by
    intro i hi x hx
    have := List.all_eq_true.1 hok i (List.mem_range.2 hi)
    simp only [getD_map hx, Bool.and_eq_true] at this
    obtain ⟨⟨h1, h2⟩, h3⟩ := this
    simp only [List.all_eq_true, decide_eq_true_eq, Bool.or_eq_true, List.any_eq_true, List.contains_iff_mem] at h1 h2
    refine ⟨h1, h2, fun hlt hne => ?_, fun heq => ?_, fun hge => ?_⟩
    . rw [if_pos hlt, if_neg hne] at h3
      simp only [List.all_eq_true, List.mem_range, Bool.and_eq_true, Bool.not_eq_true'] at h3
      obtain ⟨⟨h3, h4⟩, h5⟩ := h3
      refine ⟨h3, fun hki => ?_, h4, fun j hj y hy => ?_⟩
      . have := h5 k hki
        rw [if_pos rfl] at this
        exact (Bool.and_eq_true _ _ ▸ this).1
      . have h6 := h5 j hj
        rw [getD_map hy] at h6
        by_cases hjk : j = k
        . rw [if_pos hjk] at h6
          simp only [Bool.and_eq_true, Bool.or_eq_true, List.contains_iff_mem, Bool.not_eq_true'] at h6
          exact ⟨h6.2, fun h => absurd hjk h⟩
        . rw [if_neg hjk] at h6
          simp only [Bool.and_eq_true, Bool.or_eq_true, List.contains_iff_mem, Bool.not_eq_true', Bool.and_eq_false_iff] at h6
          obtain ⟨h6, h7⟩ := h6
          exact ⟨h6, fun _ ⟨e1, e2⟩ => by rcases h7 with h7 | h7 <;> simp_all⟩
    . rw [if_pos (by omega), if_pos heq] at h3
      simp only [List.all_eq_true, List.mem_range, Bool.and_eq_true, Bool.or_eq_true, List.contains_iff_mem, Bool.not_eq_true'] at h3
      intro j hj y hy
      have := h3 j hj
      rw [getD_map hy] at this
      exact this
    . rw [if_neg (by omega)] at h3
      simp only [List.all_eq_true, List.mem_range, List.contains_iff_mem] at h3
      exact h3
  obtain ⟨kk, ka, ky, id, cs, off, kop, kgd, kds, kok, kev, kcs, ksn, kex⟩ := early_exec hearly (hstep k _ hxk)
  generalize hys : ((s k).ev ky).cells = ys at ksn kex
  have hud : ∀ i, ∃ u : Ud, (i = k -> u = .idle) /\ (i < m -> i ≠ k -> ∃ x, aos[i]? = some x /\ udOf Γ cx.gl x (s i) = some u /\ s (i + 1) = u.app (s i)) := by
    intro i
    by_cases hik : i = k
    . exact ⟨.idle, fun _ => rfl, fun _ h => absurd hik h⟩
    by_cases hi : i < m
    . have hx := List.getElem?_eq_getElem (show i < aos.length by omega)
      obtain ⟨u, h1, h2⟩ := ud_of_exec ((hchk i (by omega) _ hx).2.2.1 hi hik).1 (hstep i _ hx)
      exact ⟨u, fun h => absurd h hik, fun _ _ => ⟨_, hx, h1, h2⟩⟩
    . exact ⟨.idle, fun h => absurd h hik, fun h => absurd h hi⟩
  obtain ⟨U, hU2⟩ := Classical.axiomOfChoice hud
  have hUk : U k = .idle := (hU2 k).1 rfl
  have hU := fun i => (hU2 i).2
  have hfold : ∀ i, i <= m -> patch (decide (k < i)) id cs off ys (foldU U (fun _ => true) st i) = s i := by
    intro i
    induction i with
    | zero => intro _; exact hs0.symm
    | succ i ih =>
      intro hi
      have ih := ih (by omega)
      by_cases hik : i = k
      . subst hik
        simp only [Nat.lt_irrefl, decide_false] at ih
        have e0 : foldU U (fun _ => true) st (i + 1) = foldU U (fun _ => true) st i := by simp only [foldU, if_true, hUk, idle_app]
        rw [e0, ksn, <- ih]
        simp [patch]
      . obtain ⟨x, hx, hu, h3⟩ := hU i (by omega) hik
        simp only [foldU, if_true]
        rw [h3, <- ih]
        by_cases hki : k < i
        . have hq := ((hchk i (by omega) x hx).2.2.1 (by omega) hik).2.1 hki
          obtain ⟨q1, q2⟩ := quiet_ud hq hu
          rw [patch_app q1 q2]; simp [hki, Nat.lt_succ_of_lt hki]
        . have : ¬ k < i + 1 := by omega
          simp [hki, this, patch]
  have hone : OneNew U m := by
    intro j j' hj hj' h1 h2
    have nek : ∀ {j}, (U j).nw.isSome = true -> j ≠ k := fun h e => by rw [e, hUk] at h; cases h
    have hjk := nek h1
    have hjk' := nek h2
    obtain ⟨x, hx, hux, _⟩ := hU j hj hjk
    obtain ⟨y, hy, huy, _⟩ := hU j' hj' hjk'
    have n1 := ud_new hux h1
    have n2 := ud_new huy h2
    rcases Nat.lt_trichotomy j j' with hlt | heq | hgt
    . exact absurd ⟨n2, n1⟩ ((((hchk j' (by omega) y hy).2.2.1 hj' hjk').2.2.2 j hlt x hx).2 hjk)
    . exact heq
    . exact absurd ⟨n1, n2⟩ ((((hchk j (by omega) x hx).2.2.1 hj hjk).2.2.2 j' hgt y hy).2 hjk')
  -- any two: in order or apart
  have hpair : ∀ i, i < m -> ∀ x, aos[i]? = some x -> ∀ j, j < i -> ∀ y, aos[j]? = some y -> j ∈ (ancs aos []).getD i [] \/ confl y x = false := by
    intro i hi x hx j hj y hy
    by_cases hik : i = k
    . rcases (hchk i (by omega) x hx).2.2.2.1 hik j hj y hy with h | h
      . exact .inl h
      . exact .inr h.2
    . exact (((hchk i (by omega) x hx).2.2.1 hi hik).2.2.2 j hj y hy).1
  -- the side on which those stand that meet i
  have side : ∀ (S : Nat -> Bool) (i : Nat), i < m -> S i = false -> (∀ k, S k = true -> ∀ j ∈ (ancs aos []).getD k [], S j = true) -> (∀ j ∈ (ancs aos []).getD i [], S j = true) -> ∀ x, aos[i]? = some x ->
      ∀ k y, k < m -> aos[k]? = some y -> k ≠ i -> confl y x = true -> S k = decide (k < i) := by
    intro S i hi hSi hcl hpre x hx k y hk hy hne hcf
    rcases Nat.lt_or_ge k i with hlt | hge
    . have := hpair i hi x hx k hlt y hy
      rw [hcf] at this
      rw [hpre k (this.resolve_right (by simp))]; simp [hlt]
    . have hgt : i < k := by omega
      have := hpair k hk y hy i hgt x hx
      have hcf' : confl x y = true := by
        cases hh : confl x y with
        | true => rfl
        | false => rw [confl_symm hh] at hcf; cases hcf
      rw [hcf'] at this
      have hin := this.resolve_right (by simp)
      cases hSk : S k with
      | false => simp; omega
      | true => rw [hcl k hSk i hin] at hSi; cases hSi
  have cf : ∀ {x y : AOper}, (∃ t, t ∈ y.ws /\ (t ∈ x.rd \/ t ∈ x.ws \/ t ∈ x.op.owns)) -> confl y x = true := by
    intro x y ⟨t, h1, h2⟩
    cases hh : confl y x with
    | true => rfl
    | false =>
      simp only [confl, Bool.or_eq_false_iff] at hh
      exact absurd (by simp only [List.append_assoc, List.mem_append]; exact h2) (meets_false hh.1.1.1.1.1.1 h1)
  have cf2 : ∀ {x y : AOper} {t : Nat}, t ∈ y.op.owns -> t ∈ x.op.owns -> confl y x = true := by
    intro x y t h1 h2
    cases hh : confl y x with
    | true => rfl
    | false =>
      simp only [confl, Bool.or_eq_false_iff] at hh
      exact absurd h2 (meets_false hh.1.1.1.1.2 h1)
  have hbase : ∀ i, i <= m -> foldU U (fun k => decide (k < i)) st m = foldU U (fun _ => true) st i := fun i hi => foldU_lt hi
  have rdtm : ∀ (S : Nat -> Bool) (i : Nat), i < m -> S i = false -> (∀ k, S k = true -> ∀ j ∈ (ancs aos []).getD k [], S j = true) -> (∀ j ∈ (ancs aos []).getD i [], S j = true) -> ∀ x, aos[i]? = some x ->
      ∀ t ∈ x.rd, (foldU U S st m).tm t = (foldU U (fun _ => true) st i).tm t := by
    intro S i hi hSi hcl hpre x hx t ht
    rw [<- hbase i (by omega)]
    refine foldU_tm hone (Nat.le_refl _) fun j hj hd => ?_
    by_cases hji : j = i
    . subst hji; rw [hSi]; simp
    . by_cases hjk : j = k
      . rw [hjk, hUk] at hd; cases hd
      . obtain ⟨y, hy, huy, _⟩ := hU j hj hjk
        rw [ud_d huy] at hd
        exact side S i hi hSi hcl hpre x hx j y hj hy hji (cf ⟨t, by simp [AOper.ws, hd], .inl ht⟩)
  have patchtm : ∀ (b : Bool) (st : St), (patch b id cs off ys st).tm = st.tm := fun b st => patch_tm b id cs off ys st
  -- one more of the unordered part
  have step1 : ∀ (S : Nat -> Bool) (i : Nat), i < m -> S i = false -> (∀ k, S k = true -> k < m) -> (∀ k, S k = true -> ∀ j ∈ (ancs aos []).getD k [], S j = true) -> (∀ j ∈ (ancs aos []).getD i [], S j = true) ->
      ∀ g' a' W', SR w B GB g' (patch (S k) id cs off ys (foldU U S st m)) a' W' -> a'.tmps.size = n -> ∀ x, aos[i]? = some x ->
      exec Γ cx.gl x (patch (S k) id cs off ys (foldU U S st m)) = some (patch (S k || k == i) id cs off ys (foldU U (fun k => S k || k == i) st m)) := by
    intro S i hi hSi hSm hcl hpre g' a' W' hsr hn' x hx
    have htm := rdtm S i hi hSi hcl hpre x hx
    by_cases hik : i = k
    . -- the store
      subst hik
      have hx' : x = aos[i] := by rw [hxk] at hx; exact (Option.some.inj hx).symm
      subst hx'
      have hsk : s i = foldU U (fun _ => true) st i := by rw [<- hfold i (by omega)]; simp [patch]
      have hadd : foldU U (fun j => S j || j == i) st m = foldU U S st m := by
        have := foldU_add (U := U) (s0 := st) (S := S) (S' := fun j => S j || j == i) hSi (fun k => rfl) hi (fun j h1 h2 h3 => by rw [hUk]; exact apart_idle' _)
        rw [this, hUk, idle_app]
      rw [hSi, hadd]
      simp only [Bool.false_or, beq_self_eq_true, patch, if_true, Bool.false_eq_true, if_false]
      have hrd : ∀ t ∈ (AOp.store kk ka ky).reads, (foldU U S st m).tm t = (s i).tm t := fun t ht => by
        rw [hsk]; exact htm t (by simp only [AOper.rd, kop]; exact List.mem_append_left _ ht)
      have e1 : (foldU U S st m).ev ka = (s i).ev ka := evO_congr fun t ht => hrd t (by simp [AOp.reads, ht])
      have e2 : (foldU U S st m).ev ky = (s i).ev ky := evO_congr fun t ht => hrd t (by simp [AOp.reads, ht])
      -- the objects are the same
      have eH : (foldU U S st m).H = (s i).H := by
        rw [hsk, <- hbase i (by omega)]
        have inS : ∀ j, j < m -> (U j).nw.isSome = true -> S j = true /\ j < i := by
          intro j hj hnw
          have hji : j ≠ i := fun e => by rw [e, hUk] at hnw; cases hnw
          obtain ⟨y, hy, huy, _⟩ := hU j hj hji
          have hnq : y.op.quiet = false := by
            have := ud_new huy hnw
            simp [AOp.quiet, this]
          have hlt : j < i := by
            rcases Nat.lt_or_ge j i with h | h
            . exact h
            . have := ((hchk j (by omega) y hy).2.2.1 hj hji).2.1 (by omega)
              rw [hnq] at this; cases this
          refine ⟨?_, hlt⟩
          rcases (hchk i (by omega) _ hx).2.2.2.1 rfl j hlt y hy with h | h
          . exact hpre j h
          . rw [hnq] at h; cases h.1
        by_cases hex : ∃ j, j < m /\ (U j).nw.isSome = true
        . obtain ⟨j, hj, hnw⟩ := hex
          obtain ⟨zs, hzs⟩ := Option.isSome_iff_exists.1 hnw
          obtain ⟨q1, q2⟩ := inS j hj hnw
          rw [(foldU_H1 hone hzs q1 hj (Nat.le_refl _)).1, (foldU_H1 (S := fun k => decide (k < i)) hone hzs (by simpa using q2) hj (Nat.le_refl _)).1]
        . have hnone : ∀ (T : Nat -> Bool) j, j < m -> T j = true -> (U j).nw = none := fun T j hj _ => by
            cases hjn : (U j).nw with
            | none => rfl
            | some z => exact absurd ⟨j, hj, by rw [hjn]; rfl⟩ hex
          rw [(foldU_H0 (n := m) (hnone S)).1, (foldU_H0 (n := m) (hnone _)).1]
      exact kex _ e1 e2 (by rw [eH]; exact kcs)
    . obtain ⟨x', hx', hux, _⟩ := hU i hi hik
      rw [hx] at hx'; cases hx'
      obtain ⟨hst, hquiet, hop, _⟩ := (hchk i (by omega) x hx).2.2.1 hi hik
      have hki' : (k == i) = false := by simp; omega
      rw [hki', Bool.or_false]
      have how : ∀ t ∈ x.op.owns, (foldU U S st m).own (.slot t) = (foldU U (fun _ => true) st i).own (.slot t) := by
        intro t ht
        rw [<- hbase i (by omega)]
        refine foldU_own hone (Nat.le_refl _) fun j hj hd => ?_
        by_cases hji : j = i
        . subst hji; rw [hSi]; simp
        . by_cases hjk : j = k
          . rw [hjk, hUk] at hd; simp [touches, Ud.idle] at hd
          . obtain ⟨y, hy, huy, _⟩ := hU j hj hjk
            simp only [touches, Bool.or_eq_true, beq_iff_eq] at hd
            rcases hd with hd | hd
            . rw [ud_d huy] at hd
              exact side S i hi hSi hcl hpre x hx j y hj hy hji (cf ⟨t, by simp [AOper.ws, hd], .inr (.inr ht)⟩)
            . rcases ud_tk huy with e | ⟨t', e, h'⟩ | ⟨_, id, j, e⟩
              . rw [e] at hd; cases hd
              . rw [e] at hd; cases hd; exact side S i hi hSi hcl hpre x hx j y hj hy hji (cf2 h' ht)
              . rw [e] at hd; cases hd
      have hadd : foldU U (fun j => S j || j == i) st m = (U i).app (foldU U S st m) := by
        refine foldU_add hSi (fun k => rfl) hi fun j h1 h2 h3 => ?_
        by_cases hjk : j = k
        . rw [hjk, hUk]; exact apart_idle _
        . obtain ⟨y, hy, huy, _⟩ := hU j h2 hjk
          refine apart_of huy hux ?_ (fun h => ud_new huy h) (fun h => ud_new hux h)
          cases hh : confl y x with
          | false => rfl
          | true => have := side S i hi hSi hcl hpre x hx j y h2 hy (by omega) hh; rw [h3] at this; simp at this; omega
      by_cases hq : x.op.quiet = true
      . obtain ⟨q1, q2⟩ := quiet_ud hq hux
        have hq' := hq
        unfold AOp.quiet at hq'
        simp only [Bool.and_eq_true, Bool.not_eq_true', List.isEmpty_iff] at hq'
        have hu : udOf Γ cx.gl x (patch (S k) id cs off ys (foldU U S st m)) = some (U i) := by
          refine ud_congr hst hux (fun t ht => ?_) (fun t ht => ?_) (fun hx1 => ?_) (fun y hy => ?_)
          . rw [patchtm, htm t ht, <- hfold i (by omega), patchtm]
          . rw [patch_slot, how t ht, <- hfold i (by omega), patch_slot]
          . rw [hq'.1.2] at hx1; cases hx1
          . rw [hq'.1.1.1] at hy; cases hy
        rw [exec_of_ud hst hu, hadd, patch_app q1 q2]
      . -- what is not quiet comes before the store
        have hik2 : i < k := by
          rcases Nat.lt_or_ge k i with h | h
          . exact absurd (hquiet h) hq
          . omega
        have hSk : S k = false := by
          cases hSk : S k with
          | false => rfl
          | true =>
            rcases (hchk k (by omega) _ hxk).2.2.2.1 rfl i hik2 x hx with h | h
            . rw [hcl k hSk i h] at hSi; cases hSi
            . exact absurd h.1 hq
        have hsi : s i = foldU U (fun _ => true) st i := by rw [<- hfold i (by omega)]; simp [patch, show ¬ k < i by omega]
        rw [hSk] at hsr ⊢
        simp only [patch, Bool.false_eq_true, if_false] at hsr ⊢
        have hldo : x.op.isLdo = true -> ∀ id j, (foldU U S st m).own (.cell id j) = (s i).own (.cell id j) := by
          intro hx1 id j
          rw [hsi, <- hbase i (by omega)]
          refine foldU_own hone (Nat.le_refl _) fun j' hj hd => ?_
          by_cases hji : j' = i
          . subst hji; rw [hSi]; simp
          . by_cases hjk : j' = k
            . rw [hjk, hUk] at hd; simp [touches, Ud.idle, isCell] at hd
            . obtain ⟨y, hy, huy, _⟩ := hU j' hj hjk
              simp only [touches, Bool.or_eq_true] at hd
              refine side S i hi hSi hcl hpre x hx j' y hj hy hji ?_
              rcases hd with hd | hd
              . have hy1 : y.op.isLdo = true := by
                  rcases ud_tk huy with e | ⟨t', e, _⟩ | ⟨h, _⟩
                  . rw [e] at hd; cases hd
                  . rw [e] at hd; cases hd
                  . exact h
                simp [confl, hx1, hy1]
              . have hy1 := ud_new huy hd
                simp [confl, hx1, hy1]
        have hH : ∀ y ∈ x.op.hOpds, ∀ id, refId (evO (s i).tm y) = some id -> ((s i).H id).isSome = true -> (foldU U S st m).H id = (s i).H id := by
          intro y hy id hid hsome
          have hid' : refId (evO (foldU U S st m).tm y) = some id := by
            rw [<- hid]; congr 1
            refine evO_congr fun t ht => ?_
            have : t ∈ x.op.reads := by
              revert hy; cases x.op <;> simp only [AOp.hOpds, List.mem_singleton, List.not_mem_nil, false_implies] <;> intro hy <;> first | (subst hy; simp [AOp.reads, ht]; done) | exact List.mem_flatMap.2 ⟨y, hy, ht⟩
            rw [hsi]; exact htm t (by simp [AOper.rd, this])
          have hlt := hsr.ref hn' (hop y hy) hid'
          by_cases hex : ∃ k, k < m /\ (U k).nw.isSome = true
          . obtain ⟨k, hk, hnw⟩ := hex
            obtain ⟨cs, hcs⟩ := Option.isSome_iff_exists.1 hnw
            have none_of : ∀ (T : Nat -> Bool), T k = false -> (∀ j, j < m -> T j = true -> (U j).nw = none) := by
              intro T hT j hj hTj
              cases hjn : (U j).nw with
              | none => rfl
              | some z => have := hone j k hj hk (by rw [hjn]; rfl) hnw; subst this; rw [hT] at hTj; cases hTj
            have hsid : ∀ (b : Bool), decide (k < i) = b -> (s i).H = (if b = true then upd st.H st.nH (some (.cells cs)) else st.H) := by
              intro b hb
              rw [hsi, <- hbase i (by omega)]
              cases b with
              | true => rw [(foldU_H1 (S := fun k => decide (k < i)) hone hcs (by simpa using hb) hk (Nat.le_refl _)).1]; simp
              | false => rw [(foldU_H0 (n := m) (none_of (fun k => decide (k < i)) hb)).1]; simp
            cases hSk : S k with
            | true =>
              rw [(foldU_H1 hone hcs hSk hk (Nat.le_refl _)).1]
              rw [hsid _ rfl] at hsome ⊢
              by_cases hki : k < i
              . simp [hki]
              . simp only [hki, decide_false, Bool.false_eq_true, if_false] at hsome ⊢
                have : id ≠ st.nH := fun e => by subst e; rw [h.obn _ (Nat.le_refl _)] at hsome; cases hsome
                simp [upd, this]
            | false =>
              obtain ⟨e1, e2⟩ := foldU_H0 (s0 := st) (n := m) (none_of S hSk)
              rw [e2] at hlt
              rw [e1, hsid _ rfl]
              by_cases hki : k < i
              . simp only [hki, decide_true, if_true]
                have : id ≠ st.nH := by omega
                simp [upd, this]
              . simp [hki]
          . have hnone : ∀ (T : Nat -> Bool) j, j < m -> T j = true -> (U j).nw = none := fun T j hj _ => by
              cases hjn : (U j).nw with
              | none => rfl
              | some z => exact absurd ⟨j, hj, by rw [hjn]; rfl⟩ hex
            rw [(foldU_H0 (n := m) (hnone S)).1, hsi, <- hbase i (by omega), (foldU_H0 (n := m) (hnone _)).1]
        have hu := ud_congr hst hux (fun t ht => by rw [hsi]; exact htm t ht) (fun t ht => by rw [hsi]; exact how t ht) hldo hH
        rw [exec_of_ud hst hu, hadd]
  -- the induction
  have back : ∀ i, i < aos.length -> ∀ x0, aos0[i]? = some x0 -> ∃ x, aos[i]? = some x /\ (x = x0 \/ x = x0.toP) := by
    intro i hi x0 hx0
    have hx := List.getElem?_eq_getElem hi
    obtain ⟨x1, h1, h2⟩ := hturn i _ hx
    rw [hx0] at h1; cases h1
    exact ⟨_, hx, h2⟩
  have toE : ∀ {x x0 : AOper} {s1 s2 : St}, (x = x0 \/ x = x0.toP) -> exec Γ cx.gl x s1 = some s2 -> exec Γ cx.gl x0 s1 = some s2 := by
    intro x x0 s1 s2 h h1
    rcases h with rfl | rfl
    . exact h1
    . exact exec_toP h1
  have toA : ∀ {x x0 : AOper}, (x = x0 \/ x = x0.toP) -> x0.after = x.after := by
    intro x x0 h
    rcases h with rfl | rfl
    . rfl
    . exact (toP_after _).symm
  have lt0 : ∀ {i x0}, aos0[i]? = some x0 -> i < aos.length := fun h => by rw [hlen]; exact (List.getElem?_eq_some_iff.1 h).1
  refine wpAny_of hs hΓ hc (m := m) (by omega) (ancs aos []) (fun S => patch (S k) id cs off ys (foldU U S st m)) (fun S S' hS => ?_) ?_ (s := s) ?_ (by rw [<- hl, <- hlen]; exact hsn) (fun i hi x0 hx0 => ?_) (fun S i hi hSi hSm hcl hpre g' a' W' hsr hn' x0 hx0 => ?_) (fun i x0 hge hx0 => ?_) h hn hnext
  . show patch (S k) id cs off ys (foldU U S st m) = patch (S' k) id cs off ys (foldU U S' st m)
    rw [hS k hkm, foldU_congr hS]
  . have : ∀ j, foldU U (fun _ => false) st j = st := by
      intro j
      induction j with
      | zero => rfl
      | succ j ih => simp only [foldU]; rw [if_neg (by simp), ih]
    simp only [this]; rfl
  . rw [<- hfold m (Nat.le_refl _)]; simp [hkm]
  . obtain ⟨x, hx, hxx⟩ := back i (by omega) x0 hx0
    obtain ⟨c1, c2, _, _, c5⟩ := hchk i (by omega) x hx
    rw [toA hxx]
    exact ⟨c1, c2, c5⟩
  . obtain ⟨x, hx, hxx⟩ := back i (lt0 hx0) x0 hx0
    exact toE hxx (step1 S i hi hSi hSm hcl hpre g' a' W' hsr hn' x hx)
  . obtain ⟨x, hx, hxx⟩ := back i (lt0 hx0) x0 hx0
    exact toE hxx (hstep i x hx)
end Go.Abs
namespace Go.Abs
open Go.RowKit
def thenQ (K : St -> Prop) (Q : Ex -> St -> Prop) : Ex -> St -> Prop
  | .normal, s => K s
  | e, s => Q e s
def loopN (body : (Ex -> St -> Prop) -> St -> Prop) (Q : Ex -> St -> Prop) : Nat -> St -> Prop
  | 0, _ => False
  | k + 1, st => body (thenQ (loopN body Q k) Q) st
def condP (v : V) (p q : Prop) : Prop := match v with | .bool true => p | .bool false => q | _ => False
def someP (o : Option St) (p : St -> Prop) : Prop := match o with | some s => p s | none => False
def awp (Γ : Spec) (gl : Nat -> Option (List V)) : ACode -> (Ex -> St -> Prop) -> St -> Prop
  | .skip, Q, st => Q .normal st
  | .region ops _, Q, st => someP (execs Γ gl ops st) (Q .normal)
  | .seq a b, Q, st => awp Γ gl a (thenQ (awp Γ gl b Q) Q) st
  | .cond c a b, Q, st => condP (evO st.tm c) (awp Γ gl a Q st) (awp Γ gl b Q st)
  | .block id b, Q, st => awp Γ gl b (fun e s => Q (e.inBlock id) s) st
  | .loop b, Q, st => ∃ k, loopN (awp Γ gl b) Q k st
  | .exit id, Q, st => Q (.exit id) st
  | .ret, Q, st => Q .ret st
  | .fail, _, _ => False
theorem thenQ_mono {K K' : St -> Prop} {Q Q' : Ex -> St -> Prop} (hK : ∀ s, K s -> K' s) (hQ : ∀ e s, Q e s -> Q' e s) : ∀ e s, thenQ K Q e s -> thenQ K' Q' e s
  | .normal, s, h => hK s h
  | .exit _, s, h => hQ _ s h
  | .ret, s, h => hQ _ s h
theorem awp_mono {Γ : Spec} {gl : Nat -> Option (List V)} : ∀ {c : ACode} {Q Q' : Ex -> St -> Prop} {st : St}, (∀ e s, Q e s -> Q' e s) -> awp Γ gl c Q st -> awp Γ gl c Q' st := by
  intro c
  induction c with
  | skip => intro Q Q' st hq h; exact hq _ _ h
  | region ops d =>
    intro Q Q' st hq h
    simp only [awp] at h ⊢
    unfold someP at h ⊢
    split at h
    . exact hq _ _ h
    . exact h.elim
  | seq a b iha ihb => intro Q Q' st hq h; exact iha (thenQ_mono (fun s => ihb hq) hq) h
  | cond c a b iha ihb =>
    intro Q Q' st hq h
    simp only [awp] at h ⊢
    unfold condP at h ⊢
    split at h
    . exact iha hq h
    . exact ihb hq h
    . exact h.elim
  | block id b ih => intro Q Q' st hq h; exact ih (fun e s => hq _ s) h
  | loop b ih =>
    intro Q Q' st hq h
    obtain ⟨k, h⟩ := h
    refine ⟨k, ?_⟩
    induction k generalizing st with
    | zero => exact h.elim
    | succ k ihk => exact ih (thenQ_mono (fun s => ihk) hq) h
  | exit id => intro Q Q' st hq h; exact hq _ _ h
  | ret => intro Q Q' st hq h; exact hq _ _ h
  | fail => intro Q Q' st hq h; exact h.elim
def mOf (aos : List AOper) : Nat :=
  let an := ancs aos []
  let N := aos.length
  N - ((List.range N).reverse.takeWhile fun i => (List.range i).all fun j => (an.getD i []).contains j).length
def AOper.bare (o : AOper) : AOper := ⟨o.dst, o.op, o.guard, []⟩
theorem execs_bare {Γ : Spec} {gl : Nat -> Option (List V)} : ∀ {aos : List AOper} {st : St}, execs Γ gl (aos.map AOper.bare) st = execs Γ gl aos st
  | [], _ => rfl
  | o :: r, st => by
    simp only [List.map_cons, execs]
    have : exec Γ gl o.bare st = exec Γ gl o st := rfl
    rw [this]
    cases exec Γ gl o st with
    | none => rfl
    | some s => exact execs_bare
def idxAddrs : Code -> List (Nat × TypeId)
  | .region _ ops _ => ops.toList.filterMap fun o => match o.op, o.dst with | .indexAddr t _ _, some d => some (d, t) | _, _ => none
  | .seq a b => idxAddrs a ++ idxAddrs b
  | .cond _ a b => idxAddrs a ++ idxAddrs b
  | .block _ b => idxAddrs b
  | .loop b => idxAddrs b
  | _ => []
def storedAt : Code -> List Nat
  | .region _ ops _ => ops.toList.filterMap fun o => match o.op with | .store _ (.tmp k) _ => some k | _ => none
  | .seq a b => storedAt a ++ storedAt b
  | .cond _ a b => storedAt a ++ storedAt b
  | .block _ b => storedAt b
  | .loop b => storedAt b
  | _ => []
def idxBases : Code -> List (Nat × Nat)
  | .region _ ops _ => ops.toList.filterMap fun o => match o.op, o.dst with | .indexAddr _ (.tmp b) _, some d => some (d, b) | _, _ => none
  | .seq a b => idxBases a ++ idxBases b
  | .cond _ a b => idxBases a ++ idxBases b
  | .block _ b => idxBases b
  | .loop b => idxBases b
  | _ => []
def copiesOf : Code -> List (Nat × Nat)
  | .region _ ops _ => ops.toList.filterMap fun o => match o.op, o.dst with | .move (.tmp s), some d => some (d, s) | _, _ => none
  | .seq a b => copiesOf a ++ copiesOf b
  | .cond _ a b => copiesOf a ++ copiesOf b
  | .block _ b => copiesOf b
  | .loop b => copiesOf b
  | _ => []
def rowParam (P : Program) (f : FuncId) (t : TypeId) : Bool := match P.funcs[f]? with
  | some fn => match fn.body with
    | some c =>
      let par := fun b => match fn.params[b]? with | some u => Nat.beq u t | none => false
      isSl P t && (fn.params.toList.any (Nat.beq t)) && (idxBases c).any fun p => (storedAt c).any (Nat.beq p.1) && (par p.2 || (copiesOf c).any fun q => Nat.beq q.1 p.2 && par q.2)
    | none => false
  | none => false
def callsRow (P : Program) (t : TypeId) : Code -> Bool
  | .region _ ops _ => ops.toList.any fun o => match o.op with | .call { callee := .value (.func f), args := _, argTypes := ts } => ts.toList.any (Nat.beq t) && rowParam P f t | _ => false
  | .seq a b => callsRow P t a || callsRow P t b
  | .cond _ a b => callsRow P t a || callsRow P t b
  | .block _ b => callsRow P t b
  | .loop b => callsRow P t b
  | _ => false
def rowT (P : Program) (c : Code) (t : TypeId) : Bool := isSl P t && (((idxAddrs c).any fun p => Nat.beq p.2 t && (storedAt c).any (Nat.beq p.1)) || callsRow P t c)
def earlyOf (n : Nat) (aos : List AOper) : Option (Nat × List AOper) :=
  match (List.range aos.length).find? (fun i => (aos.getD i default).op.isStore) with
  | none => none
  | some k =>
    let an := ancs aos []
    let m := mOf aos
    let aos' := aos.mapIdx fun i x => if (decide (i < k) && (an.getD k []).contains i) || decide (m <= i) then x else x.toP
    if m <= aos.length /\ k < m /\ drawOkE n aos' m k = true then some (k, aos') else none
theorem earlyOf_some {n : Nat} {aos : List AOper} {k : Nat} {aos' : List AOper} (h : earlyOf n aos = some (k, aos')) : aos'.length = aos.length /\ mOf aos <= aos'.length /\ k < mOf aos /\ drawOkE n aos' (mOf aos) k = true /\
    ∀ (i : Nat) (x : AOper), aos'[i]? = some x -> ∃ x0 : AOper, aos[i]? = some x0 /\ (x = x0 \/ x = x0.toP) := by
  unfold earlyOf at h
  split at h
  . cases h
  . rename_i k0 hk0
    simp only at h
    split at h
    . rename_i hc
      simp only [Option.some.injEq, Prod.mk.injEq] at h
      obtain ⟨rfl, rfl⟩ := h
      refine ⟨by simp, by simpa using hc.1, hc.2.1, hc.2.2, fun i x hx => ?_⟩
      rw [List.getElem?_mapIdx] at hx
      simp only [Option.map_eq_some_iff] at hx
      obtain ⟨x0, h0, rfl⟩ := hx
      refine ⟨x0, h0, ?_⟩
      split
      . exact .inl rfl
      . exact .inr rfl
    . cases h
def comp (P : Program) (R : TypeId -> Bool) (n : Nat) : Code -> ACode
  | .skip => .skip
  | .region _ ops draw => match cOpers P R n ops ops.toList with
    | some aos => if draw then (if mOf aos <= aos.length /\ drawOk n aos (mOf aos) = true then .region (aos.map AOper.bare) true else match earlyOf n aos with | some (_, aos') => .region (aos'.map AOper.bare) true | none => .fail) else .region (aos.map AOper.bare) false
    | none => .fail
  | .seq a b => .seq (comp P R n a) (comp P R n b)
  | .cond c a b => match cOpd P n 0 c with | some c => .cond c (comp P R n a) (comp P R n b) | none => .fail
  | .block id b => .block id (comp P R n b)
  | .loop b => .loop (comp P R n b)
  | .exit id => .exit id
  | .ret => .ret
  | _ => .fail
def exm : Ex -> Exit
  | .normal => .normal
  | .exit id => .exit id
  | .ret => .ret
theorem SR.drew {w B GB g st a W} (h : SR w B GB g st a W) : SR w B GB g st a W.drew := by
  have := h.adv (Adv.refl h none).drew
  simpa [St.take] using this
variable {cx : Cx} {w : World} {B : Nat -> Prop} {GB : Gh} {Γ : Spec} {RT : TypeId -> Bool}
theorem comp_sound (hs : Scope cx w B GB) (hΓ : Sound cx Γ) (hm : cx.P.follows .mixedOrders = true) {n : Nat} : ∀ (c : Code) (Q : Ex -> St -> Prop) (g : Gh) (st : St) (a : Act) (W : World) (R : Exit -> Act -> World -> Prop),
    SR w B GB g st a W -> a.tmps.size = n -> awp Γ cx.gl (comp cx.P RT n c) Q st -> (∀ e st g a W, Q e st -> SR w B GB g st a W -> a.tmps.size = n -> R (exm e) a W) -> c.wp cx.P R a W := by
  intro c
  induction c with
  | skip => intro Q g st a W R h hn hq hR; exact wp_skip (hR .normal st g a W hq h hn)
  | exit id => intro Q g st a W R h hn hq hR; exact wp_exit (hR (.exit id) st g a W hq h hn)
  | ret => intro Q g st a W R h hn hq hR; exact wp_ret (hR .ret st g a W hq h hn)
  | region id ops draw =>
    intro Q g st a W R h hn hq hR
    simp only [comp] at hq
    split at hq
    . rename_i aos has
      have fin : ∀ (aos : List AOper) d, awp Γ cx.gl (.region (aos.map AOper.bare) d) Q st -> ∃ st', execs Γ cx.gl aos st = some st' /\ Q .normal st' := by
        intro aos d hq
        simp only [awp, execs_bare] at hq
        unfold someP at hq
        split at hq
        . exact ⟨_, by assumption, hq⟩
        . exact hq.elim
      cases draw with
      | false =>
        simp only [Bool.false_eq_true, if_false] at hq
        obtain ⟨st', he, hq⟩ := fin _ _ hq
        refine wp_region ?_
        rw [List.range_eq_range']
        exact execs_wpOps hs hΓ has (fun g' a' W' h' hn' => hR .normal st' g' a' W' hq h' hn') ops.size 0 g st a W (by omega) h hn (by simpa using he)
      | true =>
        simp only [if_true] at hq
        split at hq
        . rename_i hc
          obtain ⟨st', he, hq⟩ := fin _ _ hq
          exact wp_region_any hm (draw_wpAny hs hΓ has hc.1 hc.2 h.drew hn he fun g' a' W' h' hn' => hR .normal st' g' a' W' hq h' hn')
        . split at hq
          . rename_i k aos' hea
            obtain ⟨e1, e2, e3, e4, e5⟩ := earlyOf_some hea
            obtain ⟨st', he, hq⟩ := fin _ _ hq
            exact wp_region_any hm (draw_wpAnyE hs hΓ has e1 e5 e2 e3 e4 h.drew hn he fun g' a' W' h' hn' => hR .normal st' g' a' W' hq h' hn')
          . exact hq.elim
    . exact hq.elim
  | seq x y ihx ihy =>
    intro Q g st a W R h hn hq hR
    refine wp_seq (ihx _ g st a W _ h hn hq fun e st g a W hq h hn => ?_)
    cases e with
    | normal => exact ihy Q g st a W R h hn hq hR
    | exit id => exact hR (.exit id) st g a W hq h hn
    | ret => exact hR .ret st g a W hq h hn
  | cond c x y ihx ihy =>
    intro Q g st a W R h hn hq hR
    simp only [comp] at hq
    split at hq
    . rename_i c' hc
      have hr := cOpd_rep h hn hc
      simp only [awp] at hq
      unfold condP at hq
      split at hq
      . rename_i he; rw [he] at hr; cases hr' : a.eval c <;> rw [hr'] at hr <;> cases hr
        exact wp_cond hr' (ihx Q g st a W R h hn hq hR)
      . rename_i he; rw [he] at hr; cases hr' : a.eval c <;> rw [hr'] at hr <;> cases hr
        exact wp_cond hr' (ihy Q g st a W R h hn hq hR)
      . exact hq.elim
    . exact hq.elim
  | block id x ih =>
    intro Q g st a W R h hn hq hR
    refine wp_block (ih _ g st a W _ h hn hq fun e st g a W hq h hn => ?_)
    cases e with
    | normal => exact hR .normal st g a W hq h hn
    | exit i =>
      simp only [exm, Exit.inBlock]
      simp only [Ex.inBlock] at hq
      split
      . rename_i hi; rw [if_pos hi] at hq; exact hR .normal st g a W hq h hn
      . rename_i hi; rw [if_neg hi] at hq; exact hR (.exit i) st g a W hq h hn
    | ret => exact hR .ret st g a W hq h hn
  | loop x ih =>
    intro Q g st a W R h hn hq hR
    obtain ⟨k, hk⟩ := hq
    have key : ∀ (k : Nat) (g : Gh) (st : St) (a : Act) (W : World), SR w B GB g st a W -> a.tmps.size = n -> loopN (awp Γ cx.gl (comp cx.P RT n x)) Q k st -> ∀ b kk cs,
        ∃ e a' w', R e a' w' /\ Arrives cx.P (lone (b.at a (.code x :: .inLoop x :: kk)) cs W) b kk cs e a' w' := by
      intro k
      induction k with
      | zero => intro g st a W _ _ hl; exact hl.elim
      | succ k ihk =>
        intro g st a W h hn hl b kk cs
        have hwp := ih _ g st a W (fun e a' W' => match e with
          | .normal => ∃ g' st', SR w B GB g' st' a' W' /\ a'.tmps.size = n /\ loopN (awp Γ cx.gl (comp cx.P RT n x)) Q k st'
          | e => R e a' W') h hn hl fun e st' g' a' W' hq h' hn' => by
            cases e with
            | normal => exact ⟨g', st', h', hn', hq⟩
            | exit i => exact hR (.exit i) st' g' a' W' hq h' hn'
            | ret => exact hR .ret st' g' a' W' hq h' hn'
        obtain ⟨e, a₁, w₁, hq, harr⟩ := hwp b (.inLoop x :: kk) cs
        cases e with
        | normal =>
          obtain ⟨g', st', h', hn', hl'⟩ := hq
          obtain ⟨e₂, a₂, w₂, hq₂, harr₂⟩ := ihk g' st' a₁ w₁ h' hn' hl' b kk cs
          exact ⟨e₂, a₂, w₂, hq₂, .of_steps (Steps.trans harr (.one step_inLoop)) harr₂⟩
        | exit id => exact ⟨_, a₁, w₁, hq, .pass (x := .inLoop x) rfl (fun _ _ => .inl (by simp)) harr⟩
        | goto l => exact ⟨_, a₁, w₁, hq, .pass (x := .inLoop x) rfl (fun _ _ => .inl (by simp)) harr⟩
        | ret => exact ⟨_, a₁, w₁, hq, .pass (x := .inLoop x) rfl (fun _ _ => .inl (by simp)) harr⟩
        | panic ch => exact ⟨_, a₁, w₁, hq, .pass (x := .inLoop x) rfl (fun _ _ => .inl (by simp)) harr⟩
        | outgrown => exact ⟨_, a₁, w₁, hq, .pass (x := .inLoop x) rfl (fun _ _ => .inl (by simp)) harr⟩
    intro b kk cs
    obtain ⟨e, a', w', hq, harr⟩ := key k g st a W h hn hk b kk cs
    exact ⟨e, a', w', hq, .of_steps (.one step_loop) harr⟩
  | _ => intro Q g st a W R h hn hq hR; exact hq.elim
mutual
def V.clean : V -> Bool
  | .osl _ _ _ _ _ | .ptr _ _ | .map _ => false
  | .agg cs => cleanL cs
  | .sl _ _ cs => cleanL cs
  | .el cs _ => cleanL cs
  | .fn _ cs => cleanL cs
  | .mfn _ cs => cleanL cs
  | .tup cs => cleanL cs
  | .iface _ v => v.clean
  | _ => true
def cleanL : List V -> Bool
  | [] => true
  | v :: r => v.clean && cleanL r
end
theorem cleanL_iff : ∀ {l : List V}, cleanL l = true <-> ∀ v ∈ l, v.clean = true
  | [] => by simp [cleanL]
  | v :: r => by simp [cleanL, cleanL_iff (l := r)]
theorem V.clean_cells {v : V} (h : v.clean = true) : ∀ c ∈ v.cells, c.clean = true := by
  cases v <;> simp only [V.cells, List.mem_singleton, forall_eq] <;> first | exact h | exact cleanL_iff.1 (by simpa [V.clean] using h)
theorem Rep.clean {W G φ φ' v x} (h : Rep W G φ v x) (hc : v.clean = true) : Rep W G φ' v x := by
  induction h with
  | bool b => exact .bool b
  | int k n => exact .int k n
  | str l s h => exact .str l s h
  | agg cs xs hl hs h ih =>
    exact .agg cs xs hl hs fun i c x hi hx => ih i c x hi hx (cleanL_iff.1 (by simpa [V.clean] using hc) c (List.mem_of_getElem? hi))
  | slnil sz => exact .slnil sz
  | sl sz xs b off cap rd hcap hG hx hrd _ ih =>
    exact .sl sz xs b off cap rd hcap hG hx hrd fun i x j c hi hj => ih i x j c hi hj (V.clean_cells (cleanL_iff.1 (by simpa [V.clean] using hc) x (List.mem_of_getElem? hi)) c (List.mem_of_getElem? hj))
  | sl0 sz a => exact .sl0 sz a
  | osl => simp [V.clean] at hc
  | osln => simp [V.clean] at hc
  | el cs off b base rd hG hs hrd _ ih =>
    exact .el cs off b base rd hG hs hrd fun k c hk => ih k c hk (cleanL_iff.1 (by simpa [V.clean] using hc) c (List.mem_of_getElem? hk))
  | gp g off => exact .gp g off
  | ptr => simp [V.clean] at hc
  | nilptr => exact .nilptr
  | map => simp [V.clean] at hc
  | nilmap => exact .nilmap
  | fn f cs xs hl _ ih =>
    exact .fn f cs xs hl fun i c x hi hx => ih i c x hi hx (cleanL_iff.1 (by simpa [V.clean] using hc) c (List.mem_of_getElem? hi))
  | mfn f cs xs hl _ ih =>
    exact .mfn f cs xs hl fun i c x hi hx => ih i c x hi hx (cleanL_iff.1 (by simpa [V.clean] using hc) c (List.mem_of_getElem? hi))
  | nilfn => exact .nilfn
  | iface t v x _ ih => exact .iface t v x (ih (by simpa [V.clean] using hc))
  | nilif => exact .nilif
  | tup cs xs hl _ ih =>
    exact .tup cs xs hl fun i c x hi hx => ih i c x hi hx (cleanL_iff.1 (by simpa [V.clean] using hc) c (List.mem_of_getElem? hi))
inductive RS where
  | t (k : Nat)
  | c (k : Nat) (n : Option Nat)
  deriving Inhabited
structure AFn where
  n : Nat
  body : ACode
  res : List RS
def cRes (P : Program) (n : Nat) : List ResultVar -> Option (List RS)
  | [] => some []
  | .tmp t :: r => if t < n then (cRes P n r).map (.t t :: ·) else none
  | .cell t ty :: r => if t < n then (ldN P ty).bind fun k => (cRes P n r).map (.c t k :: ·) else none
def cFnW (P : Program) (hp : Bool) (f : FuncId) : Option AFn :=
  match P.funcs[f]? with
  | some fn => match fn.body with
    | some c => if fn.name = "runtime.NumGoroutine" then none else (cRes P fn.ntmps fn.results.toList).map fun rs => ⟨fn.ntmps, comp P (fun t => rowT P c t || (hp && (cloneFn P f).any (Nat.beq t))) fn.ntmps c, rs⟩
    | none => none
  | none => none
def cFn (P : Program) (f : FuncId) : Option AFn := cFnW P false f
def St.init (args : List V) : St := ⟨fun t => args.getD t Nil, fun _ => false, fun _ => none, 0⟩
def rv (st : St) : RS -> Option (V × Bool)
  | .t k => some (st.tm k, st.own (.slot k))
  | .c k n => match st.tm k with
    | .ptr id off => ((hCells st.H id).bind fun cs => ldCells n cs off).map fun v => (v, false)
    | _ => none
def rvs (st : St) : List RS -> Option (List V)
  | [] => some []
  | r :: rs => (rv st r).bind fun p => (rvs st rs).map (p.1 :: ·)
def resOf (res : List RS) (st : St) : Option (V × Bool) :=
  match res with
  | [r] => rv st r
  | rs => (rvs st rs).map fun vs => (.tup vs, false)
def retQ (res : List RS) (r : V × Bool) : Ex -> St -> Prop
  | .exit _, _ => False
  | _, st => ∃ p, resOf res st = some p /\ p.1 = r.1 /\ (r.2 = true -> p.2 = true)
def resM (tmps : Array Value) : ResultVar -> Sem Value
  | .tmp t => pure (tmps.getD t undef)
  | .cell a t => do loadVar t (<- asAddr (tmps.getD a undef))
theorem results_eq (fn : Func) (tmps : Array Value) (P : Program) (W : World) {ys : List Value} (h : (fn.results.toList.mapM (resM tmps)).run P W = .ok ys W) :
    (results fn tmps).run P W = .ok (if h : ys.toArray.size = 1 then ys.toArray[0] else .tuple ys.toArray) W := by
  have e : fn.results = fn.results.toList.toArray := rfl
  have key : (fn.results.mapM (resM tmps)).run P W = .ok ys.toArray W := by
    rw [e]
    simp only [List.mapM_toArray] at h ⊢
    simp [h]
  have e2 : results fn tmps = (fn.results.mapM (resM tmps)) >>= fun vs => pure (if h : vs.size = 1 then vs[0] else .tuple vs) := by
    unfold results
    congr 1
  rw [e2, Sem.run_bind, key]
  simp only [Result.andThen_ok, Sem.run_pure]
theorem rv_run {g : Gh} {st : St} {a : Act} {W : World} (hs : Scope cx w B GB) (h : SR w B GB g st a W) {r : ResultVar} {s : RS} (hc : cRes cx.P a.tmps.size [r] = some [s]) {p : V × Bool} (hp : rv st s = some p) :
    ∃ y, (resM a.tmps r).run cx.P W = .ok y W /\ Rep W g.G g.φ p.1 y /\ (p.2 = true -> ∃ t, s = .t t /\ p = (st.tm t, st.own (.slot t)) /\ t < a.tmps.size /\ y = a.tmps.getD t undef) := by
  cases r with
  | tmp t =>
    simp only [cRes] at hc
    split at hc
    . rename_i ht
      simp at hc; subst hc
      simp only [rv, Option.some.injEq] at hp; subst hp
      exact ⟨_, by simp [resM, Act.eval], h.get ht, fun _ => ⟨t, rfl, rfl, ht, rfl⟩⟩
    . simp at hc
  | cell t ty =>
    simp only [cRes] at hc
    split at hc
    . rename_i ht
      simp only [Option.bind_eq_some_iff, Option.map_some, Option.some.injEq, List.cons.injEq, and_true] at hc
      obtain ⟨k, hk, rfl⟩ := hc
      have hr := h.get ht
      simp only [rv] at hp
      split at hp
      . rename_i id off hid
        rw [hid] at hr
        simp only [Option.map_eq_some_iff] at hp
        obtain ⟨v, hv, rfl⟩ := hp
        obtain ⟨y, h1, h2⟩ := d_load hs h (u := .ptr id off) hk hr (by simpa [vLoad] using hv)
        refine ⟨y, ?_, h2, fun h => by cases h⟩
        simp only [Act.eval] at h1 hr
        generalize hxe : a.tmps.getD t undef = xv at hr h1
        cases hr
        simp only [resM, hxe]
        simpa [Instr.loadAt, Instr.sureAddr, asAddr] using h1
      . cases hp
    . simp at hc
theorem rvs_run {g : Gh} {st : St} {a : Act} {W : World} (hs : Scope cx w B GB) (h : SR w B GB g st a W) : ∀ {rs : List ResultVar} {ss : List RS} {vs : List V}, cRes cx.P a.tmps.size rs = some ss -> rvs st ss = some vs ->
    ∃ ys : List Value, (rs.mapM (resM a.tmps)).run cx.P W = .ok ys W /\ vs.length = ys.length /\ ∀ (i : Nat) (c : V) (x : Value), vs[i]? = some c -> ys[i]? = some x -> Rep W g.G g.φ c x
  | [], ss, vs, h1, h2 => by
    simp [cRes] at h1; subst h1
    simp [rvs] at h2; subst h2
    exact ⟨[], by simp, rfl, fun i c x hc => by simp at hc⟩
  | r :: rs, ss, vs, h1, h2 => by
    have hsplit : ∃ s ss', ss = s :: ss' /\ cRes cx.P a.tmps.size [r] = some [s] /\ cRes cx.P a.tmps.size rs = some ss' := by
      cases r with
      | tmp t =>
        simp only [cRes] at h1 ⊢
        split at h1
        . rename_i ht
          simp only [Option.map_eq_some_iff] at h1
          obtain ⟨ss', h3, rfl⟩ := h1
          exact ⟨_, _, rfl, by simp [ht], h3⟩
        . simp at h1
      | cell t ty =>
        simp only [cRes] at h1 ⊢
        split at h1
        . rename_i ht
          simp only [Option.bind_eq_some_iff, Option.map_eq_some_iff] at h1
          obtain ⟨k, hk, ss', h3, rfl⟩ := h1
          exact ⟨_, _, rfl, by simp [ht, hk], h3⟩
        . simp at h1
    obtain ⟨s, ss', rfl, h3, h4⟩ := hsplit
    simp only [rvs, Option.bind_eq_some_iff, Option.map_eq_some_iff] at h2
    obtain ⟨p, hp, vs', hvs, rfl⟩ := h2
    obtain ⟨y, q1, q2, _⟩ := rv_run hs h h3 hp
    obtain ⟨ys, q3, q4, q5⟩ := rvs_run hs h h4 hvs
    refine ⟨y :: ys, by simp [q1, q3], by simp [q4], fun i c x hc hx => ?_⟩
    cases i with
    | zero => simp at hc hx; subst hc; subst hx; exact q2
    | succ i => exact q5 i c x (by simpa using hc) (by simpa using hx)
theorem pc_of_awp (hgl : GlOK cx) (hm : cx.P.follows .mixedOrders = true) (hΓ : Sound cx Γ) {f : FuncId} {F : AFn} (hf : cFn cx.P f = some F) {args : List V} {r : V × Bool} (hl : args.length <= F.n) (hca : cleanL args = true) (hcr : r.1.clean = true)
    (h : awp Γ cx.gl F.body (retQ F.res r) (St.init args)) : PC cx f args r := by
  unfold cFn cFnW at hf
  split at hf
  . rename_i fn hfn
    split at hf
    . rename_i c hc
      split at hf
      . simp at hf
      . rename_i hname
        simp only [Option.map_eq_some_iff] at hf
        obtain ⟨ts, hts, rfl⟩ := hf
        have hl' : args.length <= fn.ntmps := hl
        refine ⟨⟨fn, hfn, hname, by simp [hc]⟩, fun W G φ xs hW hxs => ?_⟩
        have hB0 : cx.w0.heap.size <= W.heap.size := hW.below.size
        have hs : Scope cx W (fun b => W.heap.size <= b) ⟨G, fun _ => none, fun _ => none⟩ := ⟨hW.below, fun b hb => Nat.le_trans hB0 hb, hW.Glo, hgl⟩
        have hargs : ∀ (t : Nat) (x : Value), (xs ++ Array.replicate (fn.ntmps - xs.size) undef)[t]? = some x -> Rep W G (fun _ => none) ((St.init args).tm t) x := by
          intro t x hx
          by_cases ht : t < xs.size
          . rw [Array.getElem?_append_left ht] at hx
            obtain ⟨v, hv⟩ : ∃ v, args[t]? = some v := ⟨_, List.getElem?_eq_getElem (by rw [hxs.1]; exact ht)⟩
            have : (St.init args).tm t = v := by simp [St.init, List.getD, hv]
            rw [this]
            exact (hxs.2 t v x hv hx).clean (cleanL_iff.1 hca v (List.mem_of_getElem? hv))
          . rw [Array.getElem?_append_right (by omega)] at hx
            have hx' : x = undef := by
              rw [Array.getElem?_replicate] at hx
              split at hx <;> simp at hx
              exact hx.symm
            have : (St.init args).tm t = Nil := by simp [St.init, List.getD, List.getElem?_eq_none (show args.length <= t by rw [hxs.1]; omega)]
            rw [this, hx']
            exact .tup [] #[] rfl fun i c x hc => by simp at hc
        have h0 : SR W (fun b => W.heap.size <= b) ⟨G, fun _ => none, fun _ => none⟩ ⟨G, fun _ => none, fun _ => none⟩ (St.init args) { tmps := xs ++ Array.replicate (fn.ntmps - xs.size) undef, defers := [] } W :=
          ⟨rfl, hargs, fun t x hx ho => by simp [St.init] at ho, (fun id cs hc => by simp [St.init] at hc), (fun _ _ => rfl), (fun id b hb => by simp at hb), (fun id b hb => by simp at hb), (fun id id' b hb => by simp at hb), hW.Gz, fun _ _ => rfl, fun _ _ _ => rfl, fun _ => Nat.le_refl _, fun _ _ h => h, fun _ _ _ => rfl, .refl _ _, fun _ h => h⟩
        refine calls_of_wp hfn hc (comp_sound hs hΓ hm (n := fn.ntmps) c _ _ _ _ _ _ h0 (by simp [<- hxs.1]; omega) h fun e st g a W' hq hsr hn => ?_)
        have hts' : cRes cx.P a.tmps.size fn.results.toList = some ts := by rw [hn]; exact hts
        have fin : (∃ p, resOf ts st = some p /\ p.1 = r.1 /\ (r.2 = true -> p.2 = true)) -> a.defers = [] /\ ∃ v, (results fn a.tmps).run cx.P W' = .ok v W' /\ ∃ G' y, Ending.returned v = .returned y /\ Below W.heap.size W W' /\ (∀ b, b < W.heap.size -> G' b = G b) /\ (∀ b, W'.heap.size <= b -> G' b = 0) /\
            Rep W' G' φ r.1 y /\ (r.2 = true -> ∀ ow q, (∀ b, W.heap.size <= b -> ow b = some q) -> OwnAt W' (fun b => W.heap.size <= b) ⟨G', φ, ow⟩ q r.1 y) := by
          rintro ⟨p, hp, hr1, hr2⟩
          obtain ⟨rv0, ro⟩ := r
          simp only at hr1 hr2 hcr
          subst hr1
          by_cases h1 : ∃ s, ts = [s]
          . obtain ⟨s, rfl⟩ := h1
            simp only [resOf] at hp
            have hone : ∃ rr, fn.results.toList = [rr] := by
              cases hL : fn.results.toList with
              | nil => rw [hL] at hts; simp [cRes] at hts
              | cons rr l =>
                cases l with
                | nil => exact ⟨rr, rfl⟩
                | cons rr' l =>
                  rw [hL] at hts
                  exfalso
                  have len : ∀ {l : List ResultVar} {ss : List RS}, cRes cx.P fn.ntmps l = some ss -> l.length = ss.length := by
                    intro l
                    induction l with
                    | nil => intro ss h; simp [cRes] at h; subst h; rfl
                    | cons x l ih =>
                      intro ss h
                      cases x with
                      | tmp t =>
                        simp only [cRes] at h
                        split at h
                        . simp only [Option.map_eq_some_iff] at h
                          obtain ⟨ss', h3, rfl⟩ := h
                          simp [ih h3]
                        . simp at h
                      | cell t ty =>
                        simp only [cRes] at h
                        split at h
                        . simp only [Option.bind_eq_some_iff, Option.map_eq_some_iff] at h
                          obtain ⟨k, hk, ss', h3, rfl⟩ := h
                          simp [ih h3]
                        . simp at h
                  have := len hts
                  simp at this
            obtain ⟨rr, hrr⟩ := hone
            rw [hrr] at hts'
            obtain ⟨y, q1, q2, q3⟩ := rv_run hs hsr hts' hp
            have hm : (fn.results.toList.mapM (resM a.tmps)).run cx.P W' = .ok [y] W' := by rw [hrr]; simp [q1]
            refine ⟨hsr.defers, _, results_eq fn a.tmps cx.P W' hm, g.G, y, by simp, hsr.below.below, (fun b hb => hsr.Glo b (Nat.not_le.2 hb)), hsr.Gz, q2.clean hcr, fun ho ow q hqq sz ys b off len cap sp hv hx => ?_⟩
            obtain ⟨t, rfl, hpe, ht, hy⟩ := q3 (hr2 ho)
            have e : a.tmps[t]? = some (a.tmps.getD t undef) := by rw [Array.getElem?_eq_getElem ht]; simp [Array.getD, ht]
            subst hpe
            simp only at hv hr2
            rcases hsr.own t _ e (hr2 ho) sz ys b off len cap sp hv (by rw [<- hy]; exact hx) with h2 | ⟨h2, h3, h4⟩
            . exact .inl h2
            . exact .inr ⟨h2, hqq b h2, h4⟩
          . have hr' : resOf ts st = (rvs st ts).map fun vs => (.tup vs, false) := by
              unfold resOf
              split
              . exact absurd ⟨_, rfl⟩ h1
              . rfl
            rw [hr', Option.map_eq_some_iff] at hp
            obtain ⟨vs, hvs, rfl⟩ := hp
            obtain ⟨ys, q1, q2, q3⟩ := rvs_run hs hsr hts' hvs
            have hne : ¬ ys.toArray.size = 1 := by
              intro he
              simp at he
              have hl : ∀ {ss : List RS} {vs : List V}, rvs st ss = some vs -> ss.length = vs.length := by
                intro ss
                induction ss with
                | nil => intro vs h; simp [rvs] at h; subst h; rfl
                | cons s ss ih =>
                  intro vs h
                  simp only [rvs, Option.bind_eq_some_iff, Option.map_eq_some_iff] at h
                  obtain ⟨p, _, vs', h3, rfl⟩ := h
                  simp [ih h3]
              have := hl hvs
              exact h1 (List.length_eq_one_iff.1 (by omega))
            refine ⟨hsr.defers, _, results_eq fn a.tmps cx.P W' q1, g.G, .tuple ys.toArray, by rw [dif_neg hne], hsr.below.below, (fun b hb => hsr.Glo b (Nat.not_le.2 hb)), hsr.Gz, ?_, fun ho => absurd (hr2 ho) (by simp)⟩
            exact Rep.clean (φ := g.φ) (.tup _ _ (by simpa using q2) fun i c x hi hx => q3 i c x hi (by simpa using hx)) hcr
        cases e with
        | normal => exact fin hq
        | exit i => exact hq.elim
        | ret => exact fin hq
    . simp at hf
  . simp at hf
def St.initH (args : List V) (hs : HS) : St := ⟨fun t => args.getD t Nil, fun p => match p with | .cell i j => hs.co i j | .slot _ => false, hs.H, hs.nH⟩
def retH (res : List RS) (r : V × Bool) (hs' : HS) : Ex -> St -> Prop
  | .exit _, _ => False
  | _, st => (∃ p, resOf res st = some p /\ p.1 = r.1 /\ (r.2 = true -> p.2 = true)) /\ st.hs = hs'
def Gh.out (g : Gh) (tr : Option Nat) : Gh := ⟨g.G, g.φ, fun b => match g.ow b with | some (.slot t) => if tr = some t then some (.slot 0) else none | q => q⟩
theorem SR.hrelOut {a : Act} {W : World} {g : Gh} {st : St} (h : SR w B GB g st a W) (tr : Option Nat) : HRel B (g.out tr) st.hs W where
  ob id o hH := by
    refine ObOK.keep (h.ob id o hH) (.refl _ _ _) rfl (fun _ _ => rfl) (fun j v x hw => ⟨hw, fun hq => ?_⟩)
    intro sz ys b' off len cap sp e1 e2
    rcases hq sz ys b' off len cap sp e1 e2 with h6 | ⟨h6, h7, h8⟩
    . exact .inl h6
    . exact .inr ⟨h6, by simp only [Gh.out, h7], h8⟩
  obn := h.obn
  φ := h.φ
  live id b hb := by
    obtain ⟨h3, h4⟩ := h.live id b hb
    exact ⟨h3, by simp only [Gh.out, h4]⟩
  inj := h.inj
  Gz := h.Gz
theorem cRes_length {P : Program} {n : Nat} : ∀ {l : List ResultVar} {ss : List RS}, cRes P n l = some ss -> l.length = ss.length
  | [], ss, h => by simp [cRes] at h; subst h; rfl
  | .tmp t :: l, ss, h => by
    simp only [cRes] at h
    split at h
    . simp only [Option.map_eq_some_iff] at h
      obtain ⟨ss', h3, rfl⟩ := h
      simp [cRes_length h3]
    . simp at h
  | .cell t ty :: l, ss, h => by
    simp only [cRes] at h
    split at h
    . simp only [Option.bind_eq_some_iff, Option.map_eq_some_iff] at h
      obtain ⟨k, hk, ss', h3, rfl⟩ := h
      simp [cRes_length h3]
    . simp at h
theorem rvs_length {st : St} : ∀ {ss : List RS} {vs : List V}, rvs st ss = some vs -> ss.length = vs.length
  | [], vs, h => by simp [rvs] at h; subst h; rfl
  | s :: ss, vs, h => by
    simp only [rvs, Option.bind_eq_some_iff, Option.map_eq_some_iff] at h
    obtain ⟨p, _, vs', h3, rfl⟩ := h
    simp [rvs_length h3]
theorem pch_of_awp (hgl : GlOK cx) (hm : cx.P.follows .mixedOrders = true) (hΓ : Sound cx Γ) {f : FuncId} {F : AFn} {hp : Bool} (hf : cFnW cx.P hp f = some F) {args : List V} {hs hs' : HS} {r : V × Bool} (hl : args.length <= F.n)
    (h : awp Γ cx.gl F.body (retH F.res r hs') (St.initH args hs)) : PCH cx f args hs r hs' := by
  unfold cFnW at hf
  split at hf
  . rename_i fn hfn
    split at hf
    . rename_i c hc
      split at hf
      . simp at hf
      . rename_i hname
        simp only [Option.map_eq_some_iff] at hf
        obtain ⟨ts, hts, rfl⟩ := hf
        have hl' : args.length <= fn.ntmps := hl
        refine ⟨⟨fn, hfn, hname, by simp [hc]⟩, fun W M g xs hW hM hrel hsl hxs => ?_⟩
        have hB0 : cx.w0.heap.size <= W.heap.size := hW.below.size
        have hsc : Scope cx W (fun b => W.heap.size <= b \/ M b) g := ⟨hW.below, fun b hb => hb.elim (fun h => Nat.le_trans hB0 h) (hM b), hW.Glo, hgl⟩
        have hargs : ∀ (t : Nat) (x : Value), (xs ++ Array.replicate (fn.ntmps - xs.size) undef)[t]? = some x -> Rep W g.G g.φ ((St.initH args hs).tm t) x := by
          intro t x hx
          by_cases ht : t < xs.size
          . rw [Array.getElem?_append_left ht] at hx
            obtain ⟨v, hv⟩ : ∃ v, args[t]? = some v := ⟨_, List.getElem?_eq_getElem (by rw [hxs.1]; exact ht)⟩
            have : (St.initH args hs).tm t = v := by simp [St.initH, List.getD, hv]
            rw [this]
            exact hxs.2 t v x hv hx
          . rw [Array.getElem?_append_right (by omega)] at hx
            have hx' : x = undef := by
              rw [Array.getElem?_replicate] at hx
              split at hx <;> simp at hx
              exact hx.symm
            have : (St.initH args hs).tm t = Nil := by simp [St.initH, List.getD, List.getElem?_eq_none (show args.length <= t by rw [hxs.1]; omega)]
            rw [this, hx']
            exact .tup [] #[] rfl fun i c x hc => by simp at hc
        have h0 : SR W (fun b => W.heap.size <= b \/ M b) g g (St.initH args hs) { tmps := xs ++ Array.replicate (fn.ntmps - xs.size) undef, defers := [] } W :=
          { defers := rfl
            tm := hargs
            own := fun t x hx ho => by simp [St.initH] at ho
            ob := fun id o hc => by
              refine ObOK.keep (hrel.ob id o hc) (.refl _ _ _) rfl (fun _ _ => rfl) (fun j v x hw => ⟨hw, fun hq => ?_⟩)
              intro sz zs b' off len cap sp e1 e2
              rcases hq sz zs b' off len cap sp e1 e2 with h6 | ⟨h6, h7⟩
              . exact .inl h6
              . exact .inr ⟨.inr h6, h7⟩
            obn := hrel.obn
            φ := fun id b hb => by
              obtain ⟨h1, h2⟩ := hrel.φ id b hb
              exact ⟨.inr h1, h2⟩
            live := hrel.live
            inj := hrel.inj
            Gz := hrel.Gz
            Glo := fun _ _ => rfl
            kp := fun _ _ _ => rfl
            kG := fun _ => Nat.le_refl _
            kφ := fun _ _ h => h
            ksz := fun _ _ _ => rfl
            below := .refl _ _
            hB := fun b hb => .inl hb }
        refine calls_of_wp hfn hc (comp_sound hsc hΓ hm (n := fn.ntmps) c _ _ _ _ _ _ h0 (by simp [<- hxs.1]; omega) h fun e st gf a W' hq hsr hn => ?_)
        have hts' : cRes cx.P a.tmps.size fn.results.toList = some ts := by rw [hn]; exact hts
        have hkeep : Keeps W g.G g.φ W' gf.G gf.φ := ⟨hsr.kp, hsr.kG, hsr.kφ, hsr.ksz⟩
        have fin : ((∃ p, resOf ts st = some p /\ p.1 = r.1 /\ (r.2 = true -> p.2 = true)) /\ st.hs = hs') -> a.defers = [] /\ ∃ v, (results fn a.tmps).run cx.P W' = .ok v W' /\ ∃ g' y, Ending.returned v = .returned y /\ Bel (fun b => W.heap.size <= b \/ M b) W W' /\ (∀ b, b < W.heap.size -> ¬ M b -> g'.G b = g.G b) /\ Keeps W g.G g.φ W' g'.G g'.φ /\
            HRel (fun b => W.heap.size <= b \/ M b) g' hs' W' /\ Rep W' g'.G g'.φ r.1 y /\ (r.2 = true -> OwnAt W' (fun b => W.heap.size <= b \/ M b) g' (.slot 0) r.1 y) := by
          rintro ⟨⟨p, hp, hr1, hr2⟩, rfl⟩
          obtain ⟨rv0, ro⟩ := r
          simp only at hr1 hr2
          subst hr1
          have hGlo : ∀ b, b < W.heap.size -> ¬ M b -> gf.G b = g.G b := fun b h1 h2 => hsr.Glo b fun h3 => h3.elim (fun h => by omega) h2
          by_cases h1 : ∃ s, ts = [s]
          . obtain ⟨s, rfl⟩ := h1
            simp only [resOf] at hp
            obtain ⟨rr, hrr⟩ : ∃ rr, fn.results.toList = [rr] := List.length_eq_one_iff.1 (by have := cRes_length hts; simpa using this)
            rw [hrr] at hts'
            obtain ⟨y, q1, q2, q3⟩ := rv_run hsc hsr hts' hp
            have hm : (fn.results.toList.mapM (resM a.tmps)).run cx.P W' = .ok [y] W' := by rw [hrr]; simp [q1]
            refine ⟨hsr.defers, _, results_eq fn a.tmps cx.P W' hm, gf.out (match s with | .t t => some t | _ => none), y, by simp, hsr.below, hGlo, hkeep, hsr.hrelOut _, q2, fun ho => ?_⟩
            obtain ⟨t, rfl, hpe, ht, hy⟩ := q3 (hr2 ho)
            have e : a.tmps[t]? = some (a.tmps.getD t undef) := by rw [Array.getElem?_eq_getElem ht]; simp [Array.getD, ht]
            subst hpe
            intro sz xs b off len cap sp hv hx
            simp only at hv hr2
            rcases hsr.own t _ e (hr2 ho) sz xs b off len cap sp hv (by rw [<- hy]; exact hx) with h2 | ⟨h2, h3, h4⟩
            . exact .inl h2
            . exact .inr ⟨h2, by simp only [Gh.out, h3, if_true], h4⟩
          . have hr' : resOf ts st = (rvs st ts).map fun vs => (.tup vs, false) := by
              unfold resOf
              split
              . exact absurd ⟨_, rfl⟩ h1
              . rfl
            rw [hr', Option.map_eq_some_iff] at hp
            obtain ⟨vs, hvs, rfl⟩ := hp
            obtain ⟨ys, q1, q2, q3⟩ := rvs_run hsc hsr hts' hvs
            have hne : ¬ ys.toArray.size = 1 := by
              intro he
              simp at he
              have := rvs_length hvs
              exact h1 (List.length_eq_one_iff.1 (by omega))
            refine ⟨hsr.defers, _, results_eq fn a.tmps cx.P W' q1, gf.out none, .tuple ys.toArray, by rw [dif_neg hne], hsr.below, hGlo, hkeep, hsr.hrelOut _, ?_, fun ho => absurd (hr2 ho) (by simp)⟩
            exact .tup _ _ (by simpa using q2) fun i c x hi hx => q3 i c x hi (by simpa using hx)
        cases e with
        | normal => exact fin hq
        | exit i => exact hq.elim
        | ret => exact fin hq
    . simp at hf
  . simp at hf
end Go.Abs
namespace Go.Abs
open Go.RowKit
def repl {α : Type} (n : Nat) (x : α) : List α := List.replicate n x
@[simp] theorem repl_length {α : Type} (n : Nat) (x : α) : (repl n x).length = n := by simp [repl]
@[simp] theorem mem_repl {α : Type} (n : Nat) (x y : α) : (y ∈ repl n x) = (n ≠ 0 /\ y = x) := by simp [repl]
abbrev Glob := Nat -> Option (List V)
def runs (Γ : Abs.Spec) (gl : Glob) : List AOper -> (St -> Prop) -> St -> Prop
  | [], K, st => K st
  | o :: r, K, st => someP (exec Γ gl o st) (runs Γ gl r K)
theorem runs_eq {Γ : Abs.Spec} {gl : Glob} : ∀ {os : List AOper} {st : St} {K : St -> Prop}, someP (execs Γ gl os st) K = runs Γ gl os K st
  | [], _, _ => rfl
  | o :: r, st, K => by
    simp only [execs, runs]
    cases exec Γ gl o st with
    | none => rfl
    | some s => exact runs_eq
def blockQ (i : Nat) (Q : Ex -> St -> Prop) (e : Ex) (s : St) : Prop := Q (e.inBlock i) s
def condA (v : V) (Γ : Abs.Spec) (gl : Glob) (a b : ACode) (Q : Ex -> St -> Prop) (st : St) : Prop := condP v (awp Γ gl a Q st) (awp Γ gl b Q st)
variable {Γ : Abs.Spec} {gl : Glob} {Q : Ex -> St -> Prop} {st : St}
@[simp] theorem someP_some (s : St) (p : St -> Prop) : someP (some s) p = p s := (rfl)
section
variable {a b : ACode}
@[simp] theorem condA_true : condA (.bool true) Γ gl a b Q st = awp Γ gl a Q st := (rfl)
@[simp] theorem condA_false : condA (.bool false) Γ gl a b Q st = awp Γ gl b Q st := (rfl)
end
@[simp] theorem thenQ_normal (K : St -> Prop) (Q : Ex -> St -> Prop) (s : St) : thenQ K Q .normal s = K s := (rfl)
@[simp] theorem thenQ_exit (K : St -> Prop) (Q : Ex -> St -> Prop) (i : Nat) (s : St) : thenQ K Q (.exit i) s = Q (.exit i) s := (rfl)
@[simp] theorem thenQ_ret (K : St -> Prop) (Q : Ex -> St -> Prop) (s : St) : thenQ K Q .ret s = Q .ret s := (rfl)
@[simp] theorem blockQ_normal (i : Nat) (Q : Ex -> St -> Prop) (s : St) : blockQ i Q .normal s = Q .normal s := (rfl)
@[simp] theorem blockQ_ret (i : Nat) (Q : Ex -> St -> Prop) (s : St) : blockQ i Q .ret s = Q .ret s := (rfl)
@[simp] theorem blockQ_exit (i j : Nat) (Q : Ex -> St -> Prop) (s : St) : blockQ i Q (.exit j) s = if j = i then Q .normal s else Q (.exit j) s := by
  simp only [blockQ, Ex.inBlock]; split <;> rfl
@[simp] theorem awp_skip : awp Γ gl .skip Q st = Q .normal st := (rfl)
@[simp] theorem awp_region (os : List AOper) (d : Bool) : awp Γ gl (.region os d) Q st = runs Γ gl os (Q .normal) st := by rw [<- runs_eq]; rfl
@[simp] theorem awp_seq (a b : ACode) : awp Γ gl (.seq a b) Q st = awp Γ gl a (thenQ (awp Γ gl b Q) Q) st := (rfl)
@[simp] theorem awp_cond (c : Opd) (a b : ACode) : awp Γ gl (.cond c a b) Q st = condA (evO st.tm c) Γ gl a b Q st := (rfl)
@[simp] theorem awp_block (i : Nat) (b : ACode) : awp Γ gl (.block i b) Q st = awp Γ gl b (blockQ i Q) st := (rfl)
@[simp] theorem awp_exit (i : Nat) : awp Γ gl (.exit i) Q st = Q (.exit i) st := (rfl)
@[simp] theorem awp_ret : awp Γ gl .ret Q st = Q .ret st := (rfl)
@[simp] theorem runs_nil (K : St -> Prop) : runs Γ gl [] K st = K st := (rfl)
@[simp] theorem runs_cons (o : AOper) (r : List AOper) (K : St -> Prop) : runs Γ gl (o :: r) K st = someP (exec Γ gl o st) (runs Γ gl r K) := (rfl)
@[simp] theorem evO_tmp (tm : Nat -> V) (t : Nat) : evO tm (.tmp t) = tm t := (rfl)
@[simp] theorem evO_const (tm : Nat -> V) (v : V) : evO tm (.const v) = v := (rfl)
@[simp] theorem put_none (v : V) (o : Bool) : st.put none v o = st := (rfl)
@[simp] theorem put_tm (d : Nat) (v : V) (o : Bool) (t : Nat) : (st.put (some d) v o).tm t = if t = d then v else st.tm t := (rfl)
@[simp] theorem put_own (d : Nat) (v : V) (o : Bool) (t : Nat) : (st.put (some d) v o).own (.slot t) = if t = d then o else st.own (.slot t) := by simp [St.put, updP]
@[simp] theorem put_ownc (d : Nat) (v : V) (o : Bool) (i j : Nat) : (st.put (some d) v o).own (.cell i j) = st.own (.cell i j) := by simp [St.put, updP]
@[simp] theorem put_H (d : Nat) (v : V) (o : Bool) : (st.put (some d) v o).H = st.H := (rfl)
@[simp] theorem put_nH (d : Nat) (v : V) (o : Bool) : (st.put (some d) v o).nH = st.nH := (rfl)
@[simp] theorem take_none : st.take none = st := (rfl)
@[simp] theorem take_own (p q : Pos) : (st.take (some p)).own q = if q = p then false else st.own q := (rfl)
@[simp] theorem new_tm (cs : List V) : (st.new cs).tm = st.tm := (rfl)
@[simp] theorem new_own (cs : List V) (t : Nat) : (st.new cs).own (.slot t) = st.own (.slot t) := (rfl)
@[simp] theorem new_ownc (cs : List V) (i j : Nat) : (st.new cs).own (.cell i j) = if i = st.nH then false else st.own (.cell i j) := (rfl)
@[simp] theorem new_H (cs : List V) (i : Nat) : (st.new cs).H i = if i = st.nH then some (.cells cs) else st.H i := (rfl)
@[simp] theorem new_nH (cs : List V) : (st.new cs).nH = st.nH + 1 := (rfl)
@[simp] theorem setOb_tm (id : Nat) (cs : List V) (off : Nat) (ys : List V) : (st.setOb id cs off ys).tm = st.tm := (rfl)
@[simp] theorem setOb_own (id : Nat) (cs : List V) (off : Nat) (ys : List V) (t : Nat) : (st.setOb id cs off ys).own (.slot t) = st.own (.slot t) := (rfl)
@[simp] theorem setOb_ownc (id : Nat) (cs : List V) (off : Nat) (ys : List V) (i j : Nat) : (st.setOb id cs off ys).own (.cell i j) = if i = id /\ off <= j /\ j < off + ys.length then false else st.own (.cell i j) := (rfl)
@[simp] theorem setOb_H (id : Nat) (cs : List V) (off : Nat) (ys : List V) (i : Nat) : (st.setOb id cs off ys).H i = if i = id then some (.cells (setAt cs off ys)) else st.H i := (rfl)
@[simp] theorem setOb_nH (id : Nat) (cs : List V) (off : Nat) (ys : List V) : (st.setOb id cs off ys).nH = st.nH := (rfl)
@[simp] theorem stoOb_tm (id : Nat) (cs : List V) (off t : Nat) : (st.stoOb id cs off t).tm = st.tm := (rfl)
@[simp] theorem stoOb_own (id : Nat) (cs : List V) (off t u : Nat) : (st.stoOb id cs off t).own (.slot u) = if u = t then false else st.own (.slot u) := by simp [St.stoOb, updP]
@[simp] theorem stoOb_ownc (id : Nat) (cs : List V) (off t i j : Nat) : (st.stoOb id cs off t).own (.cell i j) = if i = id /\ j = off then st.own (.slot t) else st.own (.cell i j) := by simp [St.stoOb, updP]
@[simp] theorem stoOb_H (id : Nat) (cs : List V) (off t i : Nat) : (st.stoOb id cs off t).H i = if i = id then some (.cells (setAt cs off [st.tm t])) else st.H i := (rfl)
@[simp] theorem stoOb_nH (id : Nat) (cs : List V) (off t : Nat) : (st.stoOb id cs off t).nH = st.nH := (rfl)
@[simp] theorem init_tm (args : List V) (t : Nat) : (St.init args).tm t = args.getD t Nil := (rfl)
@[simp] theorem init_own (args : List V) (p : Pos) : (St.init args).own p = false := (rfl)
@[simp] theorem init_H (args : List V) (i : Nat) : (St.init args).H i = none := (rfl)
@[simp] theorem init_nH (args : List V) : (St.init args).nH = 0 := (rfl)
def putV (st : St) (d : Option Nat) (v : Option V) : Option St := v.map fun v => st.put d v false
def putR (st : St) (d : Option Nat) (r : Option Res) : Option St := r.map fun r => (st.take r.tk).put d r.v r.o
@[simp] theorem putV_some (d : Option Nat) (v : V) : putV st d (some v) = some (st.put d v false) := (rfl)
@[simp] theorem putR_some (d : Option Nat) (v : V) (o : Bool) (p : Option Pos) : putR st d (some ⟨v, o, p⟩) = some ((st.take p).put d v o) := (rfl)
variable {d : Option Nat} {g : Option (Nat × Bool)} {a : List Nat}
theorem resV_put (v : Option V) : ((resV v).map fun r => (st.take r.tk).put d r.v r.o) = putV st d v := by cases v <;> rfl
@[simp] theorem exec_none (op : AOp) : exec Γ gl ⟨d, op, none, a⟩ st = exec1 Γ gl ⟨d, op, none, a⟩ st := (rfl)
@[simp] theorem exec_some (op : AOp) (t : Nat) (w : Bool) : exec Γ gl ⟨d, op, some (t, w), a⟩ st = if (match st.tm t with | .bool b => b == w | _ => false) = true then exec1 Γ gl ⟨d, op, some (t, w), a⟩ st else some (st.put d Nil false) := (rfl)
@[simp] theorem e_mv (x : Opd) : exec1 Γ gl ⟨d, .mv x, g, a⟩ st = some (st.put d (evO st.tm x) false) := (rfl)
@[simp] theorem e_mvo (t : Nat) : exec1 Γ gl ⟨d, .mvo t, g, a⟩ st = some ((st.take (some (.slot t))).put d (st.tm t) (st.own (.slot t))) := (rfl)
@[simp] theorem e_pick (c x y : Opd) : exec1 Γ gl ⟨d, .pick c x y, g, a⟩ st = putV st d (vPick (evO st.tm c) (evO st.tm x) (evO st.tm y)) := resV_put _
@[simp] theorem e_ext (t : Opd) (i : Nat) : exec1 Γ gl ⟨d, .ext t i, g, a⟩ st = putV st d (vExt (evO st.tm t) i) := resV_put _
@[simp] theorem e_bin (op : BinOp) (q : EqK) (x y : Opd) : exec1 Γ gl ⟨d, .bin op q x y, g, a⟩ st = putV st d (abin op q (evO st.tm x) (evO st.tm y)) := resV_put _
@[simp] theorem e_un (op : UnOp) (x : Opd) : exec1 Γ gl ⟨d, .un op x, g, a⟩ st = putV st d (aun op (evO st.tm x)) := resV_put _
@[simp] theorem e_len (s : Bool) (x : Opd) : exec1 Γ gl ⟨d, .len s x, g, a⟩ st = putV st d (vLen s (evO st.tm x)) := resV_put _
@[simp] theorem e_mnx (m : Bool) (x y : Opd) : exec1 Γ gl ⟨d, .mnx m x y, g, a⟩ st = putV st d (vMnx m (evO st.tm x) (evO st.tm y)) := resV_put _
@[simp] theorem e_iaddr (sz : Nat) (x i : Opd) : exec1 Γ gl ⟨d, .iaddr sz x i, g, a⟩ st = putV st d (vIaddr sz (evO st.tm x) (evO st.tm i)) := resV_put _
@[simp] theorem e_iarr (n sz : Nat) (x i : Opd) : exec1 Γ gl ⟨d, .iarr n sz x i, g, a⟩ st = putV st d (vIarr n sz (evO st.tm x) (evO st.tm i)) := resV_put _
@[simp] theorem e_faddr (off : Nat) (x : Opd) : exec1 Γ gl ⟨d, .faddr off x, g, a⟩ st = putV st d (vFaddr off (evO st.tm x)) := resV_put _
@[simp] theorem e_load (n : Option Nat) (x : Opd) : exec1 Γ gl ⟨d, .load n x, g, a⟩ st = putV st d (vLoad gl st.H n (evO st.tm x)) := resV_put _
@[simp] theorem e_ldp (n : Option Nat) (x : Opd) : exec1 Γ gl ⟨d, .ldp n x, g, a⟩ st = putV st d (vLdp gl n (evO st.tm x)) := resV_put _
@[simp] theorem e_ldo (x : Opd) : exec1 Γ gl ⟨d, .ldo x, g, a⟩ st = putR st d (vLdo st.H st.own (evO st.tm x)) := (rfl)
@[simp] theorem e_fld (n : Option Nat) (off : Nat) (x : Opd) : exec1 Γ gl ⟨d, .fld n off x, g, a⟩ st = putV st d (vFld n off (evO st.tm x)) := resV_put _
@[simp] theorem e_idx (x i : Opd) : exec1 Γ gl ⟨d, .idx x i, g, a⟩ st = putV st d (vIdx (evO st.tm x) (evO st.tm i)) := resV_put _
@[simp] theorem e_idxa (l sz : Nat) (n : Option Nat) (x i : Opd) : exec1 Γ gl ⟨d, .idxa l sz n x i, g, a⟩ st = putV st d (vIdxa l sz n (evO st.tm x) (evO st.tm i)) := resV_put _
@[simp] theorem e_sls (x : Opd) (lo hi : Option Opd) : exec1 Γ gl ⟨d, .sls x lo hi, g, a⟩ st = putV st d (vSls (evO st.tm x) (lo.map (evO st.tm)) (hi.map (evO st.tm))) := resV_put _
@[simp] theorem e_slc (sz : Nat) (x : Opd) (lo hi mx : Option Opd) : exec1 Γ gl ⟨d, .slc sz x lo hi mx, g, a⟩ st = putR st d (vSlc sz (evO st.tm x) (lo.map (evO st.tm)) (hi.map (evO st.tm)) (mx.map (evO st.tm))) := (rfl)
theorem e_slca (n sz : Nat) (x : Opd) (lo hi mx : Option Opd) : exec1 Γ gl ⟨d, .slca n sz x lo hi mx, g, a⟩ st = putV st d (vSlca st.H n sz (evO st.tm x) (lo.map (evO st.tm)) (hi.map (evO st.tm)) (mx.map (evO st.tm))) := resV_put _
@[simp] theorem e_build (z : List V) (ps : List (Nat × Nat × Opd)) : exec1 Γ gl ⟨d, .build z ps, g, a⟩ st = putV st d ((fillV z (ps.map fun p => (p.1, p.2.1, evO st.tm p.2.2))).map .agg) := resV_put _
@[simp] theorem e_bsl (sz : Nat) (ps : List Opd) : exec1 Γ gl ⟨d, .bsl sz ps, g, a⟩ st = putR st d (if fits sz (ps.map (evO st.tm)) then some ⟨.sl false sz (ps.map (evO st.tm)), true, none⟩ else none) := (rfl)
@[simp] theorem e_s2b (x : Opd) : exec1 Γ gl ⟨d, .s2b x, g, a⟩ st = putR st d (vS2b (evO st.tm x)) := (rfl)
@[simp] theorem e_b2s (x : Opd) : exec1 Γ gl ⟨d, .b2s x, g, a⟩ st = putV st d (vB2s st.H (evO st.tm x)) := resV_put _
@[simp] theorem e_i2i (k : IntKind) (x : Opd) : exec1 Γ gl ⟨d, .i2i k x, g, a⟩ st = putV st d (vI2i k (evO st.tm x)) := resV_put _
@[simp] theorem e_s2s (x : Opd) : exec1 Γ gl ⟨d, .s2s x, g, a⟩ st = putV st d (vS2s (evO st.tm x)) := resV_put _
@[simp] theorem e_s2a (n : Nat) (x : Opd) : exec1 Γ gl ⟨d, .s2a n x, g, a⟩ st = putV st d (vS2a n (evO st.tm x)) := resV_put _
def putC (st : St) (d : Option Nat) (r : Option (V × Bool)) : Option St := r.map fun r => st.put d r.1 r.2
@[simp] theorem putC_some (v : V) (o : Bool) : putC st d (some (v, o)) = some (st.put d v o) := (rfl)
@[simp] theorem e_callv (f : Opd) (xs : List Opd) : exec1 Γ gl ⟨d, .callv f xs, g, a⟩ st = putR st d (vCallv Γ (evO st.tm f) (xs.map (evO st.tm))) := (rfl)
theorem e_call0 (f : Nat) (xs : List Opd) : exec1 Γ gl ⟨d, .call f xs, g, a⟩ st = putR st d (vCall Γ st.H f (xs.map (evO st.tm))) := (rfl)
theorem e_nro (sz : Nat) : exec1 Γ gl ⟨d, .nro sz, g, a⟩ st = some ((st.new []).put d (.osl st.nH 0 0 0 sz) false) := (rfl)
theorem e_mko (sz : Nat) (z : List V) (l c : Opd) : exec1 Γ gl ⟨d, .mko sz z l c, g, a⟩ st = (st.mkOb sz z (evO st.tm l) (evO st.tm c)).map fun r => r.1.put d r.2 false := (rfl)
theorem e_appo (sz : Nat) (s x : Opd) : exec1 Γ gl ⟨d, .appo sz s x, g, a⟩ st = (st.appOb sz (evO st.tm s) (evO st.tm x)).map fun r => r.1.put d r.2 false := (rfl)
theorem e_cpy (x s : Opd) : exec1 Γ gl ⟨d, .cpy x s, g, a⟩ st = (st.cpyOb (evO st.tm x) (evO st.tm s)).map fun r => r.1.put d r.2 false := (rfl)
theorem e_clr (z : List V) (x : Opd) : exec1 Γ gl ⟨d, .clr z x, g, a⟩ st = (st.clrOb z (evO st.tm x)).map fun s => s.put d Nil false := (rfl)
@[simp] theorem e_mkf (f : Nat) (xs : List Opd) : exec1 Γ gl ⟨d, .mkf f xs, g, a⟩ st = some (st.put d (.fn f (xs.map (evO st.tm))) false) := (rfl)
@[simp] theorem e_mkm (f : Nat) (xs : List Opd) : exec1 Γ gl ⟨d, .mkm f xs, g, a⟩ st = some (st.put d (.mfn f (xs.map (evO st.tm))) false) := (rfl)
@[simp] theorem e_nilck (x : Opd) : exec1 Γ gl ⟨d, .nilck x, g, a⟩ st = putV st d (vNilck (evO st.tm x)) := resV_put _
@[simp] theorem e_mks (sz : Nat) (z : List V) (l c : Opd) : exec1 Γ gl ⟨d, .mks sz z l c, g, a⟩ st = putR st d (vMks sz (evO st.tm l) (evO st.tm c)) := (rfl)
@[simp] theorem e_app (sz : Nat) (s x : Opd) : exec1 Γ gl ⟨d, .app sz s x, g, a⟩ st = putR st d (vApp st.H (ownO st.own s) sz (posO s) (evO st.tm s) (evO st.tm x)) := (rfl)
@[simp] theorem e_new (cs : List V) : exec1 Γ gl ⟨d, .new cs, g, a⟩ st = some ((st.new cs).put d (.ptr st.nH 0) false) := (rfl)
@[simp] theorem e_box (x : Opd) : exec1 Γ gl ⟨d, .box x, g, a⟩ st = if (evO st.tm x).cells.all V.sc then some ((st.new (evO st.tm x).cells).put d (.ptr st.nH 0) false) else none := (rfl)
def doStore (st : St) (d : Option Nat) (n : Nat) (ys : List V) : V -> Option St
  | .ptr id off => (hCells st.H id).bind fun cs => if ys.length = n /\ ys.all V.sc = true /\ off + n <= cs.length then some ((st.setOb id cs off ys).put d Nil false) else none
  | _ => none
@[simp] theorem e_store (n : Nat) (x y : Opd) : exec1 Γ gl ⟨d, .store n x y, g, a⟩ st = doStore st d n (evO st.tm y).cells (evO st.tm x) := by
  simp only [exec1, St.ev]
  cases evO st.tm x <;> try rfl
  rename_i id off
  simp only [doStore, St.storeOb]
  cases hCells st.H id <;> simp
def doSto (st : St) (d : Option Nat) (t : Nat) : V -> Option St
  | .ptr id off => (hCells st.H id).bind fun cs => if (st.tm t).sc = true /\ off < cs.length then some ((st.stoOb id cs off t).put d Nil false) else none
  | _ => none
@[simp] theorem e_sto (x : Opd) (t : Nat) : exec1 Γ gl ⟨d, .sto x t, g, a⟩ st = doSto st d t (evO st.tm x) := by
  simp only [exec1, St.ev]
  cases evO st.tm x <;> try rfl
  rename_i id off
  simp only [doSto]
  cases hCells st.H id <;> simp
@[simp] theorem doStore_ptr (n : Nat) (ys : List V) (id off : Nat) : doStore st d n ys (.ptr id off) = (hCells st.H id).bind fun cs => if ys.length = n /\ ys.all V.sc = true /\ off + n <= cs.length then some ((st.setOb id cs off ys).put d Nil false) else none := (rfl)
@[simp] theorem doSto_ptr (t : Nat) (id off : Nat) : doSto st d t (.ptr id off) = (hCells st.H id).bind fun cs => if (st.tm t).sc = true /\ off < cs.length then some ((st.stoOb id cs off t).put d Nil false) else none := (rfl)
@[simp] theorem ownO_tmp (own : Pos -> Bool) (t : Nat) : ownO own (.tmp t) = own (.slot t) := (rfl)
@[simp] theorem ownO_const (own : Pos -> Bool) (v : V) : ownO own (.const v) = false := (rfl)
@[simp] theorem posO_tmp (t : Nat) : posO (.tmp t) = some (.slot t) := (rfl)
@[simp] theorem posO_const (v : V) : posO (.const v) = none := (rfl)
section
theorem less_irrefl : ∀ a : Bytes, Op.bytesLess a a = false
  | [] => rfl
  | a :: r => by simp [Op.bytesLess, less_irrefl r]
theorem less_trans : ∀ {a b c : Bytes}, Op.bytesLess a b = true -> Op.bytesLess b c = true -> Op.bytesLess a c = true
  | _, _, [], h1, h2 => by cases ‹Bytes› <;> simp [Op.bytesLess] at h2
  | [], _, _ :: _, _, _ => rfl
  | _ :: _, [], _ :: _, h1, _ => by simp [Op.bytesLess] at h1
  | x :: a, y :: b, z :: c, h1, h2 => by
    simp only [Op.bytesLess, Bool.or_eq_true, decide_eq_true_eq, Bool.and_eq_true, beq_iff_eq] at h1 h2 ⊢
    rcases h1 with h1 | ⟨rfl, h1⟩ <;> rcases h2 with h2 | ⟨rfl, h2⟩
    . exact .inl (UInt8.lt_trans h1 h2)
    . exact .inl h1
    . exact .inl h2
    . exact .inr ⟨rfl, less_trans h1 h2⟩
theorem less_tri : ∀ {a b : Bytes}, Op.bytesLess a b = false -> Op.bytesLess b a = false -> a = b
  | [], [], _, _ => rfl
  | [], _ :: _, h, _ => by simp [Op.bytesLess] at h
  | _ :: _, [], _, h => by simp [Op.bytesLess] at h
  | x :: a, y :: b, h1, h2 => by
    simp only [Op.bytesLess, Bool.or_eq_false_iff, decide_eq_false_iff_not, Bool.and_eq_false_iff, beq_eq_false_iff_ne] at h1 h2
    have hxy : x = y := by
      rcases Classical.em (x = y) with h | h
      . exact h
      . rcases UInt8.lt_or_lt_of_ne h with h | h
        . exact absurd h h1.1
        . exact absurd h h2.1
    subst hxy
    rw [less_tri (h1.2.resolve_left (by simp)) (h2.2.resolve_left (by simp))]
theorem less_asymm {a b : Bytes} (h : Op.bytesLess a b = true) : Op.bytesLess b a = false := by
  cases h' : Op.bytesLess b a with
  | false => rfl
  | true => have := less_trans h h'; rw [less_irrefl] at this; cases this
theorem less_gtr (a b : Bytes) : (!(Op.bytesLess a b || decide (a = b))) = Op.bytesLess b a := by
  cases h : Op.bytesLess a b with
  | true => simp [less_asymm h]
  | false =>
    by_cases he : a = b
    . subst he; simp [less_irrefl]
    . cases h' : Op.bytesLess b a with
      | true => simp [he]
      | false => exact absurd (less_tri h h') he
end
@[simp] theorem vLen_str (s : Bytes) : vLen true (.str s) = some (.int .i64 s.length) := (rfl)
@[simp] theorem vLen_sl (nl : Bool) (sz : Nat) (xs : List V) : vLen false (.sl nl sz xs) = some (.int .i64 xs.length) := (rfl)
@[simp] theorem vLen_osl (id off n c sz : Nat) : vLen false (.osl id off n c sz) = some (.int .i64 n) := (rfl)
@[simp] theorem vPick_bool (t : Bool) (x y : V) : vPick (.bool t) x y = some (if t then x else y) := (rfl)
@[simp] theorem vExt_tup (vs : List V) (i : Nat) : vExt (.tup vs) i = vs[i]? := (rfl)
theorem vIaddr_sl (sz : Nat) (s : Nat) (xs : List V) (k : IntKind) (n : Int) : vIaddr sz (.sl false s xs) (.int k n) = if 0 <= n /\ s = sz then (xs[n.toNat]?).map fun e => .el e.cells 0 else none := (rfl)
@[simp] theorem vIaddr_at (nl : Bool) (sz : Nat) (xs : List V) (k : IntKind) (n : Nat) (e : V) (h : xs[n]? = some e) (hnl : xs ≠ [] -> nl = false) : vIaddr sz (.sl nl sz xs) (.int k (n : Int)) = some (.el e.cells 0) := by
  have : nl = false := hnl (fun hx => by simp [hx] at h)
  subst this
  simp [vIaddr, h]
@[simp] theorem vIaddr_0 (nl : Bool) (sz : Nat) (xs : List V) (k : IntKind) (e : V) (h : xs[0]? = some e) (hnl : xs ≠ [] -> nl = false) : vIaddr sz (.sl nl sz xs) (.int k 0) = some (.el e.cells 0) := vIaddr_at nl sz xs k 0 e h hnl
@[simp] theorem vIaddr_1 (nl : Bool) (sz : Nat) (xs : List V) (k : IntKind) (e : V) (h : xs[1]? = some e) (hnl : xs ≠ [] -> nl = false) : vIaddr sz (.sl nl sz xs) (.int k 1) = some (.el e.cells 0) := vIaddr_at nl sz xs k 1 e h hnl
@[simp] theorem vIaddr_2 (nl : Bool) (sz : Nat) (xs : List V) (k : IntKind) (e : V) (h : xs[2]? = some e) (hnl : xs ≠ [] -> nl = false) : vIaddr sz (.sl nl sz xs) (.int k 2) = some (.el e.cells 0) := vIaddr_at nl sz xs k 2 e h hnl
@[simp] theorem np1_ne0 (n : Nat) : ((n : Int) + 1 = 0) = False := eq_false (by omega)
@[simp] theorem np1_pos (n : Nat) : (0 < (n : Int) + 1) = True := eq_true (by omega)
@[simp] theorem np1_nneg (n : Nat) : (0 <= (n : Int) + 1) = True := eq_true (by omega)
@[simp] theorem np1_one (n : Nat) : (1 <= (n : Int) + 1) = True := eq_true (by omega)
@[simp] theorem np1_le0 (n : Nat) : ((n : Int) + 1 <= 0) = False := eq_false (by omega)
@[simp] theorem np1_lt0 (n : Nat) : ((n : Int) + 1 < 0) = False := eq_false (by omega)
@[simp] theorem fillV_nil (cs : List V) : fillV cs [] = some cs := (rfl)
@[simp] theorem fillV_cons (cs : List V) (off n : Nat) (v : V) (r : List (Nat × Nat × V)) : fillV cs ((off, n, v) :: r) = if v.cells.length = n /\ v.cells.all V.sc = true /\ off + n <= cs.length then fillV (setAt cs off v.cells) r else none := (rfl)
@[simp] theorem vFaddr_ptr (off id o : Nat) : vFaddr off (.ptr id o) = some (.ptr id (o + off)) := (rfl)
@[simp] theorem vFaddr_el (off : Nat) (cs : List V) (o : Nat) : vFaddr off (.el cs o) = some (.el cs (o + off)) := (rfl)
@[simp] theorem vFaddr_gp (off g o : Nat) : vFaddr off (.gp g o) = some (.gp g (o + off)) := (rfl)
@[simp] theorem vLoad_el (gl : Glob) (H : Hp) (n : Option Nat) (cs : List V) (o : Nat) : vLoad gl H n (.el cs o) = ldCells n cs o := (rfl)
@[simp] theorem vLoad_gp (gl : Glob) (H : Hp) (n : Option Nat) (g o : Nat) : vLoad gl H n (.gp g o) = (gl g).bind fun cs => ldCells n cs o := (rfl)
@[simp] theorem vLoad_ptr (gl : Glob) (H : Hp) (n : Option Nat) (id o : Nat) : vLoad gl H n (.ptr id o) = (hCells H id).bind fun cs => ldCells n cs o := (rfl)
@[simp] theorem vFld_agg (n : Option Nat) (off : Nat) (cs : List V) : vFld n off (.agg cs) = ldCells n cs off := (rfl)
@[simp] theorem hCells_new (cs : List V) (i : Nat) : hCells (st.new cs).H i = if i = st.nH then some cs else hCells st.H i := by
  by_cases h : i = st.nH <;> simp [hCells, h]
@[simp] theorem hCells_setOb (id : Nat) (cs : List V) (off : Nat) (ys : List V) (i : Nat) : hCells (st.setOb id cs off ys).H i = if i = id then some (setAt cs off ys) else hCells st.H i := by
  by_cases h : i = id <;> simp [hCells, h]
@[simp] theorem hCells_stoOb (id : Nat) (cs : List V) (off t : Nat) (i : Nat) : hCells (st.stoOb id cs off t).H i = if i = id then some (setAt cs off [st.tm t]) else hCells st.H i := by
  by_cases h : i = id <;> simp [hCells, h]
@[simp] theorem hCells_init (args : List V) (i : Nat) : hCells (St.init args).H i = none := (rfl)
@[simp] theorem ldCells_none (cs : List V) (off : Nat) : ldCells none cs off = cs[off]? := (rfl)
@[simp] theorem ldCells_some (k : Nat) (cs : List V) (off : Nat) : ldCells (some k) cs off = if off + k <= cs.length then some (.agg ((cs.drop off).take k)) else none := (rfl)
@[simp] theorem aun_not (b : Bool) : aun .not (.bool b) = some (.bool !b) := (rfl)
@[simp] theorem aun_neg (k : IntKind) (n : Int) : aun .neg (.int k n) = some (.int k (k.wrap (0 - n))) := (rfl)
variable {q : EqK} {k : IntKind} {x y : Int} {s t : Bytes}
@[simp] theorem b_add : abin .add q (.int k x) (.int k y) = some (.int k (k.wrap (x + y))) := by simp [abin, aint]
@[simp] theorem b_sub : abin .sub q (.int k x) (.int k y) = some (.int k (k.wrap (x - y))) := by simp [abin, aint]
@[simp] theorem b_mul : abin .mul q (.int k x) (.int k y) = some (.int k (k.wrap (x * y))) := by simp [abin, aint]
@[simp] theorem b_quo : abin .quo q (.int k x) (.int k y) = if y = 0 then none else some (.int k (k.wrap (x.tdiv y))) := by simp [abin, aint]
@[simp] theorem b_rem : abin .rem q (.int k x) (.int k y) = if y = 0 then none else some (.int k (x.tmod y)) := by simp [abin, aint]
@[simp] theorem b_eql : abin .eql q (.int k x) (.int k y) = some (.bool (decide (x = y))) := by simp [abin, aint]
@[simp] theorem b_neq : abin .neq q (.int k x) (.int k y) = some (.bool (!decide (x = y))) := by simp [abin, aint]
@[simp] theorem b_lss : abin .lss q (.int k x) (.int k y) = some (.bool (decide (x < y))) := by simp [abin, aint]
@[simp] theorem b_leq : abin .leq q (.int k x) (.int k y) = some (.bool (decide (x <= y))) := by simp [abin, aint]
@[simp] theorem b_gtr : abin .gtr q (.int k x) (.int k y) = some (.bool (decide (y < x))) := by simp [abin, aint]
@[simp] theorem b_geq : abin .geq q (.int k x) (.int k y) = some (.bool (decide (y <= x))) := by simp [abin, aint]
@[simp] theorem s_eql : abin .eql q (.str s) (.str t) = some (.bool (decide (s = t))) := (rfl)
@[simp] theorem s_neq : abin .neq q (.str s) (.str t) = some (.bool (!decide (s = t))) := (rfl)
@[simp] theorem s_lss : abin .lss q (.str s) (.str t) = some (.bool (Op.bytesLess s t)) := (rfl)
@[simp] theorem s_gtr : abin .gtr q (.str s) (.str t) = some (.bool (Op.bytesLess t s)) := by rw [<- less_gtr]; rfl
@[simp] theorem s_geq : abin .geq q (.str s) (.str t) = some (.bool (!Op.bytesLess s t)) := (rfl)
@[simp] theorem s_add : abin .add q (.str s) (.str t) = if s.length + t.length <= 4611686018427387904 then some (.str (s ++ t)) else none := (rfl)
@[simp] theorem sl_eql (nl : Bool) (z z' : Nat) (xs : List V) : abin .eql .slice (.sl nl z xs) (.sl true z' []) = some (.bool nl) := by cases nl <;> rfl
@[simp] theorem sl_neq (nl : Bool) (z z' : Nat) (xs : List V) : abin .neq .slice (.sl nl z xs) (.sl true z' []) = some (.bool !nl) := by cases nl <;> rfl
@[simp] theorem fl_eql (ks : List (Option IntKind × Bool)) (xs ys : List V) : abin .eql (.flat ks) (.agg xs) (.agg ys) = (flatEq ks xs ys).map .bool := (rfl)
@[simp] theorem fl_neq (ks : List (Option IntKind × Bool)) (xs ys : List V) : abin .neq (.flat ks) (.agg xs) (.agg ys) = (flatEq ks xs ys).map fun b => .bool !b := (rfl)
@[simp] theorem flatEq_nil : flatEq [] [] [] = some true := (rfl)
@[simp] theorem flatEq_step (k : Option IntKind × Bool) (ks : List (Option IntKind × Bool)) (x y : V) (xs ys : List V) : flatEq (k :: ks) (x :: xs) (y :: ys) = (kdEq k x y).bind fun b => (flatEq ks xs ys).map (b && ·) := (rfl)
@[simp] theorem kdEq_int (k : IntKind) (t : Bool) (x y : Int) : kdEq (some k, t) (.int k x) (.int k y) = some (decide (x = y)) := by simp [kdEq]
@[simp] theorem kdEq_str (x y : Bytes) : kdEq (none, true) (.str x) (.str y) = some (decide (x = y)) := (rfl)
@[simp] theorem kdEq_bool (x y : Bool) : kdEq (none, false) (.bool x) (.bool y) = some (x == y) := (rfl)
@[simp] theorem retQ_normal (res : List RS) (r : V × Bool) : retQ res r .normal st = (∃ p, resOf res st = some p /\ p.1 = r.1 /\ (r.2 = true -> p.2 = true)) := (rfl)
@[simp] theorem retQ_ret (res : List RS) (r : V × Bool) : retQ res r .ret st = (∃ p, resOf res st = some p /\ p.1 = r.1 /\ (r.2 = true -> p.2 = true)) := (rfl)
@[simp] theorem retQ_exit (res : List RS) (r : V × Bool) (i : Nat) : retQ res r (.exit i) st = False := (rfl)
@[simp] theorem resOf_one (t : Nat) : resOf [.t t] st = some (st.tm t, st.own (.slot t)) := (rfl)
@[simp] theorem natCast_eq' (a b : Nat) : ((a : Int) = (b : Int)) = (a = b) := propext Int.ofNat_inj
theorem w64 (n : Int) (h : -9223372036854775808 <= n /\ n <= 9223372036854775807) : IntKind.wrap .i64 n = n := Go.IntWalk.i64_in n h
@[simp] theorem cells_agg (cs : List V) : (V.agg cs).cells = cs := (rfl)
@[simp] theorem cells_bool (b : Bool) : (V.bool b).cells = [.bool b] := (rfl)
@[simp] theorem cells_int (k : IntKind) (n : Int) : (V.int k n).cells = [.int k n] := (rfl)
@[simp] theorem cells_str (s : Bytes) : (V.str s).cells = [.str s] := (rfl)
@[simp] theorem cells_sl (nl : Bool) (z : Nat) (xs : List V) : (V.sl nl z xs).cells = [.sl nl z xs] := (rfl)
@[simp] theorem cells_fn (f : Nat) (cs : List V) : (V.fn f cs).cells = [.fn f cs] := (rfl)
@[simp] theorem cells_ptr (i o : Nat) : (V.ptr i o).cells = [.ptr i o] := (rfl)
@[simp] theorem cells_nilptr : V.nilptr.cells = [.nilptr] := (rfl)
@[simp] theorem cells_nilif : V.nilif.cells = [.nilif] := (rfl)
@[simp] theorem sc_agg (cs : List V) : (V.agg cs).sc = false := (rfl)
@[simp] theorem sc_tup (cs : List V) : (V.tup cs).sc = false := (rfl)
@[simp] theorem sc_bool (b : Bool) : (V.bool b).sc = true := (rfl)
@[simp] theorem sc_int (k : IntKind) (n : Int) : (V.int k n).sc = true := (rfl)
@[simp] theorem sc_str (s : Bytes) : (V.str s).sc = true := (rfl)
@[simp] theorem sc_sl (nl : Bool) (z : Nat) (xs : List V) : (V.sl nl z xs).sc = true := (rfl)
@[simp] theorem sc_fn (f : Nat) (cs : List V) : (V.fn f cs).sc = true := (rfl)
@[simp] theorem sc_ptr (i o : Nat) : (V.ptr i o).sc = true := (rfl)
@[simp] theorem sc_nilptr : V.nilptr.sc = true := (rfl)
@[simp] theorem sc_nilif : V.nilif.sc = true := (rfl)
@[simp] theorem sc_encB {l : Bytes} {x : V} (h : x ∈ encB l) : x.sc = true := by
  simp only [encB, List.mem_map] at h
  obtain ⟨b, _, rfl⟩ := h; rfl
@[simp] theorem encB_length (l : Bytes) : (encB l).length = l.length := by simp [encB]
@[simp] theorem ldCells_full {k : Nat} {cs : List V} (h : cs.length = k) : ldCells (some k) cs 0 = some (.agg cs) := by simp [ldCells, <- h]
@[simp] theorem setAt_full {cs ys : List V} (h : ys.length = cs.length) : setAt cs 0 ys = ys := by simp [setAt, h]
@[simp] theorem clean_bool (b : Bool) : (V.bool b).clean = true := (rfl)
@[simp] theorem clean_int (k : IntKind) (n : Int) : (V.int k n).clean = true := (rfl)
@[simp] theorem clean_str (s : Bytes) : (V.str s).clean = true := (rfl)
@[simp] theorem clean_agg (cs : List V) : (V.agg cs).clean = cleanL cs := (rfl)
@[simp] theorem clean_sl (nl : Bool) (z : Nat) (xs : List V) : (V.sl nl z xs).clean = cleanL xs := (rfl)
@[simp] theorem clean_fn (f : Nat) (cs : List V) : (V.fn f cs).clean = cleanL cs := (rfl)
@[simp] theorem clean_tup (cs : List V) : (V.tup cs).clean = cleanL cs := (rfl)
@[simp] theorem cleanL_nil : cleanL [] = true := (rfl)
@[simp] theorem cleanL_cons (v : V) (r : List V) : cleanL (v :: r) = (v.clean && cleanL r) := (rfl)
@[simp] theorem cleanL_encB (l : Bytes) : cleanL (encB l) = true := cleanL_iff.2 fun v hv => by
  simp only [encB, List.mem_map] at hv
  obtain ⟨b, _, rfl⟩ := hv; rfl
theorem cleanL_map {α : Type} {f : α -> V} (h : ∀ x, (f x).clean = true) (l : List α) : cleanL (l.map f) = true := cleanL_iff.2 fun v hv => by
  obtain ⟨x, _, rfl⟩ := List.mem_map.1 hv; exact h x
@[simp] theorem vTail_sl (H : Hp) (sz : Nat) (nl : Bool) (ys : List V) : vTail H sz (.sl nl sz ys) = some ys := by simp [vTail]
@[simp] theorem vTail_str (H : Hp) (b : Bytes) : vTail H 1 (.str b) = some (encB b) := (rfl)
@[simp] theorem vApp_nil (H : Hp) (own : Bool) (sz z : Nat) (p : Option Pos) (xs : List V) (x : V) : vApp H own sz p (.sl true z xs) x = (vTail H sz x).bind fun ys => if ys.length <= Lim then some ⟨.sl ys.isEmpty sz ys, true, none⟩ else none := by
  simp only [vApp]; cases vTail H sz x <;> rfl
@[simp] theorem vApp_sl (H : Hp) (sz : Nat) (p : Option Pos) (xs : List V) (x : V) : vApp H true sz p (.sl false sz xs) x = (vTail H sz x).bind fun ys => if xs.length + ys.length <= Lim then some ⟨.sl false sz (xs ++ ys), true, p⟩ else none := by
  simp only [vApp]; cases vTail H sz x <;> simp
@[simp] theorem take_ite_own (c : Prop) [Decidable c] (q r : Pos) : (st.take (if c then none else some q)).own r = if ¬ c /\ r = q then false else st.own r := by
  by_cases h : c <;> simp [h]
@[simp] theorem fits_nil (sz : Nat) : fits sz [] = true := (rfl)
@[simp] theorem fits_cons (sz : Nat) (x : V) (r : List V) : fits sz (x :: r) = ((x.cells.length == sz && x.cells.all V.sc) && fits sz r) := (rfl)
@[simp] theorem vIdx_str (s : Bytes) (k : IntKind) (n : Nat) : vIdx (.str s) (.int k (n : Int)) = (s[n]?).map byteV := by simp [vIdx]
@[simp] theorem vIdx_zero (s : Bytes) (k : IntKind) : vIdx (.str s) (.int k 0) = (s[0]?).map byteV := by simp [vIdx]
@[simp] theorem vSls_lh (s : Bytes) (k k' : IntKind) (l h : Int) : vSls (.str s) (some (.int k l)) (some (.int k' h)) = if 0 <= l /\ l <= h /\ h <= s.length then some (.str ((s.take h.toNat).drop l.toNat)) else none := by
  simp only [vSls, vOpt, cut3]
  by_cases hc : 0 <= l /\ l <= h /\ h <= s.length
  . have : 0 <= h := by omega
    simp [hc, this]
  . rw [if_neg hc, if_neg]
    . rfl
    . simp; omega
@[simp] theorem vSls_l (s : Bytes) (k : IntKind) (l : Int) : vSls (.str s) (some (.int k l)) none = if 0 <= l /\ l <= s.length then some (.str (s.drop l.toNat)) else none := by
  simp only [vSls, vOpt, cut3]
  by_cases hc : 0 <= l /\ l <= s.length
  . simp [hc]
  . rw [if_neg hc, if_neg]
    . rfl
    . simp; omega
@[simp] theorem vSls_h (s : Bytes) (k : IntKind) (h : Int) : vSls (.str s) none (some (.int k h)) = if 0 <= h /\ h <= s.length then some (.str (s.take h.toNat)) else none := by
  simp only [vSls, vOpt, cut3]
  by_cases hc : 0 <= h /\ h <= s.length
  . simp [hc]
  . rw [if_neg hc, if_neg]
    . rfl
    . simp; omega
@[simp] theorem vSlc_l (sz z : Nat) (nl : Bool) (xs : List V) (k : IntKind) (l : Int) : vSlc sz (.sl nl z xs) (some (.int k l)) none none = if z = sz /\ 0 <= l /\ l <= xs.length then some ⟨.sl nl sz (xs.drop l.toNat), false, none⟩ else none := by
  simp only [vSlc, vOpt, cut3]
  by_cases hc : z = sz /\ 0 <= l /\ l <= xs.length
  . obtain ⟨rfl, h1, h2⟩ := hc
    simp [h1, h2]
  . rw [if_neg hc]
    by_cases hz : z = sz
    . rw [if_pos (by simp [hz]), if_neg]
      . rfl
      . simp; omega
    . rw [if_neg (by simp [hz])]
@[simp] theorem vSlc_h (sz z : Nat) (nl : Bool) (xs : List V) (k : IntKind) (h : Int) : vSlc sz (.sl nl z xs) none (some (.int k h)) none = if z = sz /\ 0 <= h /\ h <= xs.length then some ⟨.sl nl sz (xs.take h.toNat), false, none⟩ else none := by
  simp only [vSlc, vOpt, cut3]
  by_cases hc : z = sz /\ 0 <= h /\ h <= xs.length
  . obtain ⟨rfl, h1, h2⟩ := hc
    simp [h1, h2]
  . rw [if_neg hc]
    by_cases hz : z = sz
    . rw [if_pos (by simp [hz]), if_neg]
      . rfl
      . simp; omega
    . rw [if_neg (by simp [hz])]
@[simp] theorem all_encB (l : Bytes) : (∀ a ∈ encB l, a.sc = true) = True := eq_true fun _ h => sc_encB h
theorem drop_nil {α : Type} {l : List α} {k : Nat} (h : l.drop k = []) (hk : k <= l.length) : k = l.length := by
  have := List.drop_eq_nil_iff.1 h; omega
end Go.Abs
namespace Go.Abs
open Go.RowKit Go.ChangeShapes Go.WideShapes
open Go.Proofs.YtanocopjancaiaaGreatDoor (Rows.uptoBulk Rows.uptoBulkAll)
mutual
def V.wt : V -> Nat
  | .str s => s.length + 1
  | .agg cs => wtL cs + 1
  | .sl _ _ xs => wtL xs + 1
  | _ => 1
def wtL : List V -> Nat
  | [] => 0
  | v :: r => v.wt + wtL r
end
theorem wtL_append (a b : List V) : wtL (a ++ b) = wtL a + wtL b := by
  induction a with
  | nil => simp [wtL]
  | cons x a ih => simp only [List.cons_append, wtL, ih]; omega
theorem wtL_mem {l : List V} {v : V} (h : v ∈ l) : v.wt <= wtL l := by
  induction l with
  | nil => cases h
  | cons x r ih =>
    simp only [wtL]
    rcases List.mem_cons.1 h with rfl | h
    . omega
    . have := ih h; omega
theorem wt_pos (v : V) : 1 <= v.wt := by cases v <;> simp [V.wt]
theorem wtL_length (l : List V) : l.length <= wtL l := by
  induction l with
  | nil => simp
  | cons x r ih => simp only [wtL, List.length_cons]; have := wt_pos x; omega
def plainT (P : Program) : Nat -> TypeId -> Bool
  | 0, _ => false
  | m + 1, t => match P.underlying t with
    | some .bool | some (.int _) | some .string => true
    | some (.slice e) => plainT P m e
    | some (.array _ e) => plainT P m e
    | some (.struct fs) => fs.toList.all fun f => plainT P m f.type
    | _ => false
def isAgT (P : Program) (t : TypeId) : Bool := match P.underlying t with | some (.struct _) | some (.array _ _) => true | _ => false
def elV (P : Program) (t : TypeId) (ws : List V) : V := if isAgT P t then .agg ws else ws.headD Nil
def HasT (P : Program) : Nat -> TypeId -> List V -> Prop
  | 0, _, _ => False
  | m + 1, t, vs => match P.underlying t with
    | some .bool => ∃ b, vs = [.bool b]
    | some (.int k) => ∃ n, vs = [.int k n] /\ k.min <= n /\ n <= k.max
    | some .string => ∃ s, vs = [.str s]
    | some (.slice e) => vs = [.sl true (P.cellsOf e) []] \/ ∃ xs, vs = [.sl false (P.cellsOf e) xs] /\ ∀ x ∈ xs, ∃ ws, HasT P m e ws /\ x = elV P e ws
    | some (.array n e) => ∃ wss : List (List V), wss.length = n /\ (∀ ws ∈ wss, HasT P m e ws) /\ vs = wss.flatten
    | some (.struct fs) => ∃ wss : List (List V), wss.length = fs.size /\ (∀ (i : Nat) (f : Field) (ws : List V), fs[i]? = some f -> wss[i]? = some ws -> HasT P m f.type ws) /\ vs = wss.flatten
    | _ => False
def RL (W : World) (G : Nat -> Nat) (φ : Nat -> Option Nat) (vs : List V) (cs : List Value) : Prop :=
  vs.length = cs.length /\ ∀ (i : Nat) (c : V) (x : Value), vs[i]? = some c -> cs[i]? = some x -> Rep W G φ c x
theorem RL.append {W G φ a b cs} (h1 : RL W G φ a (cs.take a.length)) (h2 : RL W G φ b (cs.drop a.length)) (hl : a.length <= cs.length) : RL W G φ (a ++ b) cs := by
  refine ⟨?_, fun i c x hc hx => ?_⟩
  . have := h2.1; simp at this ⊢; omega
  . rw [List.getElem?_append] at hc
    split at hc
    . rename_i hlt
      exact h1.2 i c x hc (by rw [List.getElem?_take, if_pos hlt]; exact hx)
    . rename_i hge
      exact h2.2 (i - a.length) c x hc (by rw [List.getElem?_drop]; rw [show a.length + (i - a.length) = i by omega]; exact hx)
theorem RL.flatten {W G φ} : ∀ {wss : List (List V)} {cs : List Value}, cs.length = (wss.map List.length).sum ->
    (∀ (i : Nat) (ws : List V), wss[i]? = some ws -> RL W G φ ws ((cs.drop ((wss.take i).map List.length).sum).take ws.length)) -> RL W G φ wss.flatten cs
  | [], cs, hl, _ => ⟨by simp at hl; rw [hl]; rfl, fun i c x hc => by simp at hc⟩
  | w :: r, cs, hl, h => by
    rw [List.flatten_cons]
    simp only [List.map_cons, List.sum_cons] at hl
    refine RL.append (by simpa using h 0 w rfl) (RL.flatten (by simp; omega) fun i ws hi => ?_) (by omega)
    have := h (i + 1) ws (by simpa using hi)
    simpa [List.take_succ_cons, List.drop_drop, Nat.add_comm] using this
section
variable {H : Type} {enc : TypeId × Value -> H} {P : Program} {w : World} {held : Bool} {φ : Nat -> Option Nat}
theorem cell_lt {w : World} {b i : Nat} {s : Option Nat} {v : Value} (h : w.cell? ⟨b, i, s⟩ = some v) : s = none /\ i < G0 w b := by
  simp only [World.cell?] at h
  split at h
  . rename_i c t f hc
    split at h
    . simp at h
    . rename_i hs
      refine ⟨by simpa using hs, ?_⟩
      simp only [G0, hc]
      exact (Array.getElem?_eq_some_iff.1 h).1
  . simp at h
theorem bulkAll_range (n : Nat) (f : Nat -> List V) (D : Nat -> DataW H) (k : Nat) (h : ∀ i, i < n -> wtL (f i) <= Rows.uptoBulk (D (k + i))) : wtL ((List.range n).map f).flatten <= Rows.uptoBulkAll ((List.range n).map fun i => D (k + i)) := by
  induction n generalizing f k with
  | zero => simp [wtL]
  | succ n ih =>
    rw [List.range_succ_eq_map]
    simp only [List.map_cons, List.flatten_cons, wtL_append, Rows.uptoBulkAll, List.map_map]
    have h0 := h 0 (by omega)
    have := ih (fun i => f (i + 1)) (k + 1) fun i hi => by have := h (i + 1) (by omega); rwa [show k + (i + 1) = k + 1 + i by omega] at this
    have e : ((fun i => D (k + i)) ∘ Nat.succ) = fun i => D (k + 1 + i) := by funext i; simp [Function.comp, Nat.succ_eq_add_one]; congr 1; omega
    rw [e]
    have e2 : (f ∘ Nat.succ) = fun i => f (i + 1) := rfl
    rw [e2]
    omega
theorem RL.one {W G φ v x} (h : Rep W G φ v x) : RL W G φ [v] [x] := ⟨rfl, fun i c y hc hy => by
  cases i with
  | zero => simp at hc hy; subst hc; subst hy; exact h
  | succ i => simp at hc⟩
theorem elV_cells {t : TypeId} {ws : List V} (h : isAgT P t = false -> ∃ v, ws = [v] /\ v.sc = true) : (elV P t ws).cells = ws := by
  unfold elV
  split
  . rfl
  . rename_i ha
    obtain ⟨v, rfl, hv⟩ := h (by simpa using ha)
    cases v <;> first | rfl | simp at hv
theorem elV_clean {t : TypeId} {ws : List V} (h : ∀ c ∈ ws, c.clean = true) : (elV P t ws).clean = true := by
  unfold elV
  split
  . exact cleanL_iff.2 h
  . cases ws with
    | nil => rfl
    | cons a r => exact h a (by simp)
theorem pieces {K : Nat} {n : Nat} {f : Nat -> List V} {c : Nat -> Nat} (hn : K <= n) (hf : ∀ i, i < n -> (f i).length = c i) : ((((List.range n).map f).take K).map List.length).sum = ((List.range K).map c).sum := by
  rw [<- List.map_take, List.take_range, Nat.min_eq_left hn, List.map_map]
  congr 1
  exact List.map_congr_left fun i hi => hf i (by have := List.mem_range.1 hi; omega)
theorem trod_rep (K : Kids P (· < P.types.size)) (hz : ∀ t e, t < P.types.size -> P.underlying t = some (.slice e) -> 0 < P.cellsOf e) : ∀ (m fuel : Nat) (t : TypeId) (cs : List Value) (x : DataW H × List MemPlace), t < P.types.size -> plainT P m t = true ->
    DataW.trod enc P w 0 (fun _ => true) held fuel t cs = some x ->
    ∃ vs, RL w (G0 w) φ vs cs /\ (∀ c ∈ vs, c.sc = true /\ c.clean = true) /\ HasT P m t vs /\ (elV P t vs).wt <= Rows.uptoBulk x.1 /\ wtL vs <= Rows.uptoBulk x.1 /\ (isAgT P t = false -> ∃ v, vs = [v] /\ v.sc = true) := by
  intro m
  induction m with
  | zero => intro fuel t cs x _ hp; simp [plainT] at hp
  | succ m ih =>
    intro fuel t cs x ht hp h
    unfold plainT at hp
    split at hp
    . rename_i hu
      obtain ⟨b, rfl, rfl⟩ := DataW.trod_bool hu h
      have ha : isAgT P t = false := by simp [isAgT, hu]
      exact ⟨[.bool b], RL.one (.bool b), by simp, by simp [HasT, hu], by simp [elV, ha, V.wt, Rows.uptoBulk], by simp [wtL, V.wt, Rows.uptoBulk], fun _ => ⟨_, rfl, rfl⟩⟩
    . rename_i k hu
      obtain ⟨n, rfl, rfl, hw⟩ := DataW.trod_int hu h
      have ha : isAgT P t = false := by simp [isAgT, hu]
      simp only [Lit.wf, Bool.and_eq_true, decide_eq_true_eq] at hw
      exact ⟨[.int k n], RL.one (.int k n), by simp, by simp [HasT, hu, hw], by simp [elV, ha, V.wt, Rows.uptoBulk], by simp [wtL, V.wt, Rows.uptoBulk], fun _ => ⟨_, rfl, rfl⟩⟩
    . rename_i hu
      obtain ⟨s, rfl, rfl, hw⟩ := DataW.trod_string hu h
      have ha : isAgT P t = false := by simp [isAgT, hu]
      exact ⟨[.str s.data.toList], RL.one (.str _ s rfl), by simp, by simp [HasT, hu], by simp [elV, ha, V.wt, Rows.uptoBulk], by simp [wtL, V.wt, Rows.uptoBulk], fun _ => ⟨_, rfl, rfl⟩⟩
    . rename_i e hu
      have ha : isAgT P t = false := by simp [isAgT, hu]
      have hte := K.slice ht hu
      have hz0 := hz t e ht hu
      rcases Deep.open_slice hu h with ⟨rfl, rfl⟩ | ⟨a, len, cap, mm, n, D, Pl, rfl, _, hl, _, hmm, rfl, hel⟩
      . exact ⟨[.sl true (P.cellsOf e) []], RL.one (.slnil _), by simp, by simp [HasT, hu], by simp [elV, ha, V.wt, wtL, Rows.uptoBulk], by simp [wtL, V.wt, Rows.uptoBulk], fun _ => ⟨_, rfl, rfl⟩⟩
      . simp only [if_true] at hmm
        subst hmm
        have hpick : ∀ i, i < mm -> ∃ ws : List V, ∃ cs', w.cells? 0 (a.add (i * P.cellsOf e)) (P.cellsOf e) = some cs' /\ RL w (G0 w) φ ws cs' /\ (∀ c ∈ ws, c.sc = true /\ c.clean = true) /\ HasT P m e ws /\ (elV P e ws).wt <= Rows.uptoBulk (D i) /\ (isAgT P e = false -> ∃ v, ws = [v] /\ v.sc = true) := fun i hi => by
          obtain ⟨cs', h1, h2⟩ := hel i hi
          obtain ⟨ws, q1, q2, q3, q4, _, q6⟩ := ih n e cs' _ hte hp h2
          exact ⟨ws, cs', h1, q1, q2, q3, q4, q6⟩
        obtain ⟨f, hf⟩ := Deep.choose_lt hpick
        have hbulk : wtL ((List.range len).map fun i => elV P e (f i)) + 1 <= Rows.uptoBulk (DataW.slice ((List.range len).map D) ((List.range (mm - len)).map fun j => D (len + j))) := by
          have key : ∀ k, k <= mm -> wtL ((List.range k).map fun i => elV P e (f i)) <= Rows.uptoBulkAll ((List.range k).map D) := by
            have app : ∀ (l r : List (DataW H)), Rows.uptoBulkAll (l ++ r) = Rows.uptoBulkAll l + Rows.uptoBulkAll r := by
              intro l r
              induction l with
              | nil => simp [Rows.uptoBulkAll]
              | cons x l ih => simp only [List.cons_append, Rows.uptoBulkAll, ih]; omega
            intro k
            induction k with
            | zero => intro _; simp [wtL]
            | succ k ihk =>
              intro hk
              obtain ⟨_, _, _, _, _, q4, _⟩ := hf k (by omega)
              rw [List.range_succ, List.map_append, List.map_append, wtL_append, app]
              have := ihk (by omega)
              simp only [List.map_cons, List.map_nil, wtL, Rows.uptoBulkAll]
              omega
          simp only [Rows.uptoBulk]
          have := key len (by omega)
          omega
        have hcl : ∀ v ∈ ((List.range len).map fun i => elV P e (f i)), v.clean = true := fun v hv => by
          obtain ⟨i, hi, rfl⟩ := List.mem_map.1 hv
          obtain ⟨_, _, _, q2, _⟩ := hf i (by have := List.mem_range.1 hi; omega)
          exact elV_clean fun c hc => (q2 c hc).2
        refine ⟨[.sl false (P.cellsOf e) ((List.range len).map fun i => elV P e (f i))], RL.one ?_, by simpa using cleanL_iff.2 hcl, ?_, by simpa [elV, ha, V.wt] using hbulk, by simpa [wtL, V.wt] using hbulk, fun _ => ⟨_, rfl, rfl⟩⟩
        . -- where it lies
          by_cases hc0 : mm = 0
          . have hl0 : len = 0 := by omega
            subst hc0; subst hl0
            exact .sl0 _ a
          . obtain ⟨cs0, p1, _⟩ := hf 0 (by omega)
            have hsp : a.spot = none := by
              obtain ⟨_, _, hc⟩ := World.cells?_some p1
              have h0 := hc 0 hz0
              simp only [Nat.zero_mul, Addr.add, if_true] at h0
              have hlen : 0 < cs0.length := by obtain ⟨_, q, _⟩ := World.cells?_some p1; omega
              rw [List.getElem?_eq_getElem hlen] at h0
              obtain ⟨ab, ao, asp⟩ := a
              exact (cell_lt h0).1
            obtain ⟨ab, ao, asp⟩ := a
            simp only at hsp
            subst hsp
            have hcell : ∀ i, i < mm -> ∀ j, j < P.cellsOf e -> ∃ cs', w.cells? 0 (Addr.add ⟨ab, ao, none⟩ (i * P.cellsOf e)) (P.cellsOf e) = some cs' /\ w.cell? ⟨ab, ao + (i * P.cellsOf e + j), none⟩ = cs'[j]? /\ j < cs'.length := fun i hi j hj => by
              obtain ⟨cs', p1, _⟩ := hf i hi
              obtain ⟨_, q, hc⟩ := World.cells?_some p1
              refine ⟨cs', p1, ?_, by omega⟩
              have := hc j hj
              rw [addr_add, addr_add] at this
              rw [<- this, Nat.add_assoc]
            have hlenm : ((List.range len).map fun i => elV P e (f i)).length = len := by simp
            have hrep := Rep.sl (W := w) (G := G0 w) (φ := φ) (P.cellsOf e) ((List.range len).map fun i => elV P e (f i)) ab ao mm (fun k => (w.cell? ⟨ab, ao + k, none⟩).getD undef) (by simpa using hl) ?_ ?_ ?_ ?_
            . rw [hlenm] at hrep; exact hrep
            . rw [hlenm]
              have hlast : ao + (mm - 1 + 1) * P.cellsOf e <= G0 w ab := by
                obtain ⟨cs', p1, p2, p3⟩ := hcell (mm - 1) (by omega) (P.cellsOf e - 1) (by omega)
                rw [List.getElem?_eq_getElem p3] at p2
                have := (cell_lt p2).2
                rw [Nat.add_mul]; omega
              have : len * P.cellsOf e <= (mm - 1 + 1) * P.cellsOf e := Nat.mul_le_mul_right _ (by omega)
              omega
            . intro v hv
              obtain ⟨i, hi, rfl⟩ := List.mem_map.1 hv
              obtain ⟨cs', p1, q1, q2, _, _, q6⟩ := hf i (by have := List.mem_range.1 hi; omega)
              rw [elV_cells q6]
              exact ⟨by rw [q1.1]; exact (World.cells?_some p1).2.1, fun c hc => (q2 c hc).1⟩
            . intro k hk
              rw [hlenm] at hk
              have hi : k / P.cellsOf e < len := (Nat.div_lt_iff_lt_mul hz0).2 hk
              have hk' : k = k / P.cellsOf e * P.cellsOf e + k % P.cellsOf e := by rw [Nat.mul_comm]; exact (Nat.div_add_mod k _).symm
              obtain ⟨cs', p1, p2, p3⟩ := hcell (k / P.cellsOf e) (by omega) (k % P.cellsOf e) (Nat.mod_lt _ hz0)
              rw [<- hk', List.getElem?_eq_getElem p3] at p2
              rw [p2]; rfl
            . intro i v j c hi hj
              have hilt : i < len := by have := (List.getElem?_eq_some_iff.1 hi).1; simpa using this
              simp only [List.getElem?_map, List.getElem?_range hilt, Option.map_some, Option.some.injEq] at hi
              subst hi
              obtain ⟨cs', p1, q1, q2, _, _, q6⟩ := hf i (by omega)
              rw [elV_cells q6] at hj
              have hjl : j < P.cellsOf e := by have := (List.getElem?_eq_some_iff.1 hj).1; rw [q1.1, (World.cells?_some p1).2.1] at this; exact this
              obtain ⟨cs'', p1', p2, p3⟩ := hcell i (by omega) j hjl
              rw [p1] at p1'; cases p1'
              rw [p2, List.getElem?_eq_getElem p3]
              exact q1.2 j c _ hj (List.getElem?_eq_getElem p3)
        . unfold HasT
          rw [hu]
          refine .inr ⟨_, rfl, fun v hv => ?_⟩
          obtain ⟨i, hi, rfl⟩ := List.mem_map.1 hv
          obtain ⟨_, _, _, _, q3, _⟩ := hf i (by have := List.mem_range.1 hi; omega)
          exact ⟨f i, q3, rfl⟩
    . rename_i n e hu
      have ha : isAgT P t = true := by simp [isAgT, hu]
      obtain ⟨hte, hsz⟩ := K.array ht hu
      obtain ⟨xs, m', _, rfl, hl, hxl, hel⟩ := DataW.trod_array hu h
      have hpick : ∀ i, i < n -> ∃ ws : List V, RL w (G0 w) φ ws ((cs.drop (i * P.cellsOf e)).take (P.cellsOf e)) /\ (∀ c ∈ ws, c.sc = true /\ c.clean = true) /\ HasT P m e ws /\ wtL ws <= Rows.uptoBulk ((xs.map (·.1)).getD i .nil) := fun i hi => by
        have h1 := hel i hi
        rw [List.getElem?_eq_getElem (by omega)] at h1
        obtain ⟨ws, q1, q2, q3, _, q5, _⟩ := ih m' e _ _ hte hp h1
        refine ⟨ws, q1, q2, q3, ?_⟩
        simpa [List.getD, show i < xs.length by omega] using q5
      obtain ⟨f, hf⟩ := Deep.choose_lt hpick
      have hfl : ∀ i, i < n -> (f i).length = P.cellsOf e := fun i hi => by
        have := (hf i hi).1.1
        simp only [List.length_take, List.length_drop, hl, hsz] at this
        have h2 : (i + 1) * P.cellsOf e <= n * P.cellsOf e := Nat.mul_le_mul_right _ hi
        rw [Nat.add_mul] at h2
        omega
      have hsum : ∀ k, ((List.range k).map fun _ => P.cellsOf e).sum = k * P.cellsOf e := fun k => by
        induction k with
        | zero => simp
        | succ k ihk => rw [List.range_succ, List.map_append, List.sum_append, ihk, Nat.add_mul]; simp
      have hbulk : wtL ((List.range n).map f).flatten + 1 <= Rows.uptoBulk (DataW.agg (xs.map (·.1))) := by
        have := bulkAll_range n f (fun i => (xs.map (·.1)).getD i .nil) 0 fun i hi => by simpa using (hf i hi).2.2.2
        have e1 : ((List.range n).map fun i => (xs.map (·.1)).getD (0 + i) DataW.nil) = xs.map (·.1) := by
          apply List.ext_getElem
          . simp [hxl]
          . intro i h1 h2
            simp at h1 h2
            simp [List.getD, h2]
        rw [e1] at this
        simp only [Rows.uptoBulk]; omega
      refine ⟨((List.range n).map f).flatten, RL.flatten ?_ fun i ws hi => ?_, fun c hc => ?_, ?_, by simpa [elV, ha, V.wt] using hbulk, Nat.le_of_lt hbulk, fun hh => by rw [ha] at hh; cases hh⟩
      . have := pieces (K := n) (n := n) (f := f) (c := fun _ => P.cellsOf e) (Nat.le_refl _) hfl
        rw [List.take_of_length_le (by simp)] at this
        rw [this, hsum, hl, hsz]
      . have hin : i < n := by have := (List.getElem?_eq_some_iff.1 hi).1; simpa using this
        rw [pieces (by omega) hfl, hsum]
        simp only [List.getElem?_map, List.getElem?_range hin, Option.map_some, Option.some.injEq] at hi
        subst hi
        rw [hfl i hin]; exact (hf i hin).1
      . obtain ⟨ws, hws, hc⟩ := List.mem_flatten.1 hc
        obtain ⟨i, hi, rfl⟩ := List.mem_map.1 hws
        exact (hf i (List.mem_range.1 hi)).2.1 c hc
      . unfold HasT
        rw [hu]
        refine ⟨(List.range n).map f, by simp, fun ws hws => ?_, rfl⟩
        obtain ⟨i, hi, rfl⟩ := List.mem_map.1 hws
        exact (hf i (List.mem_range.1 hi)).2.2.1
    . rename_i fs hu
      have ha : isAgT P t = true := by simp [isAgT, hu]
      obtain ⟨hte, hsz, hoff⟩ := K.struct ht hu
      obtain ⟨xs, m', _, rfl, hl, hxl, hel⟩ := DataW.trod_struct hu h
      let c : Nat -> Nat := fun i => match fs[i]? with | some f => P.cellsOf f.type | none => 0
      have hc : ∀ (i : Nat) (fd : Field), fs[i]? = some fd -> c i = P.cellsOf fd.type := fun i fd hi => by simp only [c, hi]
      have htake : ∀ k, k <= fs.size -> (fs.toList.take k).map (fun f => P.cellsOf f.type) = (List.range k).map c := fun k hk => by
        apply List.ext_getElem
        . simp; omega
        . intro i h1 h2
          simp at h1 h2
          have hi : fs[i]? = some fs[i] := by simp
          simp [hc i _ hi]
      have hoff' : ∀ (i : Nat) (fd : Field), fs[i]? = some fd -> fd.offset = ((List.range i).map c).sum := fun i fd hi => by
        have hlt : i < fs.size := (Array.getElem?_eq_some_iff.1 hi).1
        rw [hoff i fd (by simpa using hi), htake i (by omega)]
      have hsz' : P.cellsOf t = ((List.range fs.size).map c).sum := by
        rw [hsz, <- htake fs.size (Nat.le_refl _), List.take_of_length_le (by simp)]
      have hsub : ∀ i, i < fs.size -> ((List.range i).map c).sum + c i <= P.cellsOf t := fun i hi => by
        have mono : ∀ k, i + 1 <= k -> ((List.range (i + 1)).map c).sum <= ((List.range k).map c).sum := by
          intro k hk
          induction hk with
          | refl => exact Nat.le_refl _
          | step _ ih =>
            refine Nat.le_trans ih ?_
            rename_i k _
            have e : ((List.range (k + 1)).map c).sum = ((List.range k).map c).sum + c k := by rw [List.range_succ, List.map_append, List.sum_append]; simp
            show _ <= ((List.range (k + 1)).map c).sum
            rw [e]; exact Nat.le_add_right _ _
        have := mono fs.size hi
        rw [<- hsz', List.range_succ, List.map_append, List.sum_append] at this
        simpa using this
      have hpick : ∀ i, i < fs.size -> ∃ ws : List V, ∀ fd, fs[i]? = some fd -> RL w (G0 w) φ ws ((cs.drop fd.offset).take (P.cellsOf fd.type)) /\ (∀ c ∈ ws, c.sc = true /\ c.clean = true) /\ HasT P m fd.type ws /\ wtL ws <= Rows.uptoBulk ((xs.map (·.1)).getD i .nil) := fun i hi => by
        have hfd : fs[i]? = some fs[i] := by simp [hi]
        have h1 := hel i _ hfd
        rw [List.getElem?_eq_getElem (by omega)] at h1
        obtain ⟨ws, q1, q2, q3, _, q5, _⟩ := ih m' fs[i].type _ _ (hte _ (by simp)) (List.all_eq_true.1 hp _ (by simp)) h1
        refine ⟨ws, fun fd hfd' => ?_⟩
        rw [hfd] at hfd'; cases hfd'
        refine ⟨q1, q2, q3, ?_⟩
        simpa [List.getD, show i < xs.length by omega] using q5
      obtain ⟨f, hf⟩ := Deep.choose_lt hpick
      have hget : ∀ i, i < fs.size -> fs[i]? = some (fs.getD i default) := fun i hi => by simp [Array.getD, hi]
      have hfl : ∀ i, i < fs.size -> (f i).length = c i := fun i hi => by
        have hfd := hget i hi
        have := (hf i hi _ hfd).1.1
        simp only [List.length_take, List.length_drop, hl] at this
        rw [hoff' i _ hfd, <- hc i _ hfd] at this
        have h2 := hsub i hi
        omega
      have hbulk : wtL ((List.range fs.size).map f).flatten + 1 <= Rows.uptoBulk (DataW.agg (xs.map (·.1))) := by
        have := bulkAll_range fs.size f (fun i => (xs.map (·.1)).getD i .nil) 0 fun i hi => by simpa using (hf i hi _ (hget i hi)).2.2.2
        have e1 : ((List.range fs.size).map fun i => (xs.map (·.1)).getD (0 + i) DataW.nil) = xs.map (·.1) := by
          apply List.ext_getElem
          . simp [hxl]
          . intro i h1 h2
            simp at h1 h2
            simp [List.getD, h2]
        rw [e1] at this
        simp only [Rows.uptoBulk]; omega
      refine ⟨((List.range fs.size).map f).flatten, RL.flatten ?_ fun i ws hi => ?_, fun c hc => ?_, ?_, by simpa [elV, ha, V.wt] using hbulk, Nat.le_of_lt hbulk, fun hh => by rw [ha] at hh; cases hh⟩
      . have := pieces (K := fs.size) (n := fs.size) (f := f) (c := c) (Nat.le_refl _) hfl
        rw [List.take_of_length_le (by simp)] at this
        rw [this, hl, hsz']
      . have hin : i < fs.size := by have := (List.getElem?_eq_some_iff.1 hi).1; simpa using this
        rw [pieces (by omega) hfl]
        simp only [List.getElem?_map, List.getElem?_range hin, Option.map_some, Option.some.injEq] at hi
        subst hi
        have hfd := hget i hin
        rw [hfl i hin, <- hoff' i _ hfd, hc i _ hfd]; exact (hf i hin _ hfd).1
      . obtain ⟨ws, hws, hc⟩ := List.mem_flatten.1 hc
        obtain ⟨i, hi, rfl⟩ := List.mem_map.1 hws
        exact (hf i (List.mem_range.1 hi) _ (hget i (List.mem_range.1 hi))).2.1 c hc
      . unfold HasT
        rw [hu]
        refine ⟨(List.range fs.size).map f, by simp, fun i fd ws hfd hws => ?_, rfl⟩
        have hin : i < fs.size := (Array.getElem?_eq_some_iff.1 hfd).1
        simp only [List.getElem?_map, List.getElem?_range hin, Option.map_some, Option.some.injEq] at hws
        subst hws
        exact (hf i hin fd hfd).2.2.1
    . simp at hp
theorem Trod.rep (K : Kids P (· < P.types.size)) (hz : ∀ t e, t < P.types.size -> P.underlying t = some (.slice e) -> 0 < P.cellsOf e) {m : Nat} {t : TypeId} {v : Value} {d : DataW H} {ps : List MemPlace} {base : Nat} (ht : t < P.types.size) (hp : plainT P m t = true)
    (h : DataW.Trod enc P w 0 (fun _ => true) held t v d ps) (hval : Value.okWide P w .any base t v) :
    ∃ vs, Rep w (G0 w) φ (elV P t vs) v /\ HasT P m t vs /\ (elV P t vs).wt <= Rows.uptoBulk d /\ (elV P t vs).clean = true := by
  obtain ⟨n, h⟩ := h
  obtain ⟨vs, h1, h2, h3, h4, _, h6⟩ := trod_rep (φ := φ) K hz m n t _ _ ht hp h
  refine ⟨vs, ?_, h3, h4, elV_clean fun c hc => (h2 c hc).2⟩
  unfold elV
  by_cases ha : isAgT P t = true
  . rw [if_pos ha]
    have : ∃ cs, v = .agg cs := by
      unfold Value.okWide at hval
      unfold isAgT at ha
      split at ha
      . rename_i hu; rw [hu] at hval; obtain ⟨cs, rfl, _⟩ := hval; exact ⟨cs, rfl⟩
      . rename_i hu; rw [hu] at hval; obtain ⟨cs, rfl, _⟩ := hval; exact ⟨cs, rfl⟩
      . simp at ha
    obtain ⟨cs, rfl⟩ := this
    refine .agg vs cs (by simpa [Value.cells] using h1.1) (fun c hc => (h2 c hc).1) fun i c x hc hx => h1.2 i c x hc (by simpa [Value.cells] using hx)
  . rw [if_neg ha]
    obtain ⟨u, rfl, hu⟩ := h6 (by simpa using ha)
    have hv : v.cells.toList = [v] := by
      cases v with
      | agg cs =>
        exfalso
        unfold Value.okWide at hval
        unfold isAgT at ha
        split at hval
        . rename_i hu; simp [hu] at ha
        . rename_i hu; simp [hu] at ha
        . unfold Cell.okWide Cell.ok at hval
          split at hval <;> simp_all
      | _ => rfl
    rw [hv] at h1
    exact h1.2 0 u v rfl rfl
end
theorem post_true {H : Type} {enc : TypeId × Value -> H} {P : Program} (K : Kids P (· < P.types.size)) (hz : ∀ t e, t < P.types.size -> P.underlying t = some (.slice e) -> 0 < P.cellsOf e) {f : Func} {s : ChangeSpec} {apart fresh handsOn again : Bool} {W W' : World} {args : Array Value} {ds : List (DataW H)} {before : List MemPlace} {tb : TypeId}
    (hvars : s.vars = []) (hfn : s.fn H ds = { results := [.lit (.bool true)], args := ds }) (hrt : f.resultTypes = #[tb]) (htb : P.underlying tb = some .bool) (hpt : ∀ t ∈ f.params.toList, t < P.types.size)
    (hW : DataW.Whole enc P f.params.toList s.vars apart W args.toList ds [] before) (hB : Below W.heap.size W W') : s.post enc P f apart fresh handsOn again W args (.bool true) W' := by
  have hlt := hW.lt
  have hW0 := hW
  obtain ⟨p, q, hA, hV, rfl, hfz, hnd⟩ := hW
  rw [hvars] at hV
  have hq : q = [] := hV
  subst hq
  have carry : ∀ {ts : List TypeId} {vs : List Value} {ds : List (DataW H)} {ps : List MemPlace}, DataW.TrodAll enc P W 0 (fun _ => true) true ts vs ds ps -> (∀ p ∈ ps, p.block < W.heap.size) -> DataW.TrodAll enc P W' 0 (fun _ => true) true ts vs ds ps := by
    intro ts
    induction ts with
    | nil => intro vs ds ps h _; cases vs <;> cases ds <;> first | exact h | exact h.elim
    | cons t ts ih =>
      intro vs ds ps h hb
      cases vs with
      | nil => exact h.elim
      | cons v vs =>
        cases ds with
        | nil => exact h.elim
        | cons d ds =>
          obtain ⟨p, q, ⟨n, h1⟩, h2, rfl⟩ := h
          exact ⟨p, q, ⟨n, DataW.trod_carry n _ _ _ h1 fun x hx => hB.same (hb x (List.mem_append_left _ hx))⟩, ih h2 fun x hx => hb x (List.mem_append_right _ hx), rfl⟩
  have hA' := carry hA fun x hx => hlt x (by simpa using hx)
  have hargs : ∀ sp : Nat -> Bool, (∀ x ∈ p, sp x.block = true) -> DataW.TrodAll enc P W' 0 sp true f.params.toList args.toList ds p := fun sp hsp => hA'.respare K hz hpt hsp
  have hres : ∀ (b : Nat) (sp : Nat -> Bool) (hd : Bool), DataW.TrodAll enc P W' b sp hd f.resultTypes.toList ((Value.bool true).resultList f.resultTypes.size) [.lit (.bool true)] [] := by
    intro b sp hd
    rw [hrt]
    exact trodAll_cons_mk (shut_bool htb _) trodAll_mk0
  have hsimp : s.fn H (ds ++ []) = { results := [.lit (.bool true)], args := ds } := by rw [List.append_nil]; exact hfn
  have hold : ∀ x ∈ p, (fun b => decide (b < W.heap.size)) x.block = true := fun x hx => by simpa using hlt x (by simpa using hx)
  refine ⟨ds, [], p ++ [], [], p, [], hW0, by rw [hsimp]; exact hres _ _ _, by rw [hsimp]; exact hargs _ hold, by rw [hsimp, hvars]; rfl, World.keptBut_mono (fun x f => f.elim) (hB.frame fun _ => False), fun _ => ?_⟩
  refine ⟨ok_one hrt rfl (okWide_bool_mk htb _), _, [], ([] ++ p) ++ [], ⟨[] ++ p, [], trodAll_append (hargs _ (fun _ _ => rfl)) (hres _ _ _), by rw [hvars]; rfl, rfl, ?_, ?_⟩, ?_⟩
  . intro b off hp
    have hp' : MemPlace.cell b off ∈ p := by simpa using hp
    rw [hB.frozen (p := ⟨b, off, none⟩) (hlt (.cell b off) (by simpa using hp'))]
    exact hfz b off (by simpa using hp')
  . intro ha
    simpa using hnd ha
  . intro x hx _
    simpa using hx
end Go.Abs
namespace Go.Abs
open Go.RowKit
structure Ctr where
  α : Type
  args : α -> List V
  res : α -> V × Bool
  ok : α -> Prop
  inj : ∀ a b, args a = args b -> res a = res b
def Ctr.Holds (cx : Cx) (f : Nat) (c : Ctr) : Prop := ∀ a, c.ok a -> PC cx f (c.args a) (c.res a)
theorem PC.of {cx : Cx} {f : FuncId} {args : List V} {r : V × Bool} (hc : Callable cx.P f)
    (h : ∀ W G φ xs, OKW cx W G -> RepL W G φ args xs -> Calls cx.P f xs W fun e W' => ∃ G' y, e = .returned y /\ Below W.heap.size W W' /\ (∀ b, b < W.heap.size -> G' b = G b) /\ (∀ b, W'.heap.size <= b -> G' b = 0) /\
      Rep W' G' φ r.1 y /\ (r.2 = true -> ∀ ow q, (∀ b, W.heap.size <= b -> ow b = some q) -> OwnAt W' (fun b => W.heap.size <= b) ⟨G', φ, ow⟩ q r.1 y)) : PC cx f args r := ⟨hc, h⟩
theorem PC.pure {cx : Cx} {f : FuncId} {args : List V} {v : V} (hc : Callable cx.P f) (h : ∀ W G φ xs, OKW cx W G -> RepL W G φ args xs -> Calls cx.P f xs W fun e W' => ∃ y, e = .returned y /\ Below W.heap.size W W' /\ ∀ W' G' , Rep W' G' φ v y) : PC cx f args (v, false) :=
  .of hc fun W G φ xs hW hxs => (h W G φ xs hW hxs).mono fun e W' ⟨y, he, hB, hr⟩ => ⟨G, y, he, hB, fun _ _ => rfl, fun b hb => hW.Gz b (Nat.le_trans hB.size hb), hr _ _, fun h => by cases h⟩
theorem PC.texts {cx : Cx} {f : FuncId} {args : List V} {l : List Bytes} (hc : Callable cx.P f)
    (h : ∀ W G φ xs, OKW cx W G -> RepL W G φ args xs -> Calls cx.P f xs W fun e W' => ∃ (ss : List ByteArray) (t : TypeId), ss.map (·.data.toList) = l /\ e = .returned (.slice (some ⟨W.heap.size, 0, none⟩) ss.length ss.length) /\ W' = W.alloc (.cells (ss.map Value.string).toArray t)) :
    PC cx f args (.sl false 1 (l.map .str), true) := by
  refine .of hc fun W G φ xs hW hxs => (h W G φ xs hW hxs).mono fun e W' => ?_
  rintro ⟨ss, t, rfl, rfl, rfl⟩
  have hblk : (W.alloc (.cells (ss.map Value.string).toArray t)).heap[W.heap.size]? = some (.cells (ss.map Value.string).toArray t (0, 0)) := heap_alloc_new _ _
  have hcell : ∀ k, (W.alloc (.cells (ss.map Value.string).toArray t)).cell? ⟨W.heap.size, k, none⟩ = (ss.map Value.string)[k]? := fun k => by
    rw [cell_of_row _ W.heap.size k _ t (0, 0) hblk]; simp
  refine ⟨fun b => if b = W.heap.size then ss.length else G b, _, rfl, (Below.refl _ _).alloc (Nat.le_refl _) _, fun b hb => if_neg (by omega), fun b hb => ?_, ?_, fun _ ow q how sz ys b off len cap sp hv hx => ?_⟩
  . simp at hb
    dsimp only; rw [if_neg (by omega)]; exact hW.Gz b (by omega)
  . have := Rep.sl (W := W.alloc (.cells (ss.map Value.string).toArray t)) (G := fun b => if b = W.heap.size then ss.length else G b) (φ := φ) 1 ((ss.map (·.data.toList)).map V.str) W.heap.size 0 ss.length (fun k => .string (ss.getD k default)) (by simp) (by simp) (fun x hx => ?_) (fun k hk => ?_) (fun i x j c hi hj => ?_)
    . simpa using this
    . obtain ⟨s, _, rfl⟩ := List.mem_map.1 hx; simp
    . simp at hk
      rw [Nat.zero_add, hcell]; simp [List.getD, hk]
    . simp only [List.map_map, List.getElem?_map, Option.map_eq_some_iff] at hi
      obtain ⟨s, hs, rfl⟩ := hi
      cases j with
      | zero => simp at hj; subst hj; simp [List.getD, hs]; exact .str _ _ rfl
      | succ j => simp at hj
  . cases hx; exact .inl rfl
theorem law_calls {cx : Cx} {f : FuncId} {args : List V} {xs : Array Value} {o : Bool} (h : PC cx f args (.bool true, o)) (hr : RepL cx.w0 (G0 cx.w0) (fun _ => none) args xs) :
    Calls cx.P f xs cx.w0 fun e W' => e = .returned (.bool true) /\ Below cx.w0.heap.size cx.w0 W' := by
  refine (h.2 cx.w0 (G0 cx.w0) (fun _ => none) xs ⟨.refl _ _, fun _ _ => rfl, fun b hb => by simp [G0, Array.getElem?_eq_none hb]⟩ hr).mono fun e W' => ?_
  rintro ⟨G', y, rfl, hB, _, _, hy, _⟩
  cases hy
  exact ⟨rfl, hB⟩
end Go.Abs
namespace Go.Abs
open Go.RowKit
mutual
def V.nf : V -> V
  | .agg cs => .agg (nfL cs)
  | .sl true sz [] => .sl false sz []
  | .sl true _ (_ :: _) => .map 0
  | .sl false sz xs => .sl false sz (nfL xs)
  | .el cs off => .el (nfL cs) off
  | .tup cs => .tup (nfL cs)
  | .fn f cs => .fn f (nfL cs)
  | .mfn f cs => .mfn f (nfL cs)
  | .iface t v => .iface t v.nf
  | .bool b => .bool b
  | .int k n => .int k n
  | .str s => .str s
  | .osl a b c d e => .osl a b c d e
  | .gp g o => .gp g o
  | .ptr i o => .ptr i o
  | .nilptr => .nilptr
  | .map i => .map i
  | .nilmap => .nilmap
  | .nilfn => .nilfn
  | .nilif => .nilif
def nfL : List V -> List V
  | [] => []
  | v :: r => v.nf :: nfL r
end
theorem nfL_map : ∀ l : List V, nfL l = l.map V.nf
  | [] => rfl
  | v :: r => by rw [nfL, nfL_map r]; rfl
@[simp] theorem nfL_length (l : List V) : (nfL l).length = l.length := by rw [nfL_map]; simp
theorem nfL_get (l : List V) (i : Nat) : (nfL l)[i]? = (l[i]?).map V.nf := by rw [nfL_map]; simp
theorem nfL_append (a b : List V) : nfL (a ++ b) = nfL a ++ nfL b := by simp [nfL_map]
theorem nfL_drop (a : List V) (k : Nat) : nfL (a.drop k) = (nfL a).drop k := by simp [nfL_map, List.map_drop]
theorem nfL_take (a : List V) (k : Nat) : nfL (a.take k) = (nfL a).take k := by simp [nfL_map, List.map_take]
theorem nfL_setAt (a : List V) (k : Nat) (b : List V) : nfL (setAt a k b) = setAt (nfL a) k (nfL b) := by
  simp only [setAt, nfL_append, nfL_take, nfL_drop, nfL_length]
theorem nf_bool {v : V} {b : Bool} (h : v.nf = .bool b) : v = .bool b := by
  cases v <;> simp_all [V.nf]
  all_goals (rename_i nl sz xs; cases nl <;> cases xs <;> simp [V.nf] at h)
theorem nf_int {v : V} {k : IntKind} {n : Int} (h : v.nf = .int k n) : v = .int k n := by
  cases v <;> simp_all [V.nf]
  all_goals (rename_i nl sz xs; cases nl <;> cases xs <;> simp [V.nf] at h)
theorem nf_str {v : V} {s : Bytes} (h : v.nf = .str s) : v = .str s := by
  cases v <;> simp_all [V.nf]
  all_goals (rename_i nl sz xs; cases nl <;> cases xs <;> simp [V.nf] at h)
theorem nf_ptr {v : V} {i o : Nat} (h : v.nf = .ptr i o) : v = .ptr i o := by
  cases v <;> simp_all [V.nf]
  all_goals (rename_i nl sz xs; cases nl <;> cases xs <;> simp [V.nf] at h)
theorem nf_agg {v : V} {l : List V} (h : v.nf = .agg l) : ∃ cs, v = .agg cs /\ nfL cs = l := by
  cases v <;> simp_all [V.nf]
  all_goals (rename_i nl sz xs; cases nl <;> cases xs <;> simp [V.nf] at h)
theorem nf_el {v : V} {l : List V} {o : Nat} (h : v.nf = .el l o) : ∃ cs, v = .el cs o /\ nfL cs = l := by
  cases v <;> simp_all [V.nf]
  all_goals (rename_i nl sz xs; cases nl <;> cases xs <;> simp [V.nf] at h)
theorem nf_tup {v : V} {l : List V} (h : v.nf = .tup l) : ∃ cs, v = .tup cs /\ nfL cs = l := by
  cases v <;> simp_all [V.nf]
  all_goals (rename_i nl sz xs; cases nl <;> cases xs <;> simp [V.nf] at h)
theorem nf_fn {v : V} {f : Nat} {l : List V} (h : v.nf = .fn f l) : ∃ cs, v = .fn f cs /\ nfL cs = l := by
  cases v <;> simp_all [V.nf]
  all_goals (rename_i nl sz xs; cases nl <;> cases xs <;> simp [V.nf] at h)
theorem nf_sl {v : V} {sz : Nat} {l : List V} (h : v.nf = .sl false sz l) : ∃ nl xs, v = .sl nl sz xs /\ nfL xs = l /\ (nl = true -> xs = []) := by
  cases v <;> simp_all [V.nf]
  rename_i nl sz' xs
  cases nl <;> cases xs <;> simp_all [V.nf, nfL]
theorem sl_nf {nl : Bool} {sz : Nat} {xs : List V} (h : nl = true -> xs = []) : (V.sl nl sz xs).nf = .sl false sz (nfL xs) := by
  cases nl
  . rfl
  . rw [h rfl]; rfl
theorem nf_sc (v : V) : v.nf.sc = v.sc := by
  cases v <;> try rfl
  rename_i nl sz xs
  cases nl <;> cases xs <;> rfl
theorem nf_cells (v : V) : v.nf.cells = nfL v.cells := by
  cases v <;> try rfl
  rename_i nl sz xs
  cases nl <;> cases xs <;> rfl
mutual
theorem nf_clean : ∀ {v : V}, v.nf.clean = true -> v.clean = true
  | .agg cs, h => by simp only [V.nf, V.clean] at h ⊢; exact nfL_clean h
  | .sl true sz [], _ => rfl
  | .sl true _ (_ :: _), h => by simp [V.nf, V.clean] at h
  | .sl false sz xs, h => by simp only [V.nf, V.clean] at h ⊢; exact nfL_clean h
  | .el cs off, h => by simp only [V.nf, V.clean] at h ⊢; exact nfL_clean h
  | .tup cs, h => by simp only [V.nf, V.clean] at h ⊢; exact nfL_clean h
  | .fn f cs, h => by simp only [V.nf, V.clean] at h ⊢; exact nfL_clean h
  | .mfn f cs, h => by simp only [V.nf, V.clean] at h ⊢; exact nfL_clean h
  | .iface t v, h => by simp only [V.nf, V.clean] at h ⊢; exact nf_clean h
  | .bool b, _ => rfl
  | .int k n, _ => rfl
  | .str s, _ => rfl
  | .osl a b c d e, h => by simp [V.nf, V.clean] at h
  | .gp g o, _ => rfl
  | .ptr i o, h => by simp [V.nf, V.clean] at h
  | .nilptr, _ => rfl
  | .map i, h => by simp [V.nf, V.clean] at h
  | .nilmap, _ => rfl
  | .nilfn, _ => rfl
  | .nilif, _ => rfl
theorem nfL_clean : ∀ {l : List V}, cleanL (nfL l) = true -> cleanL l = true
  | [], _ => rfl
  | v :: r, h => by
    simp only [nfL, cleanL, Bool.and_eq_true] at h ⊢
    exact ⟨nf_clean h.1, nfL_clean h.2⟩
end
def Own (v : V) (o : Bool) : Prop := o = true \/ ∃ sz, v = .sl true sz []
structure FC where
  f : Nat
  mt : List V -> Bool
  own : Bool
  rel : List V -> V -> Prop
  clean : ∀ avs y, rel avs y -> cleanL avs = true /\ y.clean = true
  fn : ∀ avs y z, rel avs y -> rel avs z -> y = z
def FC.Holds (cx : Cx) (c : FC) : Prop := ∀ args y, c.rel (nfL args) y -> ∃ v o, PC cx c.f args (v, o) /\ v.nf = y /\ (c.own = true -> Own v o)
def FC.Good (cx : Cx) (c : FC) (args : List V) (p : V × Bool) : Prop := PC cx c.f args p /\ ∃ y, c.rel (nfL args) y /\ p.1.nf = y /\ (c.own = true -> Own p.1 p.2)
variable {Γ : Abs.Spec} {gl : Glob}
theorem awp_det : ∀ {c : ACode} {Q : Ex -> St -> Prop} {s : St}, awp Γ gl c Q s -> ∃ e t, Q e t /\ ∀ Q' : Ex -> St -> Prop, Q' e t -> awp Γ gl c Q' s := by
  intro c
  induction c with
  | skip => intro Q s h; exact ⟨_, _, h, fun _ h => h⟩
  | region ops dr =>
    intro Q s h
    simp only [awp] at h ⊢
    unfold someP at h ⊢
    split at h
    . exact ⟨_, _, h, fun _ h => h⟩
    . exact h.elim
  | seq a b iha ihb =>
    intro Q s h
    obtain ⟨e, t, h1, h2⟩ := iha h
    cases e with
    | normal =>
      obtain ⟨e, t', h3, h4⟩ := ihb h1
      exact ⟨e, t', h3, fun Q' h => h2 _ (h4 Q' h)⟩
    | exit i => exact ⟨_, t, h1, fun Q' h => h2 _ h⟩
    | ret => exact ⟨_, t, h1, fun Q' h => h2 _ h⟩
  | cond c a b iha ihb =>
    intro Q s h
    simp only [awp] at h ⊢
    unfold condP at h ⊢
    split at h
    . exact iha h
    . exact ihb h
    . exact h.elim
  | block id b ih =>
    intro Q s h
    obtain ⟨e, t, h1, h2⟩ := ih h
    exact ⟨_, t, h1, fun Q' h => h2 _ h⟩
  | loop b ih =>
    intro Q s h
    obtain ⟨n, h⟩ := h
    induction n generalizing s with
    | zero => exact h.elim
    | succ n ihn =>
      obtain ⟨e, t, h1, h2⟩ := ih h
      cases e with
      | normal =>
        obtain ⟨e, t', h3, h4⟩ := ihn h1
        refine ⟨e, t', h3, fun Q' h => ?_⟩
        obtain ⟨m, hm⟩ := h4 Q' h
        exact ⟨m + 1, h2 _ hm⟩
      | exit i => exact ⟨_, t, h1, fun Q' h => ⟨1, h2 _ h⟩⟩
      | ret => exact ⟨_, t, h1, fun Q' h => ⟨1, h2 _ h⟩⟩
  | exit id => intro Q s h; exact ⟨_, _, h, fun _ h => h⟩
  | ret => intro Q s h; exact ⟨_, _, h, fun _ h => h⟩
  | fail => intro Q s h; exact h.elim
def EndsX (res : List RS) (own : Bool) (y : V) (s : St) : Prop := ∃ p, resOf res s = some p /\ p.1.nf = y /\ (own = true -> Own p.1 p.2)
def endQ (res : List RS) (own : Bool) (y : V) : Ex -> St -> Prop
  | .exit _, _ => False
  | _, s => EndsX res own y s
theorem cleanL_mk {v : V} {r : List V} (h : v.clean = true) (k : cleanL r = true) : cleanL (v :: r) = true := by rw [cleanL_cons, h, k]; rfl
def fc {α β : Type} (f : Nat) (mt : List V -> Bool) (own : Bool) (ea : α -> List V) (eb : β -> V) (g : α -> Option β) (ha : ∀ a, cleanL (ea a) = true) (hb : ∀ b, (eb b).clean = true) (hi : ∀ a b, ea a = ea b -> a = b) : FC where
  f := f
  mt := mt
  own := own
  rel avs y := ∃ a x, avs = ea a /\ g a = some x /\ y = eb x
  clean := by
    rintro avs y ⟨a, x, rfl, _, rfl⟩
    exact ⟨ha a, hb x⟩
  fn := by
    rintro avs y z ⟨a, x, rfl, h1, rfl⟩ ⟨a', x', h2, h3, rfl⟩
    obtain rfl := hi _ _ h2
    rw [h1] at h3
    cases h3; rfl
theorem cons_eq {α : Type} {a b : α} {l m : List α} (h : a = b) (k : l = m) : a :: l = b :: m := by rw [h, k]
def fuel : Nat := 1000000000000
theorem nfL_cons {v : List V} {x : V} {r : List V} (h : nfL v = x :: r) : ∃ a v', v = a :: v' /\ a.nf = x /\ nfL v' = r := by
  cases v with
  | nil => cases h
  | cons a v' => rw [nfL] at h; obtain ⟨h1, h2⟩ := List.cons.inj h; exact ⟨a, v', rfl, h1, h2⟩
theorem nfL_nil {v : List V} (h : nfL v = []) : v = [] := by
  cases v with
  | nil => rfl
  | cons a v' => cases h
theorem map_inj {α β : Type} {f : α -> β} (hf : ∀ x y, f x = f y -> x = y) {l m : List α} (h : l.map f = m.map f) : l = m := (List.map_inj_right hf).1 h
theorem cleanL_app (a b : List V) : cleanL (a ++ b) = (cleanL a && cleanL b) := by
  induction a with
  | nil => simp
  | cons x a ih => simp [ih, Bool.and_assoc]
def Arr (n : Nat) : Type := { l : Bytes // l.length = n }
instance (n : Nat) : DecidableEq (Arr n) := fun a b => if h : a.1 = b.1 then isTrue (Subtype.ext h) else isFalse fun e => h (by rw [e])
theorem Arr.h {n : Nat} (a : Arr n) : a.1.length = n := a.2
theorem Arr.ext {n : Nat} {a b : Arr n} (h : a.1 = b.1) : a = b := Subtype.ext h
def Arr.zero (n : Nat) : Arr n := ⟨List.replicate n 0, by simp⟩
def Arr.set {n : Nat} (a : Arr n) (i : Int) (b : UInt8) : Arr n := ⟨a.1.set i.toNat b, by simp [a.2]⟩
def inR (n : Nat) (i : Int) : Option Unit := if 0 <= i /\ i < n then some () else none
theorem clean_app {a b : List V} (h : cleanL a = true) (k : cleanL b = true) : cleanL (a ++ b) = true := by rw [cleanL_app, h, k]; rfl
theorem ld_left {n : Option Nat} {a b : List V} {o : Nat} (h : o + n.getD 1 <= a.length) : ldCells n (a ++ b) o = ldCells n a o := by
  cases n with
  | none => simp only [Option.getD_none] at h; rw [ldCells_none, ldCells_none, List.getElem?_append_left (by omega)]
  | some k =>
    simp only [Option.getD_some] at h
    rw [ldCells_some, ldCells_some, if_pos (by simp; omega), if_pos h, List.drop_append_of_le_length (by omega), List.take_append_of_le_length (by simp; omega)]
theorem ld_right {n : Option Nat} {a b : List V} {o : Nat} (k : Nat) (h : a.length = k) (ho : k <= o := by decide) : ldCells n (a ++ b) o = ldCells n b (o - k) := by
  subst h
  cases n with
  | none => rw [ldCells_none, ldCells_none, List.getElem?_append_right ho]
  | some m =>
    rw [ldCells_some, ldCells_some, List.drop_append, List.drop_eq_nil_of_le ho]
    simp only [List.length_append, List.nil_append]
    by_cases hc : o - a.length + m <= b.length
    . rw [if_pos hc, if_pos (by omega)]
    . rw [if_neg hc, if_neg (by omega)]
section
variable {q : EqK} {a b : UInt8} {s t : Bytes} {x y : Bool}
def cat (s t : Bytes) : Option Bytes := if s.length + t.length <= 4611686018427387904 then some (s ++ t) else none
theorem kdEq_nf {k : Option IntKind × Bool} {x y : V} {p : Bool} (h : kdEq k x.nf y.nf = some p) : kdEq k x y = some p := by
  obtain ⟨k, u⟩ := k
  cases k with
  | some k =>
    cases hx : x.nf <;> rw [hx] at h <;> cases hy : y.nf <;> rw [hy] at h <;> simp [kdEq] at h
    rw [nf_int hx, nf_int hy]; simp [kdEq, h]
  | none =>
    cases u with
    | true =>
      cases hx : x.nf <;> rw [hx] at h <;> cases hy : y.nf <;> rw [hy] at h <;> simp [kdEq] at h
      rw [nf_str hx, nf_str hy]; simp [kdEq, h]
    | false =>
      cases hx : x.nf <;> rw [hx] at h <;> cases hy : y.nf <;> rw [hy] at h <;> simp [kdEq] at h
      rw [nf_bool hx, nf_bool hy]; simp [kdEq, h]
theorem flatEq_nf : ∀ {ks : List (Option IntKind × Bool)} {a b : List V} {p : Bool}, flatEq ks (nfL a) (nfL b) = some p -> flatEq ks a b = some p
  | [], [], [], _, h => h
  | k :: ks, x :: xs, y :: ys, p, h => by
    simp only [nfL, flatEq, Option.bind_eq_some_iff, Option.map_eq_some_iff] at h
    obtain ⟨u, hu, w, hw, rfl⟩ := h
    simp only [flatEq, kdEq_nf hu, flatEq_nf hw, Option.bind_some, Option.map_some]
  | [], [], _ :: _, _, h => by simp [nfL, flatEq] at h
  | [], _ :: _, _, _, h => by simp [nfL, flatEq] at h
  | _ :: _, [], _, _, h => by simp [nfL, flatEq] at h
  | _ :: _, _ :: _, [], _, h => by simp [nfL, flatEq] at h
end
section
variable {Γ : Abs.Spec} {gl : Glob} {K : St -> Prop} {s : St} {d : Option Nat} {r : List AOper} {af : List Nat}
end
section
variable {Γ : Abs.Spec} {gl : Glob} {K : St -> Prop} {s : St} {d : Option Nat} {r : List AOper} {af : List Nat} {q : EqK} {k : IntKind} {a b : Int}
end
section
variable {Γ : Abs.Spec} {gl : Glob} {K : St -> Prop} {s : St} {d : Option Nat} {r : List AOper} {af : List Nat} {α β : Type} {f : Nat} {mt : List V -> Bool} {own : Bool} {ea : α -> List V} {eb : β -> V} {g : α -> Option β} {h1 : ∀ a, cleanL (ea a) = true} {h2 : ∀ b, (eb b).clean = true} {h3 : ∀ a b, ea a = ea b -> a = b}
end
def isFn (f : Nat) : Option V -> Bool
  | some (.fn g _) => g == f
  | _ => false
theorem ldCells_nf {n : Option Nat} {cs : List V} {o : Nat} {y : V} (h : ldCells n (nfL cs) o = some y) : ∃ v, ldCells n cs o = some v /\ v.nf = y := by
  cases n with
  | none =>
    simp only [ldCells_none, nfL_get, Option.map_eq_some_iff] at h ⊢
    exact h
  | some k =>
    simp only [ldCells_some, nfL_length] at h ⊢
    split at h
    . rename_i hc
      rw [if_pos hc]
      cases h
      exact ⟨_, rfl, by rw [V.nf, nfL_take, nfL_drop]⟩
    . cases h
theorem nf_encB (l : Bytes) : nfL (encB l) = encB l := by
  rw [nfL_map]; unfold encB; rw [List.map_map]; rfl
end Go.Abs
namespace Go.Abs
structure Spec.Le (Γ Γ' : Abs.Spec) : Prop where
  p : Γ.p = Γ'.p
  h : ∀ f a hs r, Γ.h f a hs = some r -> Γ'.h f a hs = some r
theorem Spec.Le.refl (Γ : Abs.Spec) : Γ.Le Γ := ⟨rfl, fun _ _ _ _ h => h⟩
variable {Γ Γ' : Abs.Spec} {gl : Glob}
theorem peval_p (hp : Γ.p = Γ'.p) (H : Hp) (own : Pos -> Bool) (tm : Nat -> V) (op : AOp) : peval Γ gl H own tm op = peval Γ' gl H own tm op := by
  cases op <;> first | rfl | (simp only [peval, vCallv, vCall, hp]; done) | (simp only [peval, vCallv]; split <;> simp only [hp])
theorem doCall_le (hle : Γ.Le Γ') {s s' : St} {d : Option Nat} {f : Nat} {a : List V} (h : s.doCall Γ d f a = some s') : s.doCall Γ' d f a = some s' := by
  unfold St.doCall at h ⊢
  simp only [Option.map_eq_some_iff] at h ⊢
  obtain ⟨r, h1, h2⟩ := h
  exact ⟨r, hle.h _ _ _ _ h1, h2⟩
theorem exec1_le (hle : Γ.Le Γ') {o : AOper} {s s' : St} (h : exec1 Γ gl o s = some s') : exec1 Γ' gl o s = some s' := by
  unfold exec1 at h ⊢
  split at h <;> first | exact h | exact doCall_le hle h | skip
  . split at h
    . rename_i ga e
      rw [<- hle.p]
      split at h
      . rename_i r hr
        exact h
      . rename_i hr
        exact doCall_le hle h
    . cases h
  . rw [<- peval_p hle.p]; exact h
theorem execs_le (hle : Γ.Le Γ') : ∀ {os : List AOper} {s s' : St}, execs Γ gl os s = some s' -> execs Γ' gl os s = some s'
  | [], s, s', h => h
  | o :: os, s, s', h => by
    simp only [execs] at h ⊢
    split at h
    . rename_i s1 h1
      have : exec Γ' gl o s = some s1 := by
        unfold exec at h1 ⊢
        by_cases hw : s.wants o = true
        . rw [if_pos hw] at h1 ⊢
          exact exec1_le hle h1
        . rw [if_neg hw] at h1 ⊢
          exact h1
      rw [this]; exact execs_le hle h
    . cases h
theorem awp_le (hle : Γ.Le Γ') : ∀ {c : ACode} {Q : Ex -> St -> Prop} {s : St}, awp Γ gl c Q s -> awp Γ' gl c Q s := by
  intro c
  induction c with
  | skip => intro Q s h; exact h
  | region ops d =>
    intro Q s h
    simp only [awp] at h ⊢
    unfold someP at h
    split at h
    . rename_i s' hs
      rw [execs_le hle hs]; exact h
    . exact h.elim
  | seq a b iha ihb => intro Q s h; exact iha (awp_mono (thenQ_mono (fun _ h => ihb h) fun _ _ h => h) h)
  | cond c a b iha ihb =>
    intro Q s h
    simp only [awp] at h ⊢
    unfold condP at h ⊢
    split at h
    . exact iha h
    . exact ihb h
    . exact h.elim
  | block id b ih => intro Q s h; exact ih h
  | loop b ih =>
    intro Q s h
    obtain ⟨k, h⟩ := h
    refine ⟨k, ?_⟩
    induction k generalizing s with
    | zero => exact h.elim
    | succ k ihk => exact ih (awp_mono (thenQ_mono (fun _ h => ihk h) fun _ _ h => h) h)
  | exit id => intro Q s h; exact h
  | ret => intro Q s h; exact h
  | fail => intro Q s h; exact h.elim
theorem awp_both : ∀ {c : ACode} {Q R : Ex -> St -> Prop} {s : St}, awp Γ gl c Q s -> awp Γ gl c R s -> awp Γ gl c (fun e t => Q e t /\ R e t) s := by
  have tq : ∀ {K K' : St -> Prop} {Q R : Ex -> St -> Prop} (e : Ex) (t : St), (thenQ K Q e t /\ thenQ K' R e t) -> thenQ (fun t => K t /\ K' t) (fun e t => Q e t /\ R e t) e t := by
    intro K K' Q R e t h
    cases e <;> exact h
  intro c
  induction c with
  | skip => intro Q R s h k; exact ⟨h, k⟩
  | region ops d =>
    intro Q R s h k
    simp only [awp] at h k ⊢
    unfold someP at h k ⊢
    split at h
    . rename_i s' hs
      simp only [hs] at k ⊢
      exact ⟨h, k⟩
    . exact h.elim
  | seq a b iha ihb =>
    intro Q R s h k
    exact awp_mono (c := a) (fun e t q => thenQ_mono (K := fun t => awp Γ gl b Q t /\ awp Γ gl b R t) (Q := fun e t => Q e t /\ R e t) (fun _ h => ihb h.1 h.2) (fun _ _ h => h) e t (tq e t q)) (iha h k)
  | cond c a b iha ihb =>
    intro Q R s h k
    simp only [awp] at h k ⊢
    unfold condP at h k ⊢
    split at h
    . rename_i e
      simp only [e] at k
      exact iha h k
    . rename_i e
      simp only [e] at k
      exact ihb h k
    . exact h.elim
  | block id b ih => intro Q R s h k; exact ih h k
  | loop b ih =>
    intro Q R s h k
    obtain ⟨n, h⟩ := h
    obtain ⟨m, k⟩ := k
    refine ⟨n, ?_⟩
    induction n generalizing s m with
    | zero => exact h.elim
    | succ n ihn =>
      cases m with
      | zero => exact k.elim
      | succ m => exact awp_mono (c := b) (fun e t q => thenQ_mono (K := fun t => loopN (awp Γ gl b) Q n t /\ loopN (awp Γ gl b) R m t) (Q := fun e t => Q e t /\ R e t) (fun _ h => ihn h.1 m h.2) (fun _ _ h => h) e t (tq e t q)) (ih h k)
  | exit id => intro Q R s h k; exact ⟨h, k⟩
  | ret => intro Q R s h k; exact ⟨h, k⟩
  | fail => intro Q R s h k; exact h.elim
section
variable {G : Nat -> Abs.Spec} {Γl : Abs.Spec}
structure Lm (G : Nat -> Abs.Spec) (Γl : Abs.Spec) : Prop where
  up : ∀ n, (G n).Le (G (n + 1))
  to : ∀ n, (G n).Le Γl
  of : ∀ f a hs r, Γl.h f a hs = some r -> ∃ n, (G n).h f a hs = some r
theorem Spec.Le.trans {a b c : Abs.Spec} (h : a.Le b) (k : b.Le c) : a.Le c := ⟨h.p.trans k.p, fun f x hs r e => k.h f x hs r (h.h f x hs r e)⟩
theorem Lm.le (h : Lm G Γl) {n m : Nat} (hn : n <= m) : (G n).Le (G m) := by
  induction hn with
  | refl => exact .refl _
  | step _ ih => exact ih.trans (h.up _)
theorem Lm.exec1 (h : Lm G Γl) {o : AOper} {s s' : St} (he : exec1 Γl gl o s = some s') : ∃ n, exec1 (G n) gl o s = some s' := by
  have call : ∀ {d : Option Nat} {f : Nat} {a : List V}, s.doCall Γl d f a = some s' -> ∃ n, s.doCall (G n) d f a = some s' := by
    intro d f a hc
    unfold St.doCall at hc
    simp only [Option.map_eq_some_iff] at hc
    obtain ⟨r, h1, h2⟩ := hc
    obtain ⟨n, hn⟩ := h.of _ _ _ _ h1
    exact ⟨n, by unfold St.doCall; rw [hn, <- h2]; rfl⟩
  unfold Abs.exec1 at he ⊢
  split at he <;> first | exact ⟨0, he⟩ | exact call he | skip
  . split at he
    . rename_i ga e
      split at he
      . rename_i r hr
        exact ⟨0, by simp only [(h.to 0).p, hr]; exact he⟩
      . rename_i hr
        obtain ⟨n, hn⟩ := call he
        exact ⟨n, by simp only [(h.to n).p, hr]; exact hn⟩
    . cases he
  . exact ⟨0, by rw [peval_p (h.to 0).p]; exact he⟩
theorem Lm.execs (h : Lm G Γl) : ∀ {os : List AOper} {s s' : St}, execs Γl gl os s = some s' -> ∃ n, execs (G n) gl os s = some s'
  | [], s, s', he => ⟨0, he⟩
  | o :: os, s, s', he => by
    simp only [Abs.execs] at he
    split at he
    . rename_i s1 h1
      have h2 : ∃ n, exec (G n) gl o s = some s1 := by
        unfold exec at h1 ⊢
        by_cases hw : s.wants o = true
        . rw [if_pos hw] at h1
          obtain ⟨n, hn⟩ := h.exec1 h1
          exact ⟨n, by rw [if_pos hw]; exact hn⟩
        . rw [if_neg hw] at h1
          exact ⟨0, by rw [if_neg hw]; exact h1⟩
      obtain ⟨n, hn⟩ := h2
      obtain ⟨m, hm⟩ := Lm.execs h he
      refine ⟨max n m, ?_⟩
      have hn' : exec (G (max n m)) gl o s = some s1 := by
        unfold exec at hn ⊢
        by_cases hw : s.wants o = true
        . rw [if_pos hw] at hn ⊢
          exact exec1_le (h.le (Nat.le_max_left n m)) hn
        . rw [if_neg hw] at hn ⊢
          exact hn
      simp only [Abs.execs, hn']
      exact execs_le (h.le (Nat.le_max_right n m)) hm
    . cases he
theorem Lm.awp (h : Lm G Γl) : ∀ {c : ACode} {Q : Ex -> St -> Prop} {s : St}, Abs.awp Γl gl c Q s -> ∃ n, Abs.awp (G n) gl c Q s := by
  intro c
  induction c with
  | skip => intro Q s hq; exact ⟨0, hq⟩
  | region ops d =>
    intro Q s hq
    simp only [Abs.awp] at hq ⊢
    unfold someP at hq
    split at hq
    . rename_i s' hs
      obtain ⟨n, hn⟩ := h.execs hs
      exact ⟨n, by rw [hn]; exact hq⟩
    . exact hq.elim
  | seq a b iha ihb =>
    intro Q s hq
    obtain ⟨n, hn⟩ := iha hq
    obtain ⟨e, t, h1, h2⟩ := awp_det hn
    cases e with
    | normal =>
      obtain ⟨m, hm⟩ := ihb h1
      refine ⟨max n m, ?_⟩
      exact awp_le (c := a) (h.le (Nat.le_max_left n m)) (h2 (thenQ (Abs.awp (G (max n m)) gl b Q) Q) (show Abs.awp (G (max n m)) gl b Q t from awp_le (h.le (Nat.le_max_right n m)) hm))
    | exit i => exact ⟨n, h2 _ h1⟩
    | ret => exact ⟨n, h2 _ h1⟩
  | cond c a b iha ihb =>
    intro Q s hq
    simp only [Abs.awp] at hq ⊢
    unfold condP at hq ⊢
    split at hq
    . exact iha hq
    . exact ihb hq
    . exact hq.elim
  | block id b ih => intro Q s hq; exact ih hq
  | loop b ih =>
    intro Q s hq
    obtain ⟨k, hq⟩ := hq
    induction k generalizing s with
    | zero => exact hq.elim
    | succ k ihk =>
      obtain ⟨n, hn⟩ := ih hq
      obtain ⟨e, t, h1, h2⟩ := awp_det hn
      cases e with
      | normal =>
        obtain ⟨m, j, hm⟩ := ihk h1
        refine ⟨max n m, j + 1, ?_⟩
        have hm' : Abs.awp (G (max n m)) gl (.loop b) Q t := awp_le (h.le (Nat.le_max_right n m)) ⟨j, hm⟩
        have : Abs.awp (G (max n m)) gl b (thenQ (loopN (Abs.awp (G (max n m)) gl b) Q j) Q) s := by
          refine Abs.awp_le (h.le (Nat.le_max_left n m)) (h2 _ ?_)
          show loopN (Abs.awp (G (max n m)) gl b) Q j t
          have key : ∀ (j : Nat) (t : St), loopN (Abs.awp (G m) gl b) Q j t -> loopN (Abs.awp (G (max n m)) gl b) Q j t := by
            intro j
            induction j with
            | zero => exact fun _ h => h
            | succ j ihj => exact fun t ht => awp_le (h.le (Nat.le_max_right n m)) (awp_mono (thenQ_mono (fun _ h => ihj _ h) fun _ _ h => h) ht)
          exact key j t hm
        exact this
      | exit i => exact ⟨n, 1, h2 _ h1⟩
      | ret => exact ⟨n, 1, h2 _ h1⟩
  | exit id => intro Q s hq; exact ⟨0, hq⟩
  | ret => intro Q s hq; exact ⟨0, hq⟩
  | fail => intro Q s hq; exact hq.elim
end
def endE (res : List RS) (p : V × Bool × HS) : Ex -> St -> Prop
  | .exit _, _ => False
  | _, s => resOf res s = some (p.1, p.2.1) /\ s.hs = p.2.2
def CallE (P : Program) (gl : Glob) (Γ : Abs.Spec) (f : Nat) (args : List V) (hs : HS) (p : V × Bool × HS) : Prop :=
  ∃ F, cFnW P true f = some F /\ args.length <= F.n /\ awp Γ gl F.body (endE F.res p) (St.initH args hs)
theorem CallE.one {P : Program} {f : Nat} {args : List V} {hs : HS} {p q : V × Bool × HS} (h : CallE P gl Γ f args hs p) (k : CallE P gl Γ f args hs q) : p = q := by
  obtain ⟨F, h1, _, h2⟩ := h
  obtain ⟨F', k1, _, k2⟩ := k
  rw [h1] at k1; cases k1
  obtain ⟨e, t, h3, _⟩ := awp_det (awp_both h2 k2)
  obtain ⟨p1, p2, p3⟩ := p
  obtain ⟨q1, q2, q3⟩ := q
  have : (resOf F.res t = some (p1, p2) /\ t.hs = p3) /\ (resOf F.res t = some (q1, q2) /\ t.hs = q3) := by
    cases e with
    | exit i => exact h3.1.elim
    | normal => exact h3
    | ret => exact h3
  obtain ⟨⟨a1, a2⟩, b1, b2⟩ := this
  rw [a1] at b1; cases b1; rw [<- a2, <- b2]
open Classical in
noncomputable def hN (P : Program) (gl : Glob) (p : Nat -> List V -> Option (V × Bool)) : Nat -> Abs.Spec
  | 0 => ⟨p, fun _ _ _ => none⟩
  | n + 1 => ⟨p, fun f args hs => if h : ∃ q, CallE P gl (hN P gl p n) f args hs q then some h.choose else none⟩
variable {P : Program} {p : Nat -> List V -> Option (V × Bool)}
open Classical in
theorem hN_succ {n f : Nat} {args : List V} {hs : HS} {r : V × Bool × HS} : (hN P gl p (n + 1)).h f args hs = some r <-> CallE P gl (hN P gl p n) f args hs r := by
  show (if h : ∃ q, CallE P gl (hN P gl p n) f args hs q then some h.choose else none) = some r <-> _
  constructor
  . intro h
    split at h
    . rename_i hex
      cases h; exact hex.choose_spec
    . cases h
  . intro h
    have hex : ∃ q, CallE P gl (hN P gl p n) f args hs q := ⟨r, h⟩
    rw [dif_pos hex, hex.choose_spec.one h]
theorem CallE.le (hle : Γ.Le Γ') {f : Nat} {args : List V} {hs : HS} {r : V × Bool × HS} (h : CallE P gl Γ f args hs r) : CallE P gl Γ' f args hs r := by
  obtain ⟨F, h1, h2, h3⟩ := h
  exact ⟨F, h1, h2, awp_le hle h3⟩
theorem hN_up : ∀ n, (hN P gl p n).Le (hN P gl p (n + 1))
  | 0 => ⟨rfl, fun _ _ _ _ h => by cases h⟩
  | n + 1 => ⟨rfl, fun f a hs r h => hN_succ.2 ((hN_succ.1 h).le (hN_up n))⟩
open Classical in
noncomputable def hL (P : Program) (gl : Glob) (p : Nat -> List V -> Option (V × Bool)) : Abs.Spec :=
  ⟨p, fun f args hs => if h : ∃ r n, (hN P gl p n).h f args hs = some r then some h.choose else none⟩
theorem hN_p : ∀ n, (hN P gl p n).p = p
  | 0 => rfl
  | _ + 1 => rfl
theorem hN_le {n m : Nat} (h : n <= m) : (hN P gl p n).Le (hN P gl p m) := by
  induction h with
  | refl => exact .refl _
  | step _ ih => exact ih.trans (hN_up _)
open Classical in
theorem hL_iff {f : Nat} {args : List V} {hs : HS} {r : V × Bool × HS} : (hL P gl p).h f args hs = some r <-> ∃ n, (hN P gl p n).h f args hs = some r := by
  show (if h : ∃ r n, (hN P gl p n).h f args hs = some r then some h.choose else none) = some r <-> _
  constructor
  . intro h
    split at h
    . rename_i hex
      cases h; exact hex.choose_spec
    . cases h
  . rintro ⟨n, hn⟩
    have hex : ∃ r n, (hN P gl p n).h f args hs = some r := ⟨r, n, hn⟩
    rw [dif_pos hex]
    obtain ⟨m, hm⟩ := hex.choose_spec
    have h1 := (hN_le (Nat.le_max_left n m)).h _ _ _ _ hn
    have h2 := (hN_le (Nat.le_max_right n m)).h _ _ _ _ hm
    rw [h1] at h2; exact h2.symm
theorem hL_lim : Lm (hN P gl p) (hL P gl p) where
  up := hN_up
  to n := ⟨hN_p n, fun _ _ _ _ h => hL_iff.2 ⟨n, h⟩⟩
  of _ _ _ _ h := hL_iff.1 h
theorem hL_of {f : Nat} {args : List V} {hs : HS} {r : V × Bool × HS} (h : CallE P gl (hL P gl p) f args hs r) : (hL P gl p).h f args hs = some r := by
  obtain ⟨F, h1, h2, h3⟩ := h
  obtain ⟨n, hn⟩ := hL_lim.awp h3
  exact hL_iff.2 ⟨n + 1, hN_succ.2 ⟨F, h1, h2, hn⟩⟩
theorem hN_sound {cx : Cx} (hgl : GlOK cx) (hm : cx.P.follows .mixedOrders = true) (hp : ∀ f args r, p f args = some r -> PC cx f args r) : ∀ n, Sound cx (hN cx.P cx.gl p n)
  | 0 => ⟨hp, fun _ _ _ _ h => by cases h⟩
  | n + 1 => ⟨hp, fun f args hs r h => by
    obtain ⟨F, h1, h2, h3⟩ := hN_succ.1 h
    exact pch_of_awp hgl hm (hN_sound hgl hm hp n) h1 h2 (awp_mono (fun e s q => by
      cases e with
      | exit i => exact q.elim
      | normal => exact ⟨⟨_, q.1, rfl, fun h => h⟩, q.2⟩
      | ret => exact ⟨⟨_, q.1, rfl, fun h => h⟩, q.2⟩) h3)⟩
theorem hL_sound {cx : Cx} (hgl : GlOK cx) (hm : cx.P.follows .mixedOrders = true) (hp : ∀ f args r, p f args = some r -> PC cx f args r) : Sound cx (hL cx.P cx.gl p) where
  p := hp
  h f args hs r h := by
    obtain ⟨n, hn⟩ := hL_iff.1 h
    exact (hN_sound hgl hm hp n).h f args hs r hn
end Go.Abs
