/-
  Abs, part H: what is built: structs, arrays, slices; made slices; arrays' slices. Own work of this seat.
-/
import Derived.Test.YtainplhaaklpeaaDoorAbsG
import Derived.Laws.MakeOwn
namespace Go.Abs
open Go.RowKit

variable {P : Program} {W : World} {G : Nat → Nat} {φ : Nat → Option Nat}

def setL {α : Type} (cs : List α) (off : Nat) (ys : List α) : List α := cs.take off ++ ys ++ cs.drop (off + ys.length)
theorem setL_get {α : Type} (cs : List α) (off : Nat) (ys : List α) (h : off + ys.length ≤ cs.length) (k : Nat) :
    (setL cs off ys)[k]? = if off ≤ k ∧ k < off + ys.length then ys[k - off]? else cs[k]? := by
  unfold setL
  rw [List.append_assoc]
  have hl : (cs.take off).length = off := by simp; omega
  rcases Nat.lt_or_ge k off with h1 | h1
  · rw [List.getElem?_append_left (by omega), if_neg (by omega), List.getElem?_take, if_pos h1]
  · rw [List.getElem?_append_right (by omega), hl]
    rcases Nat.lt_or_ge k (off + ys.length) with h2 | h2
    · rw [List.getElem?_append_left (by omega), if_pos ⟨h1, h2⟩]
    · rw [List.getElem?_append_right (by omega), if_neg (by omega), List.getElem?_drop]
      congr 1; omega
theorem setL_length {α : Type} (cs : List α) (off : Nat) (ys : List α) (h : off + ys.length ≤ cs.length) : (setL cs off ys).length = cs.length := by
  simp [setL]; omega
theorem setAt_eq (cs : List V) (off : Nat) (ys : List V) : setAt cs off ys = setL cs off ys := rfl

theorem foldl_set (ys : List Value) : ∀ (off k : Nat) (cs : Array Value), (ys.zipIdx k).foldl (fun (cs : Array Value) (p : Value × Nat) => cs.setIfInBounds (off + p.2) p.1) cs = (List.foldl (fun (cs : Array Value) (p : Value × Nat) => cs.setIfInBounds (off + p.2) p.1) cs (ys.zipIdx k)) := fun _ _ _ => rfl

theorem foldl_setL : ∀ (ys : List Value) (off k : Nat) (cs : Array Value), off + k + ys.length ≤ cs.size →
    ((ys.zipIdx k).foldl (fun (cs : Array Value) (p : Value × Nat) => cs.setIfInBounds (off + p.2) p.1) cs).toList = setL cs.toList (off + k) ys
  | [], off, k, cs, _ => by simp [setL]
  | y :: r, off, k, cs, h => by
    simp only [List.length_cons] at h
    rw [List.zipIdx_cons, List.foldl_cons]
    rw [foldl_setL r off (k + 1) _ (by simp; omega)]
    apply List.ext_getElem?
    intro j
    rw [setL_get _ _ _ (by simp; omega), setL_get _ _ _ (by simp; omega)]
    simp only [Array.toList_setIfInBounds, List.getElem?_set, List.length_cons]
    by_cases h1 : off + (k + 1) ≤ j ∧ j < off + (k + 1) + r.length
    · rw [if_pos h1, if_pos (by omega)]
      rw [show j - (off + k) = (j - (off + (k + 1))) + 1 by omega]
      simp
    · rw [if_neg h1]
      by_cases h2 : off + k = j
      · subst h2
        rw [if_pos rfl, if_pos (by simp; omega), if_pos (by omega)]
        simp
      · rw [if_neg h2, if_neg (by omega)]

theorem fill_cons {place : Nat → Option (Nat × Nat)} {cells : Array Value} {i off size : Nat} {v : Value} {rest : List (Nat × Value)} (hp : place i = some (off, size)) (hs : v.cells.size = size) (hle : off + size ≤ cells.size) :
    Instr.fill place cells ((i, v) :: rest) = Instr.fill place (setL cells.toList off v.cells.toList).toArray rest := by
  simp only [Instr.fill, hp]
  rw [if_neg (by simp [hs]; omega)]
  congr 1
  apply Array.ext'
  have := foldl_setL v.cells.toList off 0 cells (by simp; omega)
  simp only [Nat.add_zero] at this
  rw [← this]
  rw [← Array.foldl_toList, Array.toList_zipIdx]

theorem RepL.setL {cs : List V} {xs : Array Value} {ys : List V} {zs : Array Value} {off : Nat} (h : RepL W G φ cs xs) (hy : RepL W G φ ys zs) (hle : off + ys.length ≤ cs.length) :
    RepL W G φ (setAt cs off ys) (Go.Abs.setL xs.toList off zs.toList).toArray := by
  have hl := h.1
  have hl2 := hy.1
  refine ⟨by rw [setAt_eq, setL_length _ _ _ hle]; simp; rw [setL_length _ _ _ (by simp; omega)]; simpa using hl, fun i c x hc hx => ?_⟩
  rw [setAt_eq, setL_get _ _ _ hle] at hc
  simp only [List.getElem?_toArray] at hx
  rw [setL_get _ _ _ (by simp; omega)] at hx
  have : zs.toList.length = ys.length := by simp [hl2]
  rw [this] at hx
  split at hc
  · rename_i hcond
    rw [if_pos hcond] at hx
    exact hy.2 _ c x hc (by simpa using hx)
  · rename_i hcond
    rw [if_neg hcond] at hx
    exact h.2 _ c x hc (by simpa using hx)

theorem mem_setAt {cs ys : List V} {off : Nat} {c : V} (h : c ∈ setAt cs off ys) : c ∈ cs ∨ c ∈ ys := by
  simp only [setAt, List.mem_append] at h
  rcases h with (h | h) | h
  · exact .inl (List.mem_of_mem_take h)
  · exact .inr h
  · exact .inl (List.mem_of_mem_drop h)

/-- A struct or an array is built. -/
theorem d_fill {place : Nat → Option (Nat × Nat)} : ∀ {ps : List (Nat × Nat × V)} {qs : List (Nat × Value)} {cs rs : List V} {xs : Array Value},
    ps.length = qs.length → (∀ (k : Nat) (p : Nat × Nat × V) (q : Nat × Value), ps[k]? = some p → qs[k]? = some q → place q.1 = some (p.1, p.2.1) ∧ Rep W G φ p.2.2 q.2) →
    RepL W G φ cs xs → (∀ c ∈ cs, c.sc = true) → fillV cs ps = some rs →
    ∃ ys, Instr.fill place xs qs = some ys ∧ RepL W G φ rs ys ∧ ∀ c ∈ rs, c.sc = true
  | [], [], cs, rs, xs, _, _, h, hs, hv => by simp [fillV] at hv; subst hv; exact ⟨xs, rfl, h, hs⟩
  | (off, n, v) :: ps, (i, x) :: qs, cs, rs, xs, hl, hp, h, hs, hv => by
    simp only [fillV] at hv
    split at hv
    · rename_i hc
      obtain ⟨h1, h2, h3⟩ := hc
      obtain ⟨hpl, hr⟩ := hp 0 _ _ rfl rfl
      have hrc := hr.cells
      have hsz : x.cells.size = n := by rw [← hrc.1]; exact h1
      rw [fill_cons hpl hsz (by rw [← h.1]; exact h3)]
      exact d_fill (by simpa using hl) (fun k p q hk hq => hp (k + 1) p q (by simpa using hk) (by simpa using hq)) (h.setL hrc (by rw [h1]; exact h3))
        (fun c hc => by
          rcases mem_setAt hc with hc | hc
          · exact hs c hc
          · exact List.all_eq_true.1 h2 c hc) hv
    · simp at hv

theorem fill_row {sz : Nat} : ∀ (xs : List Value) (k : Nat) (pre rest : List Value), pre.length = k * sz → rest.length = xs.length * sz → (∀ x ∈ xs, x.cells.size = sz) →
    Instr.fill (fun i => some (i * sz, sz)) (pre ++ rest).toArray ((xs.zipIdx k).map fun p => (p.2, p.1)) = some (pre ++ xs.flatMap fun x => x.cells.toList).toArray
  | [], k, pre, rest, _, hr, _ => by
    have : rest = [] := by simpa using hr
    subst this; rfl
  | x :: xs, k, pre, rest, hp, hr, hx => by
    rw [List.zipIdx_cons, List.map_cons]
    have hs := hx x (by simp)
    simp only [List.length_cons, Nat.succ_mul] at hr
    rw [fill_cons (off := k * sz) (size := sz) rfl hs (by simp; omega)]
    have hset : setL ((pre ++ rest).toArray).toList (k * sz) x.cells.toList = (pre ++ x.cells.toList) ++ rest.drop sz := by
      unfold setL
      simp only [hs, Array.length_toList]
      rw [← hp]
      simp [List.drop_append]
    rw [hset]
    rw [fill_row xs (k + 1) (pre ++ x.cells.toList) (rest.drop sz) (by simp [hs, hp, Nat.succ_mul]) (by simp; omega) (fun y hy => hx y (by simp [hy]))]
    simp

theorem flat_list {xs : List V} {ys : List Value} (hl : xs.length = ys.length) (h : ∀ (i : Nat) (c : V) (x : Value), xs[i]? = some c → ys[i]? = some x → Rep W G φ c x) :
    RepL W G φ (flat xs) (ys.flatMap fun x => x.cells.toList).toArray := by
  induction xs generalizing ys with
  | nil =>
    have : ys = [] := by simpa using hl.symm
    subst this; exact ⟨rfl, fun i c x hc => by simp [flat] at hc⟩
  | cons a r ih =>
    cases ys with
    | nil => simp at hl
    | cons y s =>
      have h1 := (h 0 a y rfl rfl).cells
      have h2 := ih (ys := s) (by simpa using hl) fun i c x hc hx => h (i + 1) c x (by simpa using hc) (by simpa using hx)
      have e1 := h1.1
      have e2 := h2.1
      refine ⟨by simp only [flat, List.flatMap_cons, List.length_append, List.size_toArray, Array.length_toList] at *; omega, fun i c x hc hx => ?_⟩
      simp only [flat, List.flatMap_cons, List.getElem?_toArray] at *
      rcases Nat.lt_or_ge i a.cells.length with hlt | hge
      · rw [List.getElem?_append_left hlt] at hc
        rw [List.getElem?_append_left (by simp; omega)] at hx
        exact h1.2 i c x hc (by simpa using hx)
      · rw [List.getElem?_append_right hge] at hc
        rw [List.getElem?_append_right (by simp; omega)] at hx
        have : y.cells.toList.length = a.cells.length := by simp; omega
        rw [this] at hx
        exact h2.2 _ c x hc (by simpa using hx)

theorem d_bsl {w B GB g st a} (h : SR w B GB g st a W) {sz : Nat} {xs : List V} {ys : List Value} {t e : TypeId} {ie : TypeInfo} {z : Value} (ht : P.underlying t = some (.slice e)) (he : P.info? e = some ie) (hz : ie.zero = some z) (hsz : ie.size = sz) (hzs : z.cells.size = sz)
    (hbig : xs.length * sz ≤ 16777216) (hl : xs.length = ys.length) (hr : ∀ (i : Nat) (c : V) (x : Value), xs[i]? = some c → ys[i]? = some x → Rep W g.G g.φ c x) (hf : fits sz xs = true) (q : Pos) :
    ∃ y W' g', (Instr.buildSlice t xs.length ((ys.zipIdx 0).map fun p => (p.2, p.1)).toArray).run P W = .ok y W' ∧ Adv B g g' W W' none ∧ Rep W' g'.G g'.φ (.sl false sz xs) y ∧ OwnAt W' B g' q (.sl false sz xs) y := by
  subst hsz
  have hfit := fits_spec hf
  have hB : B W.heap.size := h.hB _ h.below.size
  have hys : ∀ y ∈ ys, y.cells.size = ie.size := by
    intro y hy
    obtain ⟨i, hi⟩ := List.getElem?_of_mem hy
    have hlt : i < xs.length := by rw [hl]; exact (List.getElem?_eq_some_iff.1 hi).1
    have := (hr i _ y (List.getElem?_eq_getElem hlt) hi).cells.1
    rw [← this]; exact (hfit _ (List.getElem_mem hlt)).1
  have hflat := flat_list hl hr
  have hfill : ∀ zz : Array Value, Instr.fill (fun i => some (i * ie.size, ie.size)) ((Array.range (xs.length * ie.size)).map (fun k => zz[k % zz.size]!)) ((ys.zipIdx 0).map fun p => (p.2, p.1)) = some (ys.flatMap fun x => x.cells.toList).toArray := by
    intro zz
    have := fill_row (sz := ie.size) ys 0 [] ((Array.range (xs.length * ie.size)).map (fun k => zz[k % zz.size]!)).toList (by simp) (by simp [hl]) hys
    have e1 : ((Array.range (xs.length * ie.size)).map (fun k => zz[k % zz.size]!)) = ([] ++ ((Array.range (xs.length * ie.size)).map (fun k => zz[k % zz.size]!)).toList).toArray := by simp only [List.nil_append, Array.toArray_toList]
    rw [e1, this]; simp
  have hrun : (Instr.buildSlice t xs.length ((ys.zipIdx 0).map fun p => (p.2, p.1)).toArray).run P W = .ok (.slice (some ⟨W.heap.size, 0, none⟩) xs.length xs.length) (W.alloc (.cells (ys.flatMap fun x => x.cells.toList).toArray e)) := by
    have hb : ¬ (xs.length * ie.size > 2 ^ 24) := by simp; omega
    have hzv : (zeroValue e).run P W = .ok z W := by simp [zeroValue, run_typeInfo he, hz]
    by_cases h0 : xs.length * ie.size = 0
    · have := hfill #[]
      simp [Instr.buildSlice, run_underlying ht, run_sizeOf' he, h0, newRow] at this ⊢
      simp [this]
    · have := hfill z.cells
      simp [Instr.buildSlice, run_underlying ht, run_sizeOf' he, hb, h0, hzv, newRow] at this ⊢
      simp [this]
  have hadv := Adv.new h (xs.length * ie.size) (some q) none (below_alloc' W (.cells (ys.flatMap fun x => x.cells.toList).toArray e)) (by simp)
  refine ⟨_, _, _, hrun, hadv, ?_, fun sz xs' b off len cap sp hv hx => ?_⟩
  · refine Rep.of_row (Nat.le_refl _) (by simp) hfit ⟨fun c hc => ?_, fun k c hk => ?_⟩
    · obtain ⟨y, hm, hc⟩ := List.mem_flatMap.1 hc; exact (hfit y hm).2 c hc
    · have hlt : k < (ys.flatMap fun x => x.cells.toList).toArray.size := by rw [← hflat.1]; exact (List.getElem?_eq_some_iff.1 hk).1
      refine ⟨_, ?_, (hflat.2 k c _ hk (Array.getElem?_eq_getElem hlt)).keep hadv.keeps⟩
      rw [Nat.zero_add, cell_of_row _ W.heap.size k _ e (0, 0) (heap_alloc_new _ _)]
      exact Array.getElem?_eq_getElem hlt
  · simp only [Value.slice.injEq] at hx
    exact .inl (by omega)

theorem d_mks {w B GB g st a} (h : SR w B GB g st a W) {sz : Nat} {u v : V} {xl xc : Value} {t e : TypeId} {ie : TypeInfo} {z : Value} {r : Res} (ht : P.underlying t = some (.slice e)) (he : P.info? e = some ie) (hz : ie.zero = some z) (hsz : ie.size = sz) (hzs : z.cells.size = sz) (hby : ie.bytes ≤ 4096)
    (hu : Rep W g.G g.φ u xl) (hv' : Rep W g.G g.φ v xc) (hv : vMks sz u v = some r) (q : Pos) :
    ∃ y W' g', (Instr.makeSlice t xl xc).run P W = .ok y W' ∧ Adv B g g' W W' r.tk ∧ Rep W' g'.G g'.φ r.v y ∧ (r.o = true → OwnAt W' B g' q r.v y) := by
  subst hsz
  have hB : B W.heap.size := h.hB _ h.below.size
  cases hu <;> cases hv' <;> simp only [vMks, reduceCtorEq] at hv
  rename_i kl n kc c
  split at hv
  · rename_i hc
    obtain ⟨rfl, hc0, hcl⟩ := hc
    simp only [Option.some.injEq] at hv
    subst hv
    obtain ⟨m, rfl⟩ : ∃ m : Nat, c = m := ⟨c.toNat, by omega⟩
    have hm : m ≤ 4294967296 := by unfold Lim at hcl; omega
    have hbig : (ie.bytes : Int) * (m : Int) ≤ 281474976710656 := by
      have h1 : ie.bytes * m ≤ 4096 * 4294967296 := Nat.mul_le_mul hby hm
      have h2 : ((ie.bytes * m : Nat) : Int) = (ie.bytes : Int) * (m : Int) := Int.natCast_mul _ _
      omega
    have hrun : ∃ cs : Array Value, cs.size = m * ie.size ∧ (Instr.makeSlice t (.int kl 0) (.int kc m)).run P W = .ok (.slice (some ⟨W.heap.size, 0, none⟩) 0 m) (W.alloc (.cells cs e)) := by
      have := run_make (P := P) W t e ie z ht he hz kl kc 0 m (by omega) (by omega) hbig (by omega)
      exact ⟨_, by rw [size_madeCells]; simp, this⟩
    obtain ⟨cs, hcs, hrun⟩ := hrun
    have hadv := Adv.new h 0 (some q) none (below_alloc' W (.cells cs e)) (by simp)
    refine ⟨_, _, _, hrun, hadv, ?_, fun _ => ?_⟩
    · exact Rep.of_row (sz := ie.size) (xs := []) (by simp) (by simp) (by simp) ⟨by simp [flat], by simp [flat]⟩
    · intro sz xs' b off len cap sp hv hx
      simp only [V.sl.injEq, true_and] at hv
      obtain ⟨rfl, rfl⟩ := hv
      simp only [Value.slice.injEq, Option.some.injEq, Addr.mk.injEq] at hx
      obtain ⟨⟨rfl, rfl, rfl⟩, rfl, rfl⟩ := hx
      exact .inr ⟨hB, by simp, by simp, _, _, _, _, heap_alloc_new _ _, by omega, fun j _ _ => by omega⟩
  · simp at hv

theorem d_slca {n sz : Nat} {u v : V} {x : Value} {lo hi mx : Option V} {xl xh xm : Option Value} {t e : TypeId} {ie : TypeInfo} (ht : P.underlying t = some (.array n e)) (he : P.info? e = some ie) (hsz : ie.size = sz)
    (h : Rep W G φ u x) (hl : RepO W G φ lo xl) (hh : RepO W G φ hi xh) (hm : RepO W G φ mx xm) (hv : vSlca n sz u lo hi mx = some v) :
    ∃ y, (Instr.sliceAt t x xl xh xm).run P W = .ok y W ∧ Rep W G φ v y := by
  subst hsz
  unfold vSlca at hv
  split at hv
  · rename_i l hi' m id o el eh em
    cases h
    rename_i b hφ
    simp only [Option.map_eq_some_iff] at hv
    obtain ⟨c, hcut, rfl⟩ := hv
    obtain ⟨hr, h1, h2, h3⟩ := run_sliceBounds (P := P) (W := W) (isS := false) (Nat.le_refl n) (vOpt_int hl el) (vOpt_int hh eh) (vOpt_int hm em) hcut
    refine ⟨.slice (if c.2.2 = c.1 then some ⟨b, o, none⟩ else some ⟨b, o + c.1 * ie.size, none⟩) (c.2.1 - c.1) (c.2.2 - c.1), ?_, ?_⟩
    · simp only [Instr.sliceAt, Sem.run_bind, run_underlying ht, Result.andThen_ok, Instr.sureAddr, Sem.run_pure, hr, run_sizeOf' he, addr_add]
      split <;> rfl
    · split
      · exact .osl _ _ _ _ _ _ hφ (by omega)
      · exact .osl _ _ _ _ _ _ hφ (by omega)
  · simp at hv

/-- a slice of bytes taken for an array -/
theorem d_s2a {n : Nat} {u v : V} {x : Value} {t e : TypeId} (ht : P.underlying t = some (.array n e)) (h : Rep W G φ u x) (hv : vS2a n u = some v) :
    ∃ y, (Instr.arrayAt t x).run P W = .ok y W ∧ Rep W G φ v y := by
  cases u <;> simp only [vS2a, reduceCtorEq] at hv
  rename_i nl sz xs
  split at hv
  · rename_i heq
    simp only [V.sl.injEq] at heq
    obtain ⟨rfl, rfl, rfl⟩ := heq
    split at hv
    · rename_i hc
      obtain ⟨hn, hne, hf⟩ := hc
      simp only [Option.some.injEq] at hv
      subst hv
      rcases h.row with ⟨hh, _⟩ | ⟨_, rfl, a, rfl⟩ | ⟨b, off, cap, _, rfl, hcap, hG, hx, hrow⟩
      · cases hh
      · exact absurd rfl hne
      · refine ⟨.pointer (some ⟨b, off, none⟩), by simp [Instr.arrayAt, run_underlying ht, Nat.not_lt.2 hn], ?_⟩
        have hl := flat_length (sz := 1) fun y hy => (hx y hy).1
        obtain ⟨ys, hyl, hy⟩ := hrow.list (flat xs).length (Nat.le_refl _)
        refine .el (flat xs) 0 b off (fun k => ys.getD k undef) (by rw [hl]; exact hG) hrow.sc (fun k hk => ?_) (fun k c hk => ?_)
        · have hk' : k < ys.length := by omega
          rw [(hy k _ (List.getElem?_eq_getElem hk')).1]
          simp [List.getD, hk']
        · have hk' : k < ys.length := by rw [hyl]; exact (List.getElem?_eq_some_iff.1 hk).1
          obtain ⟨_, c', hc', hr'⟩ := hy k _ (List.getElem?_eq_getElem hk')
          rw [hk] at hc'; cases hc'
          simpa [List.getD, hk'] using hr'
    · simp at hv
  · simp at hv

end Go.Abs
