/-
  Abs, part G: append. Own work of this seat.
-/
import Derived.Test.YtainplhaaklpeaaDoorAbsF
namespace Go.Abs
open Go.RowKit

theorem run_firstCells_zero {P : Program} (W : World) (sz : Nat) (a : Addr) : (Builtin.firstCells sz 0 (.slice (some a) 0 0)).run P W = .ok #[] W := by simp [Builtin.firstCells, loadCells, loadCellsFrom]

variable {P : Program} {W : World} {G : Nat → Nat} {φ : Nat → Option Nat}

theorem sc_cells {v : V} (h : v.sc = true) : v.cells = [v] := by cases v <;> first | rfl | (simp [V.sc] at h)
theorem flat_sc : ∀ {ys : List V}, (∀ c ∈ ys, c.sc = true) → flat ys = ys
  | [], _ => rfl
  | y :: r, h => by
    have h1 := sc_cells (h y (by simp))
    have h2 := flat_sc (ys := r) fun c hc => h c (by simp [hc])
    simp only [flat, List.flatMap_cons] at *
    rw [h1, h2]; rfl

theorem setCells_far (b : Nat) : ∀ (vs : List Value) (o : Nat) (w : World) (k : Nat), k ≠ b → (w.setCells b o vs).heap[k]? = w.heap[k]?
  | [], _, _, _, _ => rfl
  | v :: r, o, w, k, h => by
    simp only [World.setCells]
    rw [setCells_far b r (o + 1) _ k h]
    exact Below.heap_setCell w _ _ _ h
theorem setCells_same (b : Nat) : ∀ (vs : List Value) (o : Nat) (w : World), (w.setCells b o vs).os = w.os ∧ (w.setCells b o vs).tape = w.tape ∧ (w.setCells b o vs).output = w.output ∧ (w.setCells b o vs).heap.size = w.heap.size
  | [], _, _ => ⟨rfl, rfl, rfl, rfl⟩
  | v :: r, o, w => by
    obtain ⟨h1, h2, h3, h4⟩ := setCells_same b r (o + 1) (w.setCell ⟨b, o, none⟩ v)
    simp only [World.setCells]
    exact ⟨h1, h2, h3, by rw [h4]; simp [World.setCell]⟩
theorem setCells_blk (b : Nat) : ∀ (vs : List Value) (o : Nat) (w : World) (cs : Array Value) (t : TypeId) (fr : Nat × Nat), w.heap[b]? = some (.cells cs t fr) →
    ∃ cs', (w.setCells b o vs).heap[b]? = some (.cells cs' t fr) ∧ cs'.size = cs.size
  | [], _, _, cs, _, _, h => ⟨cs, h, rfl⟩
  | v :: r, o, w, cs, t, fr, h => by
    have h1 : (w.setCell ⟨b, o, none⟩ v).heap[b]? = some (.cells (cs.setIfInBounds o v) t fr) := by
      simp [World.setCell, Array.getElem?_modify, h]
    obtain ⟨cs', h2, h3⟩ := setCells_blk b r (o + 1) _ _ t fr h1
    exact ⟨cs', h2, by rw [h3]; simp⟩

theorem heap_new (w : World) (o : Obj) : (w.drew.alloc o).heap[w.heap.size]? = some o := by
  show (w.drew.heap.push o)[w.heap.size]? = some o
  show (w.heap.push o)[w.heap.size]? = some o
  simp

/-- The right to append goes from one place to another. -/
def Gh.move (g : Gh) (p : Option Pos) (q : Pos) : Gh := ⟨g.G, g.φ, fun b => if g.ow b ≠ none ∧ g.ow b = p then some q else g.ow b⟩

theorem Adv.move {w B GB g st a W} (h : SR w B GB g st a W) (p : Option Pos) (q : Pos) : Adv B g (g.move p q) W W p := by
  refine ⟨.refl _ _ _, rfl, .refl _ _, fun _ _ => rfl, fun b id h1 h2 h3 h4 => ⟨rfl, h3, ?_⟩, fun b q' h1 h2 h3 => ⟨rfl, rfl, ?_⟩, h.Gz⟩
  · simp [Gh.move, h4]
  · have : g.ow b ≠ p := by rw [h2]; exact h3
    show (if g.ow b ≠ none ∧ g.ow b = p then some q else g.ow b) = some q'
    rw [if_neg (fun hh => this hh.2)]; exact h2

theorem OwnAt.move {B : Nat → Prop} {g : Gh} {p q : Pos} {v : V} {x : Value} (h : OwnAt W B g p v x) : OwnAt W B (g.move (some p) q) q v x := by
  intro sz xs b off len cap sp hv hx
  rcases h sz xs b off len cap sp hv hx with h | ⟨h1, h2, h3, h4⟩
  · exact .inl h
  · exact .inr ⟨h1, by simp [Gh.move, h2], h3, h4⟩

/-- What is appended. -/
theorem d_tail {w B GB g st a} (h : SR w B GB g st a W) {sz : Nat} {u : V} {x : Value} {tx : TypeId} {ys : List V} (hk : (∃ e', P.underlying tx = some (.slice e')) ∨ P.underlying tx = some .string)
    (hr : Rep W g.G g.φ u x) (hv : vTail st.H sz u = some ys) :
    ∃ news : List Value, Src P sz tx x ys.length news W ∧ (∀ y ∈ ys, y.cells.length = sz ∧ ∀ c ∈ y.cells, c.sc = true) ∧ news.length = ys.length * sz ∧
      ∀ (j : Nat) (c : V), (flat ys)[j]? = some c → ∃ y, news[j]? = some y ∧ Rep W g.G g.φ c y := by
  have fin : ∀ (b off cap : Nat) (zs : List V) (hfit : ∀ y ∈ zs, y.cells.length = sz ∧ ∀ c ∈ y.cells, c.sc = true) (hrow : Row W g.G g.φ (flat zs) b off),
      ∃ news : List Value, Src P sz tx (.slice (some ⟨b, off, none⟩) zs.length cap) zs.length news W ∧ (∀ y ∈ zs, y.cells.length = sz ∧ ∀ c ∈ y.cells, c.sc = true) ∧ news.length = zs.length * sz ∧
        ∀ (j : Nat) (c : V), (flat zs)[j]? = some c → ∃ y, news[j]? = some y ∧ Rep W g.G g.φ c y := by
    intro b off cap zs hfit hrow
    obtain ⟨news, hl, hn⟩ := hrow.list (flat zs).length (Nat.le_refl _)
    have hl' : news.length = zs.length * sz := by rw [hl, flat_length fun y hy => (hfit y hy).1]
    have hc : ∀ j u, news[j]? = some u → W.cell? ((⟨b, off, none⟩ : Addr).add j) = some u := fun j u hj => by rw [addr_add]; exact (hn j u hj).1
    refine ⟨news, ⟨hk, fun _ => rfl, run_firstCells_some W sz _ _ _ _ news hl' hc, run_firstCells_some W.drew sz _ _ _ _ news hl' (by simpa using hc), hl', hrow.one hn⟩, hfit, hl', fun j c hj => ?_⟩
    have hlt : j < news.length := by rw [hl]; exact (List.getElem?_eq_some_iff.1 hj).1
    obtain ⟨_, c', hc', hr'⟩ := hn j _ (List.getElem?_eq_getElem hlt)
    rw [hj] at hc'; cases hc'
    exact ⟨_, List.getElem?_eq_getElem hlt, hr'⟩
  cases u <;> simp only [vTail, reduceCtorEq] at hv
  case str s =>
    split at hv
    · rename_i h1
      subst h1
      simp only [Option.some.injEq] at hv
      subst hv
      cases hr
      rename_i s' hs
      have hlen : (encB s).length = s'.size := by rw [← hs]; simp [encB]
      refine ⟨byteCells s', ⟨hk, fun _ => by rw [hlen]; rfl, by rw [hlen]; exact firstCells_string s' W, by rw [hlen]; exact firstCells_string s' W.drew, by rw [byteCells_length, hlen, Nat.mul_one], fun u hu => ?_⟩, encB_fits s, by rw [byteCells_length, hlen, Nat.mul_one], fun j c hj => ?_⟩
      · obtain ⟨_, _, rfl⟩ := List.mem_map.1 hu; rfl
      · rw [encB_cells] at hj
        simp only [encB, List.getElem?_map, Option.map_eq_some_iff] at hj
        obtain ⟨b, hb, rfl⟩ := hj
        exact ⟨.int .u8 b.toNat, by simp [byteCells, hs, hb], .int _ _⟩
    · simp at hv
  case sl nl s xs =>
    split at hv
    · rename_i hs
      simp only [Option.some.injEq] at hv
      subst hv
      rcases hr.row with ⟨_, rfl, rfl⟩ | ⟨_, rfl, a, rfl⟩ | ⟨b, off, cap, rfl, rfl, hcap, hG, hx, hrow⟩
      rotate_left
      · exact ⟨[], ⟨hk, fun _ => rfl, run_firstCells_zero W sz a, run_firstCells_zero W.drew sz a, by simp, fun _ h => by cases h⟩, by simp, by simp, fun j c hj => by simp [flat] at hj⟩
      rotate_left
      · exact ⟨[], ⟨hk, fun _ => rfl, run_firstCells_none W sz 0 0 0, run_firstCells_none W.drew sz 0 0 0, by simp, fun _ h => by cases h⟩, by simp, by simp, fun j c hj => by simp [flat] at hj⟩
      · rcases hs with rfl | rfl
        · exact fin b off cap xs hx hrow
        · exact fin b off cap [] (by simp) ⟨by simp [flat], by simp [flat]⟩
    · simp at hv
  case osl id off len cap s =>
    split at hv
    · rename_i hs
      obtain ⟨rfl, rfl⟩ := hs
      simp only [Option.bind_eq_some_iff, hCells] at hv
      obtain ⟨cs, hcs, hv⟩ := hv
      split at hv
      · rename_i hle
        simp only [Option.some.injEq] at hv
        subst hv
        have hH : st.H id = some (.cells cs) := by
          revert hcs; cases st.H id with
          | none => simp
          | some o => cases o; simp
        obtain ⟨b, xs, t, h1, h2, h3, h4, _⟩ := h.ob id cs hH
        cases hr
        rename_i b' hφ hlc
        rw [h1] at hφ; cases hφ
        have hsc : ∀ c ∈ (cs.drop off).take len, c.sc = true := fun c hc => h4 c (List.mem_of_mem_drop (List.mem_of_mem_take hc))
        have hlen : ((cs.drop off).take len).length = len := by simp; omega
        have := fin b off cap ((cs.drop off).take len) (fun y hy => by rw [sc_cells (hsc y hy)]; exact ⟨rfl, by simpa using hsc y hy⟩) ⟨by rw [flat_sc hsc]; exact hsc, fun k c hk => by
          rw [flat_sc hsc, getElem?_takeDrop] at hk
          split at hk
          · have hlt : off + k < xs.size := by rw [← h3.1]; exact (List.getElem?_eq_some_iff.1 hk).1
            exact ⟨xs[off + k], by simp [World.cell?, h2, hlt], h3.2 _ c _ hk (Array.getElem?_eq_getElem hlt)⟩
          · simp at hk⟩
        rw [hlen] at this
        simpa [hlen] using this
      · simp at hv
    · simp at hv

theorem isEmpty_eq {α : Type} (l : List α) : l.isEmpty = decide (l = []) := by cases l <;> rfl

/-- A new row: what was there, what comes, zeros. -/
theorem d_grown {w B GB g st a} (h : SR w B GB g st a W) {sz : Nat} {xs ys : List V} {olds news : List Value} {z : Array Value} {e : TypeId} (cap : Nat) (q : Pos) (p : Option Pos) (hcap : xs.length + ys.length ≤ cap) (hzs : z.size = sz)
    (hx : ∀ y ∈ xs, y.cells.length = sz ∧ ∀ c ∈ y.cells, c.sc = true) (hy : ∀ y ∈ ys, y.cells.length = sz ∧ ∀ c ∈ y.cells, c.sc = true) (hol : olds.length = xs.length * sz) (hnl : news.length = ys.length * sz)
    (hor : ∀ (j : Nat) (c : V), (flat xs)[j]? = some c → ∃ y, olds[j]? = some y ∧ Rep W g.G g.φ c y) (hnr : ∀ (j : Nat) (c : V), (flat ys)[j]? = some c → ∃ y, news[j]? = some y ∧ Rep W g.G g.φ c y)
    {W' : World} (hW' : W' = W.drew.alloc (.cells ((olds ++ news).toArray ++ Builtin.zeroCells z (cap - (xs.length + ys.length))) e)) :
    ∃ g', Adv B g g' W W' p ∧ Rep W' g'.G g'.φ (.sl false sz (xs ++ ys)) (.slice (some ⟨W.heap.size, 0, none⟩) (xs.length + ys.length) cap) ∧
      OwnAt W' B g' q (.sl false sz (xs ++ ys)) (.slice (some ⟨W.heap.size, 0, none⟩) (xs.length + ys.length) cap) := by
  subst hzs
  have hB : B W.heap.size := h.hB _ h.below.size
  obtain ⟨o, ho⟩ : ∃ o : Array Value, o = (olds ++ news).toArray ++ Builtin.zeroCells z (cap - (xs.length + ys.length)) := ⟨_, rfl⟩
  rw [← ho] at hW'
  subst hW'
  have hadv := Adv.new h ((xs.length + ys.length) * z.size) (some q) p (below_drew_alloc W (.cells o e)) (by simp)
  have hfit : ∀ y ∈ xs ++ ys, y.cells.length = z.size ∧ ∀ c ∈ y.cells, c.sc = true := fun y hm => by
    rcases List.mem_append.1 hm with hm | hm
    · exact hx y hm
    · exact hy y hm
  have hosz : o.size = cap * z.size := by
    rw [ho]
    simp only [Array.size_append, size_zeroCells, List.size_toArray, List.length_append, hol, hnl]
    rw [← Nat.add_mul, ← Nat.add_mul]; congr 1; omega
  refine ⟨_, hadv, ?_, ?_⟩
  · rw [← List.length_append]
    refine Rep.of_row (by simpa using hcap) (by simp) hfit ⟨fun c hc => ?_, fun k c hk => ?_⟩
    · obtain ⟨y, hm, hc⟩ := List.mem_flatMap.1 hc; exact (hfit y hm).2 c hc
    · have hmain : ∃ y, (olds ++ news)[k]? = some y ∧ Rep W g.G g.φ c y := by
        rw [flat_append] at hk
        have hl := flat_length fun y hm => (hx y hm).1
        rcases Nat.lt_or_ge k (flat xs).length with hlt | hge
        · rw [List.getElem?_append_left hlt] at hk
          obtain ⟨y, h1, h2⟩ := hor k c hk
          exact ⟨y, by rw [List.getElem?_append_left (by rw [hol, ← hl]; exact hlt)]; exact h1, h2⟩
        · rw [List.getElem?_append_right hge] at hk
          obtain ⟨y, h1, h2⟩ := hnr _ c hk
          exact ⟨y, by rw [List.getElem?_append_right (by rw [hol, ← hl]; exact hge), hol, ← hl]; exact h1, h2⟩
      obtain ⟨y, h1, h2⟩ := hmain
      refine ⟨y, ?_, h2.keep (by rw [List.length_append]; exact hadv.keeps)⟩
      have hlt : k < (olds ++ news).length := (List.getElem?_eq_some_iff.1 h1).1
      rw [Nat.zero_add, cell_of_row _ W.heap.size k _ e (0, 0) (heap_new _ _), ho, Array.getElem?_append_left (by simpa using hlt)]
      simpa using h1
  · intro sz xs' b off len cap' sp hv hx'
    simp only [V.sl.injEq, true_and] at hv
    obtain ⟨rfl, rfl⟩ := hv
    simp only [Value.slice.injEq, Option.some.injEq, Addr.mk.injEq] at hx'
    obtain ⟨⟨rfl, rfl, rfl⟩, rfl, rfl⟩ := hx'
    exact .inr ⟨hB, by simp, by simp, _, _, _, _, heap_new _ _, by rw [hosz]; omega, fun j _ _ => by omega⟩

/-- APPEND. -/
theorem d_app {w B GB g st a} (h : SR w B GB g st a W) {sz : Nat} {s u : V} {xs xu : Value} {t tx ty e : TypeId} {ie : TypeInfo} {z : Value} {r : Res} {own : Bool} {p : Option Pos} (q : Pos)
    (ht : P.underlying t = some (.slice e)) (he : P.info? e = some ie) (hz : ie.zero = some z) (hsz : ie.size = sz) (hzs : z.cells.size = sz) (hby : ie.bytes ≤ 4096) (hk : (∃ e', P.underlying tx = some (.slice e')) ∨ P.underlying tx = some .string)
    (hs : Rep W g.G g.φ s xs) (hu : Rep W g.G g.φ u xu) (ho : own = true → ∃ p', p = some p' ∧ OwnAt W B g p' s xs) (hv : vApp st.H own sz p s u = some r) :
    ∃ y W' g', (Builtin.append_ #[t, tx] ty #[xs, xu]).run P W = .ok y W' ∧ Adv B g g' W W' r.tk ∧ Rep W' g'.G g'.φ r.v y ∧ (r.o = true → OwnAt W' B g' q r.v y) := by
  subst hsz
  have hB : B W.heap.size := h.hB _ h.below.size
  unfold vApp at hv
  split at hv
  · -- onto a nil slice
    rename_i s1 xs0 ys htail
    split at hv
    · rename_i hlim
      simp only [Option.some.injEq] at hv
      subst hv
      obtain ⟨news, hsrc, hfit, hnl, hnr⟩ := d_tail (P := P) h hk hu htail
      have hnil : xs = .slice none 0 0 ∧ xs0 = [] := by cases hs; exact ⟨rfl, rfl⟩
      obtain ⟨rfl, rfl⟩ := hnil
      by_cases hy : ys = []
      · subst hy
        have hn0 : news = [] := by simpa using hnl
        subst hn0
        refine ⟨.slice none 0 0, W, g, ?_, Adv.refl h _, .slnil _, fun _ => fun sz xs b off len cap sp hv hx => by cases hx⟩
        simp only [List.length_nil] at hsrc
        have h1 := hsrc.len
        have h2 := hsrc.cells
        rcases hk with ⟨e', hk⟩ | hk <;> simp [Builtin.append_, run_underlying ht, run_underlying hk, run_sizeOf' he, h1, h2]
      · have hpos : 0 < ys.length := List.length_pos_iff.2 hy
        have hrun := run_append_grow_src (P := P) W t tx ty e ie z ht he hz none 0 0 [] (run_firstCells_none W.drew _ _ _ _) xu ys.length news hsrc (by omega) (by unfold Lim at hlim; omega)
          (growslice_fits (by omega) (by
            have : (0 + ys.length) * ie.bytes ≤ 4294967296 * 4096 := Nat.mul_le_mul (by unfold Lim at hlim; omega) hby
            omega))
        obtain ⟨g', hadv, hrep, hown⟩ := d_grown h (sz := ie.size) (xs := []) (ys := ys) (olds := []) (news := news) (z := z.cells) (e := e) (grownCap W (0 + ys.length) 0 e) q none (by simpa using grownCap_ge W (0 + ys.length) 0 e) hzs (by simp) hfit (by simp) hnl
          (fun j c hj => by simp [flat] at hj) hnr rfl
        have hne : ys.isEmpty = false := by rw [isEmpty_eq]; simpa using hy
        rw [hne]
        exact ⟨_, _, g', hrun, hadv, hrep, fun _ => hown⟩
    · simp at hv
  · rename_i s1 xs0 ys htail
    split at hv
    · rename_i hc
      obtain ⟨hlim, rfl, rfl⟩ := hc
      simp only [Option.some.injEq] at hv
      subst hv
      obtain ⟨p', rfl, hown⟩ := ho rfl
      obtain ⟨news, hsrc, hfit, hnl, hnr⟩ := d_tail (P := P) h hk hu htail
      rcases hs.row with ⟨hh, _⟩ | ⟨_, rfl, a0, rfl⟩ | ⟨b, off, cap, _, rfl, hcap, hG, hx, hrow⟩
      · cases hh
      · by_cases hy : ys = []
        · subst hy
          have hn0 : news = [] := by simpa using hnl
          subst hn0
          refine ⟨.slice (some a0) 0 0, W, g, ?_, Adv.refl h _, by simpa using hs, fun _ => fun sz xs b off len cap sp hv hx => ?_⟩
          · simp only [List.length_nil] at hsrc
            have h1 := hsrc.len
            have h2 := hsrc.cells
            rcases hk with ⟨e', hk⟩ | hk <;> simp [Builtin.append_, run_underlying ht, run_underlying hk, run_sizeOf' he, h1, h2, storeCells]
          · cases hx; exact .inl rfl
        · have hpos : 0 < ys.length := List.length_pos_iff.2 hy
          have hrun := run_append_grow_src (P := P) W t tx ty e ie z ht he hz (some a0) 0 0 [] (run_firstCells_zero W.drew _ a0) xu ys.length news hsrc (by omega) (by unfold Lim at hlim; simp at hlim; omega)
            (growslice_fits (by omega) (by
              have : (0 + ys.length) * ie.bytes ≤ 4294967296 * 4096 := Nat.mul_le_mul (by unfold Lim at hlim; simp at hlim; omega) hby
              omega))
          obtain ⟨g', hadv, hrep, hown⟩ := d_grown h (sz := ie.size) (xs := []) (ys := ys) (olds := []) (news := news) (z := z.cells) (e := e) (grownCap W (0 + ys.length) 0 e) q (some p') (by simpa using grownCap_ge W (0 + ys.length) 0 e) hzs (by simp) hfit (by simp) hnl
            (fun j c hj => by simp [flat] at hj) hnr rfl
          exact ⟨_, _, g', hrun, hadv, hrep, fun _ => hown⟩
      · by_cases hroom : xs0.length + ys.length ≤ cap
        · by_cases hy : ys = []
          · subst hy
            have hn0 : news = [] := by simpa using hnl
            subst hn0
            have hrun := run_append_room_src (P := P) W t tx ty e ie ht he b off xs0.length cap xu 0 [] hsrc (by omega) (by simp) (by simp)
            refine ⟨_, W, g.move (some p') q, hrun, Adv.move h _ _, ?_, fun _ => ?_⟩
            · show Rep W g.G g.φ _ _
              simpa using hs
            · simpa using hown.move (q := q)
          · have hpos : 0 < ys.length := List.length_pos_iff.2 hy
            obtain ⟨hb1, how, hend, cs, ct, lo, hi, hheap, hfitc, hfz⟩ := (hown _ _ b off _ _ none rfl rfl).resolve_left (by omega)
            have hmul : off + (xs0.length + ys.length) * ie.size ≤ cs.size := by
              have : (xs0.length + ys.length) * ie.size ≤ cap * ie.size := Nat.mul_le_mul_right _ hroom
              omega
            have hadd : (xs0.length + ys.length) * ie.size = xs0.length * ie.size + ys.length * ie.size := Nat.add_mul _ _ _
            have hroom' : off + xs0.length * ie.size + ys.length * ie.size ≤ off + cap * ie.size := by
              have : (xs0.length + ys.length) * ie.size ≤ cap * ie.size := Nat.mul_le_mul_right _ hroom
              omega
            have hrun := run_append_room_src (P := P) W t tx ty e ie ht he b off xs0.length cap xu ys.length news hsrc hroom
              (fun j hj => by rw [cell_of_row _ b _ cs ct (lo, hi) hheap]; simp; omega)
              (fun j hj => by
                have := hfz (off + xs0.length * ie.size + j) (by omega) (by omega)
                simp only [World.frozen?, hheap]
                simpa using this)
            obtain ⟨e1, e2, e3, e4⟩ := setCells_same b news (off + xs0.length * ie.size) W
            obtain ⟨cs', hblk, hcs'⟩ := setCells_blk b news (off + xs0.length * ie.size) W cs ct (lo, hi) hheap
            have hblt : b < W.heap.size := (Array.getElem?_eq_some_iff.1 hheap).1
            have hold : ∀ i, i < g.G b → (W.setCells b (off + xs0.length * ie.size) news).cell? ⟨b, i, none⟩ = W.cell? ⟨b, i, none⟩ := fun i hi =>
              World.cell?_setCells_out b news _ W _ (fun _ _ => .inl (by show i < _; omega))
            have hnew : ∀ j (hj : j < news.length), (W.setCells b (off + xs0.length * ie.size) news).cell? ⟨b, off + xs0.length * ie.size + j, none⟩ = some news[j] :=
              World.cell?_setCells_in b news _ W (fun j hj => by rw [cell_of_row _ b _ cs ct (lo, hi) hheap]; simp; omega)
            have hne : g.ow b ≠ none := by rw [how]; simp
            have hadv : Adv B g ⟨fun k => if k = b then off + (xs0.length + ys.length) * ie.size else g.G k, g.φ, fun k => if k = b then some q else g.ow k⟩ W (W.setCells b (off + xs0.length * ie.size) news) (some p') := by
              refine ⟨⟨fun k i hi => ?_, fun k => ?_, fun _ _ h => h⟩, rfl, ⟨e1, e2, e3, by omega, fun k hk => setCells_far b _ _ _ _ (fun e => hk (by rw [e]; exact hb1))⟩, fun k hk => ?_, fun k id h1 h2 h3 h4 => ?_, fun k q' h1 h2 h3 => ?_, fun k hk => ?_⟩
              · by_cases hkb : k = b
                · subst hkb; exact hold i hi
                · exact World.cell?_of_block (w := W) (setCells_far b _ _ _ _ hkb)
              · dsimp only; split
                · rename_i hkb; subst hkb; omega
                · exact Nat.le_refl _
              · dsimp only; rw [if_neg (fun e => hk (by rw [e]; exact hb1))]
              · have hkb : k ≠ b := fun hkb => by subst hkb; exact hne h4
                dsimp only; rw [if_neg hkb, if_neg hkb]; exact ⟨setCells_far b _ _ _ _ hkb, h3, h4⟩
              · have hkb : k ≠ b := fun hkb => by subst hkb; rw [how] at h2; exact h3 h2.symm
                dsimp only; rw [if_neg hkb, if_neg hkb]; exact ⟨setCells_far b _ _ _ _ hkb, rfl, h2⟩
              · dsimp only; rw [if_neg (by omega)]; exact h.Gz k (by omega)
            refine ⟨_, _, _, hrun, hadv, ?_, fun _ => ?_⟩
            · rw [← List.length_append]
              refine Rep.of_row (by simpa using hroom) (by simp) (fun y hm => ?_) ⟨fun c hc => ?_, fun k c hk => ?_⟩
              · rcases List.mem_append.1 hm with hm | hm
                · exact hx y hm
                · exact hfit y hm
              · rw [flat_append] at hc
                rcases List.mem_append.1 hc with hm | hm
                · exact hrow.sc c hm
                · obtain ⟨y, hm, hc⟩ := List.mem_flatMap.1 hm; exact (hfit y hm).2 c hc
              · rw [flat_append] at hk
                have hl := flat_length fun y hm => (hx y hm).1
                rcases Nat.lt_or_ge k (flat xs0).length with hlt | hge
                · rw [List.getElem?_append_left hlt] at hk
                  obtain ⟨y, h1, h2⟩ := hrow.cell k c hk
                  exact ⟨y, by rw [hold _ (by omega)]; exact h1, h2.keep (by rw [List.length_append]; exact hadv.keeps)⟩
                · rw [List.getElem?_append_right hge, hl] at hk
                  obtain ⟨y, h1, h2⟩ := hnr _ c hk
                  have hlt := (List.getElem?_eq_some_iff.1 h1).1
                  have := hnew _ hlt
                  rw [show off + xs0.length * ie.size + (k - xs0.length * ie.size) = off + k by omega] at this
                  refine ⟨_, this, ?_⟩
                  have e5 : news[k - xs0.length * ie.size] = y := by
                    have := List.getElem?_eq_getElem hlt
                    rw [h1] at this; exact (Option.some.inj this).symm
                  rw [e5]; exact h2.keep (by rw [List.length_append]; exact hadv.keeps)
            · intro sz xs' b' off' len cap' sp hv hx'
              simp only [V.sl.injEq, true_and] at hv
              obtain ⟨rfl, rfl⟩ := hv
              simp only [Value.slice.injEq, Option.some.injEq, Addr.mk.injEq] at hx'
              obtain ⟨⟨rfl, rfl, rfl⟩, rfl, rfl⟩ := hx'
              refine .inr ⟨hb1, by simp, by simp, cs', ct, lo, hi, hblk, by omega, fun j hj1 hj2 => hfz j ?_ hj2⟩
              simp only [if_true] at hj1; omega
        · -- a new row
          obtain ⟨olds, hol, hon⟩ := hrow.list (flat xs0).length (Nat.le_refl _)
          have hol' : olds.length = xs0.length * ie.size := by rw [hol, flat_length fun y hy => (hx y hy).1]
          have hcell : ∀ j u, olds[j]? = some u → W.drew.cell? ((⟨b, off, none⟩ : Addr).add j) = some u := fun j u hj => by rw [addr_add]; simpa using (hon j u hj).1
          have hrun := run_append_grow_src (P := P) W t tx ty e ie z ht he hz (some ⟨b, off, none⟩) xs0.length cap olds (run_firstCells_some W.drew _ _ _ _ _ olds hol' hcell) xu ys.length news hsrc (by omega) (by unfold Lim at hlim; omega)
            (growslice_fits (by omega) (by
              have : (xs0.length + ys.length) * ie.bytes ≤ 4294967296 * 4096 := Nat.mul_le_mul (by unfold Lim at hlim; omega) hby
              omega))
          obtain ⟨g', hadv, hrep, hown'⟩ := d_grown h (sz := ie.size) (xs := xs0) (ys := ys) (olds := olds) (news := news) (z := z.cells) (e := e) (grownCap W (xs0.length + ys.length) cap e) q (some p') (grownCap_ge W _ cap e) hzs hx hfit hol' hnl
            (fun j c hj => by
              have hlt : j < olds.length := by rw [hol]; exact (List.getElem?_eq_some_iff.1 hj).1
              obtain ⟨_, c', hc', hr'⟩ := hon j _ (List.getElem?_eq_getElem hlt)
              rw [hj] at hc'; cases hc'
              exact ⟨_, List.getElem?_eq_getElem hlt, hr'⟩) hnr rfl
          exact ⟨_, _, g', hrun, hadv, hrep, fun _ => hown'⟩
    · simp at hv
  · simp at hv

end Go.Abs
