/-
  Abs, part F: slices as rows of cells; conversions; what is made anew; append. Own work of this seat.
-/
import Derived.Test.YtainplhaaklpeaaDoorAbsE
import Derived.Lib.ConvBytes
import Derived.Laws.BytesArg
namespace Go.Abs
open Go.RowKit

variable {P : Program} {W : World} {G : Nat → Nat} {φ : Nat → Option Nat}

def flat (xs : List V) : List V := xs.flatMap V.cells

theorem flat_length {sz : Nat} {xs : List V} (h : ∀ x ∈ xs, x.cells.length = sz) : (flat xs).length = xs.length * sz := by
  induction xs with
  | nil => simp [flat]
  | cons x r ih =>
    have h1 := h x (by simp)
    have h2 := ih fun y hy => h y (by simp [hy])
    simp only [flat, List.flatMap_cons, List.length_append, List.length_cons, Nat.succ_mul] at *
    omega

theorem flat_get {sz : Nat} {xs : List V} (h : ∀ x ∈ xs, x.cells.length = sz) : ∀ (i : Nat) (x : V) (j : Nat) (c : V), xs[i]? = some x → x.cells[j]? = some c → (flat xs)[i * sz + j]? = some c := by
  induction xs with
  | nil => intro i x j c hi; simp at hi
  | cons a r ih =>
    intro i x j c hi hj
    have h1 := h a (by simp)
    cases i with
    | zero =>
      simp at hi; subst hi
      have hlt := (List.getElem?_eq_some_iff.1 hj).1
      simp only [flat, List.flatMap_cons, Nat.zero_mul, Nat.zero_add]
      rw [List.getElem?_append_left hlt]; exact hj
    | succ i =>
      simp at hi
      have := ih (fun y hy => h y (by simp [hy])) i x j c hi hj
      simp only [flat, List.flatMap_cons] at this ⊢
      rw [List.getElem?_append_right (by rw [h1, Nat.succ_mul]; omega), h1]
      rwa [show (i + 1) * sz + j - sz = i * sz + j by rw [Nat.succ_mul]; omega]

theorem flat_at {sz : Nat} {xs : List V} (h : ∀ x ∈ xs, x.cells.length = sz) {k : Nat} {c : V} (hk : (flat xs)[k]? = some c) :
    ∃ i j x, k = i * sz + j ∧ j < sz ∧ xs[i]? = some x ∧ x.cells[j]? = some c := by
  induction xs generalizing k with
  | nil => simp [flat] at hk
  | cons a r ih =>
    have h1 := h a (by simp)
    simp only [flat, List.flatMap_cons] at hk
    rcases Nat.lt_or_ge k a.cells.length with hlt | hge
    · rw [List.getElem?_append_left hlt] at hk
      exact ⟨0, k, a, by simp, by omega, by simp, hk⟩
    · rw [List.getElem?_append_right hge, h1] at hk
      obtain ⟨i, j, x, e, hj, hx, hc⟩ := ih (fun y hy => h y (by simp [hy])) hk
      exact ⟨i + 1, j, x, by rw [Nat.succ_mul]; omega, hj, by simpa using hx, hc⟩

theorem flat_append (xs ys : List V) : flat (xs ++ ys) = flat xs ++ flat ys := by simp [flat]

/-- A slice reads as a row of cells. -/
theorem Rep.row {sz : Nat} {xs : List V} {nl : Bool} {x : Value} (h : Rep W G φ (.sl nl sz xs) x) :
    (nl = true ∧ xs = [] ∧ x = .slice none 0 0) ∨ (nl = false ∧ xs = [] ∧ ∃ a, x = .slice (some a) 0 0) ∨
    ∃ b off cap, nl = false ∧ x = .slice (some ⟨b, off, none⟩) xs.length cap ∧ xs.length ≤ cap ∧ off + xs.length * sz ≤ G b ∧
      (∀ y ∈ xs, y.cells.length = sz ∧ ∀ c ∈ y.cells, c.sc = true) ∧ Row W G φ (flat xs) b off := by
  cases h with
  | slnil => exact .inl ⟨rfl, rfl, rfl⟩
  | sl0 sz a => exact .inr (.inl ⟨rfl, rfl, a, rfl⟩)
  | sl sz xs b off cap rd hcap hG hx hrd h =>
    refine .inr (.inr ⟨b, off, cap, rfl, rfl, hcap, hG, hx, ⟨fun c hc => ?_, fun k c hk => ?_⟩⟩)
    · obtain ⟨y, hy, hc⟩ := List.mem_flatMap.1 hc
      exact (hx y hy).2 c hc
    · obtain ⟨i, j, y, rfl, hj, hy, hc⟩ := flat_at (fun y hy => (hx y hy).1) hk
      have hi := (List.getElem?_eq_some_iff.1 hy).1
      refine ⟨rd (i * sz + j), hrd _ ?_, h i y j c hy hc⟩
      have : (i + 1) * sz ≤ xs.length * sz := Nat.mul_le_mul_right _ hi
      rw [Nat.succ_mul] at this; omega

theorem Rep.of_row {sz : Nat} {xs : List V} {b off cap : Nat} (hcap : xs.length ≤ cap) (hG : off + xs.length * sz ≤ G b)
    (hx : ∀ y ∈ xs, y.cells.length = sz ∧ ∀ c ∈ y.cells, c.sc = true) (h : Row W G φ (flat xs) b off) :
    Rep W G φ (.sl false sz xs) (.slice (some ⟨b, off, none⟩) xs.length cap) := by
  refine .sl sz xs b off cap (fun k => (W.cell? ⟨b, off + k, none⟩).getD undef) hcap hG hx (fun k hk => ?_) (fun i y j c hi hj => ?_)
  · have hlt : k < (flat xs).length := by rw [flat_length fun y hy => (hx y hy).1]; exact hk
    obtain ⟨y, h1, _⟩ := h.cell k _ (List.getElem?_eq_getElem hlt)
    simp [h1]
  · obtain ⟨y, h1, h2⟩ := h.cell _ c (flat_get (fun y hy => (hx y hy).1) i y j c hi hj)
    rw [h1]; exact h2

/-- the values behind a row, as a list -/
theorem Row.list {cs : List V} {b base : Nat} (h : Row W G φ cs b base) (n : Nat) (hn : n ≤ cs.length) :
    ∃ ys : List Value, ys.length = n ∧ ∀ (j : Nat) (y : Value), ys[j]? = some y → W.cell? ⟨b, base + j, none⟩ = some y ∧ ∃ c, cs[j]? = some c ∧ Rep W G φ c y := by
  induction n with
  | zero => exact ⟨[], rfl, fun j y hj => by simp at hj⟩
  | succ m ih =>
    obtain ⟨ys, hl, hy⟩ := ih (by omega)
    have hlt : m < cs.length := by omega
    obtain ⟨y, h1, h2⟩ := h.cell m _ (List.getElem?_eq_getElem hlt)
    refine ⟨ys ++ [y], by simp [hl], fun j z hj => ?_⟩
    rw [List.getElem?_append] at hj
    split at hj
    · exact hy j z hj
    · rename_i hge
      have : j = m := by
        rcases Nat.lt_or_ge (j - ys.length) 1 with h' | h'
        · omega
        · rw [List.getElem?_eq_none (by simpa using h')] at hj; cases hj
      subst this
      simp [hl] at hj
      subst hj
      exact ⟨h1, _, List.getElem?_eq_getElem hlt, h2⟩

theorem Rep.one {c : V} {y : Value} (h : Rep W G φ c y) (hs : c.sc = true) : y.oneCell' = true := by
  cases h <;> first | rfl | (simp [V.sc] at hs)

theorem Row.one {cs : List V} {b base : Nat} (h : Row W G φ cs b base) {ys : List Value} (hy : ∀ (j : Nat) (y : Value), ys[j]? = some y → W.cell? ⟨b, base + j, none⟩ = some y ∧ ∃ c, cs[j]? = some c ∧ Rep W G φ c y) :
    ∀ y ∈ ys, y.oneCell' = true := by
  intro y hm
  obtain ⟨j, hj⟩ := List.getElem?_of_mem hm
  obtain ⟨_, c, hc, hr⟩ := hy j y hj
  exact hr.one (h.sc c (List.mem_of_getElem? hc))

theorem toBytes_get : ∀ {xs : List V} {l : Bytes}, toBytes xs = some l → l.length = xs.length ∧ ∀ (i : Nat) (v : V), xs[i]? = some v → ∃ n, v = .int .u8 n ∧ l[i]? = some (UInt8.ofNat n.toNat)
  | [], l, h => by simp [toBytes] at h; subst h; exact ⟨rfl, fun i v hi => by simp at hi⟩
  | .int .u8 n :: r, l, h => by
    simp only [toBytes, Option.map_eq_some_iff] at h
    obtain ⟨r', hr, rfl⟩ := h
    obtain ⟨h1, h2⟩ := toBytes_get hr
    refine ⟨by simp [h1], fun i v hi => ?_⟩
    cases i with
    | zero => simp at hi; exact ⟨n, hi.symm, by simp⟩
    | succ i => simp at hi; simpa using h2 i v hi

theorem toBytes_nums : ∀ {xs : List V} {l : Bytes}, toBytes xs = some l → ∃ ns : List Int, xs = ns.map (V.int .u8) ∧ l = ns.map fun n => UInt8.ofNat n.toNat
  | [], l, h => by simp [toBytes] at h; subst h; exact ⟨[], rfl, rfl⟩
  | .int .u8 n :: r, l, h => by
    simp only [toBytes, Option.map_eq_some_iff] at h
    obtain ⟨r', hr, rfl⟩ := h
    obtain ⟨ns, rfl, rfl⟩ := toBytes_nums hr
    exact ⟨n :: ns, rfl, rfl⟩

theorem cells_nums (ns : List Int) : flat (ns.map (V.int .u8)) = ns.map (V.int .u8) := by
  induction ns with
  | nil => rfl
  | cons n r ih => simp only [flat, List.map_cons, List.flatMap_cons, V.cells] at *; rw [ih]; rfl

/-- a row of bytes is turned into a text -/
theorem run_b2s {ns : List Int} {b off cap : Nat} {s d e : TypeId} (hs : P.underlying s = some (.slice e)) (he : P.underlying e = some (.int .u8)) (hd : P.underlying d = some .string)
    (h : Row W G φ (ns.map (V.int .u8)) b off) :
    (convert s d (.slice (some ⟨b, off, none⟩) ns.length cap)).run P W = .ok (.string (strOfNums ns)) W := by
  refine run_convert_bytes_arg W s e hs he b off ns.length cap ns rfl (fun i hi => ?_) d hd
  obtain ⟨y, h1, h2⟩ := h.cell i (.int .u8 ns[i]) (by simp [hi])
  cases h2
  rw [h1]; simp [List.getD, hi]

theorem d_b2s_sl {nl : Bool} {xs : List V} {v : V} {x : Value} {H : Hp} {s d e : TypeId} (hs : P.underlying s = some (.slice e)) (he : P.underlying e = some (.int .u8)) (hd : P.underlying d = some .string)
    (h : Rep W G φ (.sl nl 1 xs) x) (hv : vB2s H (.sl nl 1 xs) = some v) : ∃ y, (convert s d x).run P W = .ok y W ∧ Rep W G φ v y := by
  simp only [vB2s, Option.map_eq_some_iff] at hv
  obtain ⟨l, hl, rfl⟩ := hv
  obtain ⟨ns, rfl, rfl⟩ := toBytes_nums hl
  rcases h.row with ⟨rfl, h0, rfl⟩ | ⟨rfl, h0, a, rfl⟩ | ⟨b, off, cap, rfl, rfl, hcap, hG, hx, hrow⟩
  · have : ns = [] := by simpa using h0
    subst this
    exact ⟨_, run_convert_bytes_nil W s e hs he 0 0 d hd, .str _ _ rfl⟩
  · have : ns = [] := by simpa using h0
    subst this
    refine ⟨.string ⟨#[]⟩, ?_, .str _ _ rfl⟩
    simp [convert, run_underlying hs, run_underlying hd, run_underlying he, Conv.bytesToString, loadCells, loadCellsFrom]; rfl
  · rw [cells_nums] at hrow
    refine ⟨.string (strOfNums ns), ?_, .str _ _ (strOfNums_data ns)⟩
    simpa using run_b2s (cap := cap) hs he hd hrow

theorem d_b2s_row {cs : List V} {off len cap : Nat} {l : Bytes} {b : Nat} {s d e : TypeId} (hs : P.underlying s = some (.slice e)) (he : P.underlying e = some (.int .u8)) (hd : P.underlying d = some .string)
    (h : Row W G φ cs b 0) (hle : off + len ≤ cs.length) (hv : toBytes ((cs.drop off).take len) = some l) :
    ∃ y, (convert s d (.slice (some ⟨b, off, none⟩) len cap)).run P W = .ok y W ∧ Rep W G φ (.str l) y := by
  obtain ⟨ns, hns, rfl⟩ := toBytes_nums hv
  have hlen : ns.length = len := by have := congrArg List.length hns; simp at this; omega
  refine ⟨.string (strOfNums ns), ?_, .str _ _ (strOfNums_data ns)⟩
  rw [← hlen]
  refine run_b2s (W := W) (G := G) (φ := φ) hs he hd ⟨fun c hc => ?_, fun k c hk => ?_⟩
  · obtain ⟨n, _, rfl⟩ := List.mem_map.1 hc; rfl
  · rw [← hns, getElem?_takeDrop] at hk
    split at hk
    · obtain ⟨y, h1, h2⟩ := h.cell _ c hk
      exact ⟨y, by simpa using h1, h2⟩
    · simp at hk

theorem encB_cells (s : Bytes) : flat (encB s) = encB s := by
  induction s with
  | nil => rfl
  | cons b r ih => simp only [flat, encB, List.map_cons, List.flatMap_cons] at *; rw [ih]; rfl
theorem encB_fits (s : Bytes) : ∀ x ∈ encB s, x.cells.length = 1 ∧ ∀ c ∈ x.cells, c.sc = true := by
  intro x hx
  obtain ⟨b, _, rfl⟩ := List.mem_map.1 hx
  exact ⟨rfl, fun c hc => by simp [byteV, V.cells] at hc; subst hc; rfl⟩

/-- A new block behind all that there is. -/
theorem Adv.new {w B GB g st a W W'} (h : SR w B GB g st a W) (n : Nat) (q : Option Pos) (p : Option Pos) (hb : Below W.heap.size W W') (hsz : W'.heap.size = W.heap.size + 1) :
    Adv B g ⟨fun b => if b = W.heap.size then n else g.G b, g.φ, fun b => if b = W.heap.size then q else g.ow b⟩ W W' p := by
  have hB : B W.heap.size := h.hB _ h.below.size
  refine ⟨⟨fun b i hi => ?_, fun b => ?_, fun _ _ h => h⟩, rfl, .of hb (fun b hb => h.hB b (Nat.le_trans h.below.size hb)), fun b hb' => ?_, fun b id h1 h2 h3 h4 => ?_, fun b q h1 h2 _ => ?_, fun b hb' => ?_⟩
  · have : b < W.heap.size := by
      rcases Nat.lt_or_ge b W.heap.size with h' | h'
      · exact h'
      · have := h.Gz b h'; omega
    exact hb.cell (p := ⟨b, i, none⟩) this
  · dsimp only; split
    · have := h.Gz b (by omega); omega
    · exact Nat.le_refl _
  · dsimp only; rw [if_neg (fun e => hb' (by rw [e]; exact hB))]
  · dsimp only; rw [if_neg (by omega), if_neg (by omega)]; exact ⟨hb.block _ h2, h3, h4⟩
  · dsimp only; rw [if_neg (by omega), if_neg (by omega)]; exact ⟨hb.block _ h1, rfl, h2⟩
  · dsimp only
    rw [if_neg (by omega)]; exact h.Gz b (by omega)

theorem below_alloc' (W : World) (o : Obj) : Below W.heap.size W (W.alloc o) := (Below.refl _ _).alloc (Nat.le_refl _) o
theorem below_drew_alloc (W : World) (o : Obj) : Below W.heap.size W (W.drew.alloc o) := ((Below.refl _ W).drew).alloc (by simp) o

/-- a text's bytes, as a new slice -/
theorem d_s2b {w B GB g st a} (h : SR w B GB g st a W) {u : V} {r : Res} {x : Value} {s d e : TypeId} {us : TypeDesc} (hs : P.underlying s = some us) (hd : P.underlying d = some (.slice e)) (he : P.underlying e = some (.int .u8))
    (hr : Rep W g.G g.φ u x) (hv : vS2b u = some r) (q : Pos) : ∃ y W' g', (convert s d x).run P W = .ok y W' ∧ Adv B g g' W W' r.tk ∧ Rep W' g'.G g'.φ r.v y ∧ (r.o = true → OwnAt W' B g' q r.v y) := by
  cases hr <;> simp only [vS2b, reduceCtorEq, Option.some.injEq] at hv
  subst hv
  rename_i l s' hl
  have hB : B W.heap.size := h.hB _ h.below.size
  have hsz := Lib.bytesWorld_size W e s'
  have hlen : l.length = s'.size := by rw [← hl]; simp
  have hbel : Below W.heap.size W (Lib.bytesWorld W e s') := ⟨rfl, rfl, rfl, by omega, fun k hk => Lib.bytesWorld_at_old W e s' k hk⟩
  have hadv := Adv.new h l.length (some q) none hbel hsz
  have hcapge : s'.size ≤ grownCap W s'.size 0 e := grownCap_ge W s'.size 0 e
  have hcs : (Lib.bytesCells W e s').size = grownCap W s'.size 0 e := by simp [Lib.bytesCells]; omega
  refine ⟨_, _, _, Lib.run_convert_string_bytes W s d e s' hs hd he, hadv, ?_, fun _ => ?_⟩
  · have hel : (encB l).length = s'.size := by simp [encB, hlen]
    rw [← hel]
    refine Rep.of_row (by rw [hel]; exact hcapge) (by simp [encB]) (encB_fits l) ⟨fun c hc => ?_, fun k c hk => ?_⟩
    · rw [encB_cells] at hc; obtain ⟨b, _, rfl⟩ := List.mem_map.1 hc; rfl
    · rw [encB_cells] at hk
      simp only [encB, List.getElem?_map, Option.map_eq_some_iff] at hk
      obtain ⟨b, hb, rfl⟩ := hk
      have hlt := (List.getElem?_eq_some_iff.1 hb).1
      refine ⟨_, by rw [Nat.zero_add]; exact Lib.bytesWorld_cell W e s' k (by omega), ?_⟩
      have : s'.data.toList.getD k 0 = b := by rw [hl]; simp [List.getD, hb]
      rw [this]; exact .int _ _
  · intro sz xs b off len cap sp hv hx
    simp only [V.sl.injEq, true_and] at hv
    obtain ⟨rfl, rfl⟩ := hv
    simp only [Value.slice.injEq, Option.some.injEq, Addr.mk.injEq] at hx
    obtain ⟨⟨rfl, rfl, rfl⟩, rfl, rfl⟩ := hx
    refine .inr ⟨hB, by simp, by simp [encB], _, _, _, _, Lib.bytesWorld_at_new W e s', by omega, fun j _ hj => by omega⟩

end Go.Abs
