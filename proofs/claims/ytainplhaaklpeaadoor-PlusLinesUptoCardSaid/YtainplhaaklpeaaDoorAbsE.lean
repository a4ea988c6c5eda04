/-
  Abs, part E: reading memory: elements, fields, cells. Own work of this seat.
-/
import Derived.Test.YtainplhaaklpeaaDoorAbsD
namespace Go.Abs
open Go.RowKit

variable {P : Program} {W : World} {G : Nat → Nat} {φ : Nat → Option Nat}

theorem run_typeInfo {t : TypeId} {i : TypeInfo} (h : P.info? t = some i) : (typeInfo t).run P W = .ok i W := by simp [typeInfo, h]
theorem run_sizeOf' {t : TypeId} {i : TypeInfo} (h : P.info? t = some i) : (sizeOf t).run P W = .ok i.size W := by simp [sizeOf, run_typeInfo h]

/-- How a type is loaded: one cell, or so many as a row. -/
def ldN (P : Program) (t : TypeId) : Option (Option Nat) :=
  match P.underlying t with
  | some (.struct _) | some (.array _ _) => (P.info? t).map fun i => some i.size
  | some _ => some none
  | none => none

theorem ldN_none {t : TypeId} (h : ldN P t = some none) : (isAgg t).run P W = .ok false W := by
  unfold ldN at h
  split at h
  · simp at h
  · simp at h
  · rename_i d h1 h2 hd
    simp only [isAgg, Sem.run_bind, run_underlying hd, Result.andThen_ok]
    cases d <;> first | rfl | exact (h1 _ hd).elim | exact (h2 _ _ hd).elim
  · simp at h
theorem ldN_some {t : TypeId} {n : Nat} (h : ldN P t = some (some n)) : (isAgg t).run P W = .ok true W ∧ ∃ i, P.info? t = some i ∧ i.size = n := by
  unfold ldN at h
  split at h
  · rename_i fs hd
    simp only [Option.map_eq_some_iff, Option.some.injEq] at h
    exact ⟨by simp only [isAgg, Sem.run_bind, run_underlying hd, Result.andThen_ok]; rfl, h⟩
  · rename_i m e hd
    simp only [Option.map_eq_some_iff, Option.some.injEq] at h
    exact ⟨by simp only [isAgg, Sem.run_bind, run_underlying hd, Result.andThen_ok]; rfl, h⟩
  · simp at h
  · simp at h

theorem getElem?_takeDrop {α : Type} (cs : List α) (o k i : Nat) : ((cs.drop o).take k)[i]? = if i < k then cs[o + i]? else none := by
  rw [List.getElem?_take]; split <;> simp

/-- cells that read as a row -/
structure Row (W : World) (G : Nat → Nat) (φ : Nat → Option Nat) (cs : List V) (b base : Nat) : Prop where
  sc : ∀ c ∈ cs, c.sc = true
  cell : ∀ (k : Nat) (c : V), cs[k]? = some c → ∃ y, W.cell? ⟨b, base + k, none⟩ = some y ∧ Rep W G φ c y

theorem Row.load {cs : List V} {b base o : Nat} {n : Option Nat} {t : TypeId} {v : V} (h : Row W G φ cs b base) (hn : ldN P t = some n) (hv : ldCells n cs o = some v) :
    ∃ y, (loadVar t ⟨b, base + o, none⟩).run P W = .ok y W ∧ Rep W G φ v y := by
  cases n with
  | none =>
    have hv' : cs[o]? = some v := hv
    obtain ⟨y, h1, h2⟩ := h.cell o v hv'
    exact ⟨y, by simp [loadVar, ldN_none hn, h1], h2⟩
  | some k =>
    obtain ⟨ha, i, hi, rfl⟩ := ldN_some (W := W) hn
    simp only [ldCells] at hv
    split at hv
    · rename_i hle
      simp only [Option.some.injEq] at hv
      subst hv
      have hex : ∃ ys : List Value, ys.length = i.size ∧ ∀ j y, ys[j]? = some y → W.cell? ⟨b, base + o + j, none⟩ = some y ∧ ∃ c, cs[o + j]? = some c ∧ Rep W G φ c y := by
        have : ∀ m, m ≤ i.size → ∃ ys : List Value, ys.length = m ∧ ∀ j y, ys[j]? = some y → W.cell? ⟨b, base + o + j, none⟩ = some y ∧ ∃ c, cs[o + j]? = some c ∧ Rep W G φ c y := by
          intro m
          induction m with
          | zero => exact fun _ => ⟨[], rfl, fun j y hj => by simp at hj⟩
          | succ m ih =>
            intro hm
            obtain ⟨ys, hl, hy⟩ := ih (by omega)
            have hlt : o + m < cs.length := by omega
            obtain ⟨y, h1, h2⟩ := h.cell (o + m) _ (List.getElem?_eq_getElem hlt)
            refine ⟨ys ++ [y], by simp [hl], fun j z hj => ?_⟩
            rw [List.getElem?_append] at hj
            split at hj
            · exact hy j z hj
            · rename_i hge
              have : j = m := by
                rcases Nat.lt_or_ge (j - ys.length) 1 with h' | h'
                · omega
                · rw [List.getElem?_eq_none (by simpa using h')] at hj; cases hj
              subst this
              simp [hl] at hj
              subst hj
              exact ⟨by rwa [Nat.add_assoc], _, List.getElem?_eq_getElem hlt, h2⟩
        exact this _ (Nat.le_refl _)
      obtain ⟨ys, hl, hy⟩ := hex
      have hrun := run_loadCells_list (P := P) W ⟨b, base + o, none⟩ ys (fun j y hj => by rw [addr_add]; exact (hy j y hj).1)
      rw [hl] at hrun
      refine ⟨.agg ys.toArray, by simp [loadVar, ha, run_sizeOf' hi, hrun], .agg _ _ (by simp [hl]; omega) ?_ ?_⟩
      · exact fun c hc => h.sc c (List.mem_of_mem_drop (List.mem_of_mem_take hc))
      · intro j c y hc hyj
        rw [getElem?_takeDrop] at hc
        split at hc
        · simp at hyj
          obtain ⟨_, c', hc', hr⟩ := hy j y hyj
          rw [hc] at hc'
          cases hc'
          exact hr
        · simp at hc
    · simp at hv

theorem Row.of_el {cs : List V} {off : Nat} {x : Value} (h : Rep W G φ (.el cs off) x) : ∃ b base, x = .pointer (some ⟨b, base + off, none⟩) ∧ Row W G φ cs b base := by
  cases h with
  | el cs off b base rd hG hs hrd h =>
    refine ⟨b, base, rfl, hs, fun k c hk => ⟨rd k, hrd k ?_, h k c hk⟩⟩
    exact (List.getElem?_eq_some_iff.1 hk).1

theorem d_part {cs : List V} {xs : Array Value} {o : Nat} {n : Option Nat} {t : TypeId} {v : V} (h : RepL W G φ cs xs) (hs : ∀ c ∈ cs, c.sc = true) (hn : ldN P t = some n) (hv : ldCells n cs o = some v) :
    ∃ y, (part t xs o).run P W = .ok y W ∧ Rep W G φ v y := by
  cases n with
  | none =>
    have hv' : cs[o]? = some v := hv
    have hlt : o < xs.size := by rw [← h.1]; exact (List.getElem?_eq_some_iff.1 hv').1
    exact ⟨xs[o], by simp [part, ldN_none hn, hlt], h.2 o v _ hv' (Array.getElem?_eq_getElem hlt)⟩
  | some k =>
    obtain ⟨ha, i, hi, rfl⟩ := ldN_some (W := W) hn
    simp only [ldCells] at hv
    split at hv
    · rename_i hle
      simp only [Option.some.injEq] at hv
      subst hv
      have h1 := h.1
      refine ⟨.agg (xs.extract o (o + i.size)), by simp [part, ha, run_sizeOf' hi], .agg _ _ (by simp; omega) ?_ ?_⟩
      · exact fun c hc => hs c (List.mem_of_mem_drop (List.mem_of_mem_take hc))
      · intro j c y hc hy
        rw [getElem?_takeDrop] at hc
        split at hc
        · rw [Array.getElem?_extract] at hy
          split at hy
          · exact h.2 _ c y hc hy
          · simp at hy
        · simp at hc
    · simp at hv

theorem d_fld {f : Nat} {u v : V} {x : Value} {t : TypeId} {fs : Array Field} {fd : Field} {n : Option Nat} (ht : P.underlying t = some (.struct fs)) (hf : fs[f]? = some fd) (hn : ldN P fd.type = some n)
    (h : Rep W G φ u x) (hv : vFld n fd.offset u = some v) : ∃ y, (Instr.field t x f).run P W = .ok y W ∧ Rep W G φ v y := by
  cases h <;> simp only [vFld, reduceCtorEq] at hv
  rename_i cs xs hl hs h
  obtain ⟨y, h1, h2⟩ := d_part (P := P) ⟨hl, h⟩ hs hn hv
  exact ⟨y, by simp [Instr.field, run_underlying ht, hf, asAgg, h1], h2⟩

theorem d_idx {u i v : V} {x xi : Value} {t : TypeId} (ht : P.underlying t = some .string) (h : Rep W G φ u x) (hi : Rep W G φ i xi) (hv : vIdx u i = some v) :
    ∃ y, (Instr.index t x xi).run P W = .ok y W ∧ Rep W G φ v y := by
  cases h <;> cases hi <;> simp only [vIdx, reduceCtorEq] at hv
  rename_i l s hs k n
  split at hv
  · rename_i h0
    simp only [Option.map_eq_some_iff] at hv
    obtain ⟨b, hb, rfl⟩ := hv
    subst hs
    have hb' : s[n.toNat]? = some b := by
      have hlt : n.toNat < s.data.toList.length := (List.getElem?_eq_some_iff.1 hb).1
      have hlt' : n.toNat < s.size := by simpa using hlt
      rw [getElem?_pos s n.toNat hlt']
      rw [List.getElem?_eq_getElem hlt] at hb
      have hb2 : s.data[n.toNat] = b := by simpa using hb
      exact congrArg some hb2
    exact ⟨.int .u8 b.toNat, by simp [Instr.index, asIntOf, run_underlying ht, h0, hb'], .int _ _⟩
  · simp at hv

theorem d_idxa {u i v : V} {x xi : Value} {t e : TypeId} {len : Nat} {ie : TypeInfo} {n : Option Nat} (ht : P.underlying t = some (.array len e)) (he : P.info? e = some ie) (hn : ldN P e = some n)
    (h : Rep W G φ u x) (hi : Rep W G φ i xi) (hv : vIdxa len ie.size n u i = some v) : ∃ y, (Instr.index t x xi).run P W = .ok y W ∧ Rep W G φ v y := by
  cases h <;> cases hi <;> simp only [vIdxa, reduceCtorEq] at hv
  rename_i cs xs hl hs h k j
  split at hv
  · rename_i hj
    obtain ⟨y, h1, h2⟩ := d_part (P := P) ⟨hl, h⟩ hs hn hv
    exact ⟨y, by simp [Instr.index, asIntOf, run_underlying ht, hj, run_sizeOf' he, h1], h2⟩
  · simp at hv

theorem d_iaddr {u i v : V} {x xi : Value} {t e : TypeId} {ie : TypeInfo} (ht : P.underlying t = some (.slice e)) (he : P.info? e = some ie)
    (h : Rep W G φ u x) (hi : Rep W G φ i xi) (hv : vIaddr ie.size u i = some v) : ∃ y, (Instr.indexAt t x xi).run P W = .ok y W ∧ Rep W G φ v y := by
  cases hi <;> cases h <;> simp only [vIaddr, reduceCtorEq] at hv
  · rename_i k n sz xs b off cap rd hcap hG hx hrd h
    split at hv
    · rename_i h0
      obtain ⟨h0, rfl⟩ := h0
      simp only [Option.map_eq_some_iff] at hv
      obtain ⟨e', hx', rfl⟩ := hv
      have hlt : n.toNat < xs.length := (List.getElem?_eq_some_iff.1 hx').1
      have hlt' : n < (xs.length : Int) := by omega
      have hmem : e' ∈ xs := List.mem_of_getElem? hx'
      have hsz := (hx e' hmem).1
      have hmul : n.toNat * ie.size + ie.size ≤ xs.length * ie.size := by rw [← Nat.succ_mul]; exact Nat.mul_le_mul_right _ hlt
      refine ⟨.pointer (some ⟨b, off + n.toNat * ie.size, none⟩), by simp [Instr.indexAt, asIntOf, run_underlying ht, h0, hlt', run_sizeOf' he, addr_add], ?_⟩
      refine .el _ 0 b (off + n.toNat * ie.size) (fun k => rd (n.toNat * ie.size + k)) (by rw [hsz]; omega) (hx e' hmem).2 (fun k hk => ?_) (fun k c hc => h _ _ _ _ hx' hc)
      rw [hsz] at hk
      have := hrd (n.toNat * ie.size + k) (by omega)
      rwa [← Nat.add_assoc] at this
    · simp at hv
  · simp at hv
  · rename_i k n id off len cap sz b hφ hc
    split at hv
    · rename_i h0
      obtain ⟨h0, h1, rfl⟩ := h0
      simp only [Option.some.injEq] at hv
      subst hv
      exact ⟨.pointer (some ⟨b, off + n.toNat * ie.size, none⟩), by simp [Instr.indexAt, asIntOf, run_underlying ht, h0, h1, run_sizeOf' he, addr_add], .ptr _ _ _ hφ⟩
    · simp at hv

theorem d_iarr {u i v : V} {x xi : Value} {t e : TypeId} {len : Nat} {ie : TypeInfo} (ht : P.underlying t = some (.array len e)) (he : P.info? e = some ie)
    (h : Rep W G φ u x) (hi : Rep W G φ i xi) (hv : vIarr len ie.size u i = some v) : ∃ y, (Instr.indexAt t x xi).run P W = .ok y W ∧ Rep W G φ v y := by
  cases hi <;> cases h <;> simp only [vIarr, reduceCtorEq] at hv
  all_goals
    split at hv
    · rename_i h0
      obtain ⟨h0, h1⟩ := h0
      simp only [Option.some.injEq] at hv
      subst hv
      refine ⟨_, by simp [Instr.indexAt, Instr.sureAddr, asIntOf, run_underlying ht, h0, h1, run_sizeOf' he, addr_add]; rfl, ?_⟩
      first
        | exact .ptr _ _ _ (by assumption)
        | exact .gp _ _
        | (rw [Nat.add_assoc]
           exact .el _ _ _ _ _ (by assumption) (by assumption) (by assumption) (by assumption))
    · simp at hv

theorem d_faddr {u v : V} {x : Value} {t : TypeId} {fs : Array Field} {f : Nat} {fd : Field} {i : TypeInfo} (ht : P.underlying t = some (.struct fs)) (hf : fs[f]? = some fd) (hi : P.info? fd.type = some i) (hz : i.size ≠ 0)
    (h : Rep W G φ u x) (hv : vFaddr fd.offset u = some v) : ∃ y, (Instr.fieldAt t x f).run P W = .ok y W ∧ Rep W G φ v y := by
  cases h <;> simp only [vFaddr, reduceCtorEq, Option.some.injEq] at hv
  all_goals
    subst hv
    refine ⟨_, by simp [Instr.fieldAt, Instr.sureAddr, fieldPlace, run_underlying ht, hf, run_sizeOf' hi, hz, addr_add]; rfl, ?_⟩
    first
      | exact .ptr _ _ _ (by assumption)
      | exact .gp _ _
      | (rw [Nat.add_assoc]
         exact .el _ _ _ _ _ (by assumption) (by assumption) (by assumption) (by assumption))

theorem d_nilck {u v : V} {x : Value} (h : Rep W G φ u x) (hv : vNilck u = some v) : v = u ∧ ((∃ p, x = .pointer (some p)) ∨ ∃ f p c, x = .func (.func f) p c) := by
  cases h <;> simp [vNilck] at hv <;> simp [hv]

theorem d_i2i {k : IntKind} {u v : V} {x : Value} {s d : TypeId} {ds : TypeDesc} (hs : P.underlying s = some ds) (hd : P.underlying d = some (.int k)) (h : Rep W G φ u x) (hv : vI2i k u = some v) :
    ∃ y, (convert s d x).run P W = .ok y W ∧ Rep W G φ v y := by
  cases h <;> simp only [vI2i, reduceCtorEq, Option.some.injEq] at hv
  subst hv
  rename_i k' n
  exact ⟨.int k (k.wrap n), by simp [convert, run_underlying hs, run_underlying hd, Conv.intToInt], .int _ _⟩

theorem d_s2s {u v : V} {x : Value} {s d : TypeId} (hs : P.underlying s = some .string) (hd : P.underlying d = some .string) (h : Rep W G φ u x) (hv : vS2s u = some v) :
    ∃ y, (convert s d x).run P W = .ok y W ∧ Rep W G φ v y := by
  cases h <;> simp only [vS2s, reduceCtorEq, Option.some.injEq] at hv
  subst hv
  rename_i l s h
  exact ⟨.string s, by simp [convert, run_underlying hs, run_underlying hd], .str _ _ h⟩

theorem d_len {str : Bool} {u v : V} {x : Value} {t ty : TypeId} (ht : if str then P.underlying t = some .string else ∃ e, P.underlying t = some (.slice e)) (h : Rep W G φ u x) (hv : vLen str u = some v) :
    ∃ y, (Builtin.len_ #[t] ty #[x]).run P W = .ok y W ∧ Rep W G φ v y := by
  cases str
  · obtain ⟨e, ht⟩ := by simpa using ht
    cases h <;> simp only [vLen, reduceCtorEq, Option.some.injEq] at hv <;> subst hv
    · exact ⟨.int .i64 0, by simp [Builtin.len_, run_underlying ht, goInt], .int _ _⟩
    · rename_i sz xs b off cap rd _ _ _ _ _
      exact ⟨.int .i64 xs.length, by simp [Builtin.len_, run_underlying ht, goInt], .int _ _⟩
    · exact ⟨.int .i64 0, by simp [Builtin.len_, run_underlying ht, goInt], .int _ _⟩
    · rename_i id off len cap sz b _ _
      exact ⟨.int .i64 len, by simp [Builtin.len_, run_underlying ht, goInt], .int _ _⟩
  · have ht : P.underlying t = some .string := by simpa using ht
    cases h <;> simp only [vLen, reduceCtorEq, Option.some.injEq] at hv
    subst hv
    rename_i l s hs
    subst hs
    exact ⟨.int .i64 s.size, by simp [Builtin.len_, run_underlying ht, goInt], by simpa using Rep.int .i64 (s.size : Int)⟩

theorem d_slc {sz : Nat} {u : V} {x : Value} {lo hi mx : Option V} {xl xh xm : Option Value} {t e : TypeId} {ie : TypeInfo} {r : Res} (ht : P.underlying t = some (.slice e)) (he : P.info? e = some ie) (hsz : ie.size = sz)
    (h : Rep W G φ u x) (hl : RepO W G φ lo xl) (hh : RepO W G φ hi xh) (hm : RepO W G φ mx xm) (hv : vSlc sz u lo hi mx = some r) :
    ∃ y, (Instr.sliceAt t x xl xh xm).run P W = .ok y W ∧ Rep W G φ r.v y ∧ r.tk = none ∧ (r.o = true → ∀ B g p, OwnAt W B g p r.v y) := by
  subst hsz
  unfold vSlc at hv
  split at hv
  · rename_i l hi' m nl s xs el eh em
    split at hv
    · rename_i hc
      obtain ⟨rfl, hc⟩ := hc
      simp only [Option.map_eq_some_iff] at hv
      obtain ⟨c, hcut, rfl⟩ := hv
      have hmm : ∃ xm', (m = none ∧ xm = none ∧ xm' = (none : Option Int)) ∨ (∃ k n, m = some n ∧ hi' = some n ∧ xm = some (.int k n) ∧ xm' = some n) := by
        rcases vOpt_int hm em with ⟨h1, h2⟩ | ⟨k, n, h1, h2⟩
        · exact ⟨none, .inl ⟨h1, h2, rfl⟩⟩
        · subst h1
          rcases hc with hc | hc
          · cases hc
          · exact ⟨some n, .inr ⟨k, n, rfl, hc.symm, h2, rfl⟩⟩
      have hcut0 := hcut
      unfold cut3 at hcut
      simp only [Option.getD_none, Option.isSome_none, Bool.false_eq_true, false_implies, and_true] at hcut
      split at hcut
      · rename_i hcond
        obtain ⟨c1, c2, c3, c4, c5, c6⟩ := hcond
        simp only [Option.some.injEq] at hcut
        obtain ⟨mf, hmf⟩ : ∃ mf : Nat → Nat, ∀ cap, mf cap = (m.map Int.toNat).getD cap := ⟨_, fun _ => rfl⟩
        have hk : (c.2.1 : Int) = hi'.getD (xs.length : Int) := by subst hcut; simp; omega
        have hl' : (c.1 : Int) = l.getD 0 := by subst hcut; simp; omega
        obtain ⟨a, len, cap, rfl, hlen, hlc, hrep⟩ := rep_cut h c.1 c.2.1 (by omega) (by omega) mf (fun len cap _ => by
          rw [hmf]
          rcases hmm with ⟨_, ⟨rfl, _, _⟩ | ⟨k, n, rfl, h2, _, _⟩⟩
          · exact .inl rfl
          · right; rw [h2] at hk; simp at hk; show (some n.toNat).getD cap = c.2.1; simp; omega)
        have hcut' : cut3 len cap l hi' m = some (c.1, c.2.1, mf cap) := by
          unfold cut3
          rw [hmf]
          have e1 : hi'.getD (len : Int) = c.2.1 := by rw [hk, hlen]
          rcases hmm with ⟨_, ⟨rfl, _, _⟩ | ⟨k, n, rfl, h2, _, _⟩⟩
          · simp only [Option.getD_none, Option.isSome_none, Bool.false_eq_true, false_implies, and_true]
            rw [e1, ← hl']
            rw [if_pos (by omega)]
            simp
          · have e2 : n = c.2.1 := by rw [h2] at hk; simpa using hk.symm
            simp only [Option.getD_some, Option.isSome_some, h2, forall_const, and_true]
            rw [e2, ← hl']
            rw [if_pos (by omega)]
            simp
        obtain ⟨hr, h1, h2, h3⟩ := run_sliceBounds (P := P) (W := W) (isS := true) hlc (vOpt_int hl el) (vOpt_int hh eh) (vOpt_int hm em) hcut'
        refine ⟨.slice (if mf cap = c.1 then a else a.map (·.add (c.1 * ie.size))) (c.2.1 - c.1) (mf cap - c.1), by simp [Instr.sliceAt, Instr.slice, run_underlying ht, hr, run_sizeOf' he], hrep, rfl, ?_⟩
        intro ho B g p sz xs' b off len' cap' sp _ hx
        simp only [Value.slice.injEq] at hx
        obtain ⟨_, rfl, rfl⟩ := hx
        left
        rw [hmf]
        rcases hmm with ⟨_, ⟨rfl, _, _⟩ | ⟨k, n, rfl, h2, _, _⟩⟩
        · simp at ho
        · have e2 : n = c.2.1 := by rw [h2] at hk; simpa using hk.symm
          show (some n.toNat).getD _ - c.1 = _
          simp; omega
      · simp at hcut
    · simp at hv
  · rename_i l hi' m id off len cap s el eh em
    cases h
    rename_i b hφ hlc
    split at hv
    · rename_i hc
      subst hc
      simp only [Option.map_eq_some_iff] at hv
      obtain ⟨c, hcut, rfl⟩ := hv
      obtain ⟨hr, h1, h2, h3⟩ := run_sliceBounds (P := P) (W := W) (isS := true) hlc (vOpt_int hl el) (vOpt_int hh eh) (vOpt_int hm em) hcut
      refine ⟨.slice (if c.2.2 = c.1 then some ⟨b, off, none⟩ else some ⟨b, off + c.1 * ie.size, none⟩) (c.2.1 - c.1) (c.2.2 - c.1), ?_, ?_, rfl, fun h => by cases h⟩
      · simp [Instr.sliceAt, Instr.slice, run_underlying ht, hr, run_sizeOf' he, addr_add]
      · dsimp only
        split
        · exact .osl _ _ _ _ _ _ hφ (by omega)
        · exact .osl _ _ _ _ _ _ hφ (by omega)
    · simp at hv
  · simp at hv

end Go.Abs
