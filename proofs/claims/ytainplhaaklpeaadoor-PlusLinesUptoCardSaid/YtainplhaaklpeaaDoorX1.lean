/-
  Ext, part 1: values but for which empty row is nil; one operation at a time (words that a program of this seat prints). Own work of this seat.
-/
import Derived.Test.YtainplhaaklpeaaDoorAbsW
namespace Go.Abs
open Go.RowKit

/-! ## values, but for which empty rows are nil -/
mutual
def V.nf : V → V
  | .agg cs => .agg (nfL cs)
  | .sl true sz [] => .sl false sz []
  | .sl true _ (_ :: _) => .map 0
  | .sl false sz xs => .sl false sz (nfL xs)
  | .el cs off => .el (nfL cs) off
  | .tup cs => .tup (nfL cs)
  | .fn f cs => .fn f (nfL cs)
  | .iface t v => .iface t v.nf
  | .bool b => .bool b
  | .int k n => .int k n
  | .str s => .str s
  | .osl a b c d e => .osl a b c d e
  | .gp g o => .gp g o
  | .ptr i o => .ptr i o
  | .nilptr => .nilptr
  | .map i => .map i
  | .nilmap => .nilmap
  | .nilfn => .nilfn
  | .nilif => .nilif
def nfL : List V → List V
  | [] => []
  | v :: r => v.nf :: nfL r
end
theorem nfL_map : ∀ l : List V, nfL l = l.map V.nf
  | [] => rfl
  | v :: r => by rw [nfL, nfL_map r]; rfl
@[simp] theorem nfL_length (l : List V) : (nfL l).length = l.length := by rw [nfL_map]; simp
theorem nfL_get (l : List V) (i : Nat) : (nfL l)[i]? = (l[i]?).map V.nf := by rw [nfL_map]; simp
theorem nfL_append (a b : List V) : nfL (a ++ b) = nfL a ++ nfL b := by simp [nfL_map]
theorem nfL_drop (a : List V) (k : Nat) : nfL (a.drop k) = (nfL a).drop k := by simp [nfL_map, List.map_drop]
theorem nfL_take (a : List V) (k : Nat) : nfL (a.take k) = (nfL a).take k := by simp [nfL_map, List.map_take]
theorem nfL_setAt (a : List V) (k : Nat) (b : List V) : nfL (setAt a k b) = setAt (nfL a) k (nfL b) := by
  simp only [setAt, nfL_append, nfL_take, nfL_drop, nfL_length]

theorem nf_bool {v : V} {b : Bool} (h : v.nf = .bool b) : v = .bool b := by
  cases v <;> simp_all [V.nf]
  all_goals (rename_i nl sz xs; cases nl <;> cases xs <;> simp [V.nf] at h)
theorem nf_int {v : V} {k : IntKind} {n : Int} (h : v.nf = .int k n) : v = .int k n := by
  cases v <;> simp_all [V.nf]
  all_goals (rename_i nl sz xs; cases nl <;> cases xs <;> simp [V.nf] at h)
theorem nf_str {v : V} {s : Bytes} (h : v.nf = .str s) : v = .str s := by
  cases v <;> simp_all [V.nf]
  all_goals (rename_i nl sz xs; cases nl <;> cases xs <;> simp [V.nf] at h)
theorem nf_ptr {v : V} {i o : Nat} (h : v.nf = .ptr i o) : v = .ptr i o := by
  cases v <;> simp_all [V.nf]
  all_goals (rename_i nl sz xs; cases nl <;> cases xs <;> simp [V.nf] at h)
theorem nf_agg {v : V} {l : List V} (h : v.nf = .agg l) : ∃ cs, v = .agg cs ∧ nfL cs = l := by
  cases v <;> simp_all [V.nf]
  all_goals (rename_i nl sz xs; cases nl <;> cases xs <;> simp [V.nf] at h)
theorem nf_el {v : V} {l : List V} {o : Nat} (h : v.nf = .el l o) : ∃ cs, v = .el cs o ∧ nfL cs = l := by
  cases v <;> simp_all [V.nf]
  all_goals (rename_i nl sz xs; cases nl <;> cases xs <;> simp [V.nf] at h)
theorem nf_tup {v : V} {l : List V} (h : v.nf = .tup l) : ∃ cs, v = .tup cs ∧ nfL cs = l := by
  cases v <;> simp_all [V.nf]
  all_goals (rename_i nl sz xs; cases nl <;> cases xs <;> simp [V.nf] at h)
theorem nf_fn {v : V} {f : Nat} {l : List V} (h : v.nf = .fn f l) : ∃ cs, v = .fn f cs ∧ nfL cs = l := by
  cases v <;> simp_all [V.nf]
  all_goals (rename_i nl sz xs; cases nl <;> cases xs <;> simp [V.nf] at h)
theorem nf_sl {v : V} {sz : Nat} {l : List V} (h : v.nf = .sl false sz l) : ∃ nl xs, v = .sl nl sz xs ∧ nfL xs = l ∧ (nl = true → xs = []) := by
  cases v <;> simp_all [V.nf]
  rename_i nl sz' xs
  cases nl <;> cases xs <;> simp_all [V.nf, nfL]
theorem sl_nf {nl : Bool} {sz : Nat} {xs : List V} (h : nl = true → xs = []) : (V.sl nl sz xs).nf = .sl false sz (nfL xs) := by
  cases nl
  · rfl
  · rw [h rfl]; rfl
theorem nf_sc (v : V) : v.nf.sc = v.sc := by
  cases v <;> try rfl
  rename_i nl sz xs
  cases nl <;> cases xs <;> rfl
theorem nf_cells (v : V) : v.nf.cells = nfL v.cells := by
  cases v <;> try rfl
  rename_i nl sz xs
  cases nl <;> cases xs <;> rfl
theorem nfL_sc {l : List V} (h : (nfL l).all V.sc = true) : l.all V.sc = true := by
  rw [nfL_map] at h
  simpa [nf_sc] using h
mutual
theorem nf_clean : ∀ {v : V}, v.nf.clean = true → v.clean = true
  | .agg cs, h => by simp only [V.nf, V.clean] at h ⊢; exact nfL_clean h
  | .sl true sz [], _ => rfl
  | .sl true _ (_ :: _), h => by simp [V.nf, V.clean] at h
  | .sl false sz xs, h => by simp only [V.nf, V.clean] at h ⊢; exact nfL_clean h
  | .el cs off, h => by simp only [V.nf, V.clean] at h ⊢; exact nfL_clean h
  | .tup cs, h => by simp only [V.nf, V.clean] at h ⊢; exact nfL_clean h
  | .fn f cs, h => by simp only [V.nf, V.clean] at h ⊢; exact nfL_clean h
  | .iface t v, h => by simp only [V.nf, V.clean] at h ⊢; exact nf_clean h
  | .bool b, _ => rfl
  | .int k n, _ => rfl
  | .str s, _ => rfl
  | .osl a b c d e, h => by simp [V.nf, V.clean] at h
  | .gp g o, _ => rfl
  | .ptr i o, h => by simp [V.nf, V.clean] at h
  | .nilptr, _ => rfl
  | .map i, h => by simp [V.nf, V.clean] at h
  | .nilmap, _ => rfl
  | .nilfn, _ => rfl
  | .nilif, _ => rfl
theorem nfL_clean : ∀ {l : List V}, cleanL (nfL l) = true → cleanL l = true
  | [], _ => rfl
  | v :: r, h => by
    simp only [nfL, cleanL, Bool.and_eq_true] at h ⊢
    exact ⟨nf_clean h.1, nfL_clean h.2⟩
end

/-- a value that may be appended to -/
def Own (v : V) (o : Bool) : Prop := o = true ∨ ∃ sz, v = .sl true sz []
abbrev OwnS (s : St) (t : Nat) : Prop := Own (s.tm t) (s.own (.slot t))

/-! ## one operation at a time -/
variable {Γ : Abs.Spec} {gl : Glob} {K : St → Prop} {s : St} {d : Option Nat} {r : List AOper} {af : List Nat} {g : Option (Nat × Bool)}

theorem x_start {Q : Ex → St → Prop} {os : List AOper} {b : Bool} (k : runs Γ gl os (Q .normal) s) : awp Γ gl (.region os b) Q s := by rw [awp_region]; exact k
theorem x_done (k : K s) : runs Γ gl [] K s := k
theorem x_step {op : AOp} {s' : St} (h : exec1 Γ gl ⟨d, op, none, af⟩ s = some s') (k : runs Γ gl r K s') : runs Γ gl (⟨d, op, none, af⟩ :: r) K s := by
  rw [runs_cons, exec_none, h]; exact k
/-- a guard: it is done -/
theorem x_gy {op : AOp} {t : Nat} {w b : Bool} (h : s.tm t = .bool b) (hb : b = w) (k : runs Γ gl (⟨d, op, none, af⟩ :: r) K s) : runs Γ gl (⟨d, op, some (t, w), af⟩ :: r) K s := by
  subst hb
  rw [runs_cons, exec_none] at k
  rw [runs_cons, exec_some, h]
  have e : exec1 Γ gl ⟨d, op, some (t, b), af⟩ s = exec1 Γ gl ⟨d, op, none, af⟩ s := rfl
  rw [e, if_pos (by simp)]; exact k
/-- a guard: it is not done -/
theorem x_gn {op : AOp} {t : Nat} {w b : Bool} (h : s.tm t = .bool b) (hb : b = !w) (k : runs Γ gl r K (s.put d Nil false)) : runs Γ gl (⟨d, op, some (t, w), af⟩ :: r) K s := by
  subst hb
  rw [runs_cons, exec_some, h]
  have : ((!w) == w) = false := by cases w <;> rfl
  simpa [this] using k

/-- a guard that was not reached -/
theorem x_gnil {op : AOp} {t : Nat} {w : Bool} (h : s.tm t = Nil) (k : runs Γ gl r K (s.put d Nil false)) : runs Γ gl (⟨d, op, some (t, w), af⟩ :: r) K s := by
  rw [runs_cons, exec_some, h]
  simpa using k

theorem x_mv {x : Opd} {y : V} (h : (evO s.tm x).nf = y) (k : ∀ v, v.nf = y → runs Γ gl r K (s.put d v false)) : runs Γ gl (⟨d, .mv x, none, af⟩ :: r) K s :=
  x_step (e_mv x) (k _ h)
theorem x_mv' {x : Opd} {y : V} (h : evO s.tm x = y) (k : runs Γ gl r K (s.put d y false)) : runs Γ gl (⟨d, .mv x, none, af⟩ :: r) K s :=
  x_step (e_mv x) (h ▸ k)
theorem x_mvo {t : Nat} {y : V} (h : (s.tm t).nf = y) (k : ∀ v o, v.nf = y → (OwnS s t → Own v o) → runs Γ gl r K ((s.take (some (.slot t))).put d v o)) : runs Γ gl (⟨d, .mvo t, none, af⟩ :: r) K s :=
  x_step (e_mvo t) (k _ _ h id)
theorem x_pickt {c a b : Opd} {p : Bool} {y : V} (hc : evO s.tm c = .bool p) (hp : p = true) (h : (evO s.tm a).nf = y) (k : ∀ v, v.nf = y → runs Γ gl r K (s.put d v false)) : runs Γ gl (⟨d, .pick c a b, none, af⟩ :: r) K s := by
  subst hp
  refine x_step (s' := s.put d (evO s.tm a) false) ?_ (k _ h)
  rw [e_pick, hc, vPick_bool]; rfl
theorem x_pickf {c a b : Opd} {p : Bool} {y : V} (hc : evO s.tm c = .bool p) (hp : p = false) (h : (evO s.tm b).nf = y) (k : ∀ v, v.nf = y → runs Γ gl r K (s.put d v false)) : runs Γ gl (⟨d, .pick c a b, none, af⟩ :: r) K s := by
  subst hp
  refine x_step (s' := s.put d (evO s.tm b) false) ?_ (k _ h)
  rw [e_pick, hc, vPick_bool]; rfl
theorem x_pickt' {c a b : Opd} {p : Bool} {y : V} (hc : evO s.tm c = .bool p) (hp : p = true) (h : evO s.tm a = y) (k : runs Γ gl r K (s.put d y false)) : runs Γ gl (⟨d, .pick c a b, none, af⟩ :: r) K s := by
  subst hp; subst h
  refine x_step (s' := s.put d (evO s.tm a) false) ?_ k
  rw [e_pick, hc, vPick_bool]; rfl
theorem x_pickf' {c a b : Opd} {p : Bool} {y : V} (hc : evO s.tm c = .bool p) (hp : p = false) (h : evO s.tm b = y) (k : runs Γ gl r K (s.put d y false)) : runs Γ gl (⟨d, .pick c a b, none, af⟩ :: r) K s := by
  subst hp; subst h
  refine x_step (s' := s.put d (evO s.tm b) false) ?_ k
  rw [e_pick, hc, vPick_bool]; rfl
theorem x_ext {t : Opd} {i : Nat} {l : List V} {y : V} (h : (evO s.tm t).nf = .tup l) (hi : l[i]? = some y) (k : ∀ v, v.nf = y → runs Γ gl r K (s.put d v false)) : runs Γ gl (⟨d, .ext t i, none, af⟩ :: r) K s := by
  obtain ⟨cs, hv, rfl⟩ := nf_tup h
  rw [nfL_get, Option.map_eq_some_iff] at hi
  obtain ⟨v, hi, rfl⟩ := hi
  refine x_step (s' := s.put d v false) ?_ (k _ rfl)
  rw [e_ext, hv, vExt_tup, hi]; rfl
theorem x_bin {op : BinOp} {q : EqK} {x y : Opd} {a b c : V} (hx : evO s.tm x = a) (hy : evO s.tm y = b) (h : abin op q a b = some c) (k : runs Γ gl r K (s.put d c false)) : runs Γ gl (⟨d, .bin op q x y, none, af⟩ :: r) K s := by
  refine x_step (s' := s.put d c false) ?_ k
  rw [e_bin, hx, hy, h]; rfl
theorem x_un {op : UnOp} {x : Opd} {a c : V} (hx : evO s.tm x = a) (h : aun op a = some c) (k : runs Γ gl r K (s.put d c false)) : runs Γ gl (⟨d, .un op x, none, af⟩ :: r) K s := by
  refine x_step (s' := s.put d c false) ?_ k
  rw [e_un, hx, h]; rfl
theorem x_lens {x : Opd} {b : Bytes} (hx : evO s.tm x = .str b) (k : runs Γ gl r K (s.put d (.int .i64 (b.length : Nat)) false)) : runs Γ gl (⟨d, .len true x, none, af⟩ :: r) K s :=
  x_step (s' := s.put d (.int .i64 (b.length : Nat)) false) (by rw [e_len, hx]; rfl) k
theorem x_len {α : Type} {E : α → V} {l : List α} {x : Opd} {sz : Nat} (hx : (evO s.tm x).nf = .sl false sz (l.map E)) (k : runs Γ gl r K (s.put d (.int .i64 (l.length : Nat)) false)) : runs Γ gl (⟨d, .len false x, none, af⟩ :: r) K s := by
  obtain ⟨nl, xs, hv, hl, _⟩ := nf_sl hx
  have : xs.length = l.length := by have := congrArg List.length hl; simpa using this
  exact x_step (s' := s.put d (.int .i64 (l.length : Nat)) false) (by rw [e_len, hv, vLen_sl, this]; rfl) k
theorem x_mnx {mx : Bool} {x y : Opd} {a b c : V} (hx : evO s.tm x = a) (hy : evO s.tm y = b) (h : vMnx mx a b = some c) (k : runs Γ gl r K (s.put d c false)) : runs Γ gl (⟨d, .mnx mx x y, none, af⟩ :: r) K s := by
  refine x_step (s' := s.put d c false) ?_ k
  rw [e_mnx, hx, hy, h]; rfl

/-- an element of a row -/
def at? {α : Type} (l : List α) (n : Int) : Option α := if 0 ≤ n then l[n.toNat]? else none
@[simp] theorem at?_nat {α : Type} (l : List α) (n : Nat) : at? l (n : Int) = l[n]? := by simp [at?]
theorem x_iaddr {α : Type} {E : α → V} {l : List α} {x i : Opd} {sz : Nat} {kd : IntKind} {n : Int} {a : α} (hx : (evO s.tm x).nf = .sl false sz (l.map E)) (hi : evO s.tm i = .int kd n) (ha : at? l n = some a)
    (k : ∀ v, v.nf = .el (E a).cells 0 → runs Γ gl r K (s.put d v false)) : runs Γ gl (⟨d, .iaddr sz x i, none, af⟩ :: r) K s := by
  obtain ⟨nl, xs, hv, hl, hn⟩ := nf_sl hx
  unfold at? at ha
  split at ha
  · rename_i h0
    have h1 : (nfL xs)[n.toNat]? = some (E a) := by rw [hl]; simp [ha]
    rw [nfL_get, Option.map_eq_some_iff] at h1
    obtain ⟨e, he, hE⟩ := h1
    have hnl : nl = false := by cases nl; rfl; rw [hn rfl] at he; simp at he
    subst hnl
    refine x_step (s' := s.put d (.el e.cells 0) false) ?_ (k _ ?_)
    · rw [e_iaddr, hv, hi, vIaddr_sl, if_pos ⟨h0, rfl⟩, he]; rfl
    · rw [← hE, nf_cells]; rfl
  · cases ha
theorem ldCells_nf {n : Option Nat} {cs : List V} {o : Nat} {y : V} (h : ldCells n (nfL cs) o = some y) : ∃ v, ldCells n cs o = some v ∧ v.nf = y := by
  cases n with
  | none =>
    simp only [ldCells_none, nfL_get, Option.map_eq_some_iff] at h ⊢
    exact h
  | some k =>
    simp only [ldCells_some, nfL_length] at h ⊢
    split at h
    · rename_i hc
      rw [if_pos hc]
      cases h
      exact ⟨_, rfl, by rw [V.nf, nfL_take, nfL_drop]⟩
    · cases h
theorem x_faddr_el {off : Nat} {x : Opd} {l : List V} {o : Nat} (hx : (evO s.tm x).nf = .el l o) (k : ∀ v, v.nf = .el l (o + off) → runs Γ gl r K (s.put d v false)) : runs Γ gl (⟨d, .faddr off x, none, af⟩ :: r) K s := by
  obtain ⟨cs, hv, rfl⟩ := nf_el hx
  exact x_step (s' := s.put d (.el cs (o + off)) false) (by rw [e_faddr, hv, vFaddr_el]; rfl) (k _ rfl)
theorem x_faddr {off : Nat} {x : Opd} {i o : Nat} (hx : evO s.tm x = .ptr i o) (k : runs Γ gl r K (s.put d (.ptr i (o + off)) false)) : runs Γ gl (⟨d, .faddr off x, none, af⟩ :: r) K s :=
  x_step (by rw [e_faddr, hx, vFaddr_ptr]; rfl) k
theorem x_faddr_gp {off : Nat} {x : Opd} {i o : Nat} (hx : evO s.tm x = .gp i o) (k : runs Γ gl r K (s.put d (.gp i (o + off)) false)) : runs Γ gl (⟨d, .faddr off x, none, af⟩ :: r) K s :=
  x_step (by rw [e_faddr, hx, vFaddr_gp]; rfl) k
theorem x_load_el {n : Option Nat} {x : Opd} {l : List V} {o : Nat} {y : V} (hx : (evO s.tm x).nf = .el l o) (hl : ldCells n l o = some y) (k : ∀ v, v.nf = y → runs Γ gl r K (s.put d v false)) : runs Γ gl (⟨d, .load n x, none, af⟩ :: r) K s := by
  obtain ⟨cs, hv, rfl⟩ := nf_el hx
  obtain ⟨v, h1, h2⟩ := ldCells_nf hl
  exact x_step (s' := s.put d v false) (by rw [e_load, hv, vLoad_el, h1]; rfl) (k _ h2)
/-- the cells of an object -/
def Cells (s : St) (id : Nat) (l : List V) : Prop := ∃ cs, hCells s.H id = some cs ∧ nfL cs = l
theorem x_load {n : Option Nat} {x : Opd} {l : List V} {i o : Nat} {y : V} (hx : evO s.tm x = .ptr i o) (hc : Cells s i l) (hl : ldCells n l o = some y) (k : ∀ v, v.nf = y → runs Γ gl r K (s.put d v false)) : runs Γ gl (⟨d, .load n x, none, af⟩ :: r) K s := by
  obtain ⟨cs, hv, rfl⟩ := hc
  obtain ⟨v, h1, h2⟩ := ldCells_nf hl
  exact x_step (s' := s.put d v false) (by rw [e_load, hx, vLoad_ptr, hv]; simp [h1]) (k _ h2)
theorem x_load_gp {n : Option Nat} {x : Opd} {l : List V} {i o : Nat} {y : V} (hx : evO s.tm x = .gp i o) (hc : gl i = some l) (hl : ldCells n l o = some y) (k : runs Γ gl r K (s.put d y false)) : runs Γ gl (⟨d, .load n x, none, af⟩ :: r) K s :=
  x_step (s' := s.put d y false) (by rw [e_load, hx, vLoad_gp, hc]; simp [hl]) k
abbrev OwnC (s : St) (id j : Nat) : Prop := ∀ cs v, hCells s.H id = some cs → cs[j]? = some v → Own v (s.own (.cell id j))
theorem x_ldo {x : Opd} {l : List V} {i o : Nat} {y : V} (hx : evO s.tm x = .ptr i o) (hc : Cells s i l) (hl : l[o]? = some y) (k : ∀ v w, v.nf = y → (OwnC s i o → Own v w) → runs Γ gl r K ((s.take (some (.cell i o))).put d v w)) : runs Γ gl (⟨d, .ldo x, none, af⟩ :: r) K s := by
  obtain ⟨cs, hv, rfl⟩ := hc
  rw [nfL_get, Option.map_eq_some_iff] at hl
  obtain ⟨v, h1, h2⟩ := hl
  refine x_step (s' := (s.take (some (.cell i o))).put d v (s.own (.cell i o))) ?_ (k _ _ h2 fun h => h cs v hv h1)
  rw [e_ldo, hx]; simp [vLdo, hv, h1]
theorem x_fld {n : Option Nat} {off : Nat} {x : Opd} {l : List V} {y : V} (hx : (evO s.tm x).nf = .agg l) (hl : ldCells n l off = some y) (k : ∀ v, v.nf = y → runs Γ gl r K (s.put d v false)) : runs Γ gl (⟨d, .fld n off x, none, af⟩ :: r) K s := by
  obtain ⟨cs, hv, rfl⟩ := nf_agg hx
  obtain ⟨v, h1, h2⟩ := ldCells_nf hl
  exact x_step (s' := s.put d v false) (by rw [e_fld, hv, vFld_agg, h1]; rfl) (k _ h2)
theorem x_idx {x i : Opd} {p : Bytes} {kd : IntKind} {n : Int} {b : UInt8} (hx : evO s.tm x = .str p) (hi : evO s.tm i = .int kd n) (hb : at? p n = some b) (k : runs Γ gl r K (s.put d (.int .u8 b.toNat) false)) : runs Γ gl (⟨d, .idx x i, none, af⟩ :: r) K s := by
  unfold at? at hb
  split at hb
  · rename_i h0
    refine x_step (s' := s.put d (.int .u8 b.toNat) false) ?_ k
    rw [e_idx, hx, hi]; simp [vIdx, h0, hb, byteV]
  · cases hb
theorem x_idxa {len sz : Nat} {m : Option Nat} {x i : Opd} {l : List V} {kd : IntKind} {n : Int} {y : V} (hx : (evO s.tm x).nf = .agg l) (hi : evO s.tm i = .int kd n) (h0 : 0 ≤ n ∧ n < len) (hl : ldCells m l (n.toNat * sz) = some y) (k : ∀ v, v.nf = y → runs Γ gl r K (s.put d v false)) : runs Γ gl (⟨d, .idxa len sz m x i, none, af⟩ :: r) K s := by
  obtain ⟨cs, hv, rfl⟩ := nf_agg hx
  obtain ⟨v, h1, h2⟩ := ldCells_nf hl
  refine x_step (s' := s.put d v false) ?_ (k _ h2)
  rw [e_idxa, hv, hi]; simp [vIdxa, h0, h1]

/-! pieces -/
def cut {α : Type} (l : List α) (a b : Int) : Option (List α) := if 0 ≤ a ∧ a ≤ b ∧ b ≤ l.length then some ((l.take b.toNat).drop a.toNat) else none
theorem x_slsh {x h : Opd} {p q : Bytes} {kd : IntKind} {b : Int} (hx : evO s.tm x = .str p) (hh : evO s.tm h = .int kd b) (hc : cut p 0 b = some q) (k : runs Γ gl r K (s.put d (.str q) false)) : runs Γ gl (⟨d, .sls x none (some h), none, af⟩ :: r) K s := by
  unfold cut at hc
  split at hc
  · rename_i h1
    cases hc
    refine x_step (s' := s.put d _ false) ?_ k
    rw [e_sls, hx]; simp only [Option.map_none, Option.map_some, hh, vSls_h]; rw [if_pos ⟨h1.2.1, h1.2.2⟩]; simp
  · cases hc
theorem x_slsl {x l : Opd} {p q : Bytes} {kd : IntKind} {a : Int} (hx : evO s.tm x = .str p) (hl : evO s.tm l = .int kd a) (hc : cut p a p.length = some q) (k : runs Γ gl r K (s.put d (.str q) false)) : runs Γ gl (⟨d, .sls x (some l) none, none, af⟩ :: r) K s := by
  unfold cut at hc
  split at hc
  · rename_i h1
    cases hc
    refine x_step (s' := s.put d _ false) ?_ k
    rw [e_sls, hx]; simp only [Option.map_none, Option.map_some, hl, vSls_l]; rw [if_pos ⟨h1.1, h1.2.1⟩]; simp
  · cases hc
theorem x_slslh {x l h : Opd} {p q : Bytes} {kd ke : IntKind} {a b : Int} (hx : evO s.tm x = .str p) (hl : evO s.tm l = .int kd a) (hh : evO s.tm h = .int ke b) (hc : cut p a b = some q) (k : runs Γ gl r K (s.put d (.str q) false)) : runs Γ gl (⟨d, .sls x (some l) (some h), none, af⟩ :: r) K s := by
  unfold cut at hc
  split at hc
  · rename_i h1
    cases hc
    refine x_step (s' := s.put d _ false) ?_ k
    rw [e_sls, hx]; simp only [Option.map_some, hl, hh, vSls_lh]; rw [if_pos h1]; rfl
  · cases hc
theorem nfsl_cut {α : Type} {E : α → V} {l : List α} {xs : List V} (h : nfL xs = l.map E) (a b : Nat) : nfL ((xs.take b).drop a) = ((l.take b).drop a).map E := by
  rw [nfL_drop, nfL_take, h]; simp [List.map_drop, List.map_take]
theorem x_slc {α : Type} {E : α → V} {l q : List α} {x : Opd} {lo hi : Option Opd} {sz : Nat} {a b : Int} {ka kb : IntKind} (hx : (evO s.tm x).nf = .sl false sz (l.map E))
    (hlo : match lo with | none => a = 0 | some o => evO s.tm o = .int ka a) (hhi : match hi with | none => b = l.length | some o => evO s.tm o = .int kb b) (hc : cut l a b = some q)
    (k : ∀ v, v.nf = .sl false sz (q.map E) → runs Γ gl r K (s.put d v false)) : runs Γ gl (⟨d, .slc sz x lo hi none, none, af⟩ :: r) K s := by
  obtain ⟨nl, xs, hv, hl, hn⟩ := nf_sl hx
  have hlen : xs.length = l.length := by have := congrArg List.length hl; simpa using this
  unfold cut at hc
  split at hc
  · rename_i h1
    cases hc
    refine x_step (s' := s.put d (.sl nl sz ((xs.take b.toNat).drop a.toNat)) false) ?_ (k _ ?_)
    · rw [e_slc, hv]
      have hb0 : 0 ≤ b := by omega
      have hbl : b.toNat ≤ l.length := by omega
      cases lo with
      | none =>
        simp only at hlo; subst hlo
        cases hi with
        | none =>
          simp only at hhi; subst hhi
          simp [vSlc, vOpt, cut3, hlen]
        | some hi =>
          simp only at hhi
          simp [vSlc, vOpt, cut3, hlen, hhi, hb0, h1.2.2]
      | some lo =>
        simp only at hlo
        cases hi with
        | none =>
          simp only at hhi; subst hhi
          simp [vSlc, vOpt, cut3, hlen, hlo, h1.1, h1.2.1]
        | some hi =>
          simp only at hhi
          simp [vSlc, vOpt, cut3, hlen, hlo, hhi, h1, hb0]
    · rw [sl_nf (fun h => by rw [hn h]; simp), nfsl_cut hl]
  · cases hc
/-- a piece that has no room behind -/
theorem x_slc3 {α : Type} {E : α → V} {l q : List α} {x h m : Opd} {lo : Option Opd} {sz : Nat} {a b : Int} {ka kb kc : IntKind} (hx : (evO s.tm x).nf = .sl false sz (l.map E))
    (hlo : match lo with | none => a = 0 | some o => evO s.tm o = .int ka a) (hhi : evO s.tm h = .int kb b) (hmx : evO s.tm m = .int kc b) (hc : cut l a b = some q)
    (k : ∀ v o, v.nf = .sl false sz (q.map E) → Own v o → runs Γ gl r K (s.put d v o)) : runs Γ gl (⟨d, .slc sz x lo (some h) (some m), none, af⟩ :: r) K s := by
  obtain ⟨nl, xs, hv, hl, hn⟩ := nf_sl hx
  have hlen : xs.length = l.length := by have := congrArg List.length hl; simpa using this
  unfold cut at hc
  split at hc
  · rename_i h1
    cases hc
    refine x_step (s' := s.put d (.sl nl sz ((xs.take b.toNat).drop a.toNat)) true) ?_ (k _ _ ?_ (.inl rfl))
    · rw [e_slc, hv]
      have hb0 : 0 ≤ b := by omega
      have hbl : b.toNat ≤ l.length := by omega
      cases lo with
      | none =>
        simp only at hlo; subst hlo
        simp [vSlc, vOpt, cut3, hlen, hhi, hmx, hb0, h1.2.2]
      | some lo =>
        simp only at hlo
        simp [vSlc, vOpt, cut3, hlen, hlo, hhi, hmx, h1, hb0]
    · rw [sl_nf (fun h => by rw [hn h]; simp), nfsl_cut hl]
  · cases hc

/-! what is built -/
theorem fillV_nf : ∀ {ps : List (Nat × Nat × V)} {z l : List V}, fillV (nfL z) (ps.map fun p => (p.1, p.2.1, p.2.2.nf)) = some l → ∃ cs, fillV z ps = some cs ∧ nfL cs = l
  | [], z, l, h => by simp at h; exact ⟨z, rfl, h⟩
  | (o, n, v) :: r, z, l, h => by
    simp only [List.map_cons, fillV_cons, nf_cells, nfL_length] at h ⊢
    split at h
    · rename_i hc
      rw [← nfL_setAt] at h
      obtain ⟨cs, h1, h2⟩ := fillV_nf h
      exact ⟨cs, by rw [if_pos ⟨hc.1, nfL_sc hc.2.1, hc.2.2⟩, h1], h2⟩
    · cases h
/-- a cell of a struct's value that is a nil row -/
def NilAt (v : V) (j : Nat) : Prop := ∃ cs sz, v = .agg cs ∧ cs[j]? = some (.sl true sz [])
theorem setAt_out {cs ys : List V} {o j : Nat} (h : j < o ∨ o + ys.length ≤ j) (ho : o + ys.length ≤ cs.length) : (setAt cs o ys)[j]? = cs[j]? := by
  simp only [setAt]
  rcases h with h | h
  · rw [List.getElem?_append_left (by simp; omega), List.getElem?_append_left (by simp; omega), List.getElem?_take, if_pos h]
  · rw [List.getElem?_append_right (by simp; omega)]
    simp only [List.length_append, List.length_take, Nat.min_eq_left (show o ≤ cs.length by omega), List.getElem?_drop]
    congr 1; omega
theorem fillV_out : ∀ {ps : List (Nat × Nat × V)} {z cs : List V} {j : Nat}, fillV z ps = some cs → (∀ p ∈ ps, j < p.1 ∨ p.1 + p.2.1 ≤ j) → cs[j]? = z[j]?
  | [], z, cs, j, h, _ => by simp at h; rw [h]
  | (o, n, v) :: r, z, cs, j, h, hp => by
    simp only [fillV_cons] at h
    split at h
    · rename_i hc
      rw [fillV_out h fun p hp' => hp p (by simp [hp'])]
      have := hp (o, n, v) (by simp)
      exact setAt_out (by rw [hc.1]; exact this) (by rw [hc.1]; exact hc.2.2)
    · cases h
theorem x_build {z : List V} {ps : List (Nat × Nat × Opd)} {ws : List (Nat × Nat × V)} {l : List V} (hw : (ps.map fun p => (p.1, p.2.1, (evO s.tm p.2.2).nf)) = ws) (hl : fillV (nfL z) ws = some l)
    (k : ∀ v, v.nf = .agg l → (∀ j sz, z[j]? = some (.sl true sz []) → (∀ p ∈ ps, j < p.1 ∨ p.1 + p.2.1 ≤ j) → NilAt v j) → runs Γ gl r K (s.put d v false)) : runs Γ gl (⟨d, .build z ps, none, af⟩ :: r) K s := by
  subst hw
  have h' : fillV (nfL z) ((ps.map fun p => (p.1, p.2.1, evO s.tm p.2.2)).map fun p => (p.1, p.2.1, p.2.2.nf)) = some l := by rw [List.map_map]; exact hl
  obtain ⟨cs, h1, h2⟩ := fillV_nf h'
  refine x_step (s' := s.put d (.agg cs) false) ?_ (k _ (by rw [← h2]; rfl) fun j sz hz hp => ⟨cs, sz, rfl, ?_⟩)
  · rw [e_build, h1]; rfl
  · rw [fillV_out h1 fun p hp' => ?_]
    · exact hz
    · obtain ⟨q, hq, rfl⟩ := List.mem_map.1 hp'
      exact hp q hq
theorem fits_nf {sz : Nat} : ∀ {xs : List V}, fits sz (nfL xs) = true → fits sz xs = true
  | [], _ => rfl
  | v :: r, h => by
    simp only [nfL, fits_cons, Bool.and_eq_true, nf_cells, nfL_length] at h ⊢
    exact ⟨⟨h.1.1, nfL_sc h.1.2⟩, fits_nf h.2⟩
theorem x_bsl {α : Type} {E : α → V} {l : List α} {sz : Nat} {ps : List Opd} (hw : ps.map (fun p => (evO s.tm p).nf) = l.map E) (hf : fits sz (l.map E) = true) (k : ∀ v o, v.nf = .sl false sz (l.map E) → Own v o → runs Γ gl r K (s.put d v o)) : runs Γ gl (⟨d, .bsl sz ps, none, af⟩ :: r) K s := by
  have hn : nfL (ps.map (evO s.tm)) = l.map E := by rw [nfL_map, List.map_map]; exact hw
  refine x_step (s' := s.put d (.sl false sz (ps.map (evO s.tm))) true) ?_ (k _ _ ?_ (.inl rfl))
  · rw [e_bsl, if_pos (fits_nf (by rw [hn]; exact hf))]; rfl
  · show V.sl false sz (nfL (ps.map (evO s.tm))) = _
    rw [hn]

/-! conversions -/
theorem nf_byte (b : UInt8) : (byteV b).nf = byteV b := rfl
theorem nf_encB (l : Bytes) : nfL (encB l) = encB l := by
  rw [nfL_map]; unfold encB; rw [List.map_map]; rfl
theorem nf_bytes {xs : List V} {l : Bytes} (h : nfL xs = l.map byteV) : xs = encB l := by
  rw [nfL_map] at h
  refine List.ext_getElem? fun i => ?_
  have := congrArg (fun l => l[i]?) h
  simp only [List.getElem?_map, encB] at this ⊢
  cases hx : xs[i]? with
  | none => rw [hx] at this; simpa using this
  | some v =>
    rw [hx] at this
    cases hb : l[i]? with
    | none => rw [hb] at this; simp at this
    | some b =>
      rw [hb] at this
      simp only [Option.map_some, Option.some.injEq] at this
      rw [nf_int (v := v) (k := .u8) (n := b.toNat) (by rw [this]; rfl)]; rfl
theorem toBytes_encB : ∀ l : Bytes, toBytes (encB l) = some l
  | [] => rfl
  | b :: r => by
    have ih := toBytes_encB r
    simp only [encB, List.map_cons, byteV] at ih ⊢
    simp [toBytes, ih]
theorem x_s2b {x : Opd} {b : Bytes} (hx : evO s.tm x = .str b) (k : ∀ v o, v.nf = .sl false 1 (b.map byteV) → Own v o → runs Γ gl r K (s.put d v o)) : runs Γ gl (⟨d, .s2b x, none, af⟩ :: r) K s :=
  x_step (s' := s.put d (.sl false 1 (encB b)) true) (by rw [e_s2b, hx]; rfl) (k _ _ (by show V.sl false 1 (nfL (encB b)) = _; rw [nf_encB]; rfl) (.inl rfl))
theorem x_b2s {x : Opd} {b : Bytes} (hx : (evO s.tm x).nf = .sl false 1 (b.map byteV)) (k : runs Γ gl r K (s.put d (.str b) false)) : runs Γ gl (⟨d, .b2s x, none, af⟩ :: r) K s := by
  obtain ⟨nl, xs, hv, hl, hn⟩ := nf_sl hx
  rw [nf_bytes hl] at hv
  exact x_step (s' := s.put d (.str b) false) (by rw [e_b2s, hv]; simp [vB2s, toBytes_encB]) k
theorem x_b2sO {x : Opd} {b : Bytes} {id off len cap : Nat} {l : List V} (hx : evO s.tm x = .osl id off len cap 1) (hc : Cells s id l) (hle : off + len ≤ l.length) (hb : (l.drop off).take len = b.map byteV) (k : runs Γ gl r K (s.put d (.str b) false)) : runs Γ gl (⟨d, .b2s x, none, af⟩ :: r) K s := by
  obtain ⟨cs, hv, rfl⟩ := hc
  rw [← nfL_drop, ← nfL_take] at hb
  refine x_step (s' := s.put d (.str b) false) ?_ k
  rw [e_b2s, hx]
  simp only [nfL_length] at hle
  simp [vB2s, hv, hle, nf_bytes hb, toBytes_encB]
theorem x_i2i {kd ke : IntKind} {x : Opd} {n : Int} (hx : evO s.tm x = .int ke n) (k : runs Γ gl r K (s.put d (.int kd (kd.wrap n)) false)) : runs Γ gl (⟨d, .i2i kd x, none, af⟩ :: r) K s :=
  x_step (s' := s.put d (.int kd (kd.wrap n)) false) (by rw [e_i2i, hx]; rfl) k
theorem x_s2s {x : Opd} {b : Bytes} (hx : evO s.tm x = .str b) (k : runs Γ gl r K (s.put d (.str b) false)) : runs Γ gl (⟨d, .s2s x, none, af⟩ :: r) K s :=
  x_step (s' := s.put d (.str b) false) (by rw [e_s2s, hx]; rfl) k
theorem flat_encB : ∀ b : Bytes, (encB b).flatMap V.cells = encB b
  | [] => rfl
  | c :: b => by
    have ih := flat_encB b
    simp only [encB, List.map_cons, List.flatMap_cons] at ih ⊢; rw [ih]; rfl
theorem x_s2a {n : Nat} {x : Opd} {b : Bytes} (hx : (evO s.tm x).nf = .sl false 1 (b.map byteV)) (hn : n ≤ b.length) (h0 : b ≠ []) (k : ∀ v, v.nf = .el (b.map byteV) 0 → runs Γ gl r K (s.put d v false)) : runs Γ gl (⟨d, .s2a n x, none, af⟩ :: r) K s := by
  obtain ⟨nl, xs, hv, hl, hnl⟩ := nf_sl hx
  have hx' := nf_bytes hl
  subst hx'
  have hf : fits 1 (encB b) = true := by
    unfold fits encB; simp [byteV, V.sc]
  have hfl : (encB b).flatMap V.cells = encB b := flat_encB b
  have hne : encB b ≠ [] := by simpa [encB] using h0
  have : nl = false := by cases nl; rfl; exact absurd (hnl rfl) hne
  subst this
  refine x_step (s' := s.put d (.el (encB b) 0) false) ?_ (k _ ?_)
  · rw [e_s2a, hv]; simp [vS2a, hn, hne, hf, hfl]
  · show V.el (nfL (encB b)) 0 = _
    rw [nf_encB]; rfl

/-! calls -/
theorem x_call {f : Nat} {xs : List Opd} {avs : List V} {y : V} {own : Bool} (hx : xs.map (fun x => (evO s.tm x).nf) = avs) (hC : ∀ args, nfL args = avs → ∃ v o, Γ f args = some (v, o) ∧ v.nf = y ∧ (own = true → Own v o))
    (k : ∀ v o, v.nf = y → (own = true → Own v o) → runs Γ gl r K (s.put d v o)) : runs Γ gl (⟨d, .call f xs, none, af⟩ :: r) K s := by
  obtain ⟨v, o, h1, h2, h3⟩ := hC (xs.map (evO s.tm)) (by rw [nfL_map, List.map_map]; exact hx)
  exact x_step (s' := s.put d v o) (by rw [e_call, h1]; rfl) (k v o h2 h3)
theorem x_callv {f : Opd} {g : Nat} {cs : List V} {xs : List Opd} {avs : List V} {y : V} {own : Bool} (hf : (evO s.tm f).nf = .fn g cs) (hx : xs.map (fun x => (evO s.tm x).nf) ++ cs = avs) (hC : ∀ args, nfL args = avs → ∃ v o, Γ g args = some (v, o) ∧ v.nf = y ∧ (own = true → Own v o))
    (k : ∀ v o, v.nf = y → (own = true → Own v o) → runs Γ gl r K (s.put d v o)) : runs Γ gl (⟨d, .callv f xs, none, af⟩ :: r) K s := by
  obtain ⟨cs', hv, rfl⟩ := nf_fn hf
  obtain ⟨v, o, h1, h2, h3⟩ := hC (xs.map (evO s.tm) ++ cs') (by rw [nfL_append, nfL_map, List.map_map]; exact hx)
  exact x_step (s' := s.put d v o) (by rw [e_callv, hv]; simp [vCallv, h1]) (k v o h2 h3)
theorem x_mkf {f : Nat} {xs : List Opd} {cs : List V} (hx : xs.map (fun x => (evO s.tm x).nf) = cs) (k : ∀ v, v.nf = .fn f cs → runs Γ gl r K (s.put d v false)) : runs Γ gl (⟨d, .mkf f xs, none, af⟩ :: r) K s :=
  x_step (e_mkf f xs) (k _ (by show V.fn f (nfL (xs.map (evO s.tm))) = _; rw [nfL_map, List.map_map, ← hx]; rfl))

/-! rows made and appended to -/
theorem x_mks {sz : Nat} {z : List V} {l c : Opd} {ka kb : IntKind} {n : Int} (hl : evO s.tm l = .int ka 0) (hc : evO s.tm c = .int kb n) (hn : 0 ≤ n ∧ n ≤ Lim) (k : ∀ v o, v.nf = .sl false sz [] → Own v o → runs Γ gl r K (s.put d v o)) : runs Γ gl (⟨d, .mks sz z l c, none, af⟩ :: r) K s :=
  x_step (s' := s.put d (.sl false sz []) true) (by rw [e_mks, hl, hc]; simp [vMks, hn]) (k _ _ rfl (.inl rfl))
/-- other rights to append -/
def ow (s : St) (f : Pos → Bool) : St := { s with own := f }
/-- what is appended -/
def Tail (s : St) (sz : Nat) (x : Opd) (l : List V) : Prop := ∃ ys, vTail s.H sz (evO s.tm x) = some ys ∧ nfL ys = l
theorem tail_sl {sz : Nat} {x : Opd} {l : List V} (hx : (evO s.tm x).nf = .sl false sz l) : Tail s sz x l := by
  obtain ⟨nl, xs, hv, hl, _⟩ := nf_sl hx
  exact ⟨xs, by rw [hv, vTail_sl], hl⟩
theorem tail_str {x : Opd} {b : Bytes} (hx : evO s.tm x = .str b) : Tail s 1 x (b.map byteV) := ⟨encB b, by rw [hx, vTail_str], by rw [nf_encB]; rfl⟩
def appL {α : Type} (l m : List α) : Option (List α) := if l.length + m.length ≤ Lim then some (l ++ m) else none
theorem x_app {α : Type} {E : α → V} {l m q : List α} {t : Nat} {x : Opd} {sz : Nat} (hs : (s.tm t).nf = .sl false sz (l.map E)) (ho : OwnS s t) (hx : Tail s sz x (m.map E)) (hq : appL l m = some q)
    (k : ∀ v o f, v.nf = .sl false sz (q.map E) → Own v o → (∀ u, u ≠ .slot t → f u = s.own u) → runs Γ gl r K ((ow s f).put d v o)) : runs Γ gl (⟨d, .app sz (.tmp t) x, none, af⟩ :: r) K s := by
  obtain ⟨nl, xs, hv, hl, hn⟩ := nf_sl hs
  obtain ⟨ys, hy, hm⟩ := hx
  have hlx : xs.length = l.length := by have := congrArg List.length hl; simpa using this
  have hly : ys.length = m.length := by have := congrArg List.length hm; simpa using this
  unfold appL at hq
  split at hq
  · rename_i hle
    cases hq
    cases nl with
    | true =>
      obtain rfl := hn rfl
      have hl0 : l = [] := by have := congrArg List.length hl; simp at this; exact List.length_eq_zero_iff.1 this.symm
      subst hl0
      refine x_step (s' := s.put d (.sl ys.isEmpty sz ys) true) ?_ (k _ _ s.own ?_ (.inl rfl) fun _ _ => rfl)
      · rw [e_app, evO_tmp, hv, vApp_nil, hy]
        have : ys.length ≤ Lim := by simp at hle; omega
        simp [this]
      · rw [sl_nf (by simp), hm]; simp
    | false =>
      have ho' : s.own (.slot t) = true := by
        rcases ho with h | ⟨z, h⟩
        · exact h
        · rw [hv] at h; cases h
      refine x_step (s' := (ow s (updP s.own (.slot t) false)).put d (.sl false sz (xs ++ ys)) true) ?_ (k _ _ _ ?_ (.inl rfl) fun u hu => ?_)
      · rw [e_app, evO_tmp, hv, ownO_tmp, ho', vApp_sl, hy]
        simp [hlx, hly, hle]; rfl
      · show V.sl false sz (nfL (xs ++ ys)) = _
        rw [nfL_append, hl, hm]; simp
      · simp [updP, hu]
  · cases hq

/-! objects -/
theorem cells_put {id : Nat} {l : List V} {v : V} {o : Bool} (h : Cells s id l) : Cells (s.put d v o) id l := by cases d <;> exact h
theorem x_new {cs : List V} {l : List V} (hl : nfL cs = l) (k : ∀ id, id = s.nH → Cells (s.new cs) id l → runs Γ gl r K ((s.new cs).put d (.ptr id 0) false)) : runs Γ gl (⟨d, .new cs, none, af⟩ :: r) K s :=
  x_step (e_new cs) (k _ rfl ⟨cs, by simp, hl⟩)
theorem cells_new {id : Nat} {l : List V} {cs : List V} (hi : id < s.nH) (h : Cells s id l) : Cells (s.new cs) id l := by
  obtain ⟨c, h1, h2⟩ := h
  exact ⟨c, by rw [hCells_new, if_neg (by omega), h1], h2⟩
theorem x_box {x : Opd} {l : List V} (hl : (evO s.tm x).nf.cells = l) (hc : l.all V.sc = true) (k : ∀ cs id, id = s.nH → nfL cs = l → Cells (s.new cs) id l → runs Γ gl r K ((s.new cs).put d (.ptr id 0) false)) : runs Γ gl (⟨d, .box x, none, af⟩ :: r) K s := by
  rw [nf_cells] at hl
  have : (evO s.tm x).cells.all V.sc = true := nfL_sc (by rw [hl]; exact hc)
  exact x_step (s' := (s.new (evO s.tm x).cells).put d (.ptr s.nH 0) false) (by rw [e_box, if_pos this]) (k _ _ rfl hl ⟨_, by simp, hl⟩)
theorem x_store {n : Nat} {a x : Opd} {i o : Nat} {l ws l' : List V} (ha : evO s.tm a = .ptr i o) (hc : Cells s i l) (hx : (evO s.tm x).nf.cells = ws) (hn : ws.length = n ∧ ws.all V.sc = true ∧ o + n ≤ l.length) (hl : setAt l o ws = l')
    (k : ∀ cs ys, hCells s.H i = some cs → ys.length = n → Cells (s.setOb i cs o ys) i l' → (∀ j, NilAt (evO s.tm x) j → OwnC (s.setOb i cs o ys) i (o + j)) → runs Γ gl r K ((s.setOb i cs o ys).put d Nil false)) : runs Γ gl (⟨d, .store n a x, none, af⟩ :: r) K s := by
  obtain ⟨cs, hv, rfl⟩ := hc
  rw [nf_cells] at hx
  subst hx
  simp only [nfL_length] at hn
  refine x_step (s' := (s.setOb i cs o (evO s.tm x).cells).put d Nil false) ?_ (k cs _ hv hn.1 ⟨_, by simp; rfl, by rw [nfL_setAt, hl]⟩ fun j hj c v hc hv' => ?_)
  case refine_2 =>
    obtain ⟨ds, sz, he, hd⟩ := hj
    rw [hCells_setOb, if_pos rfl] at hc
    cases hc
    rw [he] at hv'
    have hjl : j < ds.length := (List.getElem?_eq_some_iff.1 hd).1
    have hle : o ≤ cs.length := by omega
    simp only [setAt, cells_agg] at hv'
    rw [List.getElem?_append_left (by simp; omega), List.getElem?_append_right (by simp; omega)] at hv'
    simp only [List.length_take, Nat.min_eq_left hle, Nat.add_sub_cancel_left] at hv'
    rw [hd] at hv'; cases hv'
    exact .inr ⟨sz, rfl⟩
  rw [e_store, ha, doStore_ptr, hv]
  simp only [Option.bind_some]
  rw [if_pos ⟨hn.1, nfL_sc hn.2.1, hn.2.2⟩]
theorem cells_setOb {id i : Nat} {l : List V} {cs ys : List V} {o : Nat} (hi : id ≠ i) (h : Cells s id l) : Cells (s.setOb i cs o ys) id l := by
  obtain ⟨c, h1, h2⟩ := h
  exact ⟨c, by rw [hCells_setOb, if_neg hi, h1], h2⟩
theorem ownC_setOb {i j : Nat} {cs ys : List V} {o : Nat} (hcs : hCells s.H i = some cs) (hj : j < o ∨ o + ys.length ≤ j) (hlo : o ≤ cs.length) (h : OwnC s i j) : OwnC (s.setOb i cs o ys) i j := by
  intro c v hc hv
  rw [hCells_setOb, if_pos rfl] at hc
  cases hc
  have hv' : cs[j]? = some v := by
    rw [← hv]
    simp only [setAt]
    rcases hj with hj | hj
    · rw [List.getElem?_append_left (by simp; omega), List.getElem?_append_left (by simp; omega), List.getElem?_take, if_pos hj]
    · rw [List.getElem?_append_right (by simp; omega)]
      simp only [List.length_append, List.length_take, Nat.min_eq_left hlo, List.getElem?_drop]
      congr 1; omega
  have := h cs v hcs hv'
  rw [setOb_ownc, if_neg (by omega)]; exact this
/-- a row is put into an object, with the right to append to it -/
theorem x_sto {a : Opd} {t : Nat} {i o : Nat} {l l' : List V} {y : V} (ha : evO s.tm a = .ptr i o) (hc : Cells s i l) (hx : (s.tm t).nf = y) (hy : y.sc = true) (hn : o < l.length) (hl : setAt l o [y] = l')
    (k : ∀ cs, hCells s.H i = some cs → Cells (s.stoOb i cs o t) i l' → (OwnS s t → OwnC (s.stoOb i cs o t) i o) → runs Γ gl r K ((s.stoOb i cs o t).put d Nil false)) : runs Γ gl (⟨d, .sto a t, none, af⟩ :: r) K s := by
  obtain ⟨cs, hv, rfl⟩ := hc
  subst hx
  simp only [nfL_length] at hn
  rw [nf_sc] at hy
  refine x_step (s' := (s.stoOb i cs o t).put d Nil false) ?_ (k cs hv ⟨_, by simp; rfl, by rw [nfL_setAt, ← hl]; rfl⟩ fun ho c v hc hv => ?_)
  · rw [e_sto, ha, doSto_ptr, hv]
    simp only [Option.bind_some]
    rw [if_pos ⟨hy, hn⟩]
  · rw [hCells_stoOb, if_pos rfl] at hc
    cases hc
    have : v = s.tm t := by
      simp only [setAt] at hv
      rw [List.getElem?_append_left (by simp; omega), List.getElem?_append_right (by simp; omega)] at hv
      simpa [Nat.min_eq_left (Nat.le_of_lt hn)] using hv.symm
    subst this
    rw [stoOb_ownc, if_pos ⟨rfl, rfl⟩]; exact ho
theorem cells_stoOb {id i : Nat} {l : List V} {cs : List V} {o t : Nat} (hi : id ≠ i) (h : Cells s id l) : Cells (s.stoOb i cs o t) id l := by
  obtain ⟨c, h1, h2⟩ := h
  exact ⟨c, by rw [hCells_stoOb, if_neg hi, h1], h2⟩
theorem x_slca {n sz : Nat} {x : Opd} {i o : Nat} (hx : evO s.tm x = .ptr i o) (k : runs Γ gl r K (s.put d (.osl i o n n sz) false)) : runs Γ gl (⟨d, .slca n sz x none none none, none, af⟩ :: r) K s :=
  x_step (s' := s.put d (.osl i o n n sz) false) (by rw [e_slca, hx]; simp [vSlca, vOpt, cut3]) k
theorem x_iarr {n sz : Nat} {x j : Opd} {i o : Nat} {kd : IntKind} {m : Int} (hx : evO s.tm x = .ptr i o) (hj : evO s.tm j = .int kd m) (hm : 0 ≤ m ∧ m < n) (k : runs Γ gl r K (s.put d (.ptr i (o + m.toNat * sz)) false)) : runs Γ gl (⟨d, .iarr n sz x j, none, af⟩ :: r) K s :=
  x_step (s' := s.put d (.ptr i (o + m.toNat * sz)) false) (by rw [e_iarr, hx, hj]; simp [vIarr, hm]) k
theorem x_iarr_el {n sz : Nat} {x j : Opd} {l : List V} {o : Nat} {kd : IntKind} {m : Int} (hx : (evO s.tm x).nf = .el l o) (hj : evO s.tm j = .int kd m) (hm : 0 ≤ m ∧ m < n) (k : ∀ v, v.nf = .el l (o + m.toNat * sz) → runs Γ gl r K (s.put d v false)) : runs Γ gl (⟨d, .iarr n sz x j, none, af⟩ :: r) K s := by
  obtain ⟨cs, hv, rfl⟩ := nf_el hx
  exact x_step (s' := s.put d (.el cs (o + m.toNat * sz)) false) (by rw [e_iarr, hv, hj]; simp [vIarr, hm]) (k _ rfl)

/-! ## code -/
variable {Q : Ex → St → Prop} {a b : ACode}
theorem x_seq (k : awp Γ gl a (thenQ (awp Γ gl b Q) Q) s) : awp Γ gl (.seq a b) Q s := k
theorem x_skip (k : Q .normal s) : awp Γ gl .skip Q s := k
theorem x_retc (k : Q .ret s) : awp Γ gl .ret Q s := k
theorem x_exitc {i : Nat} (k : Q (.exit i) s) : awp Γ gl (.exit i) Q s := k
theorem x_tN {K : St → Prop} (k : K s) : thenQ K Q .normal s := k
theorem x_tE {K : St → Prop} {i : Nat} (k : Q (.exit i) s) : thenQ K Q (.exit i) s := k
theorem x_tR {K : St → Prop} (k : Q .ret s) : thenQ K Q .ret s := k
theorem x_bN {i : Nat} (k : Q .normal s) : blockQ i Q .normal s := k
theorem x_bR {i : Nat} (k : Q .ret s) : blockQ i Q .ret s := k
theorem x_bE {i : Nat} (k : Q .normal s) : blockQ i Q (.exit i) s := by rw [blockQ_exit, if_pos rfl]; exact k
theorem x_bX {i j : Nat} (h : j ≠ i) (k : Q (.exit j) s) : blockQ i Q (.exit j) s := by rw [blockQ_exit, if_neg h]; exact k
theorem x_block {i : Nat} (k : awp Γ gl a (blockQ i Q) s) : awp Γ gl (.block i a) Q s := k
theorem x_ct {c : Opd} {p : Bool} (h : evO s.tm c = .bool p) (hp : p = true) (k : awp Γ gl a Q s) : awp Γ gl (.cond c a b) Q s := by
  subst hp; rw [awp_cond, h, condA_true]; exact k
theorem x_cf {c : Opd} {p : Bool} (h : evO s.tm c = .bool p) (hp : p = false) (k : awp Γ gl b Q s) : awp Γ gl (.cond c a b) Q s := by
  subst hp; rw [awp_cond, h, condA_false]; exact k

/-! ## contracts -/
structure FC where
  f : Nat
  mt : List V → Bool
  own : Bool
  rel : List V → V → Prop
  clean : ∀ avs y, rel avs y → cleanL avs = true ∧ y.clean = true
  fn : ∀ avs y z, rel avs y → rel avs z → y = z

def FC.Holds (cx : Cx) (c : FC) : Prop := ∀ args y, c.rel (nfL args) y → ∃ v o, PC cx c.f args (v, o) ∧ v.nf = y ∧ (c.own = true → Own v o)

def FC.Good (cx : Cx) (c : FC) (args : List V) (p : V × Bool) : Prop := PC cx c.f args p ∧ ∃ y, c.rel (nfL args) y ∧ p.1.nf = y ∧ (c.own = true → Own p.1 p.2)
open Classical in
noncomputable def specOf (cx : Cx) (cs : List FC) : Abs.Spec := fun f args =>
  match cs.find? (fun c => c.f == f && c.mt (nfL args)) with
  | some c => if h : ∃ p, c.Good cx args p then some h.choose else none
  | none => none
theorem specOf_sound (cx : Cx) (cs : List FC) : Sound cx (specOf cx cs) := by
  intro f args p hp
  unfold specOf at hp
  split at hp
  · rename_i c hc
    split at hp
    · rename_i hex
      simp only [Option.some.injEq] at hp
      have h1 := hex.choose_spec.1
      have h2 := List.find?_some hc
      simp only [Bool.and_eq_true, beq_iff_eq] at h2
      rw [hp, h2.1] at h1
      exact h1
    · cases hp
  · cases hp
theorem specOf_eq {cx : Cx} {cs : List FC} {c : FC} {args : List V} {y : V} (hc : c.Holds cx) (hf : cs.find? (fun d => d.f == c.f && d.mt (nfL args)) = some c) (hr : c.rel (nfL args) y) :
    ∃ v o, specOf cx cs c.f args = some (v, o) ∧ v.nf = y ∧ (c.own = true → Own v o) := by
  unfold specOf
  rw [hf]
  obtain ⟨v, o, h1, h2, h3⟩ := hc args y hr
  have hex : ∃ p, c.Good cx args p := ⟨(v, o), h1, y, hr, h2, h3⟩
  simp only [dif_pos hex]
  obtain ⟨y', q1, q2, q3⟩ := hex.choose_spec.2
  exact ⟨_, _, rfl, q2.trans (c.fn _ _ _ q1 hr), q3⟩

/-- what a code comes to is one thing -/
theorem awp_det : ∀ {c : ACode} {Q : Ex → St → Prop} {s : St}, awp Γ gl c Q s → ∃ e t, Q e t ∧ ∀ Q' : Ex → St → Prop, Q' e t → awp Γ gl c Q' s := by
  intro c
  induction c with
  | skip => intro Q s h; exact ⟨_, _, h, fun _ h => h⟩
  | region ops dr =>
    intro Q s h
    simp only [awp] at h ⊢
    unfold someP at h ⊢
    split at h
    · exact ⟨_, _, h, fun _ h => h⟩
    · exact h.elim
  | seq a b iha ihb =>
    intro Q s h
    obtain ⟨e, t, h1, h2⟩ := iha h
    cases e with
    | normal =>
      obtain ⟨e, t', h3, h4⟩ := ihb h1
      exact ⟨e, t', h3, fun Q' h => h2 _ (h4 Q' h)⟩
    | exit i => exact ⟨_, t, h1, fun Q' h => h2 _ h⟩
    | ret => exact ⟨_, t, h1, fun Q' h => h2 _ h⟩
  | cond c a b iha ihb =>
    intro Q s h
    simp only [awp] at h ⊢
    unfold condP at h ⊢
    split at h
    · exact iha h
    · exact ihb h
    · exact h.elim
  | block id b ih =>
    intro Q s h
    obtain ⟨e, t, h1, h2⟩ := ih h
    exact ⟨_, t, h1, fun Q' h => h2 _ h⟩
  | loop b ih =>
    intro Q s h
    obtain ⟨n, h⟩ := h
    induction n generalizing s with
    | zero => exact h.elim
    | succ n ihn =>
      obtain ⟨e, t, h1, h2⟩ := ih h
      cases e with
      | normal =>
        obtain ⟨e, t', h3, h4⟩ := ihn h1
        refine ⟨e, t', h3, fun Q' h => ?_⟩
        obtain ⟨m, hm⟩ := h4 Q' h
        exact ⟨m + 1, h2 _ hm⟩
      | exit i => exact ⟨_, t, h1, fun Q' h => ⟨1, h2 _ h⟩⟩
      | ret => exact ⟨_, t, h1, fun Q' h => ⟨1, h2 _ h⟩⟩
  | exit id => intro Q s h; exact ⟨_, _, h, fun _ h => h⟩
  | ret => intro Q s h; exact ⟨_, _, h, fun _ h => h⟩
  | fail => intro Q s h; exact h.elim

/-- a function's end -/
def EndsX (res : List RS) (own : Bool) (y : V) (s : St) : Prop := ∃ p, resOf res s = some p ∧ p.1.nf = y ∧ (own = true → Own p.1 p.2)
def endQ (res : List RS) (own : Bool) (y : V) : Ex → St → Prop
  | .exit _, _ => False
  | _, s => EndsX res own y s

theorem FC.holds_of {cx : Cx} (hgl : GlOK cx) (hm : cx.P.follows .mixedOrders = true) {cs : List FC} {c : FC} {F : AFn} (hf : cFn cx.P c.f = some F) (hl : ∀ avs y, c.rel avs y → avs.length ≤ F.n)
    (h : ∀ args y, c.rel (nfL args) y → awp (specOf cx cs) cx.gl F.body (endQ F.res c.own y) (St.init args)) : c.Holds cx := by
  intro args y hr
  obtain ⟨e, t, h1, h2⟩ := awp_det (h args y hr)
  obtain ⟨hc1, hc2⟩ := c.clean _ _ hr
  have hlen := hl _ _ hr
  rw [nfL_length] at hlen
  have he : EndsX F.res c.own y t := by cases e <;> first | exact h1 | exact h1.elim
  obtain ⟨p, hp, hp1, hp2⟩ := he
  refine ⟨p.1, p.2, pc_of_awp hgl hm (specOf_sound cx cs) hf hlen (nfL_clean hc1) (nf_clean (by rw [hp1]; exact hc2)) (h2 _ ?_), hp1, hp2⟩
  cases e with
  | normal => exact ⟨p, hp, rfl, fun h => h⟩
  | ret => exact ⟨p, hp, rfl, fun h => h⟩
  | exit i => exact h1.elim

theorem cleanL_mk {v : V} {r : List V} (h : v.clean = true) (k : cleanL r = true) : cleanL (v :: r) = true := by rw [cleanL_cons, h, k]; rfl
/-- of a Lean function -/
def fc {α β : Type} (f : Nat) (mt : List V → Bool) (own : Bool) (ea : α → List V) (eb : β → V) (g : α → Option β) (ha : ∀ a, cleanL (ea a) = true) (hb : ∀ b, (eb b).clean = true) (hi : ∀ a b, ea a = ea b → a = b) : FC where
  f := f
  mt := mt
  own := own
  rel avs y := ∃ a x, avs = ea a ∧ g a = some x ∧ y = eb x
  clean := by
    rintro avs y ⟨a, x, rfl, _, rfl⟩
    exact ⟨ha a, hb x⟩
  fn := by
    rintro avs y z ⟨a, x, rfl, h1, rfl⟩ ⟨a', x', h2, h3, rfl⟩
    obtain rfl := hi _ _ h2
    rw [h1] at h3
    cases h3; rfl

/-! ## small words -/
theorem nf_of {v w : V} (h : w.nf = w) (e : v = w) : v.nf = w := by rw [e]; exact h
theorem cons_eq {α : Type} {a b : α} {l m : List α} (h : a = b) (k : l = m) : a :: l = b :: m := by rw [h, k]
theorem part_eq {o n : Nat} {v w : V} {l m : List (Nat × Nat × V)} (h : v = w) (k : l = m) : (o, n, v) :: l = (o, n, w) :: m := by rw [h, k]
theorem bnot_t {b : Bool} (h : b = true) : (!b) = false := by rw [h]; rfl
theorem bnot_f {b : Bool} (h : b = false) : (!b) = true := by rw [h]; rfl
theorem cells_of {v w : V} {l : List V} (h : w.cells = l) (k : v.nf = w) : v.nf.cells = l := by rw [k]; exact h
theorem at_k {α : Type} {l : List α} {k : Nat} {a : α} (h : l[k]? = some a) : at? l ((k : Nat) : Int) = some a := by rw [at?_nat]; exact h
def wi (n : Int) : Int := IntKind.wrap .i64 n
theorem wi_of {n : Int} (h : -9223372036854775808 ≤ n) (k : n ≤ 9223372036854775807) : wi n = n := w64 n ⟨h, k⟩
theorem wi_succ {k : Nat} (h : k < 4294967297) : wi (((k : Nat) : Int) + 1) = ((k + 1 : Nat) : Int) := by rw [wi_of (by omega) (by omega)]; rfl
def fuel : Nat := 1000000000000
theorem nfL_cons {v : List V} {x : V} {r : List V} (h : nfL v = x :: r) : ∃ a v', v = a :: v' ∧ a.nf = x ∧ nfL v' = r := by
  cases v with
  | nil => cases h
  | cons a v' => rw [nfL] at h; obtain ⟨h1, h2⟩ := List.cons.inj h; exact ⟨a, v', rfl, h1, h2⟩
theorem nfL_nil {v : List V} (h : nfL v = []) : v = [] := by
  cases v with
  | nil => rfl
  | cons a v' => cases h
theorem map_inj {α β : Type} {f : α → β} (hf : ∀ x y, f x = f y → x = y) {l m : List α} (h : l.map f = m.map f) : l = m := (List.map_inj_right hf).1 h
theorem byteV_inj {a b : UInt8} (h : byteV a = byteV b) : a = b := by
  simp only [byteV, V.int.injEq, true_and] at h
  exact UInt8.toNat_inj.1 (by omega)
theorem encB_inj {a b : Bytes} (h : encB a = encB b) : a = b := map_inj (fun _ _ => byteV_inj) h
theorem cleanL_app (a b : List V) : cleanL (a ++ b) = (cleanL a && cleanL b) := by
  induction a with
  | nil => simp
  | cons x a ih => simp [ih, Bool.and_assoc]
theorem append_inj_l {α : Type} {a b c d : List α} (h : a ++ b = c ++ d) (hl : b.length = d.length) : a = c := (List.append_inj' h hl).1
theorem append_inj_r {α : Type} {a b c d : List α} (h : a ++ b = c ++ d) (hl : b.length = d.length) : b = d := (List.append_inj' h hl).2

/-! rows of bytes of one length -/
def Arr (n : Nat) : Type := { l : Bytes // l.length = n }
instance (n : Nat) : DecidableEq (Arr n) := fun a b => if h : a.1 = b.1 then isTrue (Subtype.ext h) else isFalse fun e => h (by rw [e])
theorem Arr.h {n : Nat} (a : Arr n) : a.1.length = n := a.2
theorem Arr.ext {n : Nat} {a b : Arr n} (h : a.1 = b.1) : a = b := Subtype.ext h
def Arr.zero (n : Nat) : Arr n := ⟨List.replicate n 0, by simp⟩
def Arr.set {n : Nat} (a : Arr n) (i : Int) (b : UInt8) : Arr n := ⟨a.1.set i.toNat b, by simp [a.2]⟩
theorem encB_zero (n : Nat) : encB (List.replicate n 0) = List.replicate n (.int .u8 0) := by simp [encB, byteV]
theorem nf_repl (n : Nat) : nfL (repl n (.int .u8 0)) = List.replicate n (.int .u8 0) := by rw [nfL_map]; simp [repl, V.nf]
theorem nf_zero (n : Nat) : nfL (repl n (.int .u8 0)) = encB (Arr.zero n).1 := by rw [nf_repl]; simp [Arr.zero, encB_zero]
def toArr (n : Nat) (b : Bytes) : Option (Arr n) := if h : b.length = n then some ⟨b, h⟩ else none
theorem toArr_eq {n : Nat} {b : Bytes} {a : Arr n} (h : toArr n b = some a) : a.1 = b := by
  unfold toArr at h; split at h
  · cases h; rfl
  · cases h
theorem toArr_len {n : Nat} {b : Bytes} {a : Arr n} (h : toArr n b = some a) : b.length = n := by rw [← toArr_eq h]; exact a.2
theorem toArr_le {n : Nat} {b : Bytes} {a : Arr n} (h : toArr n b = some a) : n ≤ b.length := by rw [toArr_len h]; exact Nat.le_refl _
theorem toArr_ne {n : Nat} {b : Bytes} {a : Arr n} (h : toArr n b = some a) (hn : n ≠ 0) : b ≠ [] := by
  rintro rfl; exact hn (toArr_len h).symm
def inR (n : Nat) (i : Int) : Option Unit := if 0 ≤ i ∧ i < n then some () else none
theorem inR_ok {n : Nat} {i : Int} {u : Unit} (h : inR n i = some u) : 0 ≤ i ∧ i < n := by
  unfold inR at h; split at h
  · assumption
  · cases h
theorem set_ok {n : Nat} {i : Int} {a : Arr n} {v : V} (h : 0 ≤ i ∧ i < n) (hv : v.sc = true := by rfl) : ([v] : List V).length = 1 ∧ ([v] : List V).all V.sc = true ∧ 0 + i.toNat * 1 + 1 ≤ (encB a.1).length := by
  refine ⟨rfl, by simp [hv], ?_⟩
  rw [encB_length, a.2]; omega
theorem set_arr {n : Nat} {i : Int} {a : Arr n} {b : UInt8} (h : 0 ≤ i ∧ i < n) : setAt (encB a.1) (0 + i.toNat * 1) [V.int .u8 ((b : UInt8).toNat : Int)] = encB (a.set i b).1 := by
  have hl : i.toNat < a.1.length := by rw [a.2]; omega
  have : 0 + i.toNat * 1 = i.toNat := by omega
  rw [this]
  simp only [setAt, Arr.set, encB]
  refine List.ext_getElem? fun j => ?_
  rw [List.getElem?_map, List.getElem?_set]
  by_cases h1 : j < i.toNat
  · rw [List.getElem?_append_left (by simp; omega), List.getElem?_append_left (by simp; omega), List.getElem?_take, if_pos h1, if_neg (by omega), List.getElem?_map]
  · by_cases h2 : j = i.toNat
    · subst h2
      rw [List.getElem?_append_left (by simp; omega), List.getElem?_append_right (by simp; omega)]
      simp [hl, byteV, Nat.min_eq_left (Nat.le_of_lt hl)]
    · rw [if_neg (by omega), List.getElem?_append_right (by simp; omega)]
      simp only [List.length_append, List.length_take, List.length_map, List.length_cons, List.length_nil, Nat.min_eq_left (Nat.le_of_lt hl), List.getElem?_drop, List.getElem?_map]
      congr 2; omega

/-! lengths -/
theorem enc_len {n : Nat} (a : Arr n) : (encB a.1).length = n := by rw [encB_length, a.2]
theorem encB_sc (l : Bytes) : (encB l).all V.sc = true := by simp
theorem len_app {a b : List V} {n m : Nat} (h : a.length = n) (k : b.length = m) : (a ++ b).length = n + m := by rw [List.length_append, h, k]
theorem sc_app {a b : List V} (h : a.all V.sc = true) (k : b.all V.sc = true) : (a ++ b).all V.sc = true := by rw [List.all_append, h, k]; rfl
theorem clean_app {a b : List V} (h : cleanL a = true) (k : cleanL b = true) : cleanL (a ++ b) = true := by rw [cleanL_app, h, k]; rfl
theorem le_len {l : List V} {n x : Nat} (h : l.length = n) (k : x ≤ n) : x ≤ l.length := by rw [h]; exact k
theorem lt_len {l : List V} {n x : Nat} (h : l.length = n) (k : x < n) : x < l.length := by rw [h]; exact k
/-! cells -/
theorem ld_all {l : List V} {n : Nat} (h : l.length = n) : ldCells (some n) l 0 = some (.agg l) := ldCells_full h
theorem ld_arr {n : Nat} (a : Arr n) : ldCells (some n) (encB a.1) 0 = some (.agg (encB a.1)) := ldCells_full (by rw [encB_length, a.2])
theorem ld_left {n : Option Nat} {a b : List V} {o : Nat} (h : o + n.getD 1 ≤ a.length) : ldCells n (a ++ b) o = ldCells n a o := by
  cases n with
  | none => simp only [Option.getD_none] at h; rw [ldCells_none, ldCells_none, List.getElem?_append_left (by omega)]
  | some k =>
    simp only [Option.getD_some] at h
    rw [ldCells_some, ldCells_some, if_pos (by simp; omega), if_pos h, List.drop_append_of_le_length (by omega), List.take_append_of_le_length (by simp; omega)]
theorem ld_right {n : Option Nat} {a b : List V} {o : Nat} (k : Nat) (h : a.length = k) (ho : k ≤ o := by decide) : ldCells n (a ++ b) o = ldCells n b (o - k) := by
  subst h
  cases n with
  | none => rw [ldCells_none, ldCells_none, List.getElem?_append_right ho]
  | some m =>
    rw [ldCells_some, ldCells_some, List.drop_append, List.drop_eq_nil_of_le ho]
    simp only [List.length_append, List.nil_append]
    by_cases hc : o - a.length + m ≤ b.length
    · rw [if_pos hc, if_pos (by omega)]
    · rw [if_neg hc, if_neg (by omega)]
theorem ld_get {l : List V} {o : Nat} {y : V} (h : ldCells none l o = some y) : l[o]? = some y := h
theorem ld_le {n : Nat} {l m : List V} {o : Nat} (h : ldCells (some n) l o = some (.agg m)) : o + n ≤ l.length := by
  rw [ldCells_some] at h; split at h
  · assumption
  · cases h
theorem ld_take {n : Nat} {l : List V} {b : Bytes} {o : Nat} (h : ldCells (some n) l o = some (.agg (encB b))) : (l.drop o).take n = b.map byteV := by
  rw [ldCells_some] at h; split at h
  · injection h with h; injection h
  · cases h
theorem set_left {a b y : List V} {o : Nat} (h : o + y.length ≤ a.length) : setAt (a ++ b) o y = setAt a o y ++ b := by
  simp only [setAt]
  rw [List.take_append_of_le_length (by omega), List.drop_append_of_le_length (by omega)]; simp
theorem set_right {a b y : List V} {o : Nat} (k : Nat) (h : a.length = k) (ho : k ≤ o := by decide) : setAt (a ++ b) o y = a ++ setAt b (o - k) y := by
  subst h
  simp only [setAt]
  rw [List.take_append, List.take_of_length_le ho, List.drop_append, List.drop_eq_nil_of_le (by omega)]
  simp only [List.append_assoc, List.nil_append]
  rw [show o + y.length - a.length = o - a.length + y.length by omega]
theorem fill_step {l l' q : List V} {o n : Nat} {v : V} {r : List (Nat × Nat × V)} (h : setAt l o v.cells = l') (hc : v.cells.length = n ∧ v.cells.all V.sc = true ∧ o + n ≤ l.length) (k : fillV l' r = some q) : fillV l ((o, n, v) :: r) = some q := by
  rw [fillV_cons, if_pos hc, h]; exact k
theorem fill_nil {l : List V} : fillV l [] = some l := rfl
theorem fill_from {z l q : List V} {ws : List (Nat × Nat × V)} (h : nfL z = l) (k : fillV l ws = some q) : fillV (nfL z) ws = some q := by rw [h]; exact k
theorem fits_map {α : Type} {E : α → V} {sz : Nat} (h : ∀ x, (E x).cells.length = sz ∧ (E x).cells.all V.sc = true) : ∀ l : List α, fits sz (l.map E) = true
  | [] => rfl
  | x :: r => by
    simp only [List.map_cons, fits_cons, fits_map h r, (h x).1, (h x).2, BEq.rfl, Bool.and_self]

/-! the right to append -/
theorem own_ow {s : St} {f : Pos → Bool} {t u : Nat} (hf : ∀ p, p ≠ .slot t → f p = s.own p) (h : OwnS s u) (hne : u ≠ t) : Own (s.tm u) (f (.slot u)) := by
  rw [hf _ (by simpa using hne)]; exact h
theorem ownC_ow {s : St} {f : Pos → Bool} {t i j : Nat} (hf : ∀ p, p ≠ .slot t → f p = s.own p) (h : OwnC s i j) : OwnC (ow s f) i j := fun cs v h1 h2 => by
  show Own v (f _)
  rw [hf _ (by simp)]; exact h cs v h1 h2
theorem ownC_new {s : St} {cs : List V} {i j : Nat} (hi : i < s.nH) (h : OwnC s i j) : OwnC (s.new cs) i j := fun c v h1 h2 => by
  rw [hCells_new, if_neg (by omega)] at h1
  rw [new_ownc, if_neg (by omega)]; exact h c v h1 h2
theorem ownC_nil {s : St} {cs : List V} {i j sz : Nat} (hi : i = s.nH) (h : cs[j]? = some (.sl true sz [])) : OwnC (s.new cs) i j := fun c v h1 h2 => by
  rw [hCells_new, if_pos hi] at h1
  cases h1
  rw [h] at h2; cases h2
  exact .inr ⟨sz, rfl⟩
theorem ownC_take {s : St} {id i j o : Nat} (hi : id ≠ i ∨ j ≠ o) (h : OwnC s id j) : OwnC (s.take (some (.cell i o))) id j := fun c v h1 h2 => by
  rw [take_own, if_neg (by simp; omega)]; exact h c v h1 h2
theorem ownC_setObo {s : St} {id i j : Nat} {cs ys : List V} {o : Nat} (hi : id ≠ i) (h : OwnC s id j) : OwnC (s.setOb i cs o ys) id j := fun c v h1 h2 => by
  rw [hCells_setOb, if_neg hi] at h1
  rw [setOb_ownc, if_neg (by omega)]; exact h c v h1 h2
theorem ownC_stoObo {s : St} {id i j : Nat} {cs : List V} {o t : Nat} (hi : id ≠ i) (h : OwnC s id j) : OwnC (s.stoOb i cs o t) id j := fun c v h1 h2 => by
  rw [hCells_stoOb, if_neg hi] at h1
  rw [stoOb_ownc, if_neg (by omega)]; exact h c v h1 h2
theorem ownC_stoOb {s : St} {i j : Nat} {cs : List V} {o t : Nat} (hcs : hCells s.H i = some cs) (hj : j ≠ o) (ho : o < cs.length) (h : OwnC s i j) : OwnC (s.stoOb i cs o t) i j := fun c v h1 h2 => by
  rw [hCells_stoOb, if_pos rfl] at h1
  cases h1
  rw [stoOb_ownc, if_neg (by omega)]
  refine h cs v hcs ?_
  rw [← h2]
  simp only [setAt]
  rcases Nat.lt_or_gt_of_ne hj with hj | hj
  · rw [List.getElem?_append_left (by simp; omega), List.getElem?_append_left (by simp; omega), List.getElem?_take, if_pos hj]
  · rw [List.getElem?_append_right (by simp; omega)]
    simp only [List.length_append, List.length_take, List.length_cons, List.length_nil, Nat.min_eq_left (Nat.le_of_lt ho), List.getElem?_drop]
    congr 1; omega
theorem cs_len {s : St} {i : Nat} {cs l : List V} (hcs : hCells s.H i = some cs) (hc : Cells s i l) : cs.length = l.length := by
  obtain ⟨c, h1, rfl⟩ := hc
  rw [hcs] at h1; cases h1; simp
theorem cs_le {s : St} {i o : Nat} {cs l : List V} (hcs : hCells s.H i = some cs) (hc : Cells s i l) (h : o ≤ l.length) : o ≤ cs.length := by rw [cs_len hcs hc]; exact h
theorem cs_lt {s : St} {i o : Nat} {cs l : List V} (hcs : hCells s.H i = some cs) (hc : Cells s i l) (h : o < l.length) : o < cs.length := by rw [cs_len hcs hc]; exact h

/-! values -/
section
variable {q : EqK} {a b : UInt8} {s t : Bytes} {x y : Bool}
theorem u8_i (a b : UInt8) : ((a.toNat : Int) = b.toNat) = (a = b) := propext ⟨fun h => UInt8.toNat_inj.1 (by omega), fun h => by rw [h]⟩
theorem u8_eql : abin .eql q (.int .u8 a.toNat) (.int .u8 b.toNat) = some (.bool (decide (a = b))) := by rw [b_eql]; simp only [u8_i]
theorem u8_neq : abin .neq q (.int .u8 a.toNat) (.int .u8 b.toNat) = some (.bool (!decide (a = b))) := by rw [b_neq]; simp only [u8_i]
theorem u8_l (a b : UInt8) : ((a.toNat : Int) < b.toNat) = (a < b) := propext ⟨fun h => UInt8.lt_iff_toNat_lt.2 (by omega), fun h => by have := UInt8.lt_iff_toNat_lt.1 h; omega⟩
theorem u8_le (a b : UInt8) : ((a.toNat : Int) ≤ b.toNat) = (a ≤ b) := propext ⟨fun h => UInt8.le_iff_toNat_le.2 (by omega), fun h => by have := UInt8.le_iff_toNat_le.1 h; omega⟩
theorem u8_lss : abin .lss q (.int .u8 a.toNat) (.int .u8 b.toNat) = some (.bool (decide (a < b))) := by rw [b_lss]; simp only [u8_l]
theorem u8_leq : abin .leq q (.int .u8 a.toNat) (.int .u8 b.toNat) = some (.bool (decide (a ≤ b))) := by rw [b_leq]; simp only [u8_le]
theorem u8_gtr : abin .gtr q (.int .u8 a.toNat) (.int .u8 b.toNat) = some (.bool (decide (b < a))) := by rw [b_gtr]; simp only [u8_l]
theorem u8_geq : abin .geq q (.int .u8 a.toNat) (.int .u8 b.toNat) = some (.bool (decide (b ≤ a))) := by rw [b_geq]; simp only [u8_le]
theorem s_leq2 : abin .leq q (.str s) (.str t) = some (.bool (!Op.bytesLess t s)) := by
  show some (V.bool (Op.bytesLess s t || decide (s = t))) = _
  rw [← less_gtr s t]; simp
theorem bool_eql : abin .eql .bool (.bool x) (.bool y) = some (.bool (x == y)) := rfl
theorem bool_neq : abin .neq .bool (.bool x) (.bool y) = some (.bool (!(x == y))) := rfl
def imax (a b : Int) : Int := if a < b then b else a
def imin (a b : Int) : Int := if b < a then b else a
theorem vMnx_max (k : IntKind) (a b : Int) : vMnx true (.int k a) (.int k b) = some (.int k (imax a b)) := by simp [vMnx, imax]
theorem vMnx_min (k : IntKind) (a b : Int) : vMnx false (.int k a) (.int k b) = some (.int k (imin a b)) := by simp [vMnx, imin]
def cat (s t : Bytes) : Option Bytes := if s.length + t.length ≤ 4611686018427387904 then some (s ++ t) else none
def mkOk (n : Int) : Option Unit := if 0 ≤ n ∧ n ≤ Lim then some () else none
theorem mk_ok {n : Int} {u : Unit} (h : mkOk n = some u) : 0 ≤ n ∧ n ≤ Lim := by
  unfold mkOk at h; split at h
  · assumption
  · cases h
theorem flatEq_len : ∀ {ks : List (Option IntKind × Bool)} {a b : List V} {p : Bool}, flatEq ks a b = some p → a.length = ks.length ∧ b.length = ks.length
  | [], [], [], _, _ => ⟨rfl, rfl⟩
  | k :: ks, x :: xs, y :: ys, p, h => by
    simp only [flatEq, Option.bind_eq_some_iff, Option.map_eq_some_iff] at h
    obtain ⟨_, _, _, h, _⟩ := h
    obtain ⟨h1, h2⟩ := flatEq_len h
    exact ⟨by simp [h1], by simp [h2]⟩
  | [], [], _ :: _, _, h => by simp [flatEq] at h
  | [], _ :: _, _, _, h => by simp [flatEq] at h
  | _ :: _, [], _, _, h => by simp [flatEq] at h
  | _ :: _, _ :: _, [], _, h => by simp [flatEq] at h
theorem flatEq_app : ∀ {k1 k2 : List (Option IntKind × Bool)} {a1 a2 b1 b2 : List V} {p r : Bool}, flatEq k1 a1 b1 = some p → flatEq k2 a2 b2 = some r → flatEq (k1 ++ k2) (a1 ++ a2) (b1 ++ b2) = some (p && r)
  | [], k2, [], a2, [], b2, p, r, h1, h2 => by simp [flatEq] at h1; subst h1; simpa using h2
  | k :: k1, k2, x :: a1, a2, y :: b1, b2, p, r, h1, h2 => by
    simp only [flatEq, Option.bind_eq_some_iff, Option.map_eq_some_iff] at h1
    obtain ⟨u, hu, w, hw, rfl⟩ := h1
    simp only [List.cons_append, flatEq, hu, flatEq_app hw h2, Option.bind_some, Option.map_some, Bool.and_assoc]
  | [], _, [], _, _ :: _, _, _, _, h, _ => by simp [flatEq] at h
  | [], _, _ :: _, _, _, _, _, _, h, _ => by simp [flatEq] at h
  | _ :: _, _, [], _, _, _, _, _, h, _ => by simp [flatEq] at h
  | _ :: _, _, _ :: _, _, [], _, _, _, h, _ => by simp [flatEq] at h
theorem flatEq_arr {n : Nat} (u : Bool) (a b : Arr n) : flatEq (repl n (some .u8, u)) (encB a.1) (encB b.1) = some (decide (a = b)) := by
  rw [flatEq_bytes u a.2 b.2]
  congr 1
  by_cases h : a = b
  · subst h; simp
  · have : a.1 ≠ b.1 := fun e => h (Subtype.ext e)
    simp [h, this]
theorem flatEq_int1 {k : IntKind} {u : Bool} (a b : Int) : flatEq [(some k, u)] [.int k a] [.int k b] = some (decide (a = b)) := by simp
theorem flatEq_u81 {u : Bool} (a b : UInt8) : flatEq [(some .u8, u)] [.int .u8 a.toNat] [.int .u8 b.toNat] = some (decide (a = b)) := by
  rw [flatEq_step, kdEq_int]; simp only [u8_i]; simp [flatEq]
theorem flatEq_str1 (a b : Bytes) : flatEq [(none, true)] [.str a] [.str b] = some (decide (a = b)) := by simp
theorem flatEq_bool1 (a b : Bool) : flatEq [(none, false)] [.bool a] [.bool b] = some (decide (a = b)) := by simp; cases a <;> cases b <;> rfl
theorem kdEq_nf {k : Option IntKind × Bool} {x y : V} {p : Bool} (h : kdEq k x.nf y.nf = some p) : kdEq k x y = some p := by
  obtain ⟨k, u⟩ := k
  cases k with
  | some k =>
    cases hx : x.nf <;> rw [hx] at h <;> cases hy : y.nf <;> rw [hy] at h <;> simp [kdEq] at h
    rw [nf_int hx, nf_int hy]; simp [kdEq, h]
  | none =>
    cases u with
    | true =>
      cases hx : x.nf <;> rw [hx] at h <;> cases hy : y.nf <;> rw [hy] at h <;> simp [kdEq] at h
      rw [nf_str hx, nf_str hy]; simp [kdEq, h]
    | false =>
      cases hx : x.nf <;> rw [hx] at h <;> cases hy : y.nf <;> rw [hy] at h <;> simp [kdEq] at h
      rw [nf_bool hx, nf_bool hy]; simp [kdEq, h]
theorem flatEq_nf : ∀ {ks : List (Option IntKind × Bool)} {a b : List V} {p : Bool}, flatEq ks (nfL a) (nfL b) = some p → flatEq ks a b = some p
  | [], [], [], _, h => h
  | k :: ks, x :: xs, y :: ys, p, h => by
    simp only [nfL, flatEq, Option.bind_eq_some_iff, Option.map_eq_some_iff] at h
    obtain ⟨u, hu, w, hw, rfl⟩ := h
    simp only [flatEq, kdEq_nf hu, flatEq_nf hw, Option.bind_some, Option.map_some]
  | [], [], _ :: _, _, h => by simp [nfL, flatEq] at h
  | [], _ :: _, _, _, h => by simp [nfL, flatEq] at h
  | _ :: _, [], _, _, h => by simp [nfL, flatEq] at h
  | _ :: _, _ :: _, [], _, h => by simp [nfL, flatEq] at h
end
section
variable {Γ : Abs.Spec} {gl : Glob} {K : St → Prop} {s : St} {d : Option Nat} {r : List AOper} {af : List Nat}
theorem x_feq {ks : List (Option IntKind × Bool)} {x y : Opd} {a b : List V} {p : Bool} (hx : (evO s.tm x).nf = .agg a) (hy : (evO s.tm y).nf = .agg b) (h : flatEq ks a b = some p) (k : runs Γ gl r K (s.put d (.bool p) false)) : runs Γ gl (⟨d, .bin .eql (.flat ks) x y, none, af⟩ :: r) K s := by
  obtain ⟨xs, hx', rfl⟩ := nf_agg hx
  obtain ⟨ys, hy', rfl⟩ := nf_agg hy
  exact x_bin hx' hy' (by rw [fl_eql, flatEq_nf h]; rfl) k
theorem x_fne {ks : List (Option IntKind × Bool)} {x y : Opd} {a b : List V} {p : Bool} (hx : (evO s.tm x).nf = .agg a) (hy : (evO s.tm y).nf = .agg b) (h : flatEq ks a b = some p) (k : runs Γ gl r K (s.put d (.bool (!p)) false)) : runs Γ gl (⟨d, .bin .neq (.flat ks) x y, none, af⟩ :: r) K s := by
  obtain ⟨xs, hx', rfl⟩ := nf_agg hx
  obtain ⟨ys, hy', rfl⟩ := nf_agg hy
  exact x_bin hx' hy' (by rw [fl_neq, flatEq_nf h]; rfl) k
theorem x_cat {q : EqK} {x y : Opd} {a b z : Bytes} (hx : evO s.tm x = .str a) (hy : evO s.tm y = .str b) (hz : cat a b = some z) (k : runs Γ gl r K (s.put d (.str z) false)) : runs Γ gl (⟨d, .bin .add q x y, none, af⟩ :: r) K s := by
  unfold cat at hz
  split at hz
  · rename_i h
    cases hz
    exact x_bin hx hy (by rw [s_add, if_pos h]) k
  · cases hz
theorem wrap_byte {kd : IntKind} (h : kd ≠ .i8) (n : Int) (hn : 0 ≤ n ∧ n < 256) : kd.wrap n = n := by
  cases kd <;> simp [IntKind.wrap, IntKind.signed, IntKind.bits] at h ⊢ <;> omega
theorem x_i2i_u8 {kd : IntKind} {x : Opd} {b : UInt8} (hx : evO s.tm x = .int .u8 b.toNat) (hk : ∀ n : Int, 0 ≤ n ∧ n < 256 → kd.wrap n = n) (k : runs Γ gl r K (s.put d (.int kd b.toNat) false)) : runs Γ gl (⟨d, .i2i kd x, none, af⟩ :: r) K s := by
  refine x_i2i hx ?_
  rw [hk _ ⟨by omega, by have := b.toNat_lt; omega⟩]; exact k
end
def shlI (k : IntKind) (a b : Int) : Option Int := if b < 0 then none else some (k.wrap (a * 2 ^ (min b.toNat k.bits)))
def shrI (k : IntKind) (a b : Int) : Option Int := if b < 0 then none else some (a.fdiv (2 ^ (min b.toNat k.bits)))
def andI (k : IntKind) (a b : Int) : Int := k.wrap (BitVec.ofInt k.bits a &&& BitVec.ofInt k.bits b).toNat
def orI (k : IntKind) (a b : Int) : Int := k.wrap (BitVec.ofInt k.bits a ||| BitVec.ofInt k.bits b).toNat
def xorI (k : IntKind) (a b : Int) : Int := k.wrap (BitVec.ofInt k.bits a ^^^ BitVec.ofInt k.bits b).toNat
def u8of (n : Int) : UInt8 := UInt8.ofNat (n % 256).toNat
theorem u8of_int (n : Int) : ((u8of n).toNat : Int) = IntKind.wrap .u8 n := by
  have h : (n % 256).toNat < 256 := by omega
  unfold u8of
  rw [UInt8.toNat_ofNat_of_lt' h]
  simp only [IntKind.wrap, IntKind.signed, IntKind.bits]
  simp; omega
section
variable {Γ : Abs.Spec} {gl : Glob} {K : St → Prop} {s : St} {d : Option Nat} {r : List AOper} {af : List Nat} {q : EqK} {k : IntKind} {a b : Int}
theorem b_and : abin .and q (.int k a) (.int k b) = some (.int k (andI k a b)) := by simp [abin, aint, andI]
theorem b_or : abin .or q (.int k a) (.int k b) = some (.int k (orI k a b)) := by simp [abin, aint, orI]
theorem b_xor : abin .xor q (.int k a) (.int k b) = some (.int k (xorI k a b)) := by simp [abin, aint, xorI]
theorem x_shl {x y : Opd} {ke : IntKind} {z : Int} (hx : evO s.tm x = .int k a) (hy : evO s.tm y = .int ke b) (hz : shlI k a b = some z) (kk : runs Γ gl r K (s.put d (.int k z) false)) : runs Γ gl (⟨d, .bin .shl q x y, none, af⟩ :: r) K s := by
  unfold shlI at hz
  split at hz
  · cases hz
  · rename_i h
    cases hz
    exact x_bin hx hy (by simp [abin, h]) kk
theorem x_shr {x y : Opd} {ke : IntKind} {z : Int} (hx : evO s.tm x = .int k a) (hy : evO s.tm y = .int ke b) (hz : shrI k a b = some z) (kk : runs Γ gl r K (s.put d (.int k z) false)) : runs Γ gl (⟨d, .bin .shr q x y, none, af⟩ :: r) K s := by
  unfold shrI at hz
  split at hz
  · cases hz
  · rename_i h
    cases hz
    exact x_bin hx hy (by simp [abin, h]) kk
theorem x_i2u8 {ke : IntKind} {x : Opd} {n : Int} (hx : evO s.tm x = .int ke n) (kk : runs Γ gl r K (s.put d (.int .u8 ((u8of n).toNat : Int)) false)) : runs Γ gl (⟨d, .i2i .u8 x, none, af⟩ :: r) K s := by
  refine x_i2i hx ?_
  rw [← u8of_int]; exact kk
end
def CallsX (Γ : Abs.Spec) (c : FC) : Prop := ∀ args y, c.rel (nfL args) y → ∃ v o, Γ c.f args = some (v, o) ∧ v.nf = y ∧ (c.own = true → Own v o)
theorem specOf_calls {cx : Cx} {cs : List FC} {c : FC} (hc : c.Holds cx) (hf : ∀ avs y, c.rel avs y → cs.find? (fun d => d.f == c.f && d.mt avs) = some c) : CallsX (specOf cx cs) c :=
  fun args y hr => specOf_eq hc (hf _ _ hr) hr
section
variable {Γ : Abs.Spec} {gl : Glob} {K : St → Prop} {s : St} {d : Option Nat} {r : List AOper} {af : List Nat} {α β : Type} {f : Nat} {mt : List V → Bool} {own : Bool} {ea : α → List V} {eb : β → V} {g : α → Option β} {h1 : ∀ a, cleanL (ea a) = true} {h2 : ∀ b, (eb b).clean = true} {h3 : ∀ a b, ea a = ea b → a = b}
theorem x_callF (hC : CallsX Γ (fc f mt own ea eb g h1 h2 h3)) {xs : List Opd} {a : α} {x : β} (hx : xs.map (fun x => (evO s.tm x).nf) = ea a) (hg : g a = some x)
    (k : ∀ v o, v.nf = eb x → (own = true → Own v o) → runs Γ gl r K (s.put d v o)) : runs Γ gl (⟨d, .call f xs, none, af⟩ :: r) K s :=
  x_call (own := own) hx (fun args ha => hC args _ ⟨a, x, ha, hg, rfl⟩) k
theorem x_callvF (hC : CallsX Γ (fc f mt own ea eb g h1 h2 h3)) {F : Opd} {cs : List V} {xs : List Opd} {a : α} {x : β} (hF : (evO s.tm F).nf = .fn f cs) (hx : xs.map (fun x => (evO s.tm x).nf) ++ cs = ea a) (hg : g a = some x)
    (k : ∀ v o, v.nf = eb x → (own = true → Own v o) → runs Γ gl r K (s.put d v o)) : runs Γ gl (⟨d, .callv F xs, none, af⟩ :: r) K s :=
  x_callv (own := own) hF hx (fun args ha => hC args _ ⟨a, x, ha, hg, rfl⟩) k
end
def isFn (f : Nat) : Option V → Bool
  | some (.fn g _) => g == f
  | _ => false
def RV (s : St) (r : RS) (y : V) : Prop := ∃ p, rv s r = some p ∧ p.1.nf = y
theorem rv_t {s : St} {t : Nat} {y : V} (h : (s.tm t).nf = y) : RV s (.t t) y := ⟨_, rfl, h⟩
theorem rv_c {s : St} {t id o : Nat} {n : Option Nat} {l : List V} {y : V} (hp : s.tm t = .ptr id o) (hc : Cells s id l) (hl : ldCells n l o = some y) : RV s (.c t n) y := by
  obtain ⟨cs, hv, rfl⟩ := hc
  obtain ⟨v, h1, h2⟩ := ldCells_nf hl
  exact ⟨(v, false), by simp [rv, hp, hv, h1], h2⟩
def RVs (s : St) (rs : List RS) (ys : List V) : Prop := ∃ vs, rvs s rs = some vs ∧ nfL vs = ys
theorem rvs_nil {s : St} : RVs s [] [] := ⟨[], rfl, rfl⟩
theorem rvs_cons {s : St} {r : RS} {rs : List RS} {y : V} {ys : List V} (h : RV s r y) (k : RVs s rs ys) : RVs s (r :: rs) (y :: ys) := by
  obtain ⟨p, h1, rfl⟩ := h
  obtain ⟨vs, h2, rfl⟩ := k
  exact ⟨p.1 :: vs, by simp [rvs, h1, h2], rfl⟩
theorem ends_t {t : Nat} {own : Bool} {y : V} {s : St} (h : (s.tm t).nf = y) (ho : own = true → OwnS s t) : EndsX [.t t] own y s := ⟨_, rfl, h, ho⟩
theorem ends_one {r : RS} {y : V} {s : St} (h : RV s r y) : EndsX [r] false y s := by
  obtain ⟨p, h1, h2⟩ := h
  exact ⟨p, h1, h2, fun h => nomatch h⟩
theorem ends_tup {rs : List RS} {s : St} {ys : List V} (h : RVs s rs ys) (hl : rs.length ≠ 1) : EndsX rs false (.tup ys) s := by
  obtain ⟨vs, h1, rfl⟩ := h
  have e : resOf rs s = some (.tup vs, false) := by
    unfold resOf
    split
    · simp at hl
    · rw [h1]; rfl
  exact ⟨_, e, rfl, fun h => nomatch h⟩
#print axioms FC.holds_of
end Go.Abs
