/-
  Abs, part T: how 'simp' runs a plain code, from its head on. Own work of this seat.
-/
import Derived.Test.YtainplhaaklpeaaDoorAbsS
import Derived.IntWalk
namespace Go.Abs
open Go.RowKit

/-- many of one (a word that 'simp' does not unfold) -/
def repl {α : Type} (n : Nat) (x : α) : List α := List.replicate n x
@[simp] theorem repl_length {α : Type} (n : Nat) (x : α) : (repl n x).length = n := by simp [repl]
@[simp] theorem mem_repl {α : Type} (n : Nat) (x y : α) : (y ∈ repl n x) = (n ≠ 0 ∧ y = x) := by simp [repl]

abbrev Glob := Nat → Option (List V)

def runs (Γ : Abs.Spec) (gl : Glob) : List AOper → (St → Prop) → St → Prop
  | [], K, st => K st
  | o :: r, K, st => someP (exec Γ gl o st) (runs Γ gl r K)

theorem runs_eq {Γ : Abs.Spec} {gl : Glob} : ∀ {os : List AOper} {st : St} {K : St → Prop}, someP (execs Γ gl os st) K = runs Γ gl os K st
  | [], _, _ => rfl
  | o :: r, st, K => by
    simp only [execs, runs]
    cases exec Γ gl o st with
    | none => rfl
    | some s => exact runs_eq

def blockQ (i : Nat) (Q : Ex → St → Prop) (e : Ex) (s : St) : Prop := Q (e.inBlock i) s
def condA (v : V) (Γ : Abs.Spec) (gl : Glob) (a b : ACode) (Q : Ex → St → Prop) (st : St) : Prop := condP v (awp Γ gl a Q st) (awp Γ gl b Q st)

variable {Γ : Abs.Spec} {gl : Glob} {Q : Ex → St → Prop} {st : St}
@[simp] theorem someP_some (s : St) (p : St → Prop) : someP (some s) p = p s := (rfl)
section
variable {a b : ACode}
@[simp] theorem condA_true : condA (.bool true) Γ gl a b Q st = awp Γ gl a Q st := (rfl)
@[simp] theorem condA_false : condA (.bool false) Γ gl a b Q st = awp Γ gl b Q st := (rfl)
theorem condA_bool {c : Bool} (h1 : c = true → awp Γ gl a Q st) (h2 : c = false → awp Γ gl b Q st) : condA (.bool c) Γ gl a b Q st := by
  cases c
  · exact h2 rfl
  · exact h1 rfl
theorem condA_dec {P : Prop} [Decidable P] (h1 : P → awp Γ gl a Q st) (h2 : ¬ P → awp Γ gl b Q st) : condA (.bool (decide P)) Γ gl a b Q st := by
  by_cases h : P
  · simpa [h] using h1 h
  · simpa [h] using h2 h
theorem condA_ndec {P : Prop} [Decidable P] (h1 : ¬ P → awp Γ gl a Q st) (h2 : P → awp Γ gl b Q st) : condA (.bool (!decide P)) Γ gl a b Q st := by
  by_cases h : P
  · simpa [h] using h2 h
  · simpa [h] using h1 h
end
@[simp] theorem thenQ_normal (K : St → Prop) (Q : Ex → St → Prop) (s : St) : thenQ K Q .normal s = K s := (rfl)
@[simp] theorem thenQ_exit (K : St → Prop) (Q : Ex → St → Prop) (i : Nat) (s : St) : thenQ K Q (.exit i) s = Q (.exit i) s := (rfl)
@[simp] theorem thenQ_ret (K : St → Prop) (Q : Ex → St → Prop) (s : St) : thenQ K Q .ret s = Q .ret s := (rfl)
@[simp] theorem blockQ_normal (i : Nat) (Q : Ex → St → Prop) (s : St) : blockQ i Q .normal s = Q .normal s := (rfl)
@[simp] theorem blockQ_ret (i : Nat) (Q : Ex → St → Prop) (s : St) : blockQ i Q .ret s = Q .ret s := (rfl)
@[simp] theorem blockQ_exit (i j : Nat) (Q : Ex → St → Prop) (s : St) : blockQ i Q (.exit j) s = if j = i then Q .normal s else Q (.exit j) s := by
  simp only [blockQ, Ex.inBlock]; split <;> rfl

@[simp] theorem awp_skip : awp Γ gl .skip Q st = Q .normal st := (rfl)
@[simp] theorem awp_region (os : List AOper) (d : Bool) : awp Γ gl (.region os d) Q st = runs Γ gl os (Q .normal) st := by rw [← runs_eq]; rfl
@[simp] theorem awp_seq (a b : ACode) : awp Γ gl (.seq a b) Q st = awp Γ gl a (thenQ (awp Γ gl b Q) Q) st := (rfl)
@[simp] theorem awp_cond (c : Opd) (a b : ACode) : awp Γ gl (.cond c a b) Q st = condA (evO st.tm c) Γ gl a b Q st := (rfl)
@[simp] theorem awp_block (i : Nat) (b : ACode) : awp Γ gl (.block i b) Q st = awp Γ gl b (blockQ i Q) st := (rfl)
@[simp] theorem awp_exit (i : Nat) : awp Γ gl (.exit i) Q st = Q (.exit i) st := (rfl)
@[simp] theorem awp_ret : awp Γ gl .ret Q st = Q .ret st := (rfl)
@[simp] theorem runs_nil (K : St → Prop) : runs Γ gl [] K st = K st := (rfl)
@[simp] theorem runs_cons (o : AOper) (r : List AOper) (K : St → Prop) : runs Γ gl (o :: r) K st = someP (exec Γ gl o st) (runs Γ gl r K) := (rfl)

/-! ## the state -/
@[simp] theorem evO_tmp (tm : Nat → V) (t : Nat) : evO tm (.tmp t) = tm t := (rfl)
@[simp] theorem evO_const (tm : Nat → V) (v : V) : evO tm (.const v) = v := (rfl)
@[simp] theorem put_none (v : V) (o : Bool) : st.put none v o = st := (rfl)
@[simp] theorem put_tm (d : Nat) (v : V) (o : Bool) (t : Nat) : (st.put (some d) v o).tm t = if t = d then v else st.tm t := (rfl)
@[simp] theorem put_own (d : Nat) (v : V) (o : Bool) (t : Nat) : (st.put (some d) v o).own (.slot t) = if t = d then o else st.own (.slot t) := by simp [St.put, updP]
@[simp] theorem put_ownc (d : Nat) (v : V) (o : Bool) (i j : Nat) : (st.put (some d) v o).own (.cell i j) = st.own (.cell i j) := by simp [St.put, updP]
@[simp] theorem put_H (d : Nat) (v : V) (o : Bool) : (st.put (some d) v o).H = st.H := (rfl)
@[simp] theorem put_nH (d : Nat) (v : V) (o : Bool) : (st.put (some d) v o).nH = st.nH := (rfl)
@[simp] theorem take_none : st.take none = st := (rfl)
@[simp] theorem take_own (p q : Pos) : (st.take (some p)).own q = if q = p then false else st.own q := (rfl)
@[simp] theorem new_tm (cs : List V) : (st.new cs).tm = st.tm := (rfl)
@[simp] theorem new_own (cs : List V) (t : Nat) : (st.new cs).own (.slot t) = st.own (.slot t) := (rfl)
@[simp] theorem new_ownc (cs : List V) (i j : Nat) : (st.new cs).own (.cell i j) = if i = st.nH then false else st.own (.cell i j) := (rfl)
@[simp] theorem new_H (cs : List V) (i : Nat) : (st.new cs).H i = if i = st.nH then some (.cells cs) else st.H i := (rfl)
@[simp] theorem new_nH (cs : List V) : (st.new cs).nH = st.nH + 1 := (rfl)
@[simp] theorem setOb_tm (id : Nat) (cs : List V) (off : Nat) (ys : List V) : (st.setOb id cs off ys).tm = st.tm := (rfl)
@[simp] theorem setOb_own (id : Nat) (cs : List V) (off : Nat) (ys : List V) (t : Nat) : (st.setOb id cs off ys).own (.slot t) = st.own (.slot t) := (rfl)
@[simp] theorem setOb_ownc (id : Nat) (cs : List V) (off : Nat) (ys : List V) (i j : Nat) : (st.setOb id cs off ys).own (.cell i j) = if i = id ∧ off ≤ j ∧ j < off + ys.length then false else st.own (.cell i j) := (rfl)
@[simp] theorem setOb_H (id : Nat) (cs : List V) (off : Nat) (ys : List V) (i : Nat) : (st.setOb id cs off ys).H i = if i = id then some (.cells (setAt cs off ys)) else st.H i := (rfl)
@[simp] theorem setOb_nH (id : Nat) (cs : List V) (off : Nat) (ys : List V) : (st.setOb id cs off ys).nH = st.nH := (rfl)
@[simp] theorem stoOb_tm (id : Nat) (cs : List V) (off t : Nat) : (st.stoOb id cs off t).tm = st.tm := (rfl)
@[simp] theorem stoOb_own (id : Nat) (cs : List V) (off t u : Nat) : (st.stoOb id cs off t).own (.slot u) = if u = t then false else st.own (.slot u) := by simp [St.stoOb, updP]
@[simp] theorem stoOb_ownc (id : Nat) (cs : List V) (off t i j : Nat) : (st.stoOb id cs off t).own (.cell i j) = if i = id ∧ j = off then st.own (.slot t) else st.own (.cell i j) := by simp [St.stoOb, updP]
@[simp] theorem stoOb_H (id : Nat) (cs : List V) (off t i : Nat) : (st.stoOb id cs off t).H i = if i = id then some (.cells (setAt cs off [st.tm t])) else st.H i := (rfl)
@[simp] theorem stoOb_nH (id : Nat) (cs : List V) (off t : Nat) : (st.stoOb id cs off t).nH = st.nH := (rfl)
@[simp] theorem init_tm (args : List V) (t : Nat) : (St.init args).tm t = args.getD t Nil := (rfl)
@[simp] theorem init_own (args : List V) (p : Pos) : (St.init args).own p = false := (rfl)
@[simp] theorem init_H (args : List V) (i : Nat) : (St.init args).H i = none := (rfl)
@[simp] theorem init_nH (args : List V) : (St.init args).nH = 0 := (rfl)

/-! ## operations -/
def putV (st : St) (d : Option Nat) (v : Option V) : Option St := v.map fun v => st.put d v false
def putR (st : St) (d : Option Nat) (r : Option Res) : Option St := r.map fun r => (st.take r.tk).put d r.v r.o
@[simp] theorem putV_some (d : Option Nat) (v : V) : putV st d (some v) = some (st.put d v false) := (rfl)
@[simp] theorem putR_some (d : Option Nat) (v : V) (o : Bool) (p : Option Pos) : putR st d (some ⟨v, o, p⟩) = some ((st.take p).put d v o) := (rfl)

variable {d : Option Nat} {g : Option (Nat × Bool)} {a : List Nat}
theorem resV_put (v : Option V) : ((resV v).map fun r => (st.take r.tk).put d r.v r.o) = putV st d v := by cases v <;> rfl

@[simp] theorem exec_none (op : AOp) : exec Γ gl ⟨d, op, none, a⟩ st = exec1 Γ gl ⟨d, op, none, a⟩ st := (rfl)
@[simp] theorem exec_some (op : AOp) (t : Nat) (w : Bool) : exec Γ gl ⟨d, op, some (t, w), a⟩ st = if (match st.tm t with | .bool b => b == w | _ => false) = true then exec1 Γ gl ⟨d, op, some (t, w), a⟩ st else some (st.put d Nil false) := (rfl)
@[simp] theorem e_mv (x : Opd) : exec1 Γ gl ⟨d, .mv x, g, a⟩ st = some (st.put d (evO st.tm x) false) := (rfl)
@[simp] theorem e_mvo (t : Nat) : exec1 Γ gl ⟨d, .mvo t, g, a⟩ st = some ((st.take (some (.slot t))).put d (st.tm t) (st.own (.slot t))) := (rfl)
@[simp] theorem e_pick (c x y : Opd) : exec1 Γ gl ⟨d, .pick c x y, g, a⟩ st = putV st d (vPick (evO st.tm c) (evO st.tm x) (evO st.tm y)) := resV_put _
@[simp] theorem e_ext (t : Opd) (i : Nat) : exec1 Γ gl ⟨d, .ext t i, g, a⟩ st = putV st d (vExt (evO st.tm t) i) := resV_put _
@[simp] theorem e_bin (op : BinOp) (q : EqK) (x y : Opd) : exec1 Γ gl ⟨d, .bin op q x y, g, a⟩ st = putV st d (abin op q (evO st.tm x) (evO st.tm y)) := resV_put _
@[simp] theorem e_un (op : UnOp) (x : Opd) : exec1 Γ gl ⟨d, .un op x, g, a⟩ st = putV st d (aun op (evO st.tm x)) := resV_put _
@[simp] theorem e_len (s : Bool) (x : Opd) : exec1 Γ gl ⟨d, .len s x, g, a⟩ st = putV st d (vLen s (evO st.tm x)) := resV_put _
@[simp] theorem e_mnx (m : Bool) (x y : Opd) : exec1 Γ gl ⟨d, .mnx m x y, g, a⟩ st = putV st d (vMnx m (evO st.tm x) (evO st.tm y)) := resV_put _
@[simp] theorem e_iaddr (sz : Nat) (x i : Opd) : exec1 Γ gl ⟨d, .iaddr sz x i, g, a⟩ st = putV st d (vIaddr sz (evO st.tm x) (evO st.tm i)) := resV_put _
@[simp] theorem e_iarr (n sz : Nat) (x i : Opd) : exec1 Γ gl ⟨d, .iarr n sz x i, g, a⟩ st = putV st d (vIarr n sz (evO st.tm x) (evO st.tm i)) := resV_put _
@[simp] theorem e_faddr (off : Nat) (x : Opd) : exec1 Γ gl ⟨d, .faddr off x, g, a⟩ st = putV st d (vFaddr off (evO st.tm x)) := resV_put _
@[simp] theorem e_load (n : Option Nat) (x : Opd) : exec1 Γ gl ⟨d, .load n x, g, a⟩ st = putV st d (vLoad gl st.H n (evO st.tm x)) := resV_put _
@[simp] theorem e_ldo (x : Opd) : exec1 Γ gl ⟨d, .ldo x, g, a⟩ st = putR st d (vLdo st.H st.own (evO st.tm x)) := (rfl)
@[simp] theorem e_fld (n : Option Nat) (off : Nat) (x : Opd) : exec1 Γ gl ⟨d, .fld n off x, g, a⟩ st = putV st d (vFld n off (evO st.tm x)) := resV_put _
@[simp] theorem e_idx (x i : Opd) : exec1 Γ gl ⟨d, .idx x i, g, a⟩ st = putV st d (vIdx (evO st.tm x) (evO st.tm i)) := resV_put _
@[simp] theorem e_idxa (l sz : Nat) (n : Option Nat) (x i : Opd) : exec1 Γ gl ⟨d, .idxa l sz n x i, g, a⟩ st = putV st d (vIdxa l sz n (evO st.tm x) (evO st.tm i)) := resV_put _
@[simp] theorem e_sls (x : Opd) (lo hi : Option Opd) : exec1 Γ gl ⟨d, .sls x lo hi, g, a⟩ st = putV st d (vSls (evO st.tm x) (lo.map (evO st.tm)) (hi.map (evO st.tm))) := resV_put _
@[simp] theorem e_slc (sz : Nat) (x : Opd) (lo hi mx : Option Opd) : exec1 Γ gl ⟨d, .slc sz x lo hi mx, g, a⟩ st = putR st d (vSlc sz (evO st.tm x) (lo.map (evO st.tm)) (hi.map (evO st.tm)) (mx.map (evO st.tm))) := (rfl)
@[simp] theorem e_slca (n sz : Nat) (x : Opd) (lo hi mx : Option Opd) : exec1 Γ gl ⟨d, .slca n sz x lo hi mx, g, a⟩ st = putV st d (vSlca n sz (evO st.tm x) (lo.map (evO st.tm)) (hi.map (evO st.tm)) (mx.map (evO st.tm))) := resV_put _
@[simp] theorem e_build (z : List V) (ps : List (Nat × Nat × Opd)) : exec1 Γ gl ⟨d, .build z ps, g, a⟩ st = putV st d ((fillV z (ps.map fun p => (p.1, p.2.1, evO st.tm p.2.2))).map .agg) := resV_put _
@[simp] theorem e_bsl (sz : Nat) (ps : List Opd) : exec1 Γ gl ⟨d, .bsl sz ps, g, a⟩ st = putR st d (if fits sz (ps.map (evO st.tm)) then some ⟨.sl false sz (ps.map (evO st.tm)), true, none⟩ else none) := (rfl)
@[simp] theorem e_s2b (x : Opd) : exec1 Γ gl ⟨d, .s2b x, g, a⟩ st = putR st d (vS2b (evO st.tm x)) := (rfl)
@[simp] theorem e_b2s (x : Opd) : exec1 Γ gl ⟨d, .b2s x, g, a⟩ st = putV st d (vB2s st.H (evO st.tm x)) := resV_put _
@[simp] theorem e_i2i (k : IntKind) (x : Opd) : exec1 Γ gl ⟨d, .i2i k x, g, a⟩ st = putV st d (vI2i k (evO st.tm x)) := resV_put _
@[simp] theorem e_s2s (x : Opd) : exec1 Γ gl ⟨d, .s2s x, g, a⟩ st = putV st d (vS2s (evO st.tm x)) := resV_put _
@[simp] theorem e_s2a (n : Nat) (x : Opd) : exec1 Γ gl ⟨d, .s2a n x, g, a⟩ st = putV st d (vS2a n (evO st.tm x)) := resV_put _
def putC (st : St) (d : Option Nat) (r : Option (V × Bool)) : Option St := r.map fun r => st.put d r.1 r.2
@[simp] theorem putC_some (v : V) (o : Bool) : putC st d (some (v, o)) = some (st.put d v o) := (rfl)
@[simp] theorem e_call (f : Nat) (xs : List Opd) : exec1 Γ gl ⟨d, .call f xs, g, a⟩ st = putC st d (Γ f (xs.map (evO st.tm))) := by
  show ((Γ f (xs.map (evO st.tm))).map fun r => (⟨r.1, r.2, none⟩ : Res)).map _ = _
  cases Γ f (xs.map (evO st.tm)) <;> rfl
@[simp] theorem e_callv (f : Opd) (xs : List Opd) : exec1 Γ gl ⟨d, .callv f xs, g, a⟩ st = putR st d (vCallv Γ (evO st.tm f) (xs.map (evO st.tm))) := (rfl)
@[simp] theorem e_mkf (f : Nat) (xs : List Opd) : exec1 Γ gl ⟨d, .mkf f xs, g, a⟩ st = some (st.put d (.fn f (xs.map (evO st.tm))) false) := (rfl)
@[simp] theorem e_nilck (x : Opd) : exec1 Γ gl ⟨d, .nilck x, g, a⟩ st = putV st d (vNilck (evO st.tm x)) := resV_put _
@[simp] theorem e_mks (sz : Nat) (z : List V) (l c : Opd) : exec1 Γ gl ⟨d, .mks sz z l c, g, a⟩ st = putR st d (vMks sz (evO st.tm l) (evO st.tm c)) := (rfl)
@[simp] theorem e_app (sz : Nat) (s x : Opd) : exec1 Γ gl ⟨d, .app sz s x, g, a⟩ st = putR st d (vApp st.H (ownO st.own s) sz (posO s) (evO st.tm s) (evO st.tm x)) := (rfl)
@[simp] theorem e_new (cs : List V) : exec1 Γ gl ⟨d, .new cs, g, a⟩ st = some ((st.new cs).put d (.ptr st.nH 0) false) := (rfl)
@[simp] theorem e_box (x : Opd) : exec1 Γ gl ⟨d, .box x, g, a⟩ st = if (evO st.tm x).cells.all V.sc then some ((st.new (evO st.tm x).cells).put d (.ptr st.nH 0) false) else none := (rfl)
def doStore (st : St) (d : Option Nat) (n : Nat) (ys : List V) : V → Option St
  | .ptr id off => (hCells st.H id).bind fun cs => if ys.length = n ∧ ys.all V.sc = true ∧ off + n ≤ cs.length then some ((st.setOb id cs off ys).put d Nil false) else none
  | _ => none
@[simp] theorem e_store (n : Nat) (x y : Opd) : exec1 Γ gl ⟨d, .store n x y, g, a⟩ st = doStore st d n (evO st.tm y).cells (evO st.tm x) := by
  simp only [exec1, St.ev]
  cases evO st.tm x <;> try rfl
  rename_i id off
  simp only [doStore, St.storeOb]
  cases hCells st.H id <;> simp
def doSto (st : St) (d : Option Nat) (t : Nat) : V → Option St
  | .ptr id off => (hCells st.H id).bind fun cs => if (st.tm t).sc = true ∧ off < cs.length then some ((st.stoOb id cs off t).put d Nil false) else none
  | _ => none
@[simp] theorem e_sto (x : Opd) (t : Nat) : exec1 Γ gl ⟨d, .sto x t, g, a⟩ st = doSto st d t (evO st.tm x) := by
  simp only [exec1, St.ev]
  cases evO st.tm x <;> try rfl
  rename_i id off
  simp only [doSto]
  cases hCells st.H id <;> simp
@[simp] theorem doStore_ptr (n : Nat) (ys : List V) (id off : Nat) : doStore st d n ys (.ptr id off) = (hCells st.H id).bind fun cs => if ys.length = n ∧ ys.all V.sc = true ∧ off + n ≤ cs.length then some ((st.setOb id cs off ys).put d Nil false) else none := (rfl)
@[simp] theorem doSto_ptr (t : Nat) (id off : Nat) : doSto st d t (.ptr id off) = (hCells st.H id).bind fun cs => if (st.tm t).sc = true ∧ off < cs.length then some ((st.stoOb id cs off t).put d Nil false) else none := (rfl)

@[simp] theorem ownO_tmp (own : Pos → Bool) (t : Nat) : ownO own (.tmp t) = own (.slot t) := (rfl)
@[simp] theorem ownO_const (own : Pos → Bool) (v : V) : ownO own (.const v) = false := (rfl)
@[simp] theorem posO_tmp (t : Nat) : posO (.tmp t) = some (.slot t) := (rfl)
@[simp] theorem posO_const (v : V) : posO (.const v) = none := (rfl)

/-! ## texts in their order -/
section
theorem less_irrefl : ∀ a : Bytes, Op.bytesLess a a = false
  | [] => rfl
  | a :: r => by simp [Op.bytesLess, less_irrefl r]
theorem less_trans : ∀ {a b c : Bytes}, Op.bytesLess a b = true → Op.bytesLess b c = true → Op.bytesLess a c = true
  | _, _, [], h1, h2 => by cases ‹Bytes› <;> simp [Op.bytesLess] at h2
  | [], _, _ :: _, _, _ => rfl
  | _ :: _, [], _ :: _, h1, _ => by simp [Op.bytesLess] at h1
  | x :: a, y :: b, z :: c, h1, h2 => by
    simp only [Op.bytesLess, Bool.or_eq_true, decide_eq_true_eq, Bool.and_eq_true, beq_iff_eq] at h1 h2 ⊢
    rcases h1 with h1 | ⟨rfl, h1⟩ <;> rcases h2 with h2 | ⟨rfl, h2⟩
    · exact .inl (UInt8.lt_trans h1 h2)
    · exact .inl h1
    · exact .inl h2
    · exact .inr ⟨rfl, less_trans h1 h2⟩
theorem less_tri : ∀ {a b : Bytes}, Op.bytesLess a b = false → Op.bytesLess b a = false → a = b
  | [], [], _, _ => rfl
  | [], _ :: _, h, _ => by simp [Op.bytesLess] at h
  | _ :: _, [], _, h => by simp [Op.bytesLess] at h
  | x :: a, y :: b, h1, h2 => by
    simp only [Op.bytesLess, Bool.or_eq_false_iff, decide_eq_false_iff_not, Bool.and_eq_false_iff, beq_eq_false_iff_ne] at h1 h2
    have hxy : x = y := by
      rcases Classical.em (x = y) with h | h
      · exact h
      · rcases UInt8.lt_or_lt_of_ne h with h | h
        · exact absurd h h1.1
        · exact absurd h h2.1
    subst hxy
    rw [less_tri (h1.2.resolve_left (by simp)) (h2.2.resolve_left (by simp))]
theorem less_asymm {a b : Bytes} (h : Op.bytesLess a b = true) : Op.bytesLess b a = false := by
  cases h' : Op.bytesLess b a with
  | false => rfl
  | true => have := less_trans h h'; rw [less_irrefl] at this; cases this
theorem less_gtr (a b : Bytes) : (!(Op.bytesLess a b || decide (a = b))) = Op.bytesLess b a := by
  cases h : Op.bytesLess a b with
  | true => simp [less_asymm h]
  | false =>
    by_cases he : a = b
    · subst he; simp [less_irrefl]
    · cases h' : Op.bytesLess b a with
      | true => simp [he]
      | false => exact absurd (less_tri h h') he

end

/-! ## values -/
@[simp] theorem vLen_str (s : Bytes) : vLen true (.str s) = some (.int .i64 s.length) := (rfl)
@[simp] theorem vLen_sl (nl : Bool) (sz : Nat) (xs : List V) : vLen false (.sl nl sz xs) = some (.int .i64 xs.length) := (rfl)
@[simp] theorem vLen_osl (id off n c sz : Nat) : vLen false (.osl id off n c sz) = some (.int .i64 n) := (rfl)
@[simp] theorem vPick_bool (t : Bool) (x y : V) : vPick (.bool t) x y = some (if t then x else y) := (rfl)
@[simp] theorem vExt_tup (vs : List V) (i : Nat) : vExt (.tup vs) i = vs[i]? := (rfl)
theorem vIaddr_sl (sz : Nat) (s : Nat) (xs : List V) (k : IntKind) (n : Int) : vIaddr sz (.sl false s xs) (.int k n) = if 0 ≤ n ∧ s = sz then (xs[n.toNat]?).map fun e => .el e.cells 0 else none := (rfl)
@[simp] theorem vIaddr_at (nl : Bool) (sz : Nat) (xs : List V) (k : IntKind) (n : Nat) (e : V) (h : xs[n]? = some e) (hnl : xs ≠ [] → nl = false) : vIaddr sz (.sl nl sz xs) (.int k (n : Int)) = some (.el e.cells 0) := by
  have : nl = false := hnl (fun hx => by simp [hx] at h)
  subst this
  simp [vIaddr, h]
@[simp] theorem vIaddr_0 (nl : Bool) (sz : Nat) (xs : List V) (k : IntKind) (e : V) (h : xs[0]? = some e) (hnl : xs ≠ [] → nl = false) : vIaddr sz (.sl nl sz xs) (.int k 0) = some (.el e.cells 0) := vIaddr_at nl sz xs k 0 e h hnl
@[simp] theorem vIaddr_1 (nl : Bool) (sz : Nat) (xs : List V) (k : IntKind) (e : V) (h : xs[1]? = some e) (hnl : xs ≠ [] → nl = false) : vIaddr sz (.sl nl sz xs) (.int k 1) = some (.el e.cells 0) := vIaddr_at nl sz xs k 1 e h hnl
@[simp] theorem vIaddr_2 (nl : Bool) (sz : Nat) (xs : List V) (k : IntKind) (e : V) (h : xs[2]? = some e) (hnl : xs ≠ [] → nl = false) : vIaddr sz (.sl nl sz xs) (.int k 2) = some (.el e.cells 0) := vIaddr_at nl sz xs k 2 e h hnl
@[simp] theorem np1_ne0 (n : Nat) : ((n : Int) + 1 = 0) = False := eq_false (by omega)
@[simp] theorem np1_pos (n : Nat) : (0 < (n : Int) + 1) = True := eq_true (by omega)
@[simp] theorem np1_nneg (n : Nat) : (0 ≤ (n : Int) + 1) = True := eq_true (by omega)
@[simp] theorem np1_one (n : Nat) : (1 ≤ (n : Int) + 1) = True := eq_true (by omega)
@[simp] theorem np1_le0 (n : Nat) : ((n : Int) + 1 ≤ 0) = False := eq_false (by omega)
@[simp] theorem np1_lt0 (n : Nat) : ((n : Int) + 1 < 0) = False := eq_false (by omega)
@[simp] theorem fillV_nil (cs : List V) : fillV cs [] = some cs := (rfl)
@[simp] theorem fillV_cons (cs : List V) (off n : Nat) (v : V) (r : List (Nat × Nat × V)) : fillV cs ((off, n, v) :: r) = if v.cells.length = n ∧ v.cells.all V.sc = true ∧ off + n ≤ cs.length then fillV (setAt cs off v.cells) r else none := (rfl)
@[simp] theorem vFaddr_ptr (off id o : Nat) : vFaddr off (.ptr id o) = some (.ptr id (o + off)) := (rfl)
@[simp] theorem vFaddr_el (off : Nat) (cs : List V) (o : Nat) : vFaddr off (.el cs o) = some (.el cs (o + off)) := (rfl)
@[simp] theorem vFaddr_gp (off g o : Nat) : vFaddr off (.gp g o) = some (.gp g (o + off)) := (rfl)
@[simp] theorem vLoad_el (gl : Glob) (H : Hp) (n : Option Nat) (cs : List V) (o : Nat) : vLoad gl H n (.el cs o) = ldCells n cs o := (rfl)
@[simp] theorem vLoad_gp (gl : Glob) (H : Hp) (n : Option Nat) (g o : Nat) : vLoad gl H n (.gp g o) = (gl g).bind fun cs => ldCells n cs o := (rfl)
@[simp] theorem vLoad_ptr (gl : Glob) (H : Hp) (n : Option Nat) (id o : Nat) : vLoad gl H n (.ptr id o) = (hCells H id).bind fun cs => ldCells n cs o := (rfl)
@[simp] theorem vFld_agg (n : Option Nat) (off : Nat) (cs : List V) : vFld n off (.agg cs) = ldCells n cs off := (rfl)
theorem hCells_of {H : Hp} {id : Nat} {cs : List V} (h : H id = some (.cells cs)) : hCells H id = some cs := by simp [hCells, h]
@[simp] theorem hCells_new (cs : List V) (i : Nat) : hCells (st.new cs).H i = if i = st.nH then some cs else hCells st.H i := by
  by_cases h : i = st.nH <;> simp [hCells, h]
@[simp] theorem hCells_setOb (id : Nat) (cs : List V) (off : Nat) (ys : List V) (i : Nat) : hCells (st.setOb id cs off ys).H i = if i = id then some (setAt cs off ys) else hCells st.H i := by
  by_cases h : i = id <;> simp [hCells, h]
@[simp] theorem hCells_stoOb (id : Nat) (cs : List V) (off t : Nat) (i : Nat) : hCells (st.stoOb id cs off t).H i = if i = id then some (setAt cs off [st.tm t]) else hCells st.H i := by
  by_cases h : i = id <;> simp [hCells, h]
@[simp] theorem hCells_init (args : List V) (i : Nat) : hCells (St.init args).H i = none := (rfl)
@[simp] theorem ldCells_none (cs : List V) (off : Nat) : ldCells none cs off = cs[off]? := (rfl)
@[simp] theorem ldCells_some (k : Nat) (cs : List V) (off : Nat) : ldCells (some k) cs off = if off + k ≤ cs.length then some (.agg ((cs.drop off).take k)) else none := (rfl)
@[simp] theorem aun_not (b : Bool) : aun .not (.bool b) = some (.bool !b) := (rfl)
@[simp] theorem aun_neg (k : IntKind) (n : Int) : aun .neg (.int k n) = some (.int k (k.wrap (0 - n))) := (rfl)
variable {q : EqK} {k : IntKind} {x y : Int} {s t : Bytes}
@[simp] theorem b_add : abin .add q (.int k x) (.int k y) = some (.int k (k.wrap (x + y))) := by simp [abin, aint]
@[simp] theorem b_sub : abin .sub q (.int k x) (.int k y) = some (.int k (k.wrap (x - y))) := by simp [abin, aint]
@[simp] theorem b_mul : abin .mul q (.int k x) (.int k y) = some (.int k (k.wrap (x * y))) := by simp [abin, aint]
@[simp] theorem b_quo : abin .quo q (.int k x) (.int k y) = if y = 0 then none else some (.int k (k.wrap (x.tdiv y))) := by simp [abin, aint]
@[simp] theorem b_rem : abin .rem q (.int k x) (.int k y) = if y = 0 then none else some (.int k (x.tmod y)) := by simp [abin, aint]
@[simp] theorem b_eql : abin .eql q (.int k x) (.int k y) = some (.bool (decide (x = y))) := by simp [abin, aint]
@[simp] theorem b_neq : abin .neq q (.int k x) (.int k y) = some (.bool (!decide (x = y))) := by simp [abin, aint]
@[simp] theorem b_lss : abin .lss q (.int k x) (.int k y) = some (.bool (decide (x < y))) := by simp [abin, aint]
@[simp] theorem b_leq : abin .leq q (.int k x) (.int k y) = some (.bool (decide (x ≤ y))) := by simp [abin, aint]
@[simp] theorem b_gtr : abin .gtr q (.int k x) (.int k y) = some (.bool (decide (y < x))) := by simp [abin, aint]
@[simp] theorem b_geq : abin .geq q (.int k x) (.int k y) = some (.bool (decide (y ≤ x))) := by simp [abin, aint]
@[simp] theorem s_eql : abin .eql q (.str s) (.str t) = some (.bool (decide (s = t))) := (rfl)
@[simp] theorem s_neq : abin .neq q (.str s) (.str t) = some (.bool (!decide (s = t))) := (rfl)
@[simp] theorem s_lss : abin .lss q (.str s) (.str t) = some (.bool (Op.bytesLess s t)) := (rfl)
@[simp] theorem s_gtr : abin .gtr q (.str s) (.str t) = some (.bool (Op.bytesLess t s)) := by rw [← less_gtr]; rfl
@[simp] theorem s_geq : abin .geq q (.str s) (.str t) = some (.bool (!Op.bytesLess s t)) := (rfl)
@[simp] theorem s_add : abin .add q (.str s) (.str t) = if s.length + t.length ≤ 4611686018427387904 then some (.str (s ++ t)) else none := (rfl)
@[simp] theorem sl_eql (nl : Bool) (z z' : Nat) (xs : List V) : abin .eql .slice (.sl nl z xs) (.sl true z' []) = some (.bool nl) := by cases nl <;> rfl
@[simp] theorem sl_neq (nl : Bool) (z z' : Nat) (xs : List V) : abin .neq .slice (.sl nl z xs) (.sl true z' []) = some (.bool !nl) := by cases nl <;> rfl
@[simp] theorem fl_eql (ks : List (Option IntKind × Bool)) (xs ys : List V) : abin .eql (.flat ks) (.agg xs) (.agg ys) = (flatEq ks xs ys).map .bool := (rfl)
@[simp] theorem fl_neq (ks : List (Option IntKind × Bool)) (xs ys : List V) : abin .neq (.flat ks) (.agg xs) (.agg ys) = (flatEq ks xs ys).map fun b => .bool !b := (rfl)
@[simp] theorem flatEq_nil : flatEq [] [] [] = some true := (rfl)
@[simp] theorem flatEq_step (k : Option IntKind × Bool) (ks : List (Option IntKind × Bool)) (x y : V) (xs ys : List V) : flatEq (k :: ks) (x :: xs) (y :: ys) = (kdEq k x y).bind fun b => (flatEq ks xs ys).map (b && ·) := (rfl)
@[simp] theorem kdEq_int (k : IntKind) (t : Bool) (x y : Int) : kdEq (some k, t) (.int k x) (.int k y) = some (decide (x = y)) := by simp [kdEq]
@[simp] theorem kdEq_str (x y : Bytes) : kdEq (none, true) (.str x) (.str y) = some (decide (x = y)) := (rfl)
@[simp] theorem kdEq_bool (x y : Bool) : kdEq (none, false) (.bool x) (.bool y) = some (x == y) := (rfl)
theorem flatEq_bytes (t : Bool) : ∀ {n : Nat} {a b : Bytes}, a.length = n → b.length = n → flatEq (repl n (some .u8, t)) (encB a) (encB b) = some (decide (a = b))
  | 0, a, b, ha, hb => by
    have h1 := List.length_eq_zero_iff.1 ha; have h2 := List.length_eq_zero_iff.1 hb
    subst h1; subst h2; rfl
  | n + 1, [], _, ha, _ => by simp at ha
  | n + 1, _ :: _, [], _, hb => by simp at hb
  | n + 1, x :: a, y :: b, ha, hb => by
    have ih := flatEq_bytes t (n := n) (a := a) (b := b) (by simpa using ha) (by simpa using hb)
    simp only [repl, encB, List.map_cons, List.replicate_succ] at ih ⊢
    rw [flatEq_step, ih, byteV, byteV, kdEq_int]
    have e : ((x.toNat : Int) = (y.toNat : Int)) = (x = y) := by rw [Int.ofNat_inj]; exact propext UInt8.toNat_inj
    by_cases h : x = y <;> simp [h, e]
@[simp] theorem retQ_normal (res : List RS) (r : V × Bool) : retQ res r .normal st = (∃ p, resOf res st = some p ∧ p.1 = r.1 ∧ (r.2 = true → p.2 = true)) := (rfl)
@[simp] theorem retQ_ret (res : List RS) (r : V × Bool) : retQ res r .ret st = (∃ p, resOf res st = some p ∧ p.1 = r.1 ∧ (r.2 = true → p.2 = true)) := (rfl)
@[simp] theorem retQ_exit (res : List RS) (r : V × Bool) (i : Nat) : retQ res r (.exit i) st = False := (rfl)
@[simp] theorem resOf_one (t : Nat) : resOf [.t t] st = some (st.tm t, st.own (.slot t)) := (rfl)

@[simp] theorem natCast_eq' (a b : Nat) : ((a : Int) = (b : Int)) = (a = b) := propext Int.ofNat_inj
theorem w64 (n : Int) (h : -9223372036854775808 ≤ n ∧ n ≤ 9223372036854775807) : IntKind.wrap .i64 n = n := Go.IntWalk.i64_in n h

@[simp] theorem cells_agg (cs : List V) : (V.agg cs).cells = cs := (rfl)
@[simp] theorem cells_bool (b : Bool) : (V.bool b).cells = [.bool b] := (rfl)
@[simp] theorem cells_int (k : IntKind) (n : Int) : (V.int k n).cells = [.int k n] := (rfl)
@[simp] theorem cells_str (s : Bytes) : (V.str s).cells = [.str s] := (rfl)
@[simp] theorem cells_sl (nl : Bool) (z : Nat) (xs : List V) : (V.sl nl z xs).cells = [.sl nl z xs] := (rfl)
@[simp] theorem cells_fn (f : Nat) (cs : List V) : (V.fn f cs).cells = [.fn f cs] := (rfl)
@[simp] theorem cells_ptr (i o : Nat) : (V.ptr i o).cells = [.ptr i o] := (rfl)
@[simp] theorem cells_nilptr : V.nilptr.cells = [.nilptr] := (rfl)
@[simp] theorem cells_nilif : V.nilif.cells = [.nilif] := (rfl)
@[simp] theorem sc_agg (cs : List V) : (V.agg cs).sc = false := (rfl)
@[simp] theorem sc_tup (cs : List V) : (V.tup cs).sc = false := (rfl)
@[simp] theorem sc_bool (b : Bool) : (V.bool b).sc = true := (rfl)
@[simp] theorem sc_int (k : IntKind) (n : Int) : (V.int k n).sc = true := (rfl)
@[simp] theorem sc_str (s : Bytes) : (V.str s).sc = true := (rfl)
@[simp] theorem sc_sl (nl : Bool) (z : Nat) (xs : List V) : (V.sl nl z xs).sc = true := (rfl)
@[simp] theorem sc_fn (f : Nat) (cs : List V) : (V.fn f cs).sc = true := (rfl)
@[simp] theorem sc_ptr (i o : Nat) : (V.ptr i o).sc = true := (rfl)
@[simp] theorem sc_nilptr : V.nilptr.sc = true := (rfl)
@[simp] theorem sc_nilif : V.nilif.sc = true := (rfl)
@[simp] theorem sc_encB {l : Bytes} {x : V} (h : x ∈ encB l) : x.sc = true := by
  simp only [encB, List.mem_map] at h
  obtain ⟨b, _, rfl⟩ := h; rfl
@[simp] theorem encB_length (l : Bytes) : (encB l).length = l.length := by simp [encB]
@[simp] theorem ldCells_full {k : Nat} {cs : List V} (h : cs.length = k) : ldCells (some k) cs 0 = some (.agg cs) := by simp [ldCells, ← h]
@[simp] theorem setAt_full {cs ys : List V} (h : ys.length = cs.length) : setAt cs 0 ys = ys := by simp [setAt, h]
@[simp] theorem clean_bool (b : Bool) : (V.bool b).clean = true := (rfl)
@[simp] theorem clean_int (k : IntKind) (n : Int) : (V.int k n).clean = true := (rfl)
@[simp] theorem clean_str (s : Bytes) : (V.str s).clean = true := (rfl)
@[simp] theorem clean_agg (cs : List V) : (V.agg cs).clean = cleanL cs := (rfl)
@[simp] theorem clean_sl (nl : Bool) (z : Nat) (xs : List V) : (V.sl nl z xs).clean = cleanL xs := (rfl)
@[simp] theorem clean_fn (f : Nat) (cs : List V) : (V.fn f cs).clean = cleanL cs := (rfl)
@[simp] theorem clean_tup (cs : List V) : (V.tup cs).clean = cleanL cs := (rfl)
@[simp] theorem cleanL_nil : cleanL [] = true := (rfl)
@[simp] theorem cleanL_cons (v : V) (r : List V) : cleanL (v :: r) = (v.clean && cleanL r) := (rfl)
@[simp] theorem cleanL_encB (l : Bytes) : cleanL (encB l) = true := cleanL_iff.2 fun v hv => by
  simp only [encB, List.mem_map] at hv
  obtain ⟨b, _, rfl⟩ := hv; rfl
theorem cleanL_map {α : Type} {f : α → V} (h : ∀ x, (f x).clean = true) (l : List α) : cleanL (l.map f) = true := cleanL_iff.2 fun v hv => by
  obtain ⟨x, _, rfl⟩ := List.mem_map.1 hv; exact h x
theorem getE {α : Type} {l : List α} {k : Nat} (h : k < l.length) : ∃ x, l[k]? = some x := ⟨_, List.getElem?_eq_getElem h⟩

@[simp] theorem vTail_sl (H : Hp) (sz : Nat) (nl : Bool) (ys : List V) : vTail H sz (.sl nl sz ys) = some ys := by simp [vTail]
@[simp] theorem vTail_str (H : Hp) (b : Bytes) : vTail H 1 (.str b) = some (encB b) := (rfl)
@[simp] theorem vApp_nil (H : Hp) (own : Bool) (sz z : Nat) (p : Option Pos) (xs : List V) (x : V) : vApp H own sz p (.sl true z xs) x = (vTail H sz x).bind fun ys => if ys.length ≤ Lim then some ⟨.sl ys.isEmpty sz ys, true, none⟩ else none := by
  simp only [vApp]; cases vTail H sz x <;> rfl
@[simp] theorem vApp_sl (H : Hp) (sz : Nat) (p : Option Pos) (xs : List V) (x : V) : vApp H true sz p (.sl false sz xs) x = (vTail H sz x).bind fun ys => if xs.length + ys.length ≤ Lim then some ⟨.sl false sz (xs ++ ys), true, p⟩ else none := by
  simp only [vApp]; cases vTail H sz x <;> simp
/-- an append, whether there was a row or not -/
theorem vApp_gen (H : Hp) {own nl : Bool} {sz : Nat} (p : Option Pos) {xs : List V} (x : V) (hn : nl = true → xs = []) (ho : nl = false → own = true) :
    vApp H own sz p (.sl nl sz xs) x = (vTail H sz x).bind fun ys => if xs.length + ys.length ≤ Lim then some ⟨.sl (nl && ys.isEmpty) sz (xs ++ ys), true, if nl then none else p⟩ else none := by
  cases nl
  · rw [ho rfl, vApp_sl]; rfl
  · rw [hn rfl, vApp_nil]; simp
@[simp] theorem take_ite_own (c : Prop) [Decidable c] (q r : Pos) : (st.take (if c then none else some q)).own r = if ¬ c ∧ r = q then false else st.own r := by
  by_cases h : c <;> simp [h]
@[simp] theorem fits_nil (sz : Nat) : fits sz [] = true := (rfl)
@[simp] theorem fits_cons (sz : Nat) (x : V) (r : List V) : fits sz (x :: r) = ((x.cells.length == sz && x.cells.all V.sc) && fits sz r) := (rfl)
@[simp] theorem vIdx_str (s : Bytes) (k : IntKind) (n : Nat) : vIdx (.str s) (.int k (n : Int)) = (s[n]?).map byteV := by simp [vIdx]
@[simp] theorem vIdx_zero (s : Bytes) (k : IntKind) : vIdx (.str s) (.int k 0) = (s[0]?).map byteV := by simp [vIdx]
theorem byteV_eq (b : UInt8) : byteV b = .int .u8 b.toNat := (rfl)
@[simp] theorem vSls_lh (s : Bytes) (k k' : IntKind) (l h : Int) : vSls (.str s) (some (.int k l)) (some (.int k' h)) = if 0 ≤ l ∧ l ≤ h ∧ h ≤ s.length then some (.str ((s.take h.toNat).drop l.toNat)) else none := by
  simp only [vSls, vOpt, cut3]
  by_cases hc : 0 ≤ l ∧ l ≤ h ∧ h ≤ s.length
  · have : 0 ≤ h := by omega
    simp [hc, this]
  · rw [if_neg hc, if_neg]
    · rfl
    · simp; omega
@[simp] theorem vSls_l (s : Bytes) (k : IntKind) (l : Int) : vSls (.str s) (some (.int k l)) none = if 0 ≤ l ∧ l ≤ s.length then some (.str (s.drop l.toNat)) else none := by
  simp only [vSls, vOpt, cut3]
  by_cases hc : 0 ≤ l ∧ l ≤ s.length
  · simp [hc]
  · rw [if_neg hc, if_neg]
    · rfl
    · simp; omega
@[simp] theorem vSls_h (s : Bytes) (k : IntKind) (h : Int) : vSls (.str s) none (some (.int k h)) = if 0 ≤ h ∧ h ≤ s.length then some (.str (s.take h.toNat)) else none := by
  simp only [vSls, vOpt, cut3]
  by_cases hc : 0 ≤ h ∧ h ≤ s.length
  · simp [hc]
  · rw [if_neg hc, if_neg]
    · rfl
    · simp; omega
@[simp] theorem vSlc_l (sz z : Nat) (nl : Bool) (xs : List V) (k : IntKind) (l : Int) : vSlc sz (.sl nl z xs) (some (.int k l)) none none = if z = sz ∧ 0 ≤ l ∧ l ≤ xs.length then some ⟨.sl nl sz (xs.drop l.toNat), false, none⟩ else none := by
  simp only [vSlc, vOpt, cut3]
  by_cases hc : z = sz ∧ 0 ≤ l ∧ l ≤ xs.length
  · obtain ⟨rfl, h1, h2⟩ := hc
    simp [h1, h2]
  · rw [if_neg hc]
    by_cases hz : z = sz
    · rw [if_pos (by simp [hz]), if_neg]
      · rfl
      · simp; omega
    · rw [if_neg (by simp [hz])]
@[simp] theorem vSlc_h (sz z : Nat) (nl : Bool) (xs : List V) (k : IntKind) (h : Int) : vSlc sz (.sl nl z xs) none (some (.int k h)) none = if z = sz ∧ 0 ≤ h ∧ h ≤ xs.length then some ⟨.sl nl sz (xs.take h.toNat), false, none⟩ else none := by
  simp only [vSlc, vOpt, cut3]
  by_cases hc : z = sz ∧ 0 ≤ h ∧ h ≤ xs.length
  · obtain ⟨rfl, h1, h2⟩ := hc
    simp [h1, h2]
  · rw [if_neg hc]
    by_cases hz : z = sz
    · rw [if_pos (by simp [hz]), if_neg]
      · rfl
      · simp; omega
    · rw [if_neg (by simp [hz])]
@[simp] theorem all_encB (l : Bytes) : (∀ a ∈ encB l, a.sc = true) = True := eq_true fun _ h => sc_encB h

/-! ## loops, one round at a time -/
theorem awp_ex : ∀ {c : ACode} {P : Nat → Ex → St → Prop} {st : St}, (∀ k e s, P k e s → P (k + 1) e s) → awp Γ gl c (fun e s => ∃ k, P k e s) st → ∃ k, awp Γ gl c (P k) st := by
  intro c
  induction c with
  | skip => intro P st _ h; exact h
  | region ops d =>
    intro P st _ h
    simp only [awp] at h ⊢
    unfold someP at h ⊢
    split at h
    · exact h
    · exact h.elim
  | seq a b iha ihb =>
    intro P st hm h
    have : awp Γ gl a (fun e s => ∃ k, thenQ (awp Γ gl b (P k)) (P k) e s) st := awp_mono (fun e s h => by
      cases e with
      | normal => exact ihb hm h
      | exit i => exact h
      | ret => exact h) h
    exact iha (fun k => thenQ_mono (fun s => awp_mono (hm k)) (hm k)) this
  | cond c a b iha ihb =>
    intro P st hm h
    simp only [awp] at h ⊢
    unfold condP at h ⊢
    split at h
    · exact iha hm h
    · exact ihb hm h
    · exact h.elim
  | block id b ih => intro P st hm h; exact ih (fun k e s => hm k _ s) h
  | loop b ih =>
    intro P st hm h
    obtain ⟨n, h⟩ := h
    have key : ∀ n st, loopN (awp Γ gl b) (fun e s => ∃ k, P k e s) n st → ∃ k, loopN (awp Γ gl b) (P k) n st := by
      intro n
      induction n with
      | zero => intro st h; exact h.elim
      | succ n ihn =>
        intro st h
        have : awp Γ gl b (fun e s => ∃ k, thenQ (loopN (awp Γ gl b) (P k) n) (P k) e s) st := awp_mono (fun e s h => by
          cases e with
          | normal => exact ihn s h
          | exit i => exact h
          | ret => exact h) h
        refine ih (fun k => thenQ_mono (fun s hs => ?_) (hm k)) this
        have mono : ∀ n s, loopN (awp Γ gl b) (P k) n s → loopN (awp Γ gl b) (P (k + 1)) n s := by
          intro n
          induction n with
          | zero => intro s h; exact h.elim
          | succ n ihn => intro s h; exact awp_mono (thenQ_mono (fun s => ihn s) (hm k)) h
        exact mono n s hs
    obtain ⟨k, h⟩ := key n st h
    exact ⟨k, n, h⟩
  | exit id => intro P st _ h; exact h
  | ret => intro P st _ h; exact h
  | fail => intro P st _ h; exact h.elim

theorem loopN_succ {b : ACode} : ∀ {n : Nat} {s : St}, loopN (awp Γ gl b) Q n s → loopN (awp Γ gl b) Q (n + 1) s
  | 0, _, h => h.elim
  | _ + 1, _, h => awp_mono (thenQ_mono (fun _ => loopN_succ) fun _ _ h => h) h

/-- one round -/
theorem awp_round {b : ACode} (h : awp Γ gl b (thenQ (awp Γ gl (.loop b) Q) Q) st) : awp Γ gl (.loop b) Q st := by
  have : awp Γ gl b (fun e s => ∃ k, thenQ (loopN (awp Γ gl b) Q k) Q e s) st := awp_mono (fun e s h => by
    cases e with
    | normal => exact h
    | exit i => exact ⟨0, h⟩
    | ret => exact ⟨0, h⟩) h
  obtain ⟨k, h⟩ := awp_ex (fun k => thenQ_mono (fun s => loopN_succ) fun _ _ h => h) this
  exact ⟨k + 1, h⟩

theorem awp_roundK {b : ACode} (h : ∀ K : St → Prop, (∀ s, awp Γ gl (.loop b) Q s → K s) → awp Γ gl b (thenQ K Q) st) : awp Γ gl (.loop b) Q st := awp_round (h _ fun _ h => h)
theorem drop_cons {α : Type} {l : List α} {k : Nat} {x : α} {r : List α} (h : l.drop k = x :: r) : ∃ hlt : k < l.length, l[k] = x ∧ l[k]? = some x ∧ l.drop (k + 1) = r ∧ l ≠ [] := by
  have hlt : k < l.length := by
    rcases Nat.lt_or_ge k l.length with h' | h'
    · exact h'
    · rw [List.drop_eq_nil_of_le h'] at h; cases h
  have hx : l[k]? = some x := by have := congrArg (fun l => l[0]?) h; simpa using this
  refine ⟨hlt, by rw [List.getElem?_eq_getElem hlt] at hx; exact Option.some.inj hx, hx, by rw [← List.drop_drop, h]; rfl, by rintro rfl; simp at hlt⟩
theorem drop_nil {α : Type} {l : List α} {k : Nat} (h : l.drop k = []) (hk : k ≤ l.length) : k = l.length := by
  have := List.drop_eq_nil_iff.1 h; omega
end Go.Abs
