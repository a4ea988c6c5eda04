/-
  Abs, part B: operations on plain values: what each comes to. Own work of this seat.
-/
import Derived.Test.YtainplhaaklpeaaDoorAbsA
namespace Go.Abs

inductive Opd where
  | tmp (t : Nat)
  | const (v : V)
  deriving Inhabited

/-- A place that may hold the right to append: a slot, or a cell of an object. -/
inductive Pos where
  | slot (t : Nat)
  | cell (id j : Nat)
  deriving DecidableEq

/-- How two values are held against each other. -/
inductive EqK where
  | no | bool | flat (ks : List (Option IntKind × Bool)) | slice | ptr | iface | fn
  deriving Inhabited

inductive AOp where
  | mv (x : Opd)
  | mvo (t : Nat)
  | pick (c a b : Opd)
  | ext (t : Opd) (i : Nat)
  | bin (op : BinOp) (q : EqK) (x y : Opd)
  | un (op : UnOp) (x : Opd)
  | len (str : Bool) (x : Opd)
  | mnx (mx : Bool) (x y : Opd)
  | iaddr (sz : Nat) (x i : Opd)
  | iarr (n sz : Nat) (x i : Opd)
  | faddr (off : Nat) (x : Opd)
  | load (n : Option Nat) (x : Opd)
  | ldo (x : Opd)
  | fld (n : Option Nat) (off : Nat) (x : Opd)
  | idx (x i : Opd)
  | idxa (len sz : Nat) (n : Option Nat) (x i : Opd)
  | sls (x : Opd) (lo hi : Option Opd)
  | slc (sz : Nat) (x : Opd) (lo hi mx : Option Opd)
  | slca (n sz : Nat) (x : Opd) (lo hi mx : Option Opd)
  | build (zero : List V) (parts : List (Nat × Nat × Opd))
  | bsl (sz : Nat) (parts : List Opd)
  | app (sz : Nat) (s x : Opd)
  | mks (sz : Nat) (zero : List V) (len cap : Opd)
  | s2b (x : Opd)
  | b2s (x : Opd)
  | i2i (k : IntKind) (x : Opd)
  | s2s (x : Opd)
  | s2a (n : Nat) (x : Opd)
  | call (f : Nat) (args : List Opd)
  | callv (f : Opd) (args : List Opd)
  | mkf (f : Nat) (caps : List Opd)
  | nilck (x : Opd)
  -- those that touch the objects
  | new (cs : List V)
  | box (x : Opd)
  | store (n : Nat) (a x : Opd)
  | sto (a : Opd) (t : Nat)
  deriving Inhabited

/-- An object: a row of cells. -/
inductive Ob where
  | cells (cs : List V)
  deriving Inhabited

abbrev Hp := Nat → Option Ob
abbrev Spec := Nat → List V → Option (V × Bool)

def setAt (cs : List V) (off : Nat) (ys : List V) : List V := cs.take off ++ ys ++ cs.drop (off + ys.length)

def ldCells (n : Option Nat) (cs : List V) (off : Nat) : Option V :=
  match n with
  | none => cs[off]?
  | some k => if off + k ≤ cs.length then some (.agg ((cs.drop off).take k)) else none

def aint (op : BinOp) (k : IntKind) (a b : Int) : Option V :=
  match op with
  | .add => some (.int k (k.wrap (a + b)))
  | .sub => some (.int k (k.wrap (a - b)))
  | .mul => some (.int k (k.wrap (a * b)))
  | .quo => if b = 0 then none else some (.int k (k.wrap (a.tdiv b)))
  | .rem => if b = 0 then none else some (.int k (a.tmod b))
  | .and => some (.int k (k.wrap (BitVec.ofInt k.bits a &&& BitVec.ofInt k.bits b).toNat))
  | .or => some (.int k (k.wrap (BitVec.ofInt k.bits a ||| BitVec.ofInt k.bits b).toNat))
  | .xor => some (.int k (k.wrap (BitVec.ofInt k.bits a ^^^ BitVec.ofInt k.bits b).toNat))
  | .andNot => some (.int k (k.wrap (BitVec.ofInt k.bits a &&& ~~~BitVec.ofInt k.bits b).toNat))
  | .eql => some (.bool (decide (a = b)))
  | .neq => some (.bool (!decide (a = b)))
  | .lss => some (.bool (decide (a < b)))
  | .leq => some (.bool (decide (a ≤ b)))
  | .gtr => some (.bool (decide (b < a)))
  | .geq => some (.bool (decide (b ≤ a)))
  | _ => none

def astr (op : BinOp) (a b : Bytes) : Option V :=
  match op with
  | .add => if a.length + b.length ≤ 4611686018427387904 then some (.str (a ++ b)) else none
  | .eql => some (.bool (decide (a = b)))
  | .neq => some (.bool (!decide (a = b)))
  | .lss => some (.bool (Op.bytesLess a b))
  | .leq => some (.bool (Op.bytesLess a b || decide (a = b)))
  | .gtr => some (.bool (!(Op.bytesLess a b || decide (a = b))))
  | .geq => some (.bool (!Op.bytesLess a b))
  | _ => none

/-- Two rows of plain cells, of these kinds: (some k, _) a number of kind k; (none, true) a text; (none, false) a bool. -/
def kdEq : (Option IntKind × Bool) → V → V → Option Bool
  | (some k, _), .int j a, .int j' b => if j = k ∧ j' = k then some (decide (a = b)) else none
  | (none, true), .str a, .str b => some (decide (a = b))
  | (none, false), .bool a, .bool b => some (a == b)
  | _, _, _ => none
def flatEq : List (Option IntKind × Bool) → List V → List V → Option Bool
  | [], [], [] => some true
  | k :: ks, x :: xs, y :: ys => (kdEq k x y).bind fun b => (flatEq ks xs ys).map (b && ·)
  | _, _, _ => none

def aeq (q : EqK) (x y : V) : Option Bool :=
  match q, x, y with
  | .bool, .bool a, .bool b => some (a == b)
  | .flat ks, .agg a, .agg b => flatEq ks a b
  | .slice, .sl nl _ _, .sl true _ [] => some nl
  | .slice, .sl true _ [], .sl nl _ _ => some nl
  | .ptr, .nilptr, .nilptr => some true
  | .ptr, .ptr _ _, .nilptr => some false
  | .ptr, .nilptr, .ptr _ _ => some false
  | .iface, .nilif, .nilif => some true
  | .iface, .iface _ _, .nilif => some false
  | .iface, .nilif, .iface _ _ => some false
  | _, _, _ => none

def vEq (op : BinOp) (b : Option Bool) : Option V :=
  match op with
  | .eql => b.map .bool
  | .neq => b.map fun b => .bool !b
  | _ => none

def abin (op : BinOp) (q : EqK) (x y : V) : Option V :=
  match x, y with
  | .int k a, .int k' b =>
    match op with
    | .shl => if b < 0 then none else some (.int k (k.wrap (a * 2 ^ (min b.toNat k.bits))))
    | .shr => if b < 0 then none else some (.int k (a.fdiv (2 ^ (min b.toNat k.bits))))
    | _ => if k = k' then aint op k a b else none
  | .str a, .str b => astr op a b
  | _, _ => vEq op (aeq q x y)

def aun (op : UnOp) (x : V) : Option V :=
  match op, x with
  | .neg, .int k n => some (.int k (k.wrap (0 - n)))
  | .not, .bool b => some (.bool !b)
  | _, _ => none

/-- The bytes of a list of numbers. -/
def toBytes : List V → Option Bytes
  | [] => some []
  | .int .u8 n :: r => (toBytes r).map (UInt8.ofNat n.toNat :: ·)
  | _ => none

def byteV (b : UInt8) : V := .int .u8 b.toNat
def encB (l : Bytes) : List V := l.map byteV

/-- the bounds of a cut: low, high, and the last place -/
def cut3 (len cap : Nat) (lo hi mx : Option Int) : Option (Nat × Nat × Nat) :=
  let m := mx.getD cap
  let h := hi.getD len
  let l := lo.getD 0
  if 0 ≤ m ∧ m ≤ cap ∧ 0 ≤ h ∧ h ≤ m ∧ 0 ≤ l ∧ l ≤ h ∧ (mx.isSome = true → hi.isSome = true) then some (l.toNat, h.toNat, m.toNat) else none

def fillV : List V → List (Nat × Nat × V) → Option (List V)
  | cs, [] => some cs
  | cs, (off, n, v) :: r => if v.cells.length = n ∧ v.cells.all V.sc = true ∧ off + n ≤ cs.length then fillV (setAt cs off v.cells) r else none

structure Res where
  v : V
  o : Bool
  tk : Option Pos

def resV (v : Option V) : Option Res := v.map fun v => ⟨v, false, none⟩

def Lim : Nat := 4294967296

def fits (sz : Nat) (xs : List V) : Bool := xs.all fun x => x.cells.length == sz && x.cells.all V.sc

def vPick : V → V → V → Option V
  | .bool t, a, b => some (if t then a else b)
  | _, _, _ => none
def vExt : V → Nat → Option V
  | .tup vs, i => vs[i]?
  | _, _ => none
def vLen : Bool → V → Option V
  | true, .str s => some (.int .i64 s.length)
  | false, .sl _ _ xs => some (.int .i64 xs.length)
  | false, .osl _ _ n _ _ => some (.int .i64 n)
  | _, _ => none
def vMnx (mx : Bool) : V → V → Option V
  | .int k a, .int k' b => if k = k' then some (.int k (if mx then (if a < b then b else a) else (if b < a then b else a))) else none
  | _, _ => none
def vIaddr (sz : Nat) : V → V → Option V
  | .sl false s xs, .int _ n => if 0 ≤ n ∧ s = sz then (xs[n.toNat]?).map fun e => .el e.cells 0 else none
  | .osl id off len _ s, .int _ n => if 0 ≤ n ∧ n < len ∧ s = sz then some (.ptr id (off + n.toNat * sz)) else none
  | _, _ => none
def vIarr (n sz : Nat) : V → V → Option V
  | .ptr id off, .int _ j => if 0 ≤ j ∧ j < n then some (.ptr id (off + j.toNat * sz)) else none
  | .el cs off, .int _ j => if 0 ≤ j ∧ j < n then some (.el cs (off + j.toNat * sz)) else none
  | .gp g off, .int _ j => if 0 ≤ j ∧ j < n then some (.gp g (off + j.toNat * sz)) else none
  | _, _ => none
def vFaddr (off : Nat) : V → Option V
  | .ptr id o => some (.ptr id (o + off))
  | .el cs o => some (.el cs (o + off))
  | .gp g o => some (.gp g (o + off))
  | _ => none
def hCells (H : Hp) (id : Nat) : Option (List V) := match H id with | some (.cells cs) => some cs | _ => none
def vLoad (gl : Nat → Option (List V)) (H : Hp) (n : Option Nat) : V → Option V
  | .ptr id o => (hCells H id).bind fun cs => ldCells n cs o
  | .el cs o => ldCells n cs o
  | .gp g o => (gl g).bind fun cs => ldCells n cs o
  | _ => none
def vLdo (H : Hp) (own : Pos → Bool) : V → Option Res
  | .ptr id o => (hCells H id).bind fun cs => (cs[o]?).map fun v => ⟨v, own (.cell id o), some (.cell id o)⟩
  | _ => none
def vFld (n : Option Nat) (off : Nat) : V → Option V
  | .agg cs => ldCells n cs off
  | _ => none
def vIdx : V → V → Option V
  | .str s, .int _ n => if 0 ≤ n then (s[n.toNat]?).map byteV else none
  | _, _ => none
def vIdxa (len sz : Nat) (n : Option Nat) : V → V → Option V
  | .agg cs, .int _ j => if 0 ≤ j ∧ j < len then ldCells n cs (j.toNat * sz) else none
  | _, _ => none
/-- bounds: nothing, a number, or something else -/
def vOpt : Option V → Option (Option Int)
  | none => some none
  | some (.int _ n) => some (some n)
  | some _ => none
def vSls (x : V) (lo hi : Option V) : Option V :=
  match vOpt lo, vOpt hi, x with
  | some l, some h, .str s => (cut3 s.length s.length l h none).map fun c => .str ((s.take c.2.1).drop c.1)
  | _, _, _ => none
/-- a cut of a slice; the last place is not known, so the end may not go past the length; with three bounds the third must be the second -/
def vSlc (sz : Nat) (x : V) (lo hi mx : Option V) : Option Res :=
  match vOpt lo, vOpt hi, vOpt mx, x with
  | some l, some h, some m, .sl nl s xs =>
    if s = sz ∧ (m = none ∨ m = h) then (cut3 xs.length xs.length l h none).map fun c => ⟨.sl nl sz ((xs.take c.2.1).drop c.1), m.isSome, none⟩ else none
  | some l, some h, some m, .osl id off len cap s =>
    if s = sz then (cut3 len cap l h m).map fun c => ⟨.osl id (if c.2.2 = c.1 then off else off + c.1 * sz) (c.2.1 - c.1) (c.2.2 - c.1) sz, false, none⟩ else none
  | _, _, _, _ => none
def vSlca (n sz : Nat) (x : V) (lo hi mx : Option V) : Option V :=
  match vOpt lo, vOpt hi, vOpt mx, x with
  | some l, some h, some m, .ptr id o => (cut3 n n l h m).map fun c => .osl id (if c.2.2 = c.1 then o else o + c.1 * sz) (c.2.1 - c.1) (c.2.2 - c.1) sz
  | _, _, _, _ => none
def vB2s (H : Hp) : V → Option V
  | .sl _ 1 xs => (toBytes xs).map .str
  | .osl id off len _ 1 => (hCells H id).bind fun cs => if off + len ≤ cs.length then (toBytes ((cs.drop off).take len)).map .str else none
  | _ => none
def vI2i (k : IntKind) : V → Option V
  | .int _ n => some (.int k (k.wrap n))
  | _ => none
def vS2s : V → Option V
  | .str s => some (.str s)
  | _ => none
def vS2a (n : Nat) : V → Option V
  | .sl false 1 xs => if n ≤ xs.length ∧ xs ≠ [] ∧ fits 1 xs = true then some (.el (xs.flatMap V.cells) 0) else none
  | _ => none
def vNilck : V → Option V
  | .ptr id o => some (.ptr id o)
  | .el cs o => some (.el cs o)
  | .fn f c => some (.fn f c)
  | _ => none
def vS2b : V → Option Res
  | .str s => some ⟨.sl false 1 (encB s), true, none⟩
  | _ => none
def vMks (sz : Nat) : V → V → Option Res
  | .int _ n, .int _ c => if n = 0 ∧ 0 ≤ c ∧ c ≤ Lim then some ⟨.sl false sz [], true, none⟩ else none
  | _, _ => none
/-- what is appended, as elements -/
def vTail (H : Hp) (sz : Nat) : V → Option (List V)
  | .sl _ s ys => if s = sz ∨ ys = [] then some ys else none
  | .str b => if sz = 1 then some (encB b) else none
  | .osl id off len _ s => if s = 1 ∧ sz = 1 then (hCells H id).bind fun cs => if off + len ≤ cs.length then some ((cs.drop off).take len) else none else none
  | _ => none
def vApp (H : Hp) (own : Bool) (sz : Nat) (p : Option Pos) (s x : V) : Option Res :=
  match s, vTail H sz x with
  | .sl true _ _, some ys => if ys.length ≤ Lim then some ⟨.sl ys.isEmpty sz ys, true, none⟩ else none
  | .sl false s' xs, some ys => if xs.length + ys.length ≤ Lim ∧ s' = sz ∧ own = true then some ⟨.sl false sz (xs ++ ys), true, p⟩ else none
  | _, _ => none
def vCallv (Γ : Spec) : V → List V → Option Res
  | .fn g caps, args => (Γ g (args ++ caps)).map fun r => ⟨r.1, r.2, none⟩
  | _, _ => none

def evO (tm : Nat → V) : Opd → V
  | .tmp t => tm t
  | .const v => v
def ownO (own : Pos → Bool) : Opd → Bool
  | .tmp t => own (.slot t)
  | .const _ => false
def posO : Opd → Option Pos
  | .tmp t => some (.slot t)
  | .const _ => none

/-- What a pure operation comes to. -/
def peval (Γ : Spec) (gl : Nat → Option (List V)) (H : Hp) (own : Pos → Bool) (tm : Nat → V) : AOp → Option Res
  | .mv x => some ⟨evO tm x, false, none⟩
  | .mvo t => some ⟨tm t, own (.slot t), some (.slot t)⟩
  | .pick c a b => resV (vPick (evO tm c) (evO tm a) (evO tm b))
  | .ext t i => resV (vExt (evO tm t) i)
  | .bin op q x y => resV (abin op q (evO tm x) (evO tm y))
  | .un op x => resV (aun op (evO tm x))
  | .len s x => resV (vLen s (evO tm x))
  | .mnx mx x y => resV (vMnx mx (evO tm x) (evO tm y))
  | .iaddr sz x i => resV (vIaddr sz (evO tm x) (evO tm i))
  | .iarr n sz x i => resV (vIarr n sz (evO tm x) (evO tm i))
  | .faddr off x => resV (vFaddr off (evO tm x))
  | .load n x => resV (vLoad gl H n (evO tm x))
  | .ldo x => vLdo H own (evO tm x)
  | .fld n off x => resV (vFld n off (evO tm x))
  | .idx x i => resV (vIdx (evO tm x) (evO tm i))
  | .idxa len sz n x i => resV (vIdxa len sz n (evO tm x) (evO tm i))
  | .sls x lo hi => resV (vSls (evO tm x) (lo.map (evO tm)) (hi.map (evO tm)))
  | .slc sz x lo hi mx => vSlc sz (evO tm x) (lo.map (evO tm)) (hi.map (evO tm)) (mx.map (evO tm))
  | .slca n sz x lo hi mx => resV (vSlca n sz (evO tm x) (lo.map (evO tm)) (hi.map (evO tm)) (mx.map (evO tm)))
  | .build zero parts => resV ((fillV zero (parts.map fun p => (p.1, p.2.1, evO tm p.2.2))).map .agg)
  | .bsl sz parts => if fits sz (parts.map (evO tm)) then some ⟨.sl false sz (parts.map (evO tm)), true, none⟩ else none
  | .s2b x => vS2b (evO tm x)
  | .b2s x => resV (vB2s H (evO tm x))
  | .i2i k x => resV (vI2i k (evO tm x))
  | .s2s x => resV (vS2s (evO tm x))
  | .s2a n x => resV (vS2a n (evO tm x))
  | .call f args => (Γ f (args.map (evO tm))).map fun r => ⟨r.1, r.2, none⟩
  | .callv f args => vCallv Γ (evO tm f) (args.map (evO tm))
  | .mkf f caps => some ⟨.fn f (caps.map (evO tm)), false, none⟩
  | .nilck x => resV (vNilck (evO tm x))
  | .mks sz _ len cap => vMks sz (evO tm len) (evO tm cap)
  | .app sz s x => vApp H (ownO own s) sz (posO s) (evO tm s) (evO tm x)
  | .new _ | .box _ | .store _ _ _ | .sto _ _ => none

structure AOper where
  dst : Option Nat
  op : AOp
  guard : Option (Nat × Bool)
  after : List Nat
  deriving Inhabited

structure St where
  tm : Nat → V
  own : Pos → Bool
  H : Hp
  nH : Nat

def upd {α : Type} (f : Nat → α) (d : Nat) (v : α) : Nat → α := fun t => if t = d then v else f t
def updP (f : Pos → Bool) (d : Pos) (v : Bool) : Pos → Bool := fun t => if t = d then v else f t

def St.put (st : St) (d : Option Nat) (v : V) (o : Bool) : St :=
  match d with
  | some d => { st with tm := upd st.tm d v, own := updP st.own (.slot d) o }
  | none => st

def St.take (st : St) (p : Option Pos) : St :=
  match p with
  | some p => { st with own := updP st.own p false }
  | none => st

def St.wants (st : St) (o : AOper) : Bool :=
  match o.guard with
  | none => true
  | some (t, w) => match st.tm t with | .bool b => b == w | _ => false

def St.ev (st : St) : Opd → V := evO st.tm

def St.new (st : St) (cs : List V) : St :=
  { st with H := upd st.H st.nH (some (.cells cs)), nH := st.nH + 1, own := fun p => match p with | .cell i j => if i = st.nH then false else st.own (.cell i j) | .slot t => st.own (.slot t) }
def St.setOb (st : St) (id : Nat) (cs : List V) (off : Nat) (ys : List V) : St :=
  { st with H := upd st.H id (some (.cells (setAt cs off ys))), own := fun p => match p with | .cell i j => if i = id ∧ off ≤ j ∧ j < off + ys.length then false else st.own (.cell i j) | .slot t => st.own (.slot t) }
def St.storeOb (st : St) (id : Nat) (cs : List V) (off n : Nat) (ys : List V) : Option St :=
  if ys.length = n ∧ ys.all V.sc = true ∧ off + n ≤ cs.length then some (st.setOb id cs off ys) else none
def St.stoOb (st : St) (id : Nat) (cs : List V) (off t : Nat) : St :=
  { st with H := upd st.H id (some (.cells (setAt cs off [st.tm t]))), own := updP (updP st.own (.cell id off) (st.own (.slot t))) (.slot t) false }

/-- An operation that touches the objects; or a pure one. -/
def exec1 (Γ : Spec) (gl : Nat → Option (List V)) (o : AOper) (st : St) : Option St :=
  match o.op with
  | .new cs => some ((st.new cs).put o.dst (.ptr st.nH 0) false)
  | .box x => if (st.ev x).cells.all V.sc then some ((st.new (st.ev x).cells).put o.dst (.ptr st.nH 0) false) else none
  | .store n a x => match st.ev a with
    | .ptr id off => match hCells st.H id with
      | some cs => (st.storeOb id cs off n (st.ev x).cells).map fun s => s.put o.dst Nil false
      | _ => none
    | _ => none
  | .sto a t => match st.ev a with
    | .ptr id off => match hCells st.H id with
      | some cs =>
        if (st.tm t).sc = true ∧ off < cs.length then
          some ((st.stoOb id cs off t).put o.dst Nil false)
        else none
      | _ => none
    | _ => none
  | op => (peval Γ gl st.H st.own st.tm op).map fun r => (st.take r.tk).put o.dst r.v r.o

def exec (Γ : Spec) (gl : Nat → Option (List V)) (o : AOper) (st : St) : Option St :=
  if st.wants o then exec1 Γ gl o st else some (st.put o.dst Nil false)

def execs (Γ : Spec) (gl : Nat → Option (List V)) : List AOper → St → Option St
  | [], st => some st
  | o :: r, st => match exec Γ gl o st with | some st => execs Γ gl r st | none => none

inductive ACode where
  | skip
  | region (ops : List AOper) (draw : Bool)
  | seq (a b : ACode)
  | cond (c : Opd) (thn els : ACode)
  | block (id : Nat) (body : ACode)
  | loop (body : ACode)
  | exit (id : Nat)
  | ret
  | fail
  deriving Inhabited

inductive Ex where
  | normal | exit (id : Nat) | ret
  deriving DecidableEq

def Ex.inBlock (id : Nat) : Ex → Ex
  | .exit i => if i = id then .normal else .exit i
  | e => e
end Go.Abs
