/-
  Abs, part J: the loaded operations read as plain ones; that what the plain one comes to is what the machine does. Own work of this seat.
-/
import Derived.Test.YtainplhaaklpeaaDoorAbsI
namespace Go.Abs
open Go.RowKit

/-! ## reading the loaded code -/
def cV (P : Program) (t : TypeId) : Value → Option V
  | .bool b => some (.bool b)
  | .int k m => some (.int k m)
  | .string s => some (.str s.data.toList)
  | .slice none 0 0 => some (.sl true (match P.underlying t with | some (.slice e) => P.cellsOf e | _ => 0) [])
  | .pointer none => some .nilptr
  | .map none => some .nilmap
  | .nilFunc => some .nilfn
  | .nilIface => some .nilif
  | _ => none

def cOpd (P : Program) (n : Nat) (t : TypeId) : Operand → Option Opd
  | .tmp k => if k < n then some (.tmp k) else none
  | .const v => (cV P t v).map .const
  | .global g => some (.const (.gp g 0))
  | .func f => some (.const (.fn f []))

def cOpds (P : Program) (n : Nat) : List TypeId → List Operand → Option (List Opd)
  | _, [] => some []
  | ts, x :: r => (cOpd P n (ts.headD 0) x).bind fun y => (cOpds P n ts.tail r).map (y :: ·)

def cOpdO (P : Program) (n : Nat) : Option Operand → Option (Option Opd)
  | none => some none
  | some x => (cOpd P n 0 x).map some

def cellTs (P : Program) : Nat → TypeId → List TypeId
  | 0, _ => []
  | m + 1, t =>
    match P.underlying t with
    | some (.struct fs) => fs.toList.flatMap fun f => cellTs P m f.type
    | some (.array k e) => (List.replicate k (cellTs P m e)).flatten
    | _ => [t]

def cVs (P : Program) : List TypeId → List Value → Option (List V)
  | [], [] => some []
  | t :: ts, x :: xs => (cV P t x).bind fun v => (cVs P ts xs).map (v :: ·)
  | _, _ => none

def zeroV (P : Program) (t : TypeId) : Option (List V) :=
  match P.info? t with
  | some i => match i.zero with
    | some z => cVs P (cellTs P 40 t) z.cells.toList
    | none => none
  | none => none

/-- a slice type's element, with a zero value of the right size and few bytes -/
def slE (P : Program) (t : TypeId) : Option Nat :=
  match P.underlying t with
  | some (.slice e) => match P.info? e with
    | some i => match i.zero with
      | some z => if z.cells.size = i.size ∧ i.bytes ≤ 4096 then some i.size else none
      | none => none
    | none => none
  | _ => none

def isTmp (d : Option Tmp) : Operand → Bool
  | .tmp t => d == some t
  | _ => false

/-- is what this operation gives appended to in the same region? -/
def steals (ops : Array Oper) (d : Option Tmp) : Bool :=
  ops.toList.any fun o => match o.op with
    | .call { callee := .builtin .append, args, .. } => match args[0]? with | some x => isTmp d x | none => false
    | _ => false

/-- .. or assigned? -/
def gives (ops : Array Oper) (d : Option Tmp) : Bool := steals ops d || ops.toList.any fun o => match o.op with | .assign x => isTmp d x | _ => false

def isSl (P : Program) (t : TypeId) : Bool := match P.underlying t with | some (.slice _) => true | _ => false

def isStr (P : Program) (t : TypeId) : Bool := match P.underlying t with | some .string => true | _ => false

def eqKOf (P : Program) (t : TypeId) (x y : Operand) : EqK :=
  match P.underlying t with
  | some .bool => .bool
  | some (.struct _) | some (.array _ _) => if P.eqGuardType P.depth t = false then (match flatK P 60 t with | some ks => .flat ks | none => .no) else .no
  | some (.slice _) => .slice
  | some (.pointer _) => .ptr
  | some (.interface _) => match x, y with | .const .nilIface, _ => .iface | _, .const .nilIface => .iface | _, _ => .no
  | _ => .no

def fieldAt (P : Program) (t : TypeId) (f : Nat) : Option Field := match P.underlying t with | some (.struct fs) => fs[f]? | _ => none

def cParts (P : Program) (n : Nat) (place : Nat → Option (Nat × Nat)) : List (Nat × Operand) → Option (List (Nat × Nat × Opd))
  | [] => some []
  | (i, x) :: r => (place i).bind fun p => (cOpd P n 0 x).bind fun y => (cParts P n place r).map ((p.1, p.2, y) :: ·)

def places (P : Program) (t : TypeId) : Option (Nat → Option (Nat × Nat)) :=
  match P.underlying t with
  | some (.struct fs) => if fs.toList.all (fun f => (P.info? f.type).isSome) then some fun i => (fs[i]?).map fun f => (f.offset, P.cellsOf f.type) else none
  | some (.array _ e) => if (P.info? e).isSome then some fun i => some (i * P.cellsOf e, P.cellsOf e) else none
  | _ => none

def inOrder : Nat → List (Nat × Operand) → Bool
  | _, [] => true
  | k, (i, _) :: r => i == k && inOrder (k + 1) r

def cOp (P : Program) (n : Nat) (ops : Array Oper) (o : Oper) : Option AOp :=
  match o.op with
  | .move x => if gives ops o.dst && isSl P o.type then (match x with | .tmp k => if k < n then some (.mvo k) else none | x => (cOpd P n o.type x).map .mv) else (cOpd P n o.type x).map .mv
  | .assign x => if isSl P o.type then (match x with | .tmp k => if k < n then some (.mvo k) else none | x => (cOpd P n o.type x).map .mv) else (cOpd P n o.type x).map .mv
  | .pick c a b => (cOpd P n 0 c).bind fun c => (cOpd P n o.type a).bind fun a => (cOpd P n o.type b).map fun b => .pick c a b
  | .extract x i => (cOpd P n 0 x).map fun x => .ext x i
  | .nilCheck x => (cOpd P n 0 x).map .nilck
  | .binOp op t x y _ => (cOpd P n t x).bind fun x' => (cOpd P n t y).map fun y' => .bin op (eqKOf P t x y) x' y'
  | .unOp op t x => (cOpd P n t x).map fun x => .un op x
  | .load t a => (ldN P t).bind fun k => (cOpd P n 0 a).map fun a => if steals ops o.dst && isSl P t && k.isNone then .ldo a else .load k a
  | .store t a x =>
    match P.info? t with
    | some i => (cOpd P n 0 a).bind fun a => if isSl P t && i.size == 1 then (match x with | .tmp k => if k < n then some (.sto a k) else none | x => (cOpd P n t x).map fun x => .store i.size a x) else (cOpd P n t x).map fun x => .store i.size a x
    | none => none
  | .alloc t => (zeroV P t).map .new
  | .box t x => (cOpd P n t x).map .box
  | .build t parts => (places P t).bind fun pl => (zeroV P t).bind fun z => (cParts P n pl parts.toList).map fun ps => .build z ps
  | .buildSlice t len parts => (slE P t).bind fun sz => if parts.size = len ∧ inOrder 0 parts.toList = true ∧ len * sz ≤ 16777216 then (cOpds P n [] (parts.toList.map (·.2))).map fun xs => .bsl sz xs else none
  | .makeSlice t l c => (slE P t).bind fun sz => (cOpd P n 0 l).bind fun l => (cOpd P n 0 c).map fun c => .mks sz [] l c
  | .slice t x lo hi mx =>
    match P.underlying t with
    | some .string => if mx.isNone then (cOpd P n 0 x).bind fun x => (cOpdO P n lo).bind fun lo => (cOpdO P n hi).map fun hi => .sls x lo hi else none
    | some (.slice e) => match P.info? e with
      | some i => (cOpd P n 0 x).bind fun x => (cOpdO P n lo).bind fun lo => (cOpdO P n hi).bind fun hi => (cOpdO P n mx).map fun mx => .slc i.size x lo hi mx
      | none => none
    | some (.array m e) => match P.info? e with
      | some i => (cOpd P n 0 x).bind fun x => (cOpdO P n lo).bind fun lo => (cOpdO P n hi).bind fun hi => (cOpdO P n mx).map fun mx => .slca m i.size x lo hi mx
      | none => none
    | _ => none
  | .fieldAddr t x f => (fieldAt P t f).bind fun fd => match P.info? fd.type with | some i => if i.size ≠ 0 then (cOpd P n 0 x).map fun x => .faddr fd.offset x else none | none => none
  | .field t x f => (fieldAt P t f).bind fun fd => (ldN P fd.type).bind fun k => (cOpd P n 0 x).map fun x => .fld k fd.offset x
  | .indexAddr t x i =>
    match P.underlying t with
    | some (.slice e) => match P.info? e with | some ie => (cOpd P n 0 x).bind fun x => (cOpd P n 0 i).map fun i => .iaddr ie.size x i | none => none
    | some (.array m e) => match P.info? e with | some ie => (cOpd P n 0 x).bind fun x => (cOpd P n 0 i).map fun i => .iarr m ie.size x i | none => none
    | _ => none
  | .index t x i =>
    match P.underlying t with
    | some .string => (cOpd P n 0 x).bind fun x => (cOpd P n 0 i).map fun i => .idx x i
    | some (.array m e) => match P.info? e with | some ie => (ldN P e).bind fun k => (cOpd P n 0 x).bind fun x => (cOpd P n 0 i).map fun i => .idxa m ie.size k x i | none => none
    | _ => none
  | .convert s d x =>
    match P.underlying s, P.underlying d with
    | some .string, some .string => (cOpd P n 0 x).map .s2s
    | some .string, some (.slice e) => match P.underlying e with | some (.int .u8) => (cOpd P n 0 x).map .s2b | _ => none
    | some (.slice e), some .string => match P.underlying e with | some (.int .u8) => (cOpd P n 0 x).map .b2s | _ => none
    | some (.int _), some (.int k) => (cOpd P n 0 x).map (.i2i k)
    | _, _ => none
  | .sliceToArrayPointer d x => match P.underlying d with | some (.array m _) => (cOpd P n 0 x).map (.s2a m) | _ => none
  | .makeFunc (.func f) first caps => if first.isEmpty then (cOpds P n [] caps.toList).map (.mkf f) else none
  | .call { callee := .builtin .len, args, argTypes } =>
    match args.toList, argTypes.toList with
    | [x], [t] => match P.underlying t with | some .string => (cOpd P n t x).map (.len true) | some (.slice _) => (cOpd P n t x).map (.len false) | _ => none
    | _, _ => none
  | .call { callee := .builtin .max, args, .. } => match args.toList with | [x, y] => (cOpd P n 0 x).bind fun x => (cOpd P n 0 y).map fun y => .mnx true x y | _ => none
  | .call { callee := .builtin .min, args, .. } => match args.toList with | [x, y] => (cOpd P n 0 x).bind fun x => (cOpd P n 0 y).map fun y => .mnx false x y | _ => none
  | .call { callee := .builtin .append, args, argTypes } =>
    match args.toList, argTypes.toList with
    | [s, x], [t, tx] => (slE P t).bind fun sz => if (isSl P tx || isStr P tx) then (cOpd P n t s).bind fun s => (cOpd P n tx x).map fun x => .app sz s x else none
    | _, _ => none
  | .call { callee := .value (.func f), args, argTypes } => (cOpds P n argTypes.toList args.toList).map (.call f)
  | .call { callee := .value (.tmp k), args, argTypes } => if k < n then (cOpds P n argTypes.toList args.toList).map (.callv (.tmp k)) else none
  | _ => none

/-! ## contracts -/
structure Cx where
  P : Program
  w0 : World
  gl : Nat → Option (List V)

def G0 (w0 : World) (b : Nat) : Nat := match w0.heap[b]? with | some (.cells c _ _) => c.size | _ => 0

structure OKW (cx : Cx) (W : World) (G : Nat → Nat) : Prop where
  below : Below cx.w0.heap.size cx.w0 W
  Glo : ∀ b, b < cx.w0.heap.size → G b = G0 cx.w0 b
  Gz : ∀ b, W.heap.size ≤ b → G b = 0

def GlOK (cx : Cx) : Prop := ∀ g cs, cx.gl g = some cs → Row cx.w0 (G0 cx.w0) (fun _ => none) cs g 0 ∧ cs.length ≤ G0 cx.w0 g

def Callable (P : Program) (f : FuncId) : Prop := ∃ fn, P.funcs[f]? = some fn ∧ fn.name ≠ "runtime.NumGoroutine" ∧ fn.body.isNone = false

/-- WHAT A CALL COMES TO: of these plain arguments this plain result; true: the caller may append to it. Nothing that was there has changed. -/
def PC (cx : Cx) (f : FuncId) (args : List V) (r : V × Bool) : Prop :=
  Callable cx.P f ∧ ∀ W G φ xs, OKW cx W G → RepL W G φ args xs → Calls cx.P f xs W fun e W' => ∃ G' y, e = .returned y ∧ Below W.heap.size W W' ∧ (∀ b, b < W.heap.size → G' b = G b) ∧ (∀ b, W'.heap.size ≤ b → G' b = 0) ∧
    Rep W' G' φ r.1 y ∧ (r.2 = true → ∀ ow q, (∀ b, W.heap.size ≤ b → ow b = some q) → OwnAt W' (fun b => W.heap.size ≤ b) ⟨G', φ, ow⟩ q r.1 y)

def Sound (cx : Cx) (Γ : Spec) : Prop := ∀ f args r, Γ f args = some r → PC cx f args r

/-- the scope of a call: the world as it was when it began -/
structure Scope (cx : Cx) (w : World) (B : Nat → Prop) (GB : Nat → Nat) : Prop where
  below : Below cx.w0.heap.size cx.w0 w
  hB : ∀ b, B b → cx.w0.heap.size ≤ b
  Glo : ∀ b, b < cx.w0.heap.size → GB b = G0 cx.w0 b
  gl : GlOK cx

theorem SR.okw {cx w B GB g st a W} (hs : Scope cx w B GB) (h : SR w B GB g st a W) : OKW cx W g.G :=
  ⟨hs.below.trans (h.below.low hs.hB), fun b hb => (h.Glo b (fun e => by have := hs.hB b e; omega)).trans (hs.Glo b hb), h.Gz⟩

theorem GlOK.row {cx W G φ} (hg : GlOK cx) (hW : OKW cx W G) {g : Nat} {cs : List V} (h : cx.gl g = some cs) : Row W G φ cs g 0 := by
  obtain ⟨h1, h2⟩ := hg g cs h
  have hlt : ∀ b, 0 < G0 cx.w0 b → b < cx.w0.heap.size := by
    intro b hb
    rcases Nat.lt_or_ge b cx.w0.heap.size with h' | h'
    · exact h'
    · simp [G0, Array.getElem?_eq_none h'] at hb
  have hk : Keeps cx.w0 (G0 cx.w0) (fun _ => none) W G φ := ⟨fun b i hi => hW.below.cell (p := ⟨b, i, none⟩) (hlt b (by omega)), fun b => by
    rcases Nat.eq_zero_or_pos (G0 cx.w0 b) with h0 | h0
    · omega
    · rw [hW.Glo b (hlt b h0)]; exact Nat.le_refl _, fun _ _ h => by cases h⟩
  refine ⟨h1.sc, fun k c hc => ?_⟩
  obtain ⟨y, h3, h4⟩ := h1.cell k c hc
  have hkl := (List.getElem?_eq_some_iff.1 hc).1
  exact ⟨y, by rw [hk.cell g (0 + k) (by omega)]; exact h3, h4.keep hk⟩

theorem rep_cV {P : Program} {t : TypeId} {x : Value} {v : V} {W G φ} (h : cV P t x = some v) : Rep W G φ v x := by
  unfold cV at h
  split at h <;> simp only [Option.some.injEq, reduceCtorEq] at h <;> subst h
  · exact .bool _
  · exact .int _ _
  · exact .str _ _ rfl
  · exact .slnil _
  · exact .nilptr
  · exact .nilmap
  · exact .nilfn
  · exact .nilif

theorem sc_cV {P : Program} {t : TypeId} {x : Value} {v : V} (h : cV P t x = some v) : v.sc = true := by
  unfold cV at h
  split at h <;> simp only [Option.some.injEq, reduceCtorEq] at h <;> subst h <;> rfl

theorem rep_cVs {P : Program} {W G φ} : ∀ {ts : List TypeId} {xs : List Value} {vs : List V}, cVs P ts xs = some vs → RepL W G φ vs xs.toArray ∧ ∀ c ∈ vs, c.sc = true
  | [], [], vs, h => by simp [cVs] at h; subst h; exact ⟨⟨rfl, fun i c x hc => by simp at hc⟩, by simp⟩
  | t :: ts, x :: xs, vs, h => by
    simp only [cVs, Option.bind_eq_some_iff, Option.map_eq_some_iff] at h
    obtain ⟨v, h1, vs', h2, rfl⟩ := h
    obtain ⟨h3, h4⟩ := rep_cVs (W := W) (G := G) (φ := φ) h2
    refine ⟨⟨by simpa using h3.1, fun i c y hc hy => ?_⟩, fun c hc => ?_⟩
    · cases i with
      | zero => simp at hc hy; subst hc; subst hy; exact rep_cV h1
      | succ i => exact h3.2 i c y (by simpa using hc) (by simpa using hy)
    · rcases List.mem_cons.1 hc with rfl | hc
      · exact sc_cV h1
      · exact h4 c hc

theorem rep_zeroV {P : Program} {t : TypeId} {vs : List V} {W G φ} (h : zeroV P t = some vs) : ∃ z, (∀ W, (zeroValue t).run P W = .ok z W) ∧ RepL W G φ vs z.cells ∧ ∀ c ∈ vs, c.sc = true := by
  unfold zeroV at h
  split at h
  · rename_i i hi
    split at h
    · rename_i z hz
      obtain ⟨h1, h2⟩ := rep_cVs (W := W) (G := G) (φ := φ) h
      exact ⟨z, fun W => by simp [zeroValue, run_typeInfo hi, hz], by simpa using h1, h2⟩
    · simp at h
  · simp at h

theorem slE_spec {P : Program} {t : TypeId} {sz : Nat} (h : slE P t = some sz) : ∃ e i z, P.underlying t = some (.slice e) ∧ P.info? e = some i ∧ i.zero = some z ∧ z.cells.size = i.size ∧ i.bytes ≤ 4096 ∧ i.size = sz := by
  unfold slE at h
  split at h
  · rename_i e he
    split at h
    · rename_i i hi
      split at h
      · rename_i z hz
        split at h
        · rename_i hc
          simp only [Option.some.injEq] at h
          exact ⟨e, i, z, he, hi, hz, hc.1, hc.2, h⟩
        · simp at h
      · simp at h
    · simp at h
  · simp at h

section
variable {cx : Cx} {w : World} {B : Nat → Prop} {GB : Nat → Nat} {g : Gh} {st : St} {a : Act} {W : World}

theorem cOpd_rep {n : Nat} {P : Program} {t : TypeId} {x : Operand} {y : Opd} (h : SR w B GB g st a W) (hn : a.tmps.size = n) (hc : cOpd P n t x = some y) : Rep W g.G g.φ (evO st.tm y) (a.eval x) := by
  unfold cOpd at hc
  split at hc
  · split at hc
    · rename_i k hk
      simp only [Option.some.injEq] at hc; subst hc
      exact h.get (by rw [hn]; exact hk)
    · simp at hc
  · simp only [Option.map_eq_some_iff] at hc
    obtain ⟨v, hv, rfl⟩ := hc
    exact rep_cV hv
  · simp only [Option.some.injEq] at hc; subst hc; exact .gp _ _
  · simp only [Option.some.injEq] at hc; subst hc; exact .fn _ [] #[] rfl (fun i c x hc => by simp at hc)

theorem cOpds_rep {n : Nat} {P : Program} (h : SR w B GB g st a W) (hn : a.tmps.size = n) : ∀ {ts : List TypeId} {xs : List Operand} {ys : List Opd}, cOpds P n ts xs = some ys →
    ys.length = xs.length ∧ ∀ (i : Nat) (c : V) (x : Value), (ys.map (evO st.tm))[i]? = some c → (xs.map a.eval)[i]? = some x → Rep W g.G g.φ c x
  | ts, [], ys, hc => by simp [cOpds] at hc; subst hc; exact ⟨rfl, fun i c x hc => by simp at hc⟩
  | ts, x :: xs, ys, hc => by
    simp only [cOpds, Option.bind_eq_some_iff, Option.map_eq_some_iff] at hc
    obtain ⟨y, h1, ys', h2, rfl⟩ := hc
    obtain ⟨h3, h4⟩ := cOpds_rep h hn h2
    refine ⟨by simp [h3], fun i c z hc hz => ?_⟩
    cases i with
    | zero => simp at hc hz; subst hc; subst hz; exact cOpd_rep h hn h1
    | succ i => exact h4 i c z (by simpa using hc) (by simpa using hz)

theorem cOpdO_rep {n : Nat} {P : Program} {x : Option Operand} {y : Option Opd} (h : SR w B GB g st a W) (hn : a.tmps.size = n) (hc : cOpdO P n x = some y) : RepO W g.G g.φ (y.map (evO st.tm)) (x.map a.eval) := by
  cases x with
  | none => simp [cOpdO] at hc; subst hc; trivial
  | some x =>
    simp only [cOpdO, Option.map_eq_some_iff] at hc
    obtain ⟨y', h1, rfl⟩ := hc
    exact cOpd_rep h hn h1

/-- What is left to show of an operation that gives a value. -/
def After (B : Nat → Prop) (g : Gh) (W : World) (r : Res) (d : Option Nat) (y : Value) (W' : World) : Prop :=
  ∃ g', Adv B g g' W W' r.tk ∧ Rep W' g'.G g'.φ r.v y ∧ ∀ t, d = some t → r.o = true → OwnAt W' B g' (.slot t) r.v y

theorem After.same (h : SR w B GB g st a W) {v : V} {d : Option Nat} {y : Value} (hr : Rep W g.G g.φ v y) : After B g W ⟨v, false, none⟩ d y W :=
  ⟨g, Adv.refl h _, hr, fun _ _ h => by cases h⟩

theorem wp_value {P : Program} {o : Oper} {next : Act → World → Prop} {Q : Exit → Act → World → Prop} {s : Sem Value} {y : Value} {W' : World} (he : execOp a.eval o = (do pure (.value (← s)))) (hr : s.run P W = .ok y W')
    (h : next (a.put o.dst y) W') : o.wp P a W next Q := by
  unfold Oper.wp
  rw [he]
  simp only [Sem.run_bind, hr, Result.andThen_ok, Sem.run_pure]
  exact h
end
end Go.Abs
