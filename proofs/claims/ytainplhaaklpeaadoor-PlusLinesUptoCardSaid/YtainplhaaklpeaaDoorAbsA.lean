/-
  Abs, part A: values of Go as plain data (strings: lists of bytes; slices: lists of elements), and how they lie in the model's memory. Own work of this seat.
-/
import Derived.Calls
import Derived.Orders
import Derived.Below
import Derived.KernelRfl
namespace Go.Abs
open Go.RowKit

abbrev Bytes := List UInt8

inductive V where
  | bool (b : Bool)
  | int (k : IntKind) (n : Int)
  | str (s : Bytes)
  | agg (cs : List V)
  | sl (nl : Bool) (sz : Nat) (xs : List V)
  | osl (id off len cap sz : Nat)
  | el (cs : List V) (off : Nat)
  | gp (g off : Nat)
  | ptr (id off : Nat)
  | nilptr
  | map (id : Nat)
  | nilmap
  | fn (f : Nat) (caps : List V)
  | nilfn
  | iface (t : Nat) (v : V)
  | nilif
  | tup (vs : List V)
  deriving Inhabited

def V.cells : V → List V
  | .agg cs => cs
  | v => [v]

def V.sc : V → Bool
  | .agg _ | .tup _ => false
  | _ => true

abbrev Nil : V := .tup []

/-- How a plain value lies in memory. G b: how many cells of block b never change any more; φ: where objects lie. -/
inductive Rep (W : World) (G : Nat → Nat) (φ : Nat → Option Nat) : V → Value → Prop
  | bool (b : Bool) : Rep W G φ (.bool b) (.bool b)
  | int (k : IntKind) (n : Int) : Rep W G φ (.int k n) (.int k n)
  | str (l : Bytes) (s : ByteArray) (h : s.data.toList = l) : Rep W G φ (.str l) (.string s)
  | agg (cs : List V) (xs : Array Value) (hl : cs.length = xs.size) (hs : ∀ c ∈ cs, c.sc = true)
      (h : ∀ (i : Nat) (c : V) (x : Value), cs[i]? = some c → xs[i]? = some x → Rep W G φ c x) : Rep W G φ (.agg cs) (.agg xs)
  | slnil (sz : Nat) : Rep W G φ (.sl true sz []) (.slice none 0 0)
  | sl (sz : Nat) (xs : List V) (b off cap : Nat) (rd : Nat → Value) (hcap : xs.length ≤ cap) (hG : off + xs.length * sz ≤ G b)
      (hx : ∀ x ∈ xs, x.cells.length = sz ∧ ∀ c ∈ x.cells, c.sc = true)
      (hrd : ∀ k, k < xs.length * sz → W.cell? ⟨b, off + k, none⟩ = some (rd k))
      (h : ∀ (i : Nat) (x : V) (j : Nat) (c : V), xs[i]? = some x → x.cells[j]? = some c → Rep W G φ c (rd (i * sz + j))) :
      Rep W G φ (.sl false sz xs) (.slice (some ⟨b, off, none⟩) xs.length cap)
  | sl0 (sz : Nat) (a : Addr) : Rep W G φ (.sl false sz []) (.slice (some a) 0 0)
  | osl (id off len cap sz b : Nat) (h : φ id = some b) (hc : len ≤ cap) : Rep W G φ (.osl id off len cap sz) (.slice (some ⟨b, off, none⟩) len cap)
  | el (cs : List V) (off b base : Nat) (rd : Nat → Value) (hG : base + cs.length ≤ G b) (hs : ∀ c ∈ cs, c.sc = true)
      (hrd : ∀ k, k < cs.length → W.cell? ⟨b, base + k, none⟩ = some (rd k))
      (h : ∀ (k : Nat) (c : V), cs[k]? = some c → Rep W G φ c (rd k)) : Rep W G φ (.el cs off) (.pointer (some ⟨b, base + off, none⟩))
  | gp (g off : Nat) : Rep W G φ (.gp g off) (.pointer (some ⟨g, off, none⟩))
  | ptr (id off b : Nat) (h : φ id = some b) : Rep W G φ (.ptr id off) (.pointer (some ⟨b, off, none⟩))
  | nilptr : Rep W G φ .nilptr (.pointer none)
  | map (id b : Nat) (h : φ id = some b) : Rep W G φ (.map id) (.map (some b))
  | nilmap : Rep W G φ .nilmap (.map none)
  | fn (f : Nat) (cs : List V) (xs : Array Value) (hl : cs.length = xs.size) (h : ∀ (i : Nat) (c : V) (x : Value), cs[i]? = some c → xs[i]? = some x → Rep W G φ c x) :
      Rep W G φ (.fn f cs) (.func (.func f) #[] xs)
  | nilfn : Rep W G φ .nilfn .nilFunc
  | iface (t : Nat) (v : V) (x : Value) (h : Rep W G φ v x) : Rep W G φ (.iface t v) (.iface t x)
  | nilif : Rep W G φ .nilif .nilIface
  | tup (cs : List V) (xs : Array Value) (hl : cs.length = xs.size) (h : ∀ (i : Nat) (c : V) (x : Value), cs[i]? = some c → xs[i]? = some x → Rep W G φ c x) :
      Rep W G φ (.tup cs) (.tuple xs)

def RepL (W : World) (G : Nat → Nat) (φ : Nat → Option Nat) (vs : List V) (xs : Array Value) : Prop :=
  vs.length = xs.size ∧ ∀ (i : Nat) (c : V) (x : Value), vs[i]? = some c → xs[i]? = some x → Rep W G φ c x

/-- What never changes any more has not changed. -/
structure Keeps (W : World) (G : Nat → Nat) (φ : Nat → Option Nat) (W' : World) (G' : Nat → Nat) (φ' : Nat → Option Nat) : Prop where
  cell : ∀ b i, i < G b → W'.cell? ⟨b, i, none⟩ = W.cell? ⟨b, i, none⟩
  G : ∀ b, G b ≤ G' b
  φ : ∀ id b, φ id = some b → φ' id = some b

theorem Keeps.refl (W : World) (G : Nat → Nat) (φ : Nat → Option Nat) : Keeps W G φ W G φ := ⟨fun _ _ _ => rfl, fun _ => Nat.le_refl _, fun _ _ h => h⟩
theorem Keeps.trans {W G φ W' G' φ' W'' G'' φ''} (h : Keeps W G φ W' G' φ') (k : Keeps W' G' φ' W'' G'' φ'') : Keeps W G φ W'' G'' φ'' :=
  ⟨fun b i hi => (k.cell b i (Nat.lt_of_lt_of_le hi (h.G b))).trans (h.cell b i hi), fun b => Nat.le_trans (h.G b) (k.G b), fun id b e => k.φ id b (h.φ id b e)⟩

theorem Rep.keep {W G φ W' G' φ' v x} (hk : Keeps W G φ W' G' φ') (h : Rep W G φ v x) : Rep W' G' φ' v x := by
  induction h with
  | bool b => exact .bool b
  | int k n => exact .int k n
  | str l s h => exact .str l s h
  | agg cs xs hl hs _ ih => exact .agg cs xs hl hs ih
  | slnil sz => exact .slnil sz
  | sl sz xs b off cap rd hcap hG hx hrd _ ih =>
    refine .sl sz xs b off cap rd hcap (Nat.le_trans hG (hk.G b)) hx (fun k h => ?_) ih
    rw [hk.cell b (off + k) (by omega)]; exact hrd k h
  | sl0 sz a => exact .sl0 sz a
  | osl id off len cap sz b h hc => exact .osl id off len cap sz b (hk.φ _ _ h) hc
  | el cs off b base rd hG hs hrd _ ih =>
    refine .el cs off b base rd (Nat.le_trans hG (hk.G b)) hs (fun k h => ?_) ih
    rw [hk.cell b (base + k) (by omega)]; exact hrd k h
  | gp g off => exact .gp g off
  | ptr id off b h => exact .ptr id off b (hk.φ _ _ h)
  | nilptr => exact .nilptr
  | map id b h => exact .map id b (hk.φ _ _ h)
  | nilmap => exact .nilmap
  | fn f cs xs hl _ ih => exact .fn f cs xs hl ih
  | nilfn => exact .nilfn
  | iface t v x _ ih => exact .iface t v x ih
  | nilif => exact .nilif
  | tup cs xs hl _ ih => exact .tup cs xs hl ih

theorem RepL.keep {W G φ W' G' φ' vs xs} (hk : Keeps W G φ W' G' φ') (h : RepL W G φ vs xs) : RepL W' G' φ' vs xs :=
  ⟨h.1, fun i c x hc hx => (h.2 i c x hc hx).keep hk⟩

theorem RepL.one {W G φ v x} (h : Rep W G φ v x) : RepL W G φ [v] #[x] := ⟨rfl, fun i c y hc hy => by
  cases i with
  | zero => simp at hc hy; subst hc; subst hy; exact h
  | succ i => simp at hc⟩

theorem Rep.cells {W G φ v x} (h : Rep W G φ v x) : RepL W G φ v.cells x.cells := by
  cases h with
  | agg cs xs hl hs h => exact ⟨hl, h⟩
  | bool b => exact .one (.bool b)
  | int k n => exact .one (.int k n)
  | str l s h => exact .one (.str l s h)
  | slnil sz => exact .one (.slnil sz)
  | sl sz xs b off cap rd hcap hG hx hrd h => exact .one (.sl sz xs b off cap rd hcap hG hx hrd h)
  | sl0 sz a => exact .one (.sl0 sz a)
  | osl id off len cap sz b h hc => exact .one (.osl id off len cap sz b h hc)
  | el cs off b base rd hG hs hrd h => exact .one (.el cs off b base rd hG hs hrd h)
  | gp g off => exact .one (.gp g off)
  | ptr id off b h => exact .one (.ptr id off b h)
  | nilptr => exact .one .nilptr
  | map id b h => exact .one (.map id b h)
  | nilmap => exact .one .nilmap
  | fn f cs xs hl h => exact .one (.fn f cs xs hl h)
  | nilfn => exact .one .nilfn
  | iface t v x h => exact .one (.iface t v x h)
  | nilif => exact .one .nilif
  | tup cs xs hl h => exact .one (.tup cs xs hl h)

#print axioms Rep.keep
end Go.Abs
