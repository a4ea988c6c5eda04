/-
  Parts of the proof, one behind the other. Own work of this seat; some printed by its programs.
-/
import Derived.Calls
import Derived.Orders
import Derived.Below
import Derived.KernelRfl
import Derived.Deep.AppendSrc
import Derived.Laws.Slices
import Derived.WalkKit
import Derived.Lib.ConvBytes
import Derived.Laws.BytesArg
import Derived.Laws.MakeOwn
import Derived.ChangeKeysEq
import Derived.Laws.StructEq
import Derived.WideKeyRuns
abbrev Xaa := @Option.map_eq_some_iff
abbrev Xab := @Option.bind_eq_some_iff
abbrev Xac := @Option.some.injEq
abbrev Xad := @List.getElem?_eq_getElem
abbrev Xae := @Nat.le_refl
abbrev Xaf := @List.length_append
abbrev Xag := @Nat.eq_of_beq_eq_true
abbrev Xah := @List.drop_eq_getElem_cons
abbrev Xai := @Bool.and_eq_true
abbrev Xaj := @List.mem_of_getElem?
abbrev Xak := @List.getElem?_eq_some_iff
abbrev Xal := @List.length_pos_iff
abbrev Xam := @List.getElem_mem
abbrev Xan := @List.map_cons
abbrev Xao := @Nat.zero_add
abbrev Xap := @List.mem_cons
abbrev Xaq := @List.length_cons
abbrev Xar := @List.append_assoc
abbrev Xas := @List.drop_eq_nil_of_le
abbrev Xat := @Bool.false_eq_true
abbrev Xau := @Array.getElem?_eq_getElem
abbrev Xav := @List.all_eq_true
abbrev Xaw := @Option.bind_some
abbrev Xax := @List.append_nil
abbrev Xay := @Option.map_some
abbrev Xaz := @List.mem_append
abbrev Xa0 := @List.eq_nil_of_length_eq_zero
abbrev Xa1 := @List.take_of_length_le
abbrev Xa2 := @List.length_nil
abbrev Xa3 := @List.pairwise_iff_getElem
abbrev Xa4 := @Bool.or_eq_true
abbrev Xa5 := @Nat.le_of_ble_eq_true
abbrev Xa6 := @Nat.lt_or_ge
abbrev Xa7 := @List.mem_map
abbrev Xa8 := @List.take_append_drop
abbrev Xa9 := @List.map_nil
abbrev Xba := @Nat.le_trans
abbrev Xbb := @List.mem_cons_of_mem
abbrev Xbc := @List.mem_append_right
abbrev Xbd := @List.length_take
abbrev Xbe := @List.getElem?_map
abbrev Xbf := @Nat.lt_or_eq_of_le
abbrev Xbg := @Array.getElem?_eq_some_iff
abbrev Xbh := @List.mem_append_left
abbrev Xbi := @List.take_succ_eq_append_getElem
abbrev Xbj := @List.contains_iff_mem
abbrev Xbk := @Nat.lt_trichotomy
abbrev Xbl := @List.nil_append
abbrev Xbm := @Bool.or_eq_false_iff
abbrev Xbn := @Nat.lt_of_lt_of_le
abbrev Xbo := @Option.isSome_none
abbrev Xbp := @List.mem_singleton
abbrev Xbq := @List.drop_zero
abbrev Xbr := @Nat.mul_le_mul_right
abbrev Xbs := @List.pairwise_append
abbrev Xbt := @List.mem_iff_getElem
abbrev Xbu := @Option.getD_some
abbrev Xbv := @List.mem_iff_getElem?
abbrev Xbw := @List.drop_append_of_le_length
abbrev Xbx := @List.getElem?_append_left
abbrev Xby := @List.pairwise_cons
abbrev Xbz := @Nat.zero_le
abbrev Xb0 := @Option.getD_none
abbrev Xb1 := @List.not_mem_nil
abbrev Xb2 := @List.length_map
abbrev Xb3 := @List.mem_flatMap
abbrev Xb4 := @List.cons_append
abbrev Xb5 := @Option.isSome_iff_exists
abbrev Xb6 := @Bool.not_eq_true'
abbrev Xb7 := @List.getElem_append_left
abbrev Xb8 := @Nat.add_mul
abbrev Xb9 := @List.set_eq_take_append_cons_drop
abbrev Xca := @List.mem_of_mem_drop
abbrev Xcb := @List.getElem?_append_right
abbrev Xcc := @List.flatMap_cons
abbrev Xcd := @List.flatten_cons
abbrev Xce := @Bool.and_true
abbrev Xcf := @List.getElem_append_right
abbrev Xcg := @List.map_map
abbrev Xch := @List.length_singleton
abbrev Xci := @List.singleton_append
abbrev Xcj := @List.append_inj
abbrev Xck := @List.getElem_of_eq
abbrev Xcl := @List.mem_of_mem_take
abbrev Xcm := @List.append_cancel_left
abbrev Xcn := @List.drop_drop
abbrev Xco := @List.mem_range
abbrev Xcp := @Array.length_toList
abbrev Xcq := @List.mem_map_of_mem
abbrev Xcr := @Array.getElem?_append_left
abbrev Xcs := @List.all_cons
abbrev Xct := @List.getElem?_toArray
abbrev Xcu := @Nat.eq_zero_or_pos
abbrev Xcv := @Bool.and_self
abbrev Xcw := @List.take_zero
abbrev Xcx := @List.getElem?_append
abbrev Xcy := @List.any_eq_false
abbrev Xcz := @List.cons.injEq
abbrev Xc0 := @Int.toNat_natCast
abbrev Xc1 := @UInt8.toNat_inj
abbrev Xc2 := @List.replicate_append_replicate
abbrev Xc3 := @List.length_eq_zero_iff
abbrev Xc4 := @List.replicate_succ
abbrev Xc5 := @List.map_congr_left
abbrev Xc6 := @List.take_succ_cons
abbrev Xc7 := @List.length_drop
abbrev Xc8 := @List.take_append_of_le_length
abbrev Xc9 := @Nat.mul_le_mul
abbrev Xda := @List.drop_of_length_le
abbrev Xdb := @Option.isSome_some
abbrev Xdc := @List.mem_cons_self
abbrev Xdd := @Bool.and_eq_false_iff
abbrev Xde := @Option.map_none
abbrev Xdf := @List.set_append_right
abbrev Xdg := @List.getElem?_of_mem
abbrev Xdh := @List.mem_of_find?_eq_some
abbrev Xdi := @List.drop_append
abbrev Xdj := @List.any_eq_true
abbrev Xdk := @List.ext_getElem
abbrev Xdl := @Nat.le_max_right
abbrev Xdm := @Nat.shiftLeft_eq
abbrev Xdn := @Nat.mul_one
abbrev Xdo := @List.getElem?_take_of_lt
abbrev Xdp := @List.mem_filter
abbrev Xdq := @Nat.le_max_left
abbrev Xdr := @List.length_eq_one_iff
abbrev Xds := @Nat.div_div_eq_div_mul
abbrev Xdt := @List.length_pos_of_mem
abbrev Xdu := @Array.size_append
abbrev Xdv := @List.ext_getElem?
abbrev Xdw := @List.getElem?_inj
abbrev Xdx := @List.drop_sublist
abbrev Xdy := @List.eq_nil_iff_forall_not_mem
abbrev Xdz := @Nat.ble_eq_true_of_le
abbrev Xd0 := @Nat.lt_of_not_le
abbrev Xd1 := @List.range'_succ
abbrev Xd2 := @Bool.and_comm
abbrev Xd3 := @List.range_succ
abbrev Xd4 := @List.getElem?_range
abbrev Xd5 := @List.map_eq_nil_iff
abbrev Xd6 := @List.getD_eq_getElem?_getD
abbrev Xd7 := @Nat.succ_mul
abbrev Xd8 := @List.getElem?_drop
abbrev Xd9 := @List.mem_replicate
abbrev Xea := @Nat.add_zero
abbrev Xeb := @Nat.beq_refl
abbrev Xec := @List.size_toArray
abbrev Xed := @List.take_sublist
abbrev Xee := @Nat.le_of_lt_succ
abbrev Xef := @List.getElem?_cons_zero
abbrev Xeg := @Nat.add_assoc
abbrev Xeh := @List.any_cons
abbrev Xei := @List.take_length
abbrev Xej := @Nat.div_add_mod
abbrev Xek := @Nat.div_le_self
abbrev Xel := @List.map_append
abbrev Xem := @Bool.and_false
abbrev Xen := @Prod.mk.injEq
abbrev Xeo := @List.map_take
abbrev Xep := @Bool.or_false
abbrev Xeq := @Bool.false_or
abbrev Xer := @Nat.not_le
namespace Go.Abs
open Go.RowKit
abbrev Bytes :=List UInt8
inductive V where
 |bool (b:Bool)
 |int (k:IntKind) (n:Int)
 |str (s:Bytes)
 |agg (cs:List V)
 |sl (nl:Bool) (sz:Nat) (xs:List V)
 |osl (id off len cap sz:Nat)
 |el (cs:List V) (off:Nat)
 |gp (g off:Nat)
 |ptr (id off:Nat)
 |nilptr
 |map (id:Nat)
 |nilmap
 |fn (f:Nat) (caps:List V)
 |mfn (f:Nat) (fs:List V)
 |nilfn
 |iface (t:Nat) (v:V)
 |nilif
 |tup (vs:List V)
 deriving Inhabited
def V.cells :V->List V
 | .agg cs=>cs
 |v=> [v]
def V.sc :V->Bool
 | .agg _| .tup _=>false
 |_=>true
abbrev Nil :V:= .tup []
def csz (W:World)(b:Nat):Nat:=match W.heap[b]? with|some (.cells c _ _)=>c.size|_=>0
theorem Zji {W W':World}{b:Nat}(h:W'.heap[b]? =W.heap[b]?):csz W' b=csz W b:=by unfold csz;rw[h]
inductive Rep (W:World)(G:Nat->Nat)(φ:Nat->Option Nat):V->Value->Prop
 |bool (b:Bool):Rep W G φ (.bool b) (.bool b)
 |int (k:IntKind) (n:Int):Rep W G φ (.int k n) (.int k n)
 |str (l:Bytes) (s:ByteArray) (h:s.data.toList=l):Rep W G φ (.str l) (.string s)
 |agg (cs:List V) (xs:Array Value) (hl:cs.length=xs.size) (hs:∀c∈cs,c.sc=true)
   (h:∀(i:Nat) (c:V) (x:Value),cs[i]? =some c->xs[i]? =some x->Rep W G φ c x):Rep W G φ (.agg cs) (.agg xs)
 |slnil (sz:Nat):Rep W G φ (.sl true sz []) (.slice none 0 0)
 |sl (sz:Nat) (xs:List V) (b off cap:Nat) (rd:Nat->Value) (hcap:xs.length<=cap) (hG:off+xs.length*sz<=G b)
   (hx:∀x∈xs,x.cells.length=sz/\ ∀c∈x.cells,c.sc=true)
   (hrd:∀k,k<xs.length*sz->W.cell? ⟨b,off+k,none⟩=some (rd k))
   (h:∀(i:Nat) (x:V) (j:Nat) (c:V),xs[i]? =some x->x.cells[j]? =some c->Rep W G φ c (rd (i*sz+j))):
   Rep W G φ (.sl false sz xs) (.slice (some ⟨b,off,none⟩) xs.length cap)
 |sl0 (sz:Nat) (a:Addr):Rep W G φ (.sl false sz []) (.slice (some a) 0 0)
 |osl (id off len cap sz b cap':Nat) (h:φ id=some b) (hc:len<=cap) (hc':cap<=cap') (hs:off+cap'*sz<=csz W b):Rep W G φ (.osl id off len cap sz) (.slice (some ⟨b,off,none⟩) len cap')
 |osln (id off sz:Nat) (p:Option Addr):Rep W G φ (.osl id off 0 0 sz) (.slice p 0 0)
 |el (cs:List V) (off b base:Nat) (rd:Nat->Value) (hG:base+cs.length<=G b) (hs:∀c∈cs,c.sc=true)
   (hrd:∀k,k<cs.length->W.cell? ⟨b,base+k,none⟩=some (rd k))
   (h:∀(k:Nat) (c:V),cs[k]? =some c->Rep W G φ c (rd k)):Rep W G φ (.el cs off) (.pointer (some ⟨b,base+off,none⟩))
 |gp (g off:Nat):Rep W G φ (.gp g off) (.pointer (some ⟨g,off,none⟩))
 |ptr (id off b:Nat) (h:φ id=some b):Rep W G φ (.ptr id off) (.pointer (some ⟨b,off,none⟩))
 |nilptr:Rep W G φ .nilptr (.pointer none)
 |map (id b:Nat) (h:φ id=some b):Rep W G φ (.map id) (.map (some b))
 |nilmap:Rep W G φ .nilmap (.map none)
 |fn (f:Nat) (cs:List V) (xs:Array Value) (hl:cs.length=xs.size) (h:∀(i:Nat) (c:V) (x:Value),cs[i]? =some c->xs[i]? =some x->Rep W G φ c x):
   Rep W G φ (.fn f cs) (.func (.func f) #[] xs)
 |mfn (f:Nat) (cs:List V) (xs:Array Value) (hl:cs.length=xs.size) (h:∀(i:Nat) (c:V) (x:Value),cs[i]? =some c->xs[i]? =some x->Rep W G φ c x):
   Rep W G φ (.mfn f cs) (.func (.func f) xs #[])
 |nilfn:Rep W G φ .nilfn .nilFunc
 |iface (t:Nat) (v:V) (x:Value) (h:Rep W G φ v x):Rep W G φ (.iface t v) (.iface t x)
 |nilif:Rep W G φ .nilif .nilIface
 |tup (cs:List V) (xs:Array Value) (hl:cs.length=xs.size) (h:∀(i:Nat) (c:V) (x:Value),cs[i]? =some c->xs[i]? =some x->Rep W G φ c x):
   Rep W G φ (.tup cs) (.tuple xs)
def RepL (W:World)(G:Nat->Nat)(φ:Nat->Option Nat)(vs:List V)(xs:Array Value):Prop:=
 vs.length=xs.size/\ ∀(i:Nat) (c:V) (x:Value),vs[i]? =some c->xs[i]? =some x->Rep W G φ c x
structure Keeps (W:World)(G:Nat->Nat)(f:Nat->Option Nat)(W':World)(G':Nat->Nat)(f':Nat->Option Nat):Prop where
 cell:∀b i,i<G b->W'.cell? ⟨b,i,none⟩=W.cell? ⟨b,i,none⟩
 G:∀b,G b<=G' b
 φ:∀id b,f id=some b->f' id=some b
 sz:∀id b,f id=some b->csz W' b=csz W b
theorem Keeps.refl (W:World)(G:Nat->Nat)(φ:Nat->Option Nat):Keeps W G φ W G φ:=⟨fun _ _ _=>rfl,fun _=>Xae _,fun _ _ h=>h,fun _ _ _=>rfl⟩
theorem Keeps.trans {W G φ W' G' φ' W'' G'' φ''}(h:Keeps W G φ W' G' φ')(k:Keeps W' G' φ' W'' G'' φ''):Keeps W G φ W'' G'' φ'':=
 ⟨fun b i hi=>(k.cell b i (Xbn hi (h.G b))).trans (h.cell b i hi),fun b=>Xba (h.G b) (k.G b),fun id b e=>k.φ id b (h.φ id b e),fun id b e=>(k.sz id b (h.φ id b e)).trans (h.sz id b e)⟩
theorem Rep.keep {W G φ W' G' φ' v x}(hk:Keeps W G φ W' G' φ')(h:Rep W G φ v x):Rep W' G' φ' v x:=by
 induction h with
 |bool b=>exact .bool b
 |int k n=>exact .int k n
 |str l s h=>exact .str l s h
 |agg cs xs hl hs _ ih=>exact .agg cs xs hl hs ih
 |slnil sz=>exact .slnil sz
 |sl sz xs b off cap rd hcap hG hx hrd _ ih=>
  refine .sl sz xs b off cap rd hcap (Xba hG (hk.G b)) hx (fun k h=> ?_) ih
  rw[hk.cell b (off+k) (by omega)];exact hrd k h
 |sl0 sz a=>exact .sl0 sz a
 |osl id off len cap sz b cap' h hc hc' hs=>exact .osl id off len cap sz b cap' (hk.φ _ _ h) hc hc' (by rw[hk.sz _ _ h];exact hs)
 |osln id off sz p=>exact .osln id off sz p
 |el cs off b base rd hG hs hrd _ ih=>
  refine .el cs off b base rd (Xba hG (hk.G b)) hs (fun k h=> ?_) ih
  rw[hk.cell b (base+k) (by omega)];exact hrd k h
 |gp g off=>exact .gp g off
 |ptr id off b h=>exact .ptr id off b (hk.φ _ _ h)
 |nilptr=>exact .nilptr
 |map id b h=>exact .map id b (hk.φ _ _ h)
 |nilmap=>exact .nilmap
 |fn f cs xs hl _ ih=>exact .fn f cs xs hl ih
 |mfn f cs xs hl _ ih=>exact .mfn f cs xs hl ih
 |nilfn=>exact .nilfn
 |iface t v x _ ih=>exact .iface t v x ih
 |nilif=>exact .nilif
 |tup cs xs hl _ ih=>exact .tup cs xs hl ih
theorem RepL.keep {W G φ W' G' φ' vs xs}(hk:Keeps W G φ W' G' φ')(h:RepL W G φ vs xs):RepL W' G' φ' vs xs:=
 ⟨h.1,fun i c x hc hx=>(h.2 i c x hc hx).keep hk⟩
theorem RepL.one {W G φ v x}(h:Rep W G φ v x):RepL W G φ [v] #[x]:=⟨rfl,fun i c y hc hy=>by
 grind⟩
theorem Rep.cells {W G φ v x}(h:Rep W G φ v x):RepL W G φ v.cells x.cells:=by
 cases h with
 |agg cs xs hl hs h=>exact⟨hl,h⟩
 |bool b=>exact .one (.bool b)
 |int k n=>exact .one (.int k n)
 |str l s h=>exact .one (.str l s h)
 |slnil sz=>exact .one (.slnil sz)
 |sl sz xs b off cap rd hcap hG hx hrd h=>exact .one (.sl sz xs b off cap rd hcap hG hx hrd h)
 |sl0 sz a=>exact .one (.sl0 sz a)
 |osl id off len cap sz b cap' h hc hc' hs=>exact .one (.osl id off len cap sz b cap' h hc hc' hs)
 |osln id off sz p=>exact .one (.osln id off sz p)
 |el cs off b base rd hG hs hrd h=>exact .one (.el cs off b base rd hG hs hrd h)
 |gp g off=>exact .one (.gp g off)
 |ptr id off b h=>exact .one (.ptr id off b h)
 |nilptr=>exact .one .nilptr
 |map id b h=>exact .one (.map id b h)
 |nilmap=>exact .one .nilmap
 |fn f cs xs hl h=>exact .one (.fn f cs xs hl h)
 |mfn f cs xs hl h=>exact .one (.mfn f cs xs hl h)
 |nilfn=>exact .one .nilfn
 |iface t v x h=>exact .one (.iface t v x h)
 |nilif=>exact .one .nilif
 |tup cs xs hl h=>exact .one (.tup cs xs hl h)
end Go.Abs
namespace Go.Abs
inductive Opd where
 |tmp (t:Nat)
 |const (v:V)
 deriving Inhabited
inductive Pos where
 |slot (t:Nat)
 |cell (id j:Nat)
 deriving DecidableEq
inductive EqK where
 |no|bool|flat (ks:List (Option IntKind×Bool))|slice|ptr|iface|fn
 deriving Inhabited
abbrev KK :=Bool×List (Option IntKind×Bool)
inductive AOp where
 |mv (x:Opd)
 |mvo (t:Nat)
 |pick (c a b:Opd)
 |ext (t:Opd) (i:Nat)
 |bin (op:BinOp) (q:EqK) (x y:Opd)
 |un (op:UnOp) (x:Opd)
 |len (str:Bool) (x:Opd)
 |mnx (mx:Bool) (x y:Opd)
 |iaddr (sz:Nat) (x i:Opd)
 |iarr (n sz:Nat) (x i:Opd)
 |faddr (off:Nat) (x:Opd)
 |load (n:Option Nat) (x:Opd)
 |ldp (n:Option Nat) (x:Opd)
 |ldo (x:Opd)
 |fld (n:Option Nat) (off:Nat) (x:Opd)
 |idx (x i:Opd)
 |idxa (len sz:Nat) (n:Option Nat) (x i:Opd)
 |sls (x:Opd) (lo hi:Option Opd)
 |slc (sz:Nat) (x:Opd) (lo hi mx:Option Opd)
 |slca (n sz:Nat) (x:Opd) (lo hi mx:Option Opd)
 |build (zero:List V) (parts:List (Nat×Nat×Opd))
 |bsl (sz:Nat) (parts:List Opd)
 |app (sz:Nat) (s x:Opd)
 |mks (sz:Nat) (zero:List V) (len cap:Opd)
 |s2b (x:Opd)
 |b2s (x:Opd)
 |i2i (k:IntKind) (x:Opd)
 |s2s (x:Opd)
 |s2a (n:Nat) (x:Opd)
 |call (f:Nat) (args:List Opd)
 |callv (f:Opd) (args:List Opd)
 |callh (f:Nat) (args:List Opd)
 |callvh (f:Opd) (args:List Opd)
 |mkf (f:Nat) (caps:List Opd)
 |mkm (f:Nat) (fs:List Opd)
 |nilck (x:Opd)
 --those that touch the objects
 |new (cs:List V)
 |box (x:Opd)
 |store (n:Nat) (a x:Opd)
 |sto (a:Opd) (t:Nat)
 --rows that are written in place
 |nro (sz:Nat)
 |mko (sz:Nat) (zero:List V) (len cap:Opd)
 |appo (sz:Nat) (s x:Opd)
 |cpy (d s:Opd)
 |clr (zero:List V) (d:Opd)
 --maps
 |nmp
 |mlk (ks:KK) (z:V) (ok:Bool) (m k:Opd)
 |mup (ks:KK) (m k x:Opd)
 |mln (m:Opd)
 deriving Inhabited
inductive Ob where
 |cells (cs:List V)
 |mp (l:List (V×V))
 deriving Inhabited
abbrev Hp :=Nat->Option Ob
structure HS where
 H:Hp
 nH:Nat
 co:Nat->Nat->Bool
structure Spec where
 p:Nat->List V->Option (V×Bool)
 h:Nat->List V->HS->Option (V×Bool×HS)
instance : CoeFun Spec fun _=>Nat->List V->Option (V×Bool):=⟨Spec.p⟩
def Zas (cs:List V)(off:Nat)(ys:List V):List V:=cs.take off++ys++cs.drop (off+ys.length)
def Zak (n:Option Nat)(cs:List V)(off:Nat):Option V:=
 match n with
 |none=>cs[off]?
 |some k=>if off+k<=cs.length then some (.agg ((cs.drop off).take k))else none
def aint (op:BinOp)(k:IntKind)(a b:Int):Option V:=
 match op with
 | .add=>some (.int k (k.wrap (a+b)))
 | .sub=>some (.int k (k.wrap (a-b)))
 | .mul=>some (.int k (k.wrap (a*b)))
 | .quo=>if b=0 then none else some (.int k (k.wrap (a.tdiv b)))
 | .rem=>if b=0 then none else some (.int k (a.tmod b))
 | .and=>some (.int k (k.wrap (BitVec.ofInt k.bits a&&&BitVec.ofInt k.bits b).toNat))
 | .or=>some (.int k (k.wrap (BitVec.ofInt k.bits a|||BitVec.ofInt k.bits b).toNat))
 | .xor=>some (.int k (k.wrap (BitVec.ofInt k.bits a^^^BitVec.ofInt k.bits b).toNat))
 | .andNot=>some (.int k (k.wrap (BitVec.ofInt k.bits a&&& ~~~BitVec.ofInt k.bits b).toNat))
 | .eql=>some (.bool (decide (a=b)))
 | .neq=>some (.bool (!decide (a=b)))
 | .lss=>some (.bool (decide (a<b)))
 | .leq=>some (.bool (decide (a<=b)))
 | .gtr=>some (.bool (decide (b<a)))
 | .geq=>some (.bool (decide (b<=a)))
 |_=>none
def astr (op:BinOp)(a b:Bytes):Option V:=
 match op with
 | .add=>if a.length+b.length<=4611686018427387904 then some (.str (a++b))else none
 | .eql=>some (.bool (decide (a=b)))
 | .neq=>some (.bool (!decide (a=b)))
 | .lss=>some (.bool (Op.bytesLess a b))
 | .leq=>some (.bool (Op.bytesLess a b||decide (a=b)))
 | .gtr=>some (.bool (!(Op.bytesLess a b||decide (a=b))))
 | .geq=>some (.bool (!Op.bytesLess a b))
 |_=>none
def kdEq :(Option IntKind×Bool)->V->V->Option Bool
 |(some k,_), .int j a, .int j' b=>if j=k/\j'=k then some (decide (a=b))else none
 |(none,true), .str a, .str b=>some (decide (a=b))
 |(none,false), .bool a, .bool b=>some (a==b)
 |_,_,_=>none
def Zat :List (Option IntKind×Bool)->List V->List V->Option Bool
 | [],[],[]=>some true
 |k::ks,x::xs,y::ys=>(kdEq k x y).bind fun b=>(Zat ks xs ys).map (b&& ·)
 |_,_,_=>none
def aeq (q:EqK)(x y:V):Option Bool:=
 match q,x,y with
 | .bool, .bool a, .bool b=>some (a==b)
 | .flat ks, .agg a, .agg b=>Zat ks a b
 | .slice, .sl nl _ _, .sl true _ []=>some nl
 | .slice, .sl true _ [], .sl nl _ _=>some nl
 | .ptr, .nilptr, .nilptr=>some true
 | .ptr, .ptr _ _, .nilptr=>some false
 | .ptr, .nilptr, .ptr _ _=>some false
 | .iface, .nilif, .nilif=>some true
 | .iface, .iface _ _, .nilif=>some false
 | .iface, .nilif, .iface _ _=>some false
 |_,_,_=>none
def vEq (op:BinOp)(b:Option Bool):Option V:=
 match op with
 | .eql=>b.map .bool
 | .neq=>b.map fun b=> .bool !b
 |_=>none
def abin (op:BinOp)(q:EqK)(x y:V):Option V:=
 match x,y with
 | .int k a, .int k' b=>
  match op with
  | .shl=>if b<0 then none else some (.int k (k.wrap (a*2^(min b.toNat k.bits))))
  | .shr=>if b<0 then none else some (.int k (a.fdiv (2^(min b.toNat k.bits))))
  |_=>if k=k' then aint op k a b else none
 | .str a, .str b=>astr op a b
 | .osl _ _ n _ _, .sl true _ []=>match q with| .slice=>if n=0 then none else vEq op (some false)|_=>none
 |_,_=>vEq op (aeq q x y)
def aun (op:UnOp)(x:V):Option V:=
 match op,x with
 | .neg, .int k n=>some (.int k (k.wrap (0-n)))
 | .xor, .int k n=>some (.int k (k.wrap (BitVec.ofInt k.bits (if k.signed then-1 else k.max)^^^BitVec.ofInt k.bits n).toNat))
 | .not, .bool b=>some (.bool !b)
 |_,_=>none
def Zb4 :List V->Option Bytes
 | []=>some []
 | .int .u8 n::r=>(Zb4 r).map (UInt8.ofNat n.toNat:: ·)
 |_=>none
def byteV (b:UInt8):V:= .int .u8 b.toNat
def encB (l:Bytes):List V:=l.map byteV
def cut3 (len cap:Nat)(lo hi mx:Option Int):Option (Nat×Nat×Nat):=
 let m:=mx.getD cap
 let h:=hi.getD len
 let l:=lo.getD 0
 if 0<=m/\m<=cap/\0<=h/\h<=m/\0<=l/\l<=h/\(mx.isSome=true->hi.isSome=true)then some (l.toNat,h.toNat,m.toNat)else none
def Zj4 :List V->List (Nat×Nat×V)->Option (List V)
 |cs,[]=>some cs
 |cs,(off,n,v)::r=>if v.cells.length=n/\v.cells.all V.sc=true/\off+n<=cs.length then Zj4 (Zas cs off v.cells) r else none
structure Res where
 v:V
 o:Bool
 tk:Option Pos
def resV (v:Option V):Option Res:=v.map fun v=>⟨v,false,none⟩
def Lim :Nat:=4294967296
def fits (sz:Nat)(xs:List V):Bool:=xs.all fun x=>x.cells.length==sz&&x.cells.all V.sc
def Zql :V->V->V->Option V
 | .bool t,a,b=>some (if t then a else b)
 |_,_,_=>none
def vExt :V->Nat->Option V
 | .tup vs,i=>vs[i]?
 |_,_=>none
def vLen :Bool->V->Option V
 |true, .str s=>some (.int .i64 s.length)
 |false, .sl _ _ xs=>some (.int .i64 xs.length)
 |false, .osl _ _ n _ _=>some (.int .i64 n)
 |_,_=>none
def vMnx (mx:Bool):V->V->Option V
 | .int k a, .int k' b=>if k=k' then some (.int k (if mx then(if a<b then b else a)else(if b<a then b else a)))else none
 |_,_=>none
def Zd8 (sz:Nat):V->V->Option V
 | .sl false s xs, .int _ n=>if 0<=n/\s=sz then(xs[n.toNat]?).map fun e=> .el e.cells 0 else none
 | .osl id off len _ s, .int _ n=>if 0<=n/\n<len/\s=sz then some (.ptr id (off+n.toNat*sz))else none
 |_,_=>none
def Zp9 (n sz:Nat):V->V->Option V
 | .ptr id off, .int _ j=>if 0<=j/\j<n then some (.ptr id (off+j.toNat*sz))else none
 | .el cs off, .int _ j=>if 0<=j/\j<n then some (.el cs (off+j.toNat*sz))else none
 | .gp g off, .int _ j=>if 0<=j/\j<n then some (.gp g (off+j.toNat*sz))else none
 |_,_=>none
def Ziy (off:Nat):V->Option V
 | .ptr id o=>some (.ptr id (o+off))
 | .el cs o=>some (.el cs (o+off))
 | .gp g o=>some (.gp g (o+off))
 |_=>none
def Zap (H:Hp)(id:Nat):Option (List V):=match H id with|some (.cells cs)=>some cs|_=>none
def hMap (H:Hp)(id:Nat):Option (List (V×V)):=match H id with|some (.mp l)=>some l|_=>none
def Zdr (ks:KK)(a b:V):Option Bool:=
 match ks,a,b with
 |(true,ks), .agg x, .agg y=>Zat ks x y
 |(false,ks),x,y=>if x.sc=true/\y.sc=true then Zat ks [x] [y]else none
 |_,_,_=>none
def Ze3 (ks:KK)(k:V):List (V×V)->Option (Option V)
 | []=>some none
 |p::r=>(Zdr ks k p.1).bind fun b=>if b then some (some p.2)else Ze3 ks k r
def mPut (ks:KK)(k x:V):List (V×V)->Option (List (V×V))
 | []=>some [(k,x)]
 |p::r=>(Zdr ks k p.1).bind fun b=>if b then some ((k,x)::r)else(mPut ks k x r).map (p:: ·)
def Zjz (H:Hp):V->Option (List (V×V))
 | .map id=>hMap H id
 | .nilmap=>some []
 |_=>none
def vMlk (H:Hp)(ks:KK)(z:V)(ok:Bool)(m k:V):Option V:=
 (Zjz H m).bind fun l=>if Zdr ks k k=some true then(Ze3 ks k l).map fun r=>if ok then .tup [r.getD z, .bool r.isSome]else r.getD z else none
def vMln (H:Hp)(m:V):Option V:=(Zjz H m).map fun l=> .int .i64 l.length
def Zfe (gl:Nat->Option (List V))(H:Hp)(n:Option Nat):V->Option V
 | .ptr id o=>(Zap H id).bind fun cs=>Zak n cs o
 | .el cs o=>Zak n cs o
 | .gp g o=>(gl g).bind fun cs=>Zak n cs o
 |_=>none
def vLdp (gl:Nat->Option (List V))(n:Option Nat):V->Option V
 | .el cs o=>Zak n cs o
 | .gp g o=>(gl g).bind fun cs=>Zak n cs o
 |_=>none
def vLdo (H:Hp)(own:Pos->Bool):V->Option Res
 | .ptr id o=>(Zap H id).bind fun cs=>(cs[o]?).map fun v=>⟨v,own (.cell id o),some (.cell id o)⟩
 |_=>none
def vFld (n:Option Nat)(off:Nat):V->Option V
 | .agg cs=>Zak n cs off
 |_=>none
def vIdx :V->V->Option V
 | .str s, .int _ n=>if 0<=n then(s[n.toNat]?).map byteV else none
 |_,_=>none
def Zqr (len sz:Nat)(n:Option Nat):V->V->Option V
 | .agg cs, .int _ j=>if 0<=j/\j<len then Zak n cs (j.toNat*sz)else none
 |_,_=>none
def vOpt :Option V->Option (Option Int)
 |none=>some none
 |some (.int _ n)=>some (some n)
 |some _=>none
def vSls (x:V)(lo hi:Option V):Option V:=
 match vOpt lo,vOpt hi,x with
 |some l,some h, .str s=>(cut3 s.length s.length l h none).map fun c=> .str ((s.take c.2.1).drop c.1)
 |_,_,_=>none
def vSlc (sz:Nat)(x:V)(lo hi mx:Option V):Option Res:=
 match vOpt lo,vOpt hi,vOpt mx,x with
 |some l,some h,some m, .sl nl s xs=>
  if s=sz/\(m=none \/m=h)then(cut3 xs.length xs.length l h none).map fun c=>⟨.sl nl sz ((xs.take c.2.1).drop c.1),m.isSome,none⟩else none
 |some l,some h,some m, .osl id off len cap s=>
  if s=sz/\m=none then(cut3 len cap l h none).map fun c=>⟨.osl id (off+c.1*sz) (c.2.1-c.1) (c.2.2-c.1) sz,false,none⟩else none
 |_,_,_,_=>none
def Zj5 (H:Hp)(n sz:Nat)(x:V)(lo hi mx:Option V):Option V:=
 match vOpt lo,vOpt hi,vOpt mx,x with
 |some l,some h,some m, .ptr id o=>(Zap H id).bind fun cs=>if o+n*sz<=cs.length/\cs≠ []then(cut3 n n l h m).map fun c=> .osl id (if c.2.2=c.1 then o else o+c.1*sz) (c.2.1-c.1) (c.2.2-c.1) sz else none
 |_,_,_,_=>none
def vB2s (H:Hp):V->Option V
 | .sl _ 1 xs=>(Zb4 xs).map .str
 | .osl id off len _ 1=>if len=0 then some (.str [])else(Zap H id).bind fun cs=>if off+len<=cs.length then(Zb4 ((cs.drop off).take len)).map .str else none
 |_=>none
def vI2i (k:IntKind):V->Option V
 | .int _ n=>some (.int k (k.wrap n))
 |_=>none
def vS2s :V->Option V
 | .str s=>some (.str s)
 |_=>none
def vS2a (n:Nat):V->Option V
 | .sl false 1 xs=>if n<=xs.length/\xs≠ []/\fits 1 xs=true then some (.el (xs.flatMap V.cells) 0)else none
 |_=>none
def Zmr :V->Option V
 | .ptr id o=>some (.ptr id o)
 | .el cs o=>some (.el cs o)
 | .fn f c=>some (.fn f c)
 | .mfn f c=>some (.mfn f c)
 |_=>none
def vS2b :V->Option Res
 | .str s=>some ⟨.sl false 1 (encB s),true,none⟩
 |_=>none
def vMks (sz:Nat):V->V->Option Res
 | .int _ n, .int _ c=>if n=0/\0<=c/\c<=Lim then some ⟨.sl false sz [],true,none⟩else none
 |_,_=>none
def vMkz (sz:Nat)(zero:List V):V->V->Option Res
 | .int _ n, .int _ c=>match zero with
  | [z]=>if 0<=n/\n<=c/\c<=Lim/\sz=1/\z.sc=true then some ⟨.sl false 1 (List.replicate n.toNat z),false,none⟩else none
  |_=>none
 |_,_=>none
def vMk (sz:Nat)(zero:List V)(l c:V):Option Res:=match zero with| []=>vMks sz l c|zero=>vMkz sz zero l c
def Zfp (sz:Nat):Nat->List V->List V
 |0,_=> []
 |n+1,cs=> .agg (cs.take sz)::Zfp sz n (cs.drop sz)
def vRow (sz n:Nat)(cs:List V):List V:=if sz=1 then cs.take n else Zfp sz n cs
theorem Zh7 {sz:Nat}:∀{n:Nat} {cs:List V},(Zfp sz n cs).length=n
 |0,_=>rfl
 |n+1,cs=>by simp[Zfp,Zh7]
theorem Zm9 {sz:Nat}:∀{n:Nat} {cs:List V},n*sz<=cs.length->(∀c∈cs,c.sc=true)-> ∀y∈Zfp sz n cs,y.cells.length=sz/\ ∀c∈y.cells,c.sc=true
 |0,_,_,_,y,hy=>by cases hy
 |n+1,cs,hl,hs,y,hy=>by
  rcases Xap.1 hy with rfl|hy
  ·grind[V.cells]
  ·exact Zm9 (by grind) (fun c hc=>hs c (Xca hc)) y hy
theorem Zns {sz:Nat}:∀{n:Nat} {cs:List V} {i j:Nat} {x c:V},n*sz<=cs.length->(Zfp sz n cs)[i]? =some x->x.cells[j]? =some c->i<n/\j<sz/\cs[i*sz+j]? =some c
 |0,_,i,_,_,_,_,h,_=>by grind[Zfp]
 |n+1,cs,0,j,x,c,hl,h,hc=>by
  simp only[Zfp,Xef,Xac]at h
  subst h
  have hj:(cs.take sz)[j]? =some c:=hc
  grind
 |n+1,cs,i+1,j,x,c,hl,h,hc=>by
  simp only[Zfp]at h
  obtain⟨h1,h2,h3⟩:=Zns (by grind) h hc
  grind
theorem Zk1 {sz:Nat}:∀{n:Nat} {cs:List V},(Zfp sz n cs).flatMap V.cells=cs.take (n*sz)
 |0,_=>by simp[Zfp]
 |n+1,cs=>by
  simp only[Zfp,Xcc,Zk1]
  rw[Xd7,Nat.add_comm,List.take_add];rfl
theorem Zjo {sz n:Nat}{cs:List V}(h:n*sz<=cs.length):(vRow sz n cs).length=n:=by
 grind[Zh7,vRow]
theorem Zjt {v:V}(h:v.sc=true):v.cells=[v]:=by cases v<;>first|rfl|simp[V.sc]at h
theorem Zqy {sz n:Nat}{cs:List V}(h:n*sz<=cs.length)(hs:∀c∈cs,c.sc=true):∀y∈vRow sz n cs,y.cells.length=sz/\ ∀c∈y.cells,c.sc=true:=by
 grind[Zjt,Zm9,vRow]
theorem Zxy {sz n:Nat}{cs:List V}{i j:Nat}{x c:V}(h:n*sz<=cs.length)(hs:∀c∈cs,c.sc=true)(hx:(vRow sz n cs)[i]? =some x)(hc:x.cells[j]? =some c):i<n/\j<sz/\cs[i*sz+j]? =some c:=by
 unfold vRow at hx
 split at hx
 ·grind[Zjt]
 ·exact Zns h hx hc
theorem Zxp {sz n:Nat}{cs:List V}(hs:∀c∈cs,c.sc=true):(vRow sz n cs).flatMap V.cells=cs.take (n*sz):=by
 unfold vRow
 split
 ·rename_i e;have:∀l:List V,(∀c∈l,c.sc=true)->l.flatMap V.cells=l:=by
   intro l
   induction l<;>grind[Zjt]
  grind
 ·exact Zk1
def Zb2 (H:Hp)(sz:Nat):V->Option (List V)
 | .sl _ s ys=>if s=sz \/ys=[]then some ys else none
 | .str b=>if sz=1 then some (encB b)else none
 | .osl id off len _ s=>if s=sz then if len=0 then some []else(Zap H id).bind fun cs=>if off+len*sz<=cs.length then some (vRow sz len (cs.drop off))else none else none
 |_=>none
def vApp (H:Hp)(own:Bool)(sz:Nat)(p:Option Pos)(s x:V):Option Res:=
 match s,Zb2 H sz x with
 | .sl true _ _,some ys=>if ys.length<=Lim then some ⟨.sl ys.isEmpty sz ys,true,none⟩else none
 | .sl false s' xs,some ys=>if xs.length+ys.length<=Lim/\s'=sz/\own=true then some ⟨.sl false sz (xs++ys),true,p⟩else none
 |_,_=>none
def V.isOsl :V->Bool
 | .osl _ _ _ _ _=>true
 |_=>false
def Zf3 (nl:Bool)(H:Hp):V->Option V
 | .osl id off len _ sz=>if len=0 then some (.sl nl sz [])else(Zap H id).bind fun cs=>if off+len*sz<=cs.length then some (.sl false sz (vRow sz len (cs.drop off)))else none
 |v=>some v
def Zgk (nl:Bool)(H:Hp):List V->Option (List V)
 | []=>some []
 |v::r=>(Zf3 nl H v).bind fun x=>(Zgk nl H r).map (x:: ·)
def V.isOsl0 :V->Bool
 | .osl _ _ 0 _ _=>true
 |_=>false
def fewE :List V->Bool
 | []=>true
 |v::r=>match v.isOsl0 with|true=> !r.any V.isOsl0|false=>fewE r
def V.flatR :V->Bool
 | .bool _| .int _ _| .str _=>true
 |_=>false
def V.isPtrV :V->Bool
 | .ptr _ _=>true
 | .map _=>true
 |_=>false
def V.flatT :V->Bool
 | .tup xs=>xs.all V.flatR
 |v=>v.flatR
def eqR :V->V->Bool
 | .bool a, .bool b=>a==b
 | .int k a, .int k' b=>decide (k=k')&&decide (a=b)
 | .str a, .str b=>decide (a=b)
 |_,_=>false
def eqRs :List V->List V->Bool
 | [],[]=>true
 |x::r,y::s=>eqR x y&&eqRs r s
 |_,_=>false
def eqT :V->V->Bool
 | .tup xs, .tup ys=>eqRs xs ys
 |x,y=>eqR x y
theorem Z0i {x y:V}(h:eqR x y=true):x=y/\x.flatR=true:=by
 unfold eqR at h
 split at h<;>simp_all[V.flatR]
theorem Zqw {x:V}(h:x.flatR=true):eqR x x=true:=by
 unfold V.flatR at h
 split at h<;>simp_all[eqR]
theorem Zxl :∀{xs ys:List V},eqRs xs ys=true->xs=ys/\xs.all V.flatR=true
 | [],[],_=>⟨rfl,rfl⟩
 | [],_::_,h=>by cases h
 |_::_,[],h=>by cases h
 |x::r,y::s,h=>by
  simp only[eqRs,Xai]at h
  obtain⟨rfl,h1⟩:=Z0i h.1
  obtain⟨rfl,h2⟩:=Zxl h.2
  exact⟨rfl,by simp[h1,h2]⟩
theorem Znd :∀{xs:List V},xs.all V.flatR=true->eqRs xs xs=true
 | [],_=>rfl
 |x::r,h=>by
  simp only[Xcs,Xai]at h
  simp[eqRs,Zqw h.1,Znd h.2]
theorem Z4f {x y:V}(h:eqT x y=true):x=y/\x.flatT=true:=by
 unfold eqT at h
 split at h
 ·obtain⟨rfl,h2⟩:=Zxl h;exact⟨rfl,h2⟩
 ·obtain⟨rfl,h2⟩:=Z0i h
  refine⟨rfl, ?_⟩
  cases x<;>first|exact h2|cases h2
theorem Zy2 {x:V}(h:x.flatT=true):eqT x x=true:=by
 cases x<;>simp only[V.flatT]at h<;>first|exact Znd h|exact Zqw h
def Zke (Γ:Spec)(H:Hp)(f:Nat)(args:List V):Option Res:=
 if args.any V.isPtrV then none else if args.any V.isOsl then(Zgk true H args).bind fun l=>(Zgk false H args).bind fun l'=>(Γ f l).bind fun r=>(Γ f l').bind fun r'=>if eqT r.1 r'.1&&fewE args then some ⟨r.1,false,none⟩else none
 else(Γ f args).map fun r=>⟨r.1,r.2,none⟩
def Zsk (Γ:Spec):V->List V->Option Res
 | .fn g caps,args=>(Γ g (args++caps)).map fun r=>⟨r.1,r.2,none⟩
 |_,_=>none
def evO (tm:Nat->V):Opd->V
 | .tmp t=>tm t
 | .const v=>v
def ownO (own:Pos->Bool):Opd->Bool
 | .tmp t=>own (.slot t)
 | .const _=>false
def posO :Opd->Option Pos
 | .tmp t=>some (.slot t)
 | .const _=>none
def Zbr (Γ:Spec)(gl:Nat->Option (List V))(H:Hp)(own:Pos->Bool)(tm:Nat->V):AOp->Option Res
 | .mv x=>some ⟨evO tm x,false,none⟩
 | .mvo t=>some ⟨tm t,own (.slot t),some (.slot t)⟩
 | .pick c a b=>resV (Zql (evO tm c) (evO tm a) (evO tm b))
 | .ext t i=>resV (vExt (evO tm t) i)
 | .bin op q x y=>resV (abin op q (evO tm x) (evO tm y))
 | .un op x=>resV (aun op (evO tm x))
 | .len s x=>resV (vLen s (evO tm x))
 | .mnx mx x y=>resV (vMnx mx (evO tm x) (evO tm y))
 | .iaddr sz x i=>resV (Zd8 sz (evO tm x) (evO tm i))
 | .iarr n sz x i=>resV (Zp9 n sz (evO tm x) (evO tm i))
 | .faddr off x=>resV (Ziy off (evO tm x))
 | .load n x=>resV (Zfe gl H n (evO tm x))
 | .ldp n x=>resV (vLdp gl n (evO tm x))
 | .ldo x=>vLdo H own (evO tm x)
 | .fld n off x=>resV (vFld n off (evO tm x))
 | .idx x i=>resV (vIdx (evO tm x) (evO tm i))
 | .idxa len sz n x i=>resV (Zqr len sz n (evO tm x) (evO tm i))
 | .sls x lo hi=>resV (vSls (evO tm x) (lo.map (evO tm)) (hi.map (evO tm)))
 | .slc sz x lo hi mx=>vSlc sz (evO tm x) (lo.map (evO tm)) (hi.map (evO tm)) (mx.map (evO tm))
 | .slca n sz x lo hi mx=>resV (Zj5 H n sz (evO tm x) (lo.map (evO tm)) (hi.map (evO tm)) (mx.map (evO tm)))
 | .build zero parts=>resV ((Zj4 zero (parts.map fun p=>(p.1,p.2.1,evO tm p.2.2))).map .agg)
 | .bsl sz parts=>if fits sz (parts.map (evO tm))then some ⟨.sl false sz (parts.map (evO tm)),true,none⟩else none
 | .s2b x=>vS2b (evO tm x)
 | .b2s x=>resV (vB2s H (evO tm x))
 | .i2i k x=>resV (vI2i k (evO tm x))
 | .s2s x=>resV (vS2s (evO tm x))
 | .s2a n x=>resV (vS2a n (evO tm x))
 | .call f args=>Zke Γ H f (args.map (evO tm))
 | .callv f args=>Zsk Γ (evO tm f) (args.map (evO tm))
 | .mkf f caps=>some ⟨.fn f (caps.map (evO tm)),false,none⟩
 | .mkm f fs=>some ⟨.mfn f (fs.map (evO tm)),false,none⟩
 | .nilck x=>resV (Zmr (evO tm x))
 | .mks sz z len cap=>vMk sz z (evO tm len) (evO tm cap)
 | .app sz s x=>vApp H (ownO own s) sz (posO s) (evO tm s) (evO tm x)
 | .mlk ks z ok m k=>resV (vMlk H ks z ok (evO tm m) (evO tm k))
 | .mln m=>resV (vMln H (evO tm m))
 | .new _| .box _| .store _ _ _| .sto _ _| .callh _ _| .callvh _ _| .nro _| .mko _ _ _ _| .appo _ _ _| .cpy _ _| .clr _ _| .nmp| .mup _ _ _ _=>none
structure AOper where
 dst:Option Nat
 op:AOp
 guard:Option (Nat×Bool)
 after:List Nat
 deriving Inhabited
structure St where
 tm:Nat->V
 own:Pos->Bool
 H:Hp
 nH:Nat
def upd {α:Type}(f:Nat->α)(d:Nat)(v:α):Nat->α:=fun t=>if t=d then v else f t
def updP (f:Pos->Bool)(d:Pos)(v:Bool):Pos->Bool:=fun t=>if t=d then v else f t
def St.put (st:St)(d:Option Nat)(v:V)(o:Bool):St:=
 match d with
 |some d=> {st with tm:=upd st.tm d v,own:=updP st.own (.slot d) o}
 |none=>st
def St.take (st:St)(p:Option Pos):St:=
 match p with
 |some p=> {st with own:=updP st.own p false}
 |none=>st
def St.wants (st:St)(o:AOper):Bool:=
 match o.guard with
 |none=>true
 |some (t,w)=>match st.tm t with| .bool b=>b==w|_=>false
def St.ev (st:St):Opd->V:=evO st.tm
def St.new (st:St)(cs:List V):St:=
 {st with H:=upd st.H st.nH (some (.cells cs)),nH:=st.nH+1,own:=fun p=>match p with| .cell i j=>if i=st.nH then false else st.own (.cell i j)| .slot t=>st.own (.slot t)}
def St.newMp (st:St):St:=
 {st with H:=upd st.H st.nH (some (.mp [])),nH:=st.nH+1,own:=fun p=>match p with| .cell i j=>if i=st.nH then false else st.own (.cell i j)| .slot t=>st.own (.slot t)}
def St.setMp (st:St)(id:Nat)(l:List (V×V)):St:=
 {st with H:=upd st.H id (some (.mp l)),own:=fun p=>match p with| .cell i j=>if i=id then false else st.own (.cell i j)| .slot t=>st.own (.slot t)}
def St.upMp (st:St)(ks:KK)(m k x:V):Option St:=
 match m with
 | .map id=>(hMap st.H id).bind fun l=>if Zdr ks k k=some true then(mPut ks k x l).map (st.setMp id)else none
 |_=>none
def St.setOb (st:St)(id:Nat)(cs:List V)(off:Nat)(ys:List V):St:=
 {st with H:=upd st.H id (some (.cells (Zas cs off ys))),own:=fun p=>match p with| .cell i j=>if i=id/\off<=j/\j<off+ys.length then false else st.own (.cell i j)| .slot t=>st.own (.slot t)}
def St.storeOb (st:St)(id:Nat)(cs:List V)(off n:Nat)(ys:List V):Option St:=
 if ys.length=n/\ys.all V.sc=true/\off+n<=cs.length then some (st.setOb id cs off ys)else none
def St.stoOb (st:St)(id:Nat)(cs:List V)(off t:Nat):St:=
 {st with H:=upd st.H id (some (.cells (Zas cs off [st.tm t]))),own:=updP (updP st.own (.cell id off) (st.own (.slot t))) (.slot t) false}
def St.kill (st:St)(id:Nat):St:=
 {st with H:=upd st.H id none,own:=fun p=>match p with| .cell i j=>if i=id then false else st.own (.cell i j)| .slot t=>st.own (.slot t)}
def St.turnOb (st:St)(id:Nat)(cs:List V):St:=(st.kill id).new cs
def Zkg (sz:Nat)(ys:List V):Option (List V):=if fits sz ys then some (ys.flatMap V.cells)else none
def vSrc :V->Option (List V)
 | .str b=>some (encB b)
 |_=>none
def St.appOb (st:St)(sz:Nat)(s x:V):Option (St×V):=
 match s,Zb2 st.H sz x with
 | .osl id 0 len _ s',some ys=>
  match Zap st.H id,Zkg sz ys with
  |some cs,some fs=>if s'=sz/\0<sz/\len*sz<=cs.length/\len+ys.length<=Lim then some (st.turnOb id (cs.take (len*sz)++fs), .osl st.nH 0 (len+ys.length) (len+ys.length) sz)else none
  |_,_=>none
 |_,_=>none
def St.cpyOb (st:St)(d s:V):Option (St×V):=
 match d,vSrc s with
 | .osl id off len _ 1,some ys=>
  match Zap st.H id with
  |some cs=>if off+len<=cs.length/\0<len then some (st.setOb id cs off (ys.take len), .int .i64 (min ys.length len))else none
  |none=>none
 |_,_=>none
def St.clrOb (st:St)(zero:List V)(d:V):Option St:=
 match d,zero with
 | .osl id off len _ 1,[z]=>
  match Zap st.H id with
  |some cs=>if off+len<=cs.length/\0<len/\z.sc=true then some (st.setOb id cs off (List.replicate len z))else none
  |none=>none
 |_,_=>none
def St.mkOb (st:St)(sz:Nat)(zero:List V):V->V->Option (St×V)
 | .int _ n, .int _ c=>match zero with
  | [z]=>if 0<=n/\n<=c/\c<=Lim/\sz=1/\z.sc=true then some (st.new (List.replicate n.toNat z), .osl st.nH 0 n.toNat n.toNat 1)else none
  |_=>none
 |_,_=>none
def St.hs (st:St):HS:=⟨st.H,st.nH,fun i j=>st.own (.cell i j)⟩
def St.setHS (st:St)(hs:HS):St:= {st with H:=hs.H,nH:=hs.nH,own:=fun p=>match p with| .cell i j=>hs.co i j| .slot t=>st.own (.slot t)}
def St.doCall (st:St)(Γ:Spec)(d:Option Nat)(f:Nat)(args:List V):Option St:=(Γ.h f args st.hs).map fun r=>(st.setHS r.2.2).put d r.1 r.2.1
def Zg5 :V->List V->Option (Nat×List V)
 | .fn g caps,args=>some (g,args++caps)
 | .mfn g fs,args=>some (g,fs++args)
 |_,_=>none
def exec1 (Γ:Spec)(gl:Nat->Option (List V))(o:AOper)(st:St):Option St:=
 match o.op with
 | .new cs=>some ((st.new cs).put o.dst (.ptr st.nH 0) false)
 | .box x=>if(st.ev x).cells.all V.sc then some ((st.new (st.ev x).cells).put o.dst (.ptr st.nH 0) false)else none
 | .store n a x=>match st.ev a with
  | .ptr id off=>match Zap st.H id with
   |some cs=>(st.storeOb id cs off n (st.ev x).cells).map fun s=>s.put o.dst Nil false
   |_=>none
  |_=>none
 | .sto a t=>match st.ev a with
  | .ptr id off=>match Zap st.H id with
   |some cs=>
    if(st.tm t).sc=true/\off<cs.length then
     some ((st.stoOb id cs off t).put o.dst Nil false)
    else none
   |_=>none
  |_=>none
 | .callh f args=>st.doCall Γ o.dst f (args.map st.ev)
 | .callvh f args=>match Zg5 (st.ev f) (args.map st.ev)with
  |some ga=>match Γ.p ga.1 ga.2 with
   |some r=>some (st.put o.dst r.1 r.2)
   |none=>st.doCall Γ o.dst ga.1 ga.2
  |none=>none
 | .nro sz=>some ((st.new []).put o.dst (.osl st.nH 0 0 0 sz) false)
 | .mko sz zero l c=>(st.mkOb sz zero (st.ev l) (st.ev c)).map fun r=>r.1.put o.dst r.2 false
 | .appo sz s x=>(st.appOb sz (st.ev s) (st.ev x)).map fun r=>r.1.put o.dst r.2 false
 | .cpy d s=>(st.cpyOb (st.ev d) (st.ev s)).map fun r=>r.1.put o.dst r.2 false
 | .clr z d=>(st.clrOb z (st.ev d)).map fun s=>s.put o.dst Nil false
 | .nmp=>some (st.newMp.put o.dst (.map st.nH) false)
 | .mup ks m k x=>(st.upMp ks (st.ev m) (st.ev k) (st.ev x)).map fun s=>s.put o.dst Nil false
 |op=>(Zbr Γ gl st.H st.own st.tm op).map fun r=>(st.take r.tk).put o.dst r.v r.o
def exec (Γ:Spec)(gl:Nat->Option (List V))(o:AOper)(st:St):Option St:=
 if st.wants o then exec1 Γ gl o st else some (st.put o.dst Nil false)
def execs (Γ:Spec)(gl:Nat->Option (List V)):List AOper->St->Option St
 | [],st=>some st
 |o::r,st=>match exec Γ gl o st with|some st=>execs Γ gl r st|none=>none
inductive ACode where
 |skip
 |region (ops:List AOper) (draw:Bool)
 |seq (a b:ACode)
 |cond (c:Opd) (thn els:ACode)
 |block (id:Nat) (body:ACode)
 |loop (body:ACode)
 |exit (id:Nat)
 |ret
 |fail
 deriving Inhabited
inductive Ex where
 |normal|exit (id:Nat)|ret
 deriving DecidableEq
def Ex.inBlock (id:Nat):Ex->Ex
 | .exit i=>if i=id then .normal else .exit i
 |e=>e
end Go.Abs
namespace Go.Abs
open Go.RowKit
structure Bel (B:Nat->Prop)(w w':World):Prop where
 os:w'.os=w.os
 tape:w'.tape=w.tape
 output:w'.output=w.output
 size:w.heap.size<=w'.heap.size
 block:∀k,¬B k->w'.heap[k]? =w.heap[k]?
theorem Bel.refl (B:Nat->Prop)(w:World):Bel B w w:=⟨rfl,rfl,rfl,Xae _,fun _ _=>rfl⟩
theorem Bel.trans {B:Nat->Prop}{a b c:World}(h:Bel B a b)(k:Bel B b c):Bel B a c:=
 ⟨k.os.trans h.os,k.tape.trans h.tape,k.output.trans h.output,Xba h.size k.size,fun i hi=>(k.block i hi).trans (h.block i hi)⟩
theorem Bel.drew {B:Nat->Prop}{a w:World}(h:Bel B a w):Bel B a w.drew:=⟨h.os,h.tape,h.output,h.size,h.block⟩
theorem Bel.of {B:Nat->Prop}{n:Nat}{a w:World}(h:Below n a w)(hB:∀b,n<=b->B b):Bel B a w:=
 ⟨h.os,h.tape,h.output,h.size,fun k hk=>h.block k (Xd0 fun e=>hk (hB k e))⟩
theorem Bel.below {n:Nat}{a w:World}(h:Bel (fun b=>n<=b) a w):Below n a w:=⟨h.os,h.tape,h.output,h.size,fun k hk=>h.block k (Xer.2 hk)⟩
theorem Bel.low {B:Nat->Prop}{n:Nat}{a w:World}(h:Bel B a w)(hB:∀b,B b->n<=b):Below n a w:=⟨h.os,h.tape,h.output,h.size,fun k hk=>h.block k fun e=>absurd (hB k e) (Xer.2 hk)⟩
theorem Bel.mono {B B':Nat->Prop}{a w:World}(h:Bel B a w)(hB:∀b,B b->B' b):Bel B' a w:=⟨h.os,h.tape,h.output,h.size,fun k hk=>h.block k fun e=>hk (hB k e)⟩
structure Gh where
 G:Nat->Nat
 φ:Nat->Option Nat
 ow:Nat->Option Pos
def OwnAt (W:World)(B:Nat->Prop)(g:Gh)(p:Pos)(v:V)(x:Value):Prop:=
 ∀sz xs b off len cap sp,v= .sl false sz xs->x= .slice (some ⟨b,off,sp⟩) len cap->
  cap=len \/(B b/\g.ow b=some p/\off+xs.length*sz=g.G b/\
   ∃cs t lo hi,W.heap[b]? =some (.cells cs t (lo,hi))/\off+cap*sz<=cs.size/\ ∀j,g.G b<=j->j<off+cap*sz-> ¬(lo<=j/\j<hi))
def RepP (W:World)(G:Nat->Nat)(φ:Nat->Option Nat)(vs:List V)(xs:Array Value):Prop:=
 vs.length<=xs.size/\ ∀(i:Nat) (c:V) (x:Value),vs[i]? =some c->xs[i]? =some x->Rep W G φ c x
theorem RepP.keep {W G φ W' G' φ' vs xs}(hk:Keeps W G φ W' G' φ')(h:RepP W G φ vs xs):RepP W' G' φ' vs xs:=
 ⟨h.1,fun i c x hc hx=>(h.2 i c x hc hx).keep hk⟩
theorem RepL.pre {W G φ vs xs}(h:RepL W G φ vs xs):RepP W G φ vs xs:=⟨by rw[h.1];omega,h.2⟩
def ObOK (W:World)(B:Nat->Prop)(g:Gh)(own:Nat->Bool)(id:Nat):Ob->Prop
 | .cells cs=>(cs=[]/\g.φ id=none) \/ ∃b xs t,g.φ id=some b/\W.heap[b]? =some (.cells xs t (0,0))/\RepP W g.G g.φ cs xs/\(∀c∈cs,c.sc=true)/\
  ∀(j:Nat) (v:V) (x:Value),cs[j]? =some v->xs[j]? =some x->own j=true->OwnAt W B g (.cell id j) v x
 | .mp l=> ∃b es ck,g.φ id=some b/\W.heap[b]? =some (.map es ck)/\l.length=es.size/\ ∀(i:Nat) (p:V×V) (e:MapEntry),l[i]? =some p->es[i]? =some e->Rep W g.G g.φ p.1 e.key/\Rep W g.G g.φ p.2 e.val
theorem ObOK.cells {W B g own id cs b}(h:ObOK W B g own id (.cells cs))(hb:g.φ id=some b):∃xs t,W.heap[b]? =some (.cells xs t (0,0))/\RepP W g.G g.φ cs xs/\(∀c∈cs,c.sc=true)/\
  ∀(j:Nat) (v:V) (x:Value),cs[j]? =some v->xs[j]? =some x->own j=true->OwnAt W B g (.cell id j) v x:=by
 rcases h with⟨_,h⟩|⟨b',xs,t,h1,h2⟩<;>grind
theorem ObOK.full {W B g own id cs}(h:ObOK W B g own id (.cells cs))(hc:cs≠ []):∃b xs t,g.φ id=some b/\W.heap[b]? =some (.cells xs t (0,0))/\RepP W g.G g.φ cs xs/\(∀c∈cs,c.sc=true)/\
  ∀(j:Nat) (v:V) (x:Value),cs[j]? =some v->xs[j]? =some x->own j=true->OwnAt W B g (.cell id j) v x:=
 h.resolve_left fun e=>hc e.1
theorem ObOK.sc {W B g own id cs}(h:ObOK W B g own id (.cells cs)):∀c∈cs,c.sc=true:=by
 rcases h with⟨rfl,_⟩|⟨b',xs,t,h1,h2,h3,h4,_⟩<;>grind
theorem ObOK.keep {W B g own id o W' B' g' own'}(h:ObOK W B g own id o)(hk:Keeps W g.G g.φ W' g'.G g'.φ)(hφ:g'.φ id=g.φ id)(hb:∀b,g.φ id=some b->W'.heap[b]? =W.heap[b]?)
  (ho:∀j v x,own' j=true->own j=true/\(OwnAt W B g (.cell id j) v x->OwnAt W' B' g' (.cell id j) v x)):ObOK W' B' g' own' id o:=by
 cases o with
 |cells cs=>
  rcases h with⟨h1,h2⟩|⟨b,xs,t,h1,h2,h3,h4,h5⟩
  ·exact .inl ⟨h1,hφ.trans h2⟩
  ·exact .inr ⟨b,xs,t,hφ.trans h1,(hb b h1).trans h2,h3.keep hk,h4,fun j v x hv hx hw=>(ho j v x hw).2 (h5 j v x hv hx (ho j v x hw).1)⟩
 |mp l=>
  obtain⟨b,es,ck,h1,h2,h3,h4⟩:=h
  exact⟨b,es,ck,hφ.trans h1,(hb b h1).trans h2,h3,fun i p e hp he=>⟨(h4 i p e hp he).1.keep hk,(h4 i p e hp he).2.keep hk⟩⟩
structure SR (w:World)(B:Nat->Prop)(GB:Gh)(g:Gh)(st:St)(a:Act)(W:World):Prop where
 defers:a.defers=[]
 tm:∀(t:Nat) (x:Value),a.tmps[t]? =some x->Rep W g.G g.φ (st.tm t) x
 own:∀(t:Nat) (x:Value),a.tmps[t]? =some x->st.own (.slot t)=true->OwnAt W B g (.slot t) (st.tm t) x
 ob:∀id o,st.H id=some o->ObOK W B g (fun j=>st.own (.cell id j)) id o
 obn:∀id,st.nH<=id->st.H id=none
 φ:∀id b,g.φ id=some b->B b/\b<W.heap.size/\id<st.nH
 live:∀id b,g.φ id=some b->g.G b=0/\g.ow b=none
 inj:∀id id' b,g.φ id=some b->g.φ id'=some b->st.H id≠none->st.H id'≠none->id=id'
 Gz:∀b,W.heap.size<=b->g.G b=0
 Glo:∀b,¬B b->g.G b=GB.G b
 kp:∀b i,i<GB.G b->W.cell? ⟨b,i,none⟩=w.cell? ⟨b,i,none⟩
 kG:∀b,GB.G b<=g.G b
 kφ:∀id b,GB.φ id=some b->g.φ id=some b
 ksz:∀id b,GB.φ id=some b->csz W b=csz w b
 below:Bel B w W
 hB:∀b,w.heap.size<=b->B b
theorem Zbd {H:Hp}{id:Nat}{cs:List V}(h:Zap H id=some cs):H id=some (.cells cs):=by
 grind[Zap]
theorem SR.csz {w B GB g st a W}(h:SR w B GB g st a W):∀id cs b,Zap st.H id=some cs->g.φ id=some b->cs.length<=csz W b:=by
 intro id cs b hc hb
 unfold Zap at hc
 split at hc
 ·rename_i cs' hH
  cases hc
  obtain⟨xs,t,h1,h2,_⟩:=(h.ob id _ hH).cells hb
  unfold Abs.csz;rw[h1];exact h2.1
 ·cases hc
structure Adv (B:Nat->Prop)(g g':Gh)(W W':World)(p:Option Pos):Prop where
 keeps:Keeps W g.G g.φ W' g'.G g'.φ
 φ:g'.φ=g.φ
 below:Bel B W W'
 Glo:∀b,¬B b->g'.G b=g.G b
 ob:∀b id,g.φ id=some b->b<W.heap.size->g.G b=0->g.ow b=none->W'.heap[b]? =W.heap[b]? /\g'.G b=0/\g'.ow b=none
 own:∀b q,b<W.heap.size->g.ow b=some q->some q≠p->W'.heap[b]? =W.heap[b]? /\g'.G b=g.G b/\g'.ow b=some q
 Gz:∀b,W'.heap.size<=b->g'.G b=0
theorem OwnAt.adv {B g g' W W' p q v x}(h:OwnAt W B g q v x)(ha:Adv B g g' W W' p)(hq:some q≠p):OwnAt W' B g' q v x:=by
 intro sz xs b off len cap sp hv hx
 rcases h sz xs b off len cap sp hv hx with h|⟨h1,h2,h3,cs,t,lo,hi,h4,h5,h6⟩
 ·exact .inl h
 ·have hlt:b<W.heap.size:=(Xbg.1 h4).1
  obtain⟨e1,e2,e3⟩:=ha.own b q hlt h2 hq
  grind
theorem St.take_own {st:St}{p:Option Pos}{q:Pos}(h:(st.take p).own q=true):st.own q=true/\some q≠p:=by
 cases p<;>simp_all[St.take,updP]
@[simp] theorem St.take_tm (st:St)(p:Option Pos):(st.take p).tm=st.tm:=by cases p<;>rfl
@[simp] theorem St.take_H (st:St)(p:Option Pos):(st.take p).H=st.H:=by cases p<;>rfl
@[simp] theorem St.take_nH (st:St)(p:Option Pos):(st.take p).nH=st.nH:=by cases p<;>rfl
theorem SR.adv {w B GB g g' st a W W' p}(h:SR w B GB g st a W)(ha:Adv B g g' W W' p):SR w B GB g' (st.take p) a W' where
 defers:=h.defers
 tm t x hx:=by rw[St.take_tm];exact(h.tm t x hx).keep ha.keeps
 own t x hx ho:=by
  obtain⟨h1,h2⟩:=St.take_own ho
  rw[St.take_tm]
  exact(h.own t x hx h1).adv ha h2
 ob id o hH:=by
  rw[St.take_H]at hH
  refine ObOK.keep (h.ob id o hH) ha.keeps (by rw[ha.φ]) (fun b hb=> ?_) (fun j v x hw=> ?_)
  ·obtain⟨q1,q2⟩:=h.live id b hb
   exact(ha.ob b id hb (h.φ id b hb).2.1 q1 q2).1
  ·obtain⟨k1,k2⟩:=St.take_own hw
   exact⟨k1,fun hq=>hq.adv ha k2⟩
 obn id hid:=by rw[St.take_nH]at hid;rw[St.take_H];exact h.obn id hid
 φ id b hφ:=by
  rw[ha.φ]at hφ
  obtain⟨q1,q2,q5⟩:=h.φ id b hφ
  exact⟨q1,Xbn q2 ha.below.size,by simp_all⟩
 live id b hφ:=by
  rw[ha.φ]at hφ
  obtain⟨q3,q4⟩:=h.live id b hφ
  exact(ha.ob b id hφ (h.φ id b hφ).2.1 q3 q4).2
 inj id id' b:=by rw[ha.φ,St.take_H];exact h.inj id id' b
 Gz:=ha.Gz
 Glo b hb:=(ha.Glo b hb).trans (h.Glo b hb)
 kp b i hi:=(ha.keeps.cell b i (Xbn hi (h.kG b))).trans (h.kp b i hi)
 kG b:=Xba (h.kG b) (ha.keeps.G b)
 kφ id b e:=by rw[ha.φ];exact h.kφ id b e
 ksz id b e:=(ha.keeps.sz id b (h.kφ id b e)).trans (h.ksz id b e)
 below:=h.below.trans ha.below
 hB:=h.hB
theorem Zhu (a:Act)(d:Option Nat)(x:Value)(t:Nat):
  (a.put d x).tmps[t]? =if d=some t/\t<a.tmps.size then some x else a.tmps[t]? :=by
 cases d<;>grind[Act.put]
theorem SR.put {w B GB g st a W}(h:SR w B GB g st a W)(d:Option Nat)(v:V)(o:Bool)(x:Value)(hr:Rep W g.G g.φ v x)
  (ho:∀t,d=some t->o=true->OwnAt W B g (.slot t) v x):SR w B GB g (st.put d v o) (a.put d x) W where
 defers:=by cases d<;>exact h.defers
 tm t y hy:=by
  rw[Zhu]at hy
  cases d with
  |none=>exact h.tm t y hy
  |some d=>
   by_cases e:d=t
   ·simp_all[St.put,upd]
   ·simp only[Xac,e,if_false]at hy
    have:=h.tm t y hy
    simp_all[Ne.symm,St.put,upd]
 own t y hy ht:=by
  rw[Zhu]at hy
  cases d with
  |none=>exact h.own t y hy ht
  |some d=>
   by_cases e:d=t
   ·simp_all[St.put,updP,upd]
   ·simp only[Xac,e,if_false]at hy
    have ht':st.own (.slot t)=true:=by simp_all[Ne.symm,St.put,updP]
    have:=h.own t y hy ht'
    simp_all[Ne.symm,St.put,upd]
 ob id ob hH:=by
  have hH':st.H id=some ob:=by cases d<;>exact hH
  refine ObOK.keep (h.ob id ob hH') (.refl _ _ _) rfl (fun _ _=>rfl) (fun j v x hw=>⟨?_,fun h=>h⟩)
  cases d<;>simp_all[St.put,updP]
 obn id hid:=by cases d<;>exact h.obn id hid
 φ id b hφ:=by cases d<;>exact h.φ id b hφ
 live:=h.live
 inj id id' b e1 e2:=by cases d<;>exact h.inj id id' b e1 e2
 Gz:=h.Gz
 Glo:=h.Glo
 kp:=h.kp
 kG:=h.kG
 kφ:=h.kφ
 ksz:=h.ksz
 below:=h.below
 hB:=h.hB
theorem SR.get {w B GB g st a W}(h:SR w B GB g st a W){t:Nat}(ht:t<a.tmps.size):Rep W g.G g.φ (st.tm t) (a.eval (.tmp t)):=by
 have e:a.tmps[t]? =some a.tmps[t]:=Xau ht
 have:=h.tm t _ e
 simp_all[Act.eval]
theorem Adv.refl {w B GB g st a W}(h:SR w B GB g st a W)(p:Option Pos):Adv B g g W W p:=
 ⟨.refl _ _ _,rfl, .refl _ _,fun _ _=>rfl,fun _ _ _ _ h1 h2=>⟨rfl,h1,h2⟩,fun _ _ _ h _=>⟨rfl,rfl,h⟩,h.Gz⟩
theorem Adv.drew {B g g' W W' p}(h:Adv B g g' W W' p):Adv B g g' W W'.drew p:=
 ⟨⟨h.keeps.cell,h.keeps.G,h.keeps.φ,h.keeps.sz⟩,h.φ,h.below.drew,h.Glo,h.ob,h.own,h.Gz⟩
theorem Adv.alloc {w B GB g st a W}(h:SR w B GB g st a W)(o:Obj)(n:Nat)(q:Option Pos)(p:Option Pos):
  Adv B g ⟨fun b=>if b=W.heap.size then n else g.G b,g.φ,fun b=>if b=W.heap.size then q else g.ow b⟩ W (W.alloc o) p:=by
 have hB:B W.heap.size:=h.hB _ h.below.size
 refine⟨⟨fun b i hi=> ?_,fun b=> ?_,fun _ _ h=>h,fun id b' hb=> ?_⟩,rfl, .of ((Below.refl _ _).alloc (Xae _) o) (fun b hb=>h.hB b (Xba h.below.size hb)),fun b hb=> ?_,fun b id h1 h2 h3 h4=> ?_,fun b q h1 h2 _=> ?_,fun b hb=> ?_⟩
 ·have:b<W.heap.size:=by
   rcases Xa6 b W.heap.size with h'|h'
   ·exact h'
   ·have:=h.Gz b h';omega
  grind[World.cell?_of_block,Below.heap_alloc]
 ·dsimp only;split
  ·have:=h.Gz b (by omega);omega
  omega
 ·exact Zji (Below.heap_alloc _ _ _ (h.φ id b' hb).2.1)
 ·grind
 ·grind[Below.heap_alloc]
 ·grind[Below.heap_alloc]
 ·dsimp only
  rw[World.size_alloc]at hb
  rw[if_neg (by omega)];exact h.Gz b (by omega)
end Go.Abs
namespace Go.Abs
open Go.RowKit
theorem Zaa {P:Program}{t:TypeId}{d:TypeDesc}{w:World}(h:P.underlying t=some d):(underlying t).run P w= .ok d w:=by
 simp[underlying,h]
variable {P:Program}{W:World}{G:Nat->Nat}{φ:Nat->Option Nat}
theorem Z58 {c a b v:V}{xc xa xb:Value}(hc:Rep W G φ c xc)(ha:Rep W G φ a xa)(hb:Rep W G φ b xb)(hv:Zql c a b=some v):
  ∃t,xc= .bool t/\Rep W G φ v (if t then xa else xb):=by
 cases hc<;>simp[Zql]at hv
 grind
theorem Qas {t v:V}{i:Nat}{x:Value}(h:Rep W G φ t x)(hv:vExt t i=some v):
  ∃y,(Instr.extract x i).run P W= .ok y W/\Rep W G φ v y:=by
 cases h<;>simp[vExt]at hv
 rename_i cs xs hl h
 have hi:i<xs.size:=by grind
 refine⟨xs[i], ?_,h i v _ hv (Xau hi)⟩<;>simp_all[Instr.extract]
theorem d_un {op:UnOp}{v u:V}{x:Value}(h:Rep W G φ v x)(hv:aun op v=some u):
  ∃y,(Op.unary op x).run P W= .ok y W/\Rep W G φ u y:=by
 cases op<;>cases h<;>simp only[aun,Xac,reduceCtorEq]at hv<;>subst hv
 all_goals first|exact⟨_,rfl, .int _ _⟩|exact⟨_,rfl, .bool _⟩
theorem toList_data (s:ByteArray):s.toList=s.data.toList:=by
 have key:∀(s:ByteArray) (i:Nat) (r:List UInt8),ByteArray.toList.loop s i r=r.reverse++s.data.toList.drop i:=by
  intro s i
  generalize hn:s.size-i=n
  induction n generalizing i with
  |zero=>
   intro r
   unfold ByteArray.toList.loop
   have: ¬i<s.size:=by omega
   rw[if_neg this,Xas (by simp_all),Xax]
  |succ n ih=>
   intro r
   unfold ByteArray.toList.loop
   have hlt:i<s.size:=by omega
   rw[if_pos hlt,ih (i+1) (by omega)]
   have hd:s.data.toList.drop i=s.get! i::s.data.toList.drop (i+1):=by
    have h':i<s.data.toList.length:=by simpa using hlt
    rw[Xah h']
    congr 1
    show s.data[i]=s.data[i]!
    grind
   rw[hd];simp
 grind[ByteArray.toList]
theorem Ztt {op:BinOp}{k k':IntKind}{a b:Int}{v:V}{q:EqK}{t:TypeId}(hv:abin op q (.int k a) (.int k' b)=some v):
  ∃y,(binOp op t (.int k a) (.int k' b)).run P W= .ok y W/\Rep W G φ v y:=by
 by_cases hshl:op= .shl
 ·subst hshl
  simp only[abin]at hv
  split at hv
  ·simp at hv
  ·rename_i hb;simp at hv;subst hv
   exact⟨_,by simp[binOp,Op.shift,hb], .int _ _⟩
 by_cases hshr:op= .shr
 ·subst hshr
  simp only[abin]at hv
  split at hv
  ·simp at hv
  ·rename_i hb;simp at hv;subst hv
   exact⟨_,by simp[binOp,Op.shift,hb], .int _ _⟩
 have hv':(if k=k' then aint op k a b else none)=some v:=by cases op<;>simp_all[abin]
 split at hv'
 ·rename_i hk;subst hk
  cases op<;>simp only[aint,Xac,reduceCtorEq]at hv'
  case quo=>split at hv'<;>simp at hv';rename_i hb;subst hv';exact⟨.int k (k.wrap (a.tdiv b)),by simp[binOp,Op.intDiv,hb], .int _ _⟩
  case rem=>split at hv'<;>simp at hv';rename_i hb;subst hv';exact⟨.int k (a.tmod b),by simp[binOp,Op.intDiv,hb], .int _ _⟩
  case add=>subst hv';exact⟨.int k (k.wrap (a+b)),by simp[binOp,Op.intArith], .int _ _⟩
  case sub=>subst hv';exact⟨.int k (k.wrap (a-b)),by simp[binOp,Op.intArith], .int _ _⟩
  case mul=>subst hv';exact⟨.int k (k.wrap (a*b)),by simp[binOp,Op.intArith], .int _ _⟩
  case and=>subst hv';exact⟨.int k (k.wrap (BitVec.ofInt k.bits a&&&BitVec.ofInt k.bits b).toNat),by simp[binOp,Op.intBits], .int _ _⟩
  case or=>subst hv';exact⟨.int k (k.wrap (BitVec.ofInt k.bits a|||BitVec.ofInt k.bits b).toNat),by simp[binOp,Op.intBits], .int _ _⟩
  case xor=>subst hv';exact⟨.int k (k.wrap (BitVec.ofInt k.bits a^^^BitVec.ofInt k.bits b).toNat),by simp[binOp,Op.intBits], .int _ _⟩
  case andNot=>subst hv';exact⟨.int k (k.wrap (BitVec.ofInt k.bits a&&& ~~~BitVec.ofInt k.bits b).toNat),by simp[binOp,Op.intBits], .int _ _⟩
  case eql=>subst hv';exact⟨.bool (decide (a=b)),by simp[binOp];rfl, .bool _⟩
  case neq=>subst hv';exact⟨.bool (!decide (a=b)),by simp[binOp,bne];rfl, .bool _⟩
  case lss=>subst hv';exact⟨.bool (decide (a<b)),by simp[binOp,Op.intCmp], .bool _⟩
  case leq=>subst hv';exact⟨.bool (decide (a<=b)),by simp[binOp,Op.intCmp], .bool _⟩
  case gtr=>subst hv';exact⟨.bool (decide (b<a)),by simp[binOp,Op.intCmp], .bool _⟩
  case geq=>subst hv';exact⟨.bool (decide (b<=a)),by simp[binOp,Op.intCmp], .bool _⟩
 ·simp at hv'
theorem Zgn (a b:Bytes):(a==b)=decide (a=b):=by
 by_cases h:a=b<;>simp[h]
theorem Zxd {op:BinOp}{a b:ByteArray}{v:V}{q:EqK}{t:TypeId}(hv:abin op q (.str a.data.toList) (.str b.data.toList)=some v):
  ∃y,(binOp op t (.string a) (.string b)).run P W= .ok y W/\Rep W G φ v y:=by
 have hv':astr op a.data.toList b.data.toList=some v:=hv
 have hb:∀op,binOp op t (.string a) (.string b)=Op.stringOp op a b:=by intro op;cases op<;>rfl
 rw[hb]
 cases op<;>simp only[astr,Xac,reduceCtorEq]at hv'
 case add=>
  split at hv'<;>simp only[Xac,reduceCtorEq]at hv'
  subst hv'
  have hl: ¬(((a.size+b.size:Nat):Int)>IntKind.i64.max):=by
   have h1:a.data.toList.length=a.size:=by simp
   have h2:b.data.toList.length=b.size:=by simp
   have h3:IntKind.i64.max=9223372036854775807:=by decide
   omega
  refine⟨.string (a++b), ?_, .str _ _ (by simp)⟩<;>simp_all[Op.stringOp]
 case eql=>subst hv';exact⟨.bool (decide (a.data.toList=b.data.toList)),by simp only[Op.stringOp,toList_data,Zgn];rfl, .bool _⟩
 case neq=>subst hv';exact⟨.bool (!decide (a.data.toList=b.data.toList)),by simp only[Op.stringOp,toList_data,Zgn];rfl, .bool _⟩
 case lss=>subst hv';exact⟨.bool (Op.bytesLess a.data.toList b.data.toList),by simp_all[toList_data,Op.stringOp], .bool _⟩
 case leq=>subst hv';exact⟨.bool (Op.bytesLess a.data.toList b.data.toList||decide (a.data.toList=b.data.toList)),by simp only[Op.stringOp,toList_data,Zgn];rfl, .bool _⟩
 case gtr=>subst hv';exact⟨.bool (!(Op.bytesLess a.data.toList b.data.toList||decide (a.data.toList=b.data.toList))),by simp only[Op.stringOp,toList_data,Zgn];rfl, .bool _⟩
 case geq=>subst hv';exact⟨.bool (!Op.bytesLess a.data.toList b.data.toList),by simp_all[toList_data,Op.stringOp], .bool _⟩
def RepO (W:World)(G:Nat->Nat)(φ:Nat->Option Nat):Option V->Option Value->Prop
 |none,none=>True
 |some v,some x=>Rep W G φ v x
 |_,_=>False
theorem Zbt {v:Option V}{x:Option Value}{r:Option Int}(h:RepO W G φ v x)(hv:vOpt v=some r):
  (r=none/\x=none) \/ ∃k n,r=some n/\x=some (.int k n):=by
 cases v with
 |none=>cases x with
  |none=>grind[vOpt]
  |some x=>exact h.elim
 |some v=>cases x with
  |none=>exact h.elim
  |some x=>
   have h':Rep W G φ v x:=h
   cases h'<;>simp[vOpt]at hv
   grind
theorem Zki {k:IntKind}{n:Int}{y:Nat}{c:BoundsCode}(h0:0<=n)(h1:n<=y):
  (Instr.sliceBound (.int k n) y c).run P W= .ok n.toNat W:=by
 simp_all[Instr.sliceBound,asIntOf]
theorem Zb0 {isS:Bool}{len cap:Nat}{l h m:Option Int}{xl xh xm:Option Value}{c:Nat×Nat×Nat}(hlen:len<=cap)
  (hl:(l=none/\xl=none) \/ ∃k n,l=some n/\xl=some (.int k n)) (hh:(h=none/\xh=none) \/ ∃k n,h=some n/\xh=some (.int k n))
  (hm:(m=none/\xm=none) \/ ∃k n,m=some n/\xm=some (.int k n)) (hc:cut3 len cap l h m=some c):
  (Instr.sliceBounds isS len cap xl xh xm).run P W= .ok (c.1,c.2.1,c.2.2) W/\c.1<=c.2.1/\c.2.1<=c.2.2/\c.2.2<=cap:=by
 unfold cut3 at hc
 simp only[]at hc
 split at hc
 ·rename_i hcond
  obtain⟨c1,c2,c3,c4,c5,c6,c7⟩:=hcond
  simp only[Xac]at hc
  subst hc
  rcases hm with⟨rfl,rfl⟩|⟨km,nm,rfl,rfl⟩<;>rcases hh with⟨rfl,rfl⟩|⟨kh,nh,rfl,rfl⟩<;>rcases hl with⟨rfl,rfl⟩|⟨kl,nl,rfl,rfl⟩<;>
   simp only[Xb0,Xbu,Xdb,Xbo,forall_const,Xat]at* <;>
   (try exact False.elim c7)<;>
   (refine⟨?_,by omega,by omega,by omega⟩)<;>
   simp(disch:=omega) [Instr.sliceBounds,Zki]
 ·simp at hc
theorem Zbx (b off n:Nat):(⟨b,off,none⟩:Addr).add n=⟨b,off+n,none⟩:=by grind[Addr.add]
theorem Z9h {u v:V}{x:Value}{lo hi:Option V}{xl xh:Option Value}{t:TypeId}(ht:P.underlying t=some .string)(h:Rep W G φ u x)
  (hl:RepO W G φ lo xl) (hh:RepO W G φ hi xh) (hv:vSls u lo hi=some v):
  ∃y,(Instr.sliceAt t x xl xh none).run P W= .ok y W/\Rep W G φ v y:=by
 unfold vSls at hv
 split at hv
 ·rename_i l r s el eh
  cases h
  rename_i b hb
  simp only[Xaa]at hv
  obtain⟨c,hc,rfl⟩:=hv
  have hsz:s.length=b.size:=by rw[<-hb];simp
  obtain⟨hr,h1,h2,h3⟩:=Zb0 (P:=P) (W:=W) (isS:=false) (Xae _) (Zbt hl el) (Zbt hh eh) (.inl ⟨rfl,rfl⟩) hc
  refine⟨.string (b.extract c.1 c.2.1), ?_, .str _ _ ?_⟩<;>simp_all[Zaa,List.drop_take,Instr.sliceAt,Instr.slice]
 ·simp at hv
theorem Zub {sz:Nat}{xs:List V}(h:fits sz xs=true):∀x∈xs,x.cells.length=sz/\ ∀c∈x.cells,c.sc=true:=by
 intro x hx
 have:=Xav.1 h x hx
 grind
theorem Z2k {nl:Bool}{sz:Nat}{xs:List V}{x:Value}(h:Rep W G φ (.sl nl sz xs) x)(l k:Nat)(h1:l<=k)(h2:k<=xs.length)(m:Nat->Nat)
  (hm:∀len cap,len<=cap->m cap=cap \/m cap=k):
  ∃a len cap,x= .slice a len cap/\len=xs.length/\len<=cap/\
   Rep W G φ (.sl nl sz ((xs.take k).drop l)) (.slice (if m cap=l then a else a.map (·.add (l*sz))) (k-l) (m cap-l)):=by
 cases h with
 |slnil sz=>
  have hk:k=0:=by simpa using h2
  have hl:l=0:=by omega
  subst hk;subst hl
  refine⟨none,0,0,rfl,rfl,Xae _, ?_⟩
  have:m 0=0:=by rcases hm 0 0 (Xae _)with h|h<;>exact h
  simp only[this,if_true]
  exact .slnil sz
 |sl0 sz a=>
  have hk:k=0:=by simpa using h2
  have hl:l=0:=by omega
  subst hk;subst hl
  refine⟨some a,0,0,rfl,rfl,Xae _, ?_⟩
  have:m 0=0:=by rcases hm 0 0 (Xae _)with h|h<;>exact h
  simp only[this,if_true]
  exact .sl0 sz a
 |sl sz xs b off cap rd hcap hG hx hrd h=>
  refine⟨some ⟨b,off,none⟩,xs.length,cap,rfl,rfl,hcap, ?_⟩
  have hmk:k<=m cap:=by rcases hm xs.length cap hcap with h|h<;>omega
  have hlen:((xs.take k).drop l).length=k-l:=by simp;omega
  by_cases hml:m cap=l
  ·rw[if_pos hml]
   have hkl:k=l:=by omega
   subst hkl
   have he:(xs.take k).drop k=[]:=by grind
   rw[he]
   have:(k-k)=([]:List V).length:=by simp
   rw[this,hml]
   refine .sl sz [] b off (k-k) rd (by simp) ?_ (by simp) (by simp) (by simp)
   simp;omega
  ·rw[if_neg hml]
   simp only[Xay,Zbx]
   rw[<-hlen]
   refine .sl sz _ b (off+l*sz) _ (fun j=>rd (l*sz+j)) (by omega) ?_ ?_ ?_ ?_
   ·rw[hlen]
    have:l*sz+(k-l)*sz=k*sz:=by rw[<-Xb8];congr 1;omega
    have h3:k*sz<=xs.length*sz:=Xbr _ h2
    omega
   ·grind
   ·have:l*sz+(k-l)*sz=k*sz:=by rw[<-Xb8];congr 1;omega
    have h3:k*sz<=xs.length*sz:=Xbr _ h2
    grind
   grind
end Go.Abs
namespace Go.Abs
open Go.RowKit
variable {P:Program}{W:World}{G:Nat->Nat}{φ:Nat->Option Nat}
theorem Zcd {t:TypeId}{i:TypeInfo}(h:P.info? t=some i):(typeInfo t).run P W= .ok i W:=by simp[typeInfo,h]
theorem Zaf {t:TypeId}{i:TypeInfo}(h:P.info? t=some i):(sizeOf t).run P W= .ok i.size W:=by simp[sizeOf,Zcd h]
def ldN (P:Program)(t:TypeId):Option (Option Nat):=
 match P.underlying t with
 |some (.struct _)|some (.array _ _)=>(P.info? t).map fun i=>some i.size
 |some _=>some none
 |none=>none
theorem Zml {t:TypeId}(h:ldN P t=some none):(isAgg t).run P W= .ok false W:=by
 unfold ldN at h
 split at h<;>simp_all[Zaa,isAgg]
theorem Zr7 {t:TypeId}{n:Nat}(h:ldN P t=some (some n)):(isAgg t).run P W= .ok true W/\ ∃i,P.info? t=some i/\i.size=n:=by
 unfold ldN at h
 split at h<;>simp_all[Zaa,isAgg]
theorem Zb6 {α:Type}(cs:List α)(o k i:Nat):((cs.drop o).take k)[i]? =if i<k then cs[o+i]? else none:=by
 grind
structure Row (W:World)(G:Nat->Nat)(φ:Nat->Option Nat)(cs:List V)(b base:Nat):Prop where
 sc:∀c∈cs,c.sc=true
 cell:∀(k:Nat) (c:V),cs[k]? =some c-> ∃y,W.cell? ⟨b,base+k,none⟩=some y/\Rep W G φ c y
theorem Row.load {cs:List V}{b base o:Nat}{n:Option Nat}{t:TypeId}{v:V}(h:Row W G φ cs b base)(hn:ldN P t=some n)(hv:Zak n cs o=some v):
  ∃y,(loadVar t ⟨b,base+o,none⟩).run P W= .ok y W/\Rep W G φ v y:=by
 cases n with
 |none=>
  have hv':cs[o]? =some v:=hv
  obtain⟨y,h1,h2⟩:=h.cell o v hv'
  simp_all[Zml,loadVar]
 |some k=>
  obtain⟨ha,i,hi,rfl⟩:=Zr7 (W:=W) hn
  simp only[Zak]at hv
  split at hv
  ·simp only[Xac]at hv
   subst hv
   have hex:∃ys:List Value,ys.length=i.size/\ ∀j y,ys[j]? =some y->W.cell? ⟨b,base+o+j,none⟩=some y/\ ∃c,cs[o+j]? =some c/\Rep W G φ c y:=by
    have:∀m,m<=i.size-> ∃ys:List Value,ys.length=m/\ ∀j y,ys[j]? =some y->W.cell? ⟨b,base+o+j,none⟩=some y/\ ∃c,cs[o+j]? =some c/\Rep W G φ c y:=by
     intro m
     induction m with
     |zero=>simp_all
     |succ m ih=>
      intro hm
      obtain⟨ys,hl,hy⟩:=ih (by omega)
      have hlt:o+m<cs.length:=by omega
      obtain⟨y,h1,h2⟩:=h.cell (o+m) _ (Xad hlt)
      refine⟨ys++ [y],by simp[hl],fun j z hj=> ?_⟩<;>grind
    simp_all
   obtain⟨ys,hl,hy⟩:=hex
   have hrun:=run_loadCells_list (P:=P) W ⟨b,base+o,none⟩ ys (fun j y hj=>by grind[Zbx])
   refine⟨.agg ys.toArray,by simp_all[Zaf,loadVar], .agg _ _ (by grind) ?_ ?_⟩
   ·exact fun c hc=>h.sc c (Xca (Xcl hc))
   grind
  ·simp at hv
theorem Zzu {cs:List V}{xs:Array Value}{o:Nat}{n:Option Nat}{t:TypeId}{v:V}(h:RepL W G φ cs xs)(hs:∀c∈cs,c.sc=true)(hn:ldN P t=some n)(hv:Zak n cs o=some v):
  ∃y,(part t xs o).run P W= .ok y W/\Rep W G φ v y:=by
 cases n with
 |none=>
  have hv':cs[o]? =some v:=hv
  have hlt:o<xs.size:=by rw[<-h.1];grind
  exact⟨xs[o],by simp_all[Zml,part],h.2 o v _ hv' (Xau hlt)⟩
 |some k=>
  obtain⟨ha,i,hi,rfl⟩:=Zr7 (W:=W) hn
  simp only[Zak]at hv
  split at hv
  ·simp only[Xac]at hv
   subst hv
   have h1:=h.1
   refine⟨.agg (xs.extract o (o+i.size)),by simp_all[Zaf,part], .agg _ _ (by simp;omega) ?_ ?_⟩
   ·grind
   ·intro j c y hc hy
    rw[Zb6]at hc
    split at hc
    ·rw[Array.getElem?_extract]at hy
     split at hy
     ·exact h.2 _ c y hc hy
     ·simp at hy
    ·simp at hc
  ·simp at hv
theorem Qag {f:Nat}{u v:V}{x:Value}{t:TypeId}{fs:Array Field}{fd:Field}{n:Option Nat}(ht:P.underlying t=some (.struct fs))(hf:fs[f]? =some fd)(hn:ldN P fd.type=some n)
  (h:Rep W G φ u x) (hv:vFld n fd.offset u=some v):∃y,(Instr.field t x f).run P W= .ok y W/\Rep W G φ v y:=by
 cases h<;>simp only[vFld,reduceCtorEq]at hv
 rename_i cs xs hl hs h
 obtain⟨y,h1,h2⟩:=Zzu (P:=P) ⟨hl,h⟩ hs hn hv
 simp_all[Zaa,Instr.field,asAgg]
theorem Qa0 {u i v:V}{x xi:Value}{t:TypeId}(ht:P.underlying t=some .string)(h:Rep W G φ u x)(hi:Rep W G φ i xi)(hv:vIdx u i=some v):
  ∃y,(Instr.index t x xi).run P W= .ok y W/\Rep W G φ v y:=by
 cases h<;>cases hi<;>simp only[vIdx,reduceCtorEq]at hv
 rename_i l s hs k n
 split at hv
 ·simp only[Xaa]at hv
  obtain⟨b,hb,rfl⟩:=hv
  subst hs
  have hb':s[n.toNat]? =some b:=by
   have hlt:n.toNat<s.data.toList.length:=(Xak.1 hb).1
   have hlt':n.toNat<s.size:=by simpa using hlt
   rw[getElem?_pos s n.toNat hlt']
   rw[Xad hlt]at hb
   have hb2:s.data[n.toNat]=b:=by simpa using hb
   exact congrArg some hb2
  exact⟨.int .u8 b.toNat,by simp_all[Zaa,Instr.index,asIntOf], .int _ _⟩
 ·simp at hv
theorem Z71 {u i v:V}{x xi:Value}{t e:TypeId}{len:Nat}{ie:TypeInfo}{n:Option Nat}(ht:P.underlying t=some (.array len e))(he:P.info? e=some ie)(hn:ldN P e=some n)
  (h:Rep W G φ u x) (hi:Rep W G φ i xi) (hv:Zqr len ie.size n u i=some v):∃y,(Instr.index t x xi).run P W= .ok y W/\Rep W G φ v y:=by
 cases h<;>cases hi<;>simp only[Zqr,reduceCtorEq]at hv
 rename_i cs xs hl hs h k j
 split at hv
 ·obtain⟨y,h1,h2⟩:=Zzu (P:=P) ⟨hl,h⟩ hs hn hv
  simp_all[Zaa,Zaf,Instr.index,asIntOf]
 ·simp at hv
theorem Z3s {u i v:V}{x xi:Value}{t e:TypeId}{ie:TypeInfo}(ht:P.underlying t=some (.slice e))(he:P.info? e=some ie)
  (h:Rep W G φ u x) (hi:Rep W G φ i xi) (hv:Zd8 ie.size u i=some v):∃y,(Instr.indexAt t x xi).run P W= .ok y W/\Rep W G φ v y:=by
 cases hi<;>cases h<;>simp only[Zd8,reduceCtorEq]at hv
 ·rename_i k n sz xs b off cap rd hcap hG hx hrd h
  split at hv
  ·rename_i h0
   obtain⟨h0,rfl⟩:=h0
   simp only[Xaa]at hv
   obtain⟨e',hx',rfl⟩:=hv
   have hlt:n.toNat<xs.length:=(Xak.1 hx').1
   have hlt':n<(xs.length:Int):=by omega
   have hmem:e'∈xs:=Xaj hx'
   have hsz:=(hx e' hmem).1
   have hmul:n.toNat*ie.size+ie.size<=xs.length*ie.size:=by rw[<-Xd7];exact Xbr _ hlt
   refine⟨.pointer (some ⟨b,off+n.toNat*ie.size,none⟩),by simp[Instr.indexAt,asIntOf,Zaa ht,h0,hlt',Zaf he,Zbx], ?_⟩
   refine .el _ 0 b (off+n.toNat*ie.size) (fun k=>rd (n.toNat*ie.size+k)) (by omega) (hx e' hmem).2 (fun k hk=> ?_) (fun k c hc=>h _ _ _ _ hx' hc)<;>grind
  ·simp at hv
 ·simp at hv
 ·rename_i k n id off len cap sz b cap' hφ hc hc' hs
  split at hv
  ·rename_i h0
   obtain⟨h0,h1,rfl⟩:=h0
   simp only[Xac]at hv
   subst hv
   exact⟨.pointer (some ⟨b,off+n.toNat*ie.size,none⟩),by simp[Instr.indexAt,asIntOf,Zaa ht,h0,h1,Zaf he,Zbx], .ptr _ _ _ hφ⟩
  ·simp at hv
 grind
theorem Z62 {u i v:V}{x xi:Value}{t e:TypeId}{len:Nat}{ie:TypeInfo}(ht:P.underlying t=some (.array len e))(he:P.info? e=some ie)
  (h:Rep W G φ u x) (hi:Rep W G φ i xi) (hv:Zp9 len ie.size u i=some v):∃y,(Instr.indexAt t x xi).run P W= .ok y W/\Rep W G φ v y:=by
 cases hi<;>cases h<;>simp only[Zp9,reduceCtorEq]at hv
 all_goals
  split at hv
  ·rename_i h0
   obtain⟨h0,h1⟩:=h0
   simp only[Xac]at hv
   subst hv
   refine⟨_,by simp[Instr.indexAt,Instr.sureAddr,asIntOf,Zaa ht,h0,h1,Zaf he,Zbx];rfl, ?_⟩
   first
    |exact .ptr _ _ _ (by assumption)
    |exact .gp _ _
    |(rw[Xeg]
      exact .el _ _ _ _ _ (by assumption) (by assumption) (by assumption) (by assumption))
  ·simp at hv
theorem Z3u {u v:V}{x:Value}{t:TypeId}{fs:Array Field}{f:Nat}{fd:Field}{i:TypeInfo}(ht:P.underlying t=some (.struct fs))(hf:fs[f]? =some fd)(hi:P.info? fd.type=some i)(hz:i.size≠0)
  (h:Rep W G φ u x) (hv:Ziy fd.offset u=some v):∃y,(Instr.fieldAt t x f).run P W= .ok y W/\Rep W G φ v y:=by
 cases h<;>simp only[Ziy,reduceCtorEq,Xac]at hv
 all_goals
  subst hv
  refine⟨_,by simp[Instr.fieldAt,Instr.sureAddr,fieldPlace,Zaa ht,hf,Zaf hi,hz,Zbx];rfl, ?_⟩
  first
   |exact .ptr _ _ _ (by assumption)
   |exact .gp _ _
   |(rw[Xeg]
     exact .el _ _ _ _ _ (by assumption) (by assumption) (by assumption) (by assumption))
theorem Z3m {u v:V}{x:Value}(h:Rep W G φ u x)(hv:Zmr u=some v):v=u/\((∃p,x= .pointer (some p)) \/ ∃f p c,x= .func (.func f) p c):=by
 cases h<;>simp[Zmr]at hv<;>simp[hv]
theorem Z9g {k:IntKind}{u v:V}{x:Value}{s d:TypeId}{ds:TypeDesc}(hs:P.underlying s=some ds)(hd:P.underlying d=some (.int k))(h:Rep W G φ u x)(hv:vI2i k u=some v):
  ∃y,(convert s d x).run P W= .ok y W/\Rep W G φ v y:=by
 cases h<;>simp only[vI2i,reduceCtorEq,Xac]at hv
 subst hv
 rename_i k' n
 exact⟨.int k (k.wrap n),by simp_all[Zaa,convert,Conv.intToInt], .int _ _⟩
theorem Z9x {u v:V}{x:Value}{s d:TypeId}(hs:P.underlying s=some .string)(hd:P.underlying d=some .string)(h:Rep W G φ u x)(hv:vS2s u=some v):
  ∃y,(convert s d x).run P W= .ok y W/\Rep W G φ v y:=by
 cases h<;>simp only[vS2s,reduceCtorEq,Xac]at hv
 subst hv
 rename_i l s h
 exact⟨.string s,by simp_all[Zaa,convert], .str _ _ h⟩
theorem Z5o {str:Bool}{u v:V}{x:Value}{t ty:TypeId}(ht:if str then P.underlying t=some .string else ∃e,P.underlying t=some (.slice e))(h:Rep W G φ u x)(hv:vLen str u=some v):
  ∃y,(Builtin.len_ #[t] ty #[x]).run P W= .ok y W/\Rep W G φ v y:=by
 cases str
 ·obtain⟨e,ht⟩:=by simpa using ht
  cases h<;>simp only[vLen,reduceCtorEq,Xac]at hv<;>subst hv
  ·exact⟨.int .i64 0,by simp[Builtin.len_,Zaa ht,goInt], .int _ _⟩
  ·rename_i sz xs b off cap rd _ _ _ _ _
   exact⟨.int .i64 xs.length,by simp[Builtin.len_,Zaa ht,goInt], .int _ _⟩
  ·exact⟨.int .i64 0,by simp[Builtin.len_,Zaa ht,goInt], .int _ _⟩
  ·rename_i id off len cap sz b cap' _ _ _ _
   exact⟨.int .i64 len,by simp[Builtin.len_,Zaa ht,goInt], .int _ _⟩
  ·exact⟨.int .i64 0,by simp[Builtin.len_,Zaa ht,goInt], .int _ _⟩
 ·cases h<;>simp only[vLen,reduceCtorEq,Xac]at hv
  subst hv
  rename_i l s hs
  subst hs
  exact⟨.int .i64 s.size,by simp[Builtin.len_,Zaa ht,goInt],by simpa using Rep.int .i64 (s.size:Int)⟩
theorem Znu {len cap cap':Nat}{l h:Option Int}{c:Nat×Nat×Nat}(hc:cut3 len cap l h none=some c)(hle:cap<=cap'):cut3 len cap' l h none=some (c.1,c.2.1,cap')/\c.2.2=cap/\c.1<=c.2.1/\c.2.1<=cap:=by
 grind[cut3]
theorem Qa9 {sz:Nat}{u:V}{x:Value}{lo hi mx:Option V}{xl xh xm:Option Value}{t e:TypeId}{ie:TypeInfo}{r:Res}(ht:P.underlying t=some (.slice e))(he:P.info? e=some ie)(hsz:ie.size=sz)
  (h:Rep W G φ u x) (hl:RepO W G φ lo xl) (hh:RepO W G φ hi xh) (hm:RepO W G φ mx xm) (hv:vSlc sz u lo hi mx=some r):
  ∃y,(Instr.sliceAt t x xl xh xm).run P W= .ok y W/\Rep W G φ r.v y/\r.tk=none/\(r.o=true-> ∀B g p,OwnAt W B g p r.v y):=by
 subst hsz
 unfold vSlc at hv
 split at hv
 ·rename_i l hi' m nl s xs el eh em
  split at hv
  ·rename_i hc
   obtain⟨rfl,hc⟩:=hc
   simp only[Xaa]at hv
   obtain⟨c,hcut,rfl⟩:=hv
   have hmm:∃xm',(m=none/\xm=none/\xm'=(none:Option Int)) \/(∃k n,m=some n/\hi'=some n/\xm=some (.int k n)/\xm'=some n):=by
    grind[Zbt]
   unfold cut3 at hcut
   simp only[Xb0,false_implies,and_true]at hcut
   split at hcut
   ·obtain⟨mf,hmf⟩:∃mf:Nat->Nat, ∀cap,mf cap=(m.map Int.toNat).getD cap:=⟨_,fun _=>rfl⟩
    have hk:(c.2.1:Int)=hi'.getD (xs.length:Int):=by grind
    have hl':(c.1:Int)=l.getD 0:=by grind
    obtain⟨a,len,cap,rfl,hlen,hlc,hrep⟩:=Z2k h c.1 c.2.1 (by omega) (by omega) mf (fun len cap _=>by
     grind)
    have hcut':cut3 len cap l hi' m=some (c.1,c.2.1,mf cap):=by
     grind[cut3]
    obtain⟨hr,h1,h2,h3⟩:=Zb0 (P:=P) (W:=W) (isS:=true) hlc (Zbt hl el) (Zbt hh eh) (Zbt hm em) hcut'
    refine⟨.slice (if mf cap=c.1 then a else a.map (·.add (c.1*ie.size))) (c.2.1-c.1) (mf cap-c.1),by simp[Instr.sliceAt,Instr.slice,Zaa ht,hr,Zaf he],hrep,rfl, ?_⟩
    intro ho B g p sz xs' b off len' cap' sp _ hx
    grind
   ·simp at hcut
  ·simp at hv
 ·rename_i l hi' m id off len cap s el eh em
  split at hv
  ·rename_i hc
   obtain⟨rfl,rfl⟩:=hc
   simp only[Xaa]at hv
   obtain⟨c,hcut,rfl⟩:=hv
   ·cases h with
    |osl _ _ _ _ _ b cap' hφ hlc hc' hs=>
     obtain⟨hcut',e1,e2,e3⟩:=Znu hcut hc'
     obtain⟨hr,h1,h2,h3⟩:=Zb0 (P:=P) (W:=W) (isS:=true) (Xba hlc hc') (Zbt hl el) (Zbt hh eh) (Zbt hm em) hcut'
     by_cases hcc:cap'=c.1
     ·have z1:c.2.1-c.1=0:=by omega
      have z2:c.2.2-c.1=0:=by omega
      refine⟨.slice (some ⟨b,off,none⟩) 0 0, ?_,by rw[z1,z2];exact .osln _ _ _ _,rfl,fun h=>by cases h⟩<;>simp_all[Zaa,Zaf,Instr.sliceAt,Instr.slice]
     refine⟨.slice (some ⟨b,off+c.1*ie.size,none⟩) (c.2.1-c.1) (cap'-c.1), ?_, .osl _ _ _ _ _ _ _ hφ (by omega) (by omega) ?_,rfl,fun h=>by cases h⟩
     ·have hz:(if cap'=c.1 then(some ⟨b,off,none⟩:Option Addr)else some ⟨b,off+c.1*ie.size,none⟩)=some ⟨b,off+c.1*ie.size,none⟩:=if_neg hcc
      simp only[Instr.sliceAt,Instr.slice,Sem.run_bind,Zaa ht,Result.andThen_ok,hr,Zaf he,Sem.run_pure,Xay,Zbx]
      rw[hz]
     ·have:off+c.1*ie.size+(cap'-c.1)*ie.size=off+cap'*ie.size:=by rw[Xeg, <-Xb8];congr 2;omega
      omega
    |osln _ _ _ p=>
     obtain⟨hcut',e1,e2,e3⟩:=Znu hcut (Xae 0)
     obtain⟨hr,h1,h2,h3⟩:=Zb0 (P:=P) (W:=W) (isS:=true) (Xae 0) (Zbt hl el) (Zbt hh eh) (Zbt hm em) hcut'
     have z1:c.1=0:=by omega
     have z2:c.2.1=0:=by omega
     have z3:c.2.2=0:=by omega
     refine⟨.slice p 0 0, ?_, ?_,rfl,fun h=>by cases h⟩
     ·simp only[Instr.sliceAt,Instr.slice,Sem.run_bind,Zaa ht,Result.andThen_ok,hr,Zaf he,Sem.run_pure,z1,z2]
      grind
     ·rw[z1,z2,z3];exact .osln _ _ _ _
  ·simp at hv
 ·simp at hv
end Go.Abs
namespace Go.Abs
open Go.RowKit
variable {P:Program}{W:World}{G:Nat->Nat}{φ:Nat->Option Nat}
def flat (xs:List V):List V:=xs.flatMap V.cells
theorem Zcc {sz:Nat}{xs:List V}(h:∀x∈xs,x.cells.length=sz):(flat xs).length=xs.length*sz:=by
 induction xs<;>grind[flat]
theorem Zzi {sz:Nat}{xs:List V}(h:∀x∈xs,x.cells.length=sz):∀(i:Nat) (x:V) (j:Nat) (c:V),xs[i]? =some x->x.cells[j]? =some c->(flat xs)[i*sz+j]? =some c:=by
 induction xs with
 |nil=>grind
 |cons a r ih=>
  intro i x j c hi hj
  cases i<;>grind[flat]
theorem Z11 {sz:Nat}{xs:List V}(h:∀x∈xs,x.cells.length=sz){k:Nat}{c:V}(hk:(flat xs)[k]? =some c):
  ∃i j x,k=i*sz+j/\j<sz/\xs[i]? =some x/\x.cells[j]? =some c:=by
 induction xs generalizing k with
 |nil=>grind[flat]
 |cons a r ih=>
  have h1:=h a (by simp)
  simp only[flat,Xcc]at hk
  rcases Xa6 k a.cells.length with hlt|hge
  ·rw[Xbx hlt]at hk
   exact⟨0,k,a,by simp,by omega,by simp,hk⟩
  ·rw[Xcb hge,h1]at hk
   obtain⟨i,j,x,e,hj,hx,hc⟩:=ih (fun y hy=>h y (by simp[hy])) hk
   exact⟨i+1,j,x,by grind,hj,by simpa using hx,hc⟩
theorem Zgg (xs ys:List V):flat (xs++ys)=flat xs++flat ys:=by simp[flat]
theorem Rep.row {sz:Nat}{xs:List V}{nl:Bool}{x:Value}(h:Rep W G φ (.sl nl sz xs) x):
  (nl=true/\xs=[]/\x= .slice none 0 0) \/(nl=false/\xs=[]/\ ∃a,x= .slice (some a) 0 0) \/
  ∃b off cap,nl=false/\x= .slice (some ⟨b,off,none⟩) xs.length cap/\xs.length<=cap/\off+xs.length*sz<=G b/\
   (∀y∈xs,y.cells.length=sz/\ ∀c∈y.cells,c.sc=true)/\Row W G φ (flat xs) b off:=by
 cases h with
 |slnil=>grind
 |sl0 sz a=>grind
 |sl sz xs b off cap rd hcap hG hx hrd h=>
  refine .inr (.inr ⟨b,off,cap,rfl,rfl,hcap,hG,hx,⟨fun c hc=> ?_,fun k c hk=> ?_⟩⟩)
  ·obtain⟨y,hy,hc⟩:=Xb3.1 hc
   grind
  ·obtain⟨i,j,y,rfl,hj,hy,hc⟩:=Z11 (fun y hy=>(hx y hy).1) hk
   have hi:=(Xak.1 hy).1
   have:(i+1)*sz<=xs.length*sz:=Xbr _ hi
   grind
theorem Rep.of_row {sz:Nat}{xs:List V}{b off cap:Nat}(hcap:xs.length<=cap)(hG:off+xs.length*sz<=G b)
  (hx:∀y∈xs,y.cells.length=sz/\ ∀c∈y.cells,c.sc=true) (h:Row W G φ (flat xs) b off):
  Rep W G φ (.sl false sz xs) (.slice (some ⟨b,off,none⟩) xs.length cap):=by
 refine .sl sz xs b off cap (fun k=>(W.cell? ⟨b,off+k,none⟩).getD undef) hcap hG hx (fun k hk=> ?_) (fun i y j c hi hj=> ?_)
 ·have hlt:k<(flat xs).length:=by grind[Zcc]
  obtain⟨y,h1,_⟩:=h.cell k _ (Xad hlt)
  simp[h1]
 ·obtain⟨y,h1,h2⟩:=h.cell _ c (Zzi (fun y hy=>(hx y hy).1) i y j c hi hj)
  grind
theorem Row.list {cs:List V}{b base:Nat}(h:Row W G φ cs b base)(n:Nat)(hn:n<=cs.length):
  ∃ys:List Value,ys.length=n/\ ∀(j:Nat) (y:Value),ys[j]? =some y->W.cell? ⟨b,base+j,none⟩=some y/\ ∃c,cs[j]? =some c/\Rep W G φ c y:=by
 induction n with
 |zero=>simp_all
 |succ m ih=>
  obtain⟨ys,hl,hy⟩:=ih (by omega)
  have hlt:m<cs.length:=by omega
  obtain⟨y,h1,h2⟩:=h.cell m _ (Xad hlt)
  refine⟨ys++ [y],by simp[hl],fun j z hj=> ?_⟩<;>grind
theorem Rep.one {c:V}{y:Value}(h:Rep W G φ c y)(hs:c.sc=true):y.oneCell'=true:=by
 cases h<;>first|rfl|grind[V.sc]
theorem Row.one {cs:List V}{b base:Nat}(h:Row W G φ cs b base){ys:List Value}(hy:∀(j:Nat) (y:Value),ys[j]? =some y->W.cell? ⟨b,base+j,none⟩=some y/\ ∃c,cs[j]? =some c/\Rep W G φ c y):
  ∀y∈ys,y.oneCell'=true:=by
 intro y hm
 obtain⟨j,hj⟩:=Xdg hm
 obtain⟨_,c,hc,hr⟩:=hy j y hj
 exact hr.one (h.sc c (Xaj hc))
theorem Zfm :∀{xs:List V} {l:Bytes},Zb4 xs=some l-> ∃ns:List Int,xs=ns.map (V.int .u8)/\l=ns.map fun n=>UInt8.ofNat n.toNat
 | [],l,h=>by simp_all[Zb4]
 | .int .u8 n::r,l,h=>by
  simp only[Zb4,Xaa]at h
  obtain⟨r',hr,rfl⟩:=h
  obtain⟨ns,rfl,rfl⟩:=Zfm hr
  exact⟨n::ns,rfl,rfl⟩
theorem Zsy (ns:List Int):flat (ns.map (V.int .u8))=ns.map (V.int .u8):=by
 induction ns<;>grind[flat,V.cells]
theorem Zpw {ns:List Int}{b off cap:Nat}{s d e:TypeId}(hs:P.underlying s=some (.slice e))(he:P.underlying e=some (.int .u8))(hd:P.underlying d=some .string)
  (h:Row W G φ (ns.map (V.int .u8)) b off):
  (convert s d (.slice (some ⟨b,off,none⟩) ns.length cap)).run P W= .ok (.string (strOfNums ns)) W:=by
 refine run_convert_bytes_arg W s e hs he b off ns.length cap ns rfl (fun i hi=> ?_) d hd
 obtain⟨y,h1,h2⟩:=h.cell i (.int .u8 ns[i]) (by simp[hi])
 cases h2<;>grind
theorem Zmg {nl:Bool}{xs:List V}{v:V}{x:Value}{H:Hp}{s d e:TypeId}(hs:P.underlying s=some (.slice e))(he:P.underlying e=some (.int .u8))(hd:P.underlying d=some .string)
  (h:Rep W G φ (.sl nl 1 xs) x) (hv:vB2s H (.sl nl 1 xs)=some v):∃y,(convert s d x).run P W= .ok y W/\Rep W G φ v y:=by
 simp only[vB2s,Xaa]at hv
 obtain⟨l,hl,rfl⟩:=hv
 obtain⟨ns,rfl,rfl⟩:=Zfm hl
 rcases h.row with⟨rfl,h0,rfl⟩|⟨rfl,h0,a,rfl⟩|⟨b,off,cap,rfl,rfl,hcap,hG,hx,hrow⟩
 ·have:ns=[]:=by simpa using h0
  subst this
  exact⟨_,run_convert_bytes_nil W s e hs he 0 0 d hd, .str _ _ rfl⟩
 ·have:ns=[]:=by simpa using h0
  subst this
  refine⟨.string ⟨#[]⟩, ?_, .str _ _ rfl⟩
  simp[convert,Zaa hs,Zaa hd,Zaa he,loadCells];rfl
 ·rw[Zsy]at hrow
  refine⟨.string (strOfNums ns), ?_, .str _ _ (strOfNums_data ns)⟩<;>grind[Zpw]
theorem Zuj {cs:List V}{off len cap:Nat}{l:Bytes}{b:Nat}{s d e:TypeId}(hs:P.underlying s=some (.slice e))(he:P.underlying e=some (.int .u8))(hd:P.underlying d=some .string)
  (h:Row W G φ cs b 0) (hle:off+len<=cs.length) (hv:Zb4 ((cs.drop off).take len)=some l):
  ∃y,(convert s d (.slice (some ⟨b,off,none⟩) len cap)).run P W= .ok y W/\Rep W G φ (.str l) y:=by
 obtain⟨ns,hns,rfl⟩:=Zfm hv
 have hlen:ns.length=len:=by have:=congrArg List.length hns;grind
 refine⟨.string (strOfNums ns), ?_, .str _ _ (strOfNums_data ns)⟩
 rw[<-hlen]
 refine Zpw (W:=W) (G:=G) (φ:=φ) hs he hd ⟨fun c hc=> ?_,fun k c hk=> ?_⟩
 ·obtain⟨n,_,rfl⟩:=Xa7.1 hc;rfl
 ·rw[<-hns,Zb6]at hk
  split at hk
  ·obtain⟨y,h1,h2⟩:=h.cell _ c hk
   grind
  ·simp at hk
theorem Zhb (s:Bytes):flat (encB s)=encB s:=by
 induction s with
 |nil=>rfl
 |cons b r ih=>simp only[flat,encB,Xan,Xcc]at*;rw[ih];rfl
theorem Zn0 (s:Bytes):∀x∈encB s,x.cells.length=1/\ ∀c∈x.cells,c.sc=true:=by
 intro x hx
 obtain⟨b,_,rfl⟩:=Xa7.1 hx
 exact⟨rfl,fun c hc=>by simp[byteV,V.cells]at hc;subst hc;rfl⟩
theorem Adv.new {w B GB g st a W W'}(h:SR w B GB g st a W)(n:Nat)(q:Option Pos)(p:Option Pos)(hb:Below W.heap.size W W')(hsz:W'.heap.size=W.heap.size+1):
  Adv B g ⟨fun b=>if b=W.heap.size then n else g.G b,g.φ,fun b=>if b=W.heap.size then q else g.ow b⟩ W W' p:=by
 have hB:B W.heap.size:=h.hB _ h.below.size
 refine⟨⟨fun b i hi=> ?_,fun b=> ?_,fun _ _ h=>h,fun id b' hb'=>Zji (hb.block _ (h.φ id b' hb').2.1)⟩,rfl, .of hb (fun b hb=>h.hB b (Xba h.below.size hb)),fun b hb'=> ?_,fun b id h1 h2 h3 h4=> ?_,fun b q h1 h2 _=> ?_,fun b hb'=> ?_⟩
 ·have:b<W.heap.size:=by
   rcases Xa6 b W.heap.size with h'|h'
   ·exact h'
   ·have:=h.Gz b h';omega
  exact hb.cell (p:=⟨b,i,none⟩) this
 ·dsimp only;split
  ·have:=h.Gz b (by omega);omega
  omega
 ·grind
 ·dsimp only;rw[if_neg (by omega),if_neg (by omega)];exact⟨hb.block _ h2,h3,h4⟩
 ·dsimp only;rw[if_neg (by omega),if_neg (by omega)];exact⟨hb.block _ h1,rfl,h2⟩
 ·dsimp only
  rw[if_neg (by omega)];exact h.Gz b (by omega)
theorem Zce (W:World)(o:Obj):Below W.heap.size W (W.alloc o):=(Below.refl _ _).alloc (Xae _) o
theorem Zc4 (W:World)(o:Obj):Below W.heap.size W (W.drew.alloc o):=((Below.refl _ W).drew).alloc (by simp) o
theorem Z9o {w B GB g st a}(h:SR w B GB g st a W){u:V}{r:Res}{x:Value}{s d e:TypeId}{us:TypeDesc}(hs:P.underlying s=some us)(hd:P.underlying d=some (.slice e))(he:P.underlying e=some (.int .u8))
  (hr:Rep W g.G g.φ u x) (hv:vS2b u=some r) (q:Pos):∃y W' g',(convert s d x).run P W= .ok y W'/\Adv B g g' W W' r.tk/\Rep W' g'.G g'.φ r.v y/\(r.o=true->OwnAt W' B g' q r.v y):=by
 cases hr<;>simp only[vS2b,reduceCtorEq,Xac]at hv
 subst hv
 rename_i l s' hl
 have hB:B W.heap.size:=h.hB _ h.below.size
 have hsz:=Lib.bytesWorld_size W e s'
 have hlen:l.length=s'.size:=by rw[<-hl];simp
 have hbel:Below W.heap.size W (Lib.bytesWorld W e s'):=⟨rfl,rfl,rfl,by omega,fun k hk=>Lib.bytesWorld_at_old W e s' k hk⟩
 have hadv:=Adv.new h l.length (some q) none hbel hsz
 have hcapge:s'.size<=grownCap W s'.size 0 e:=grownCap_ge W s'.size 0 e
 have hcs:(Lib.bytesCells W e s').size=grownCap W s'.size 0 e:=by grind[Lib.bytesCells]
 refine⟨_,_,_,Lib.run_convert_string_bytes W s d e s' hs hd he,hadv, ?_,fun _=> ?_⟩
 ·have hel:(encB l).length=s'.size:=by grind[encB]
  rw[<-hel]
  refine Rep.of_row (by grind) (by simp[encB]) (Zn0 l) ⟨fun c hc=> ?_,fun k c hk=> ?_⟩
  ·rw[Zhb]at hc;obtain⟨b,_,rfl⟩:=Xa7.1 hc;rfl
  ·rw[Zhb]at hk
   simp only[encB,Xbe,Xaa]at hk
   obtain⟨b,hb,rfl⟩:=hk
   have hlt:=(Xak.1 hb).1
   refine⟨_,by rw[Xao];exact Lib.bytesWorld_cell W e s' k (by omega), ?_⟩
   have:s'.data.toList.getD k 0=b:=by grind
   rw[this];exact .int _ _
 ·intro sz xs b off len cap sp hv hx
  grind[Lib.bytesWorld_at_new,encB]
end Go.Abs
namespace Go.Abs
open Go.RowKit
theorem Za5 {P:Program}(W:World)(sz:Nat)(a:Addr):(Builtin.firstCells sz 0 (.slice (some a) 0 0)).run P W= .ok #[] W:=by simp[Builtin.firstCells,loadCells,loadCellsFrom]
variable {P:Program}{W:World}{G:Nat->Nat}{φ:Nat->Option Nat}
theorem Zgz {v:V}(h:v.sc=true):v.cells=[v]:=by cases v<;>first|rfl|(simp[V.sc]at h)
theorem Zbp (b:Nat):∀(vs:List Value) (o:Nat) (w:World) (k:Nat),k≠b->(w.setCells b o vs).heap[k]? =w.heap[k]?
 | [],_,_,_,_=>rfl
 |v::r,o,w,k,h=>by
  simp only[World.setCells]
  rw[Zbp b r (o+1) _ k h]
  exact Below.heap_setCell w _ _ _ h
theorem Zda (b:Nat):∀(vs:List Value) (o:Nat) (w:World),(w.setCells b o vs).os=w.os/\(w.setCells b o vs).tape=w.tape/\(w.setCells b o vs).output=w.output/\(w.setCells b o vs).heap.size=w.heap.size
 | [],_,_=>⟨rfl,rfl,rfl,rfl⟩
 |v::r,o,w=>by
  obtain⟨h1,h2,h3,h4⟩:=Zda b r (o+1) (w.setCell ⟨b,o,none⟩ v)
  simp only[World.setCells]
  exact⟨h1,h2,h3,by rw[h4];simp[World.setCell]⟩
theorem Zfb (b:Nat):∀(vs:List Value) (o:Nat) (w:World) (cs:Array Value) (t:TypeId) (fr:Nat×Nat),w.heap[b]? =some (.cells cs t fr)->
  ∃cs',(w.setCells b o vs).heap[b]? =some (.cells cs' t fr)/\cs'.size=cs.size
 | [],_,_,cs,_,_,h=>⟨cs,h,rfl⟩
 |v::r,o,w,cs,t,fr,h=>by
  have h1:(w.setCell ⟨b,o,none⟩ v).heap[b]? =some (.cells (cs.setIfInBounds o v) t fr):=by
   simp[World.setCell,Array.getElem?_modify,h]
  obtain⟨cs',h2,h3⟩:=Zfb b r (o+1) _ _ t fr h1
  exact⟨cs',h2,by rw[h3];simp⟩
theorem Zfk {b o:Nat}{vs:List Value}{W:World}{cs:Array Value}{t:TypeId}{fr:Nat×Nat}(h:W.heap[b]? =some (.cells cs t fr))(k:Nat):csz (W.setCells b o vs) k=csz W k:=by
 by_cases hk:k=b
 ·subst hk
  obtain⟨cs',h1,h2⟩:=Zfb k vs o W cs t fr h
  grind[csz]
 grind[Zji,Zbp]
theorem Zfs (w:World)(o:Obj):(w.drew.alloc o).heap[w.heap.size]? =some o:=by
 show(w.heap.push o)[w.heap.size]? =some o
 simp
def Gh.move (g:Gh)(p:Option Pos)(q:Pos):Gh:=⟨g.G,g.φ,fun b=>if g.ow b≠none/\g.ow b=p then some q else g.ow b⟩
theorem Adv.move {w B GB g st a W}(h:SR w B GB g st a W)(p:Option Pos)(q:Pos):Adv B g (g.move p q) W W p:=by
 refine⟨.refl _ _ _,rfl, .refl _ _,fun _ _=>rfl,fun b id h1 h2 h3 h4=>⟨rfl,h3, ?_⟩,fun b q' h1 h2 h3=>⟨rfl,rfl, ?_⟩,h.Gz⟩<;>grind[Gh.move]
theorem OwnAt.move {B:Nat->Prop}{g:Gh}{p q:Pos}{v:V}{x:Value}(h:OwnAt W B g p v x):OwnAt W B (g.move (some p) q) q v x:=by
 intro sz xs b off len cap sp hv hx
 rcases h sz xs b off len cap sp hv hx with h|⟨h1,h2,h3,h4⟩<;>grind[Gh.move]
theorem Zvx {w B GB g st a}(h:SR w B GB g st a W){sz:Nat}{u:V}{x:Value}{tx:TypeId}{ys:List V}(hk:(∃e',P.underlying tx=some (.slice e')) \/P.underlying tx=some .string)
  (hr:Rep W g.G g.φ u x) (hv:Zb2 st.H sz u=some ys):
  ∃news:List Value,Src P sz tx x ys.length news W/\(∀y∈ys,y.cells.length=sz/\ ∀c∈y.cells,c.sc=true)/\news.length=ys.length*sz/\
   ∀(j:Nat) (c:V),(flat ys)[j]? =some c-> ∃y,news[j]? =some y/\Rep W g.G g.φ c y:=by
 have fin:∀(b off cap:Nat) (zs:List V) (hfit:∀y∈zs,y.cells.length=sz/\ ∀c∈y.cells,c.sc=true) (hrow:Row W g.G g.φ (flat zs) b off),
   ∃news:List Value,Src P sz tx (.slice (some ⟨b,off,none⟩) zs.length cap) zs.length news W/\(∀y∈zs,y.cells.length=sz/\ ∀c∈y.cells,c.sc=true)/\news.length=zs.length*sz/\
    ∀(j:Nat) (c:V),(flat zs)[j]? =some c-> ∃y,news[j]? =some y/\Rep W g.G g.φ c y:=by
  intro b off cap zs hfit hrow
  obtain⟨news,hl,hn⟩:=hrow.list (flat zs).length (Xae _)
  have hl':news.length=zs.length*sz:=by grind[Zcc]
  have hc:∀j u,news[j]? =some u->W.cell? ((⟨b,off,none⟩:Addr).add j)=some u:=fun j u hj=>by grind[Zbx]
  refine⟨news,⟨hk,fun _=>rfl,run_firstCells_some W sz _ _ _ _ news hl' hc,run_firstCells_some W.drew sz _ _ _ _ news hl' (by simpa using hc),hl',hrow.one hn⟩,hfit,hl',fun j c hj=> ?_⟩
  have hlt:j<news.length:=by grind
  obtain⟨_,c',hc',hr'⟩:=hn j _ (Xad hlt)
  grind
 cases u<;>simp only[Zb2,reduceCtorEq]at hv
 case str s=>
  split at hv
  ·rename_i h1
   subst h1
   simp only[Xac]at hv
   subst hv
   cases hr
   rename_i s' hs
   have hlen:(encB s).length=s'.size:=by rw[<-hs];simp[encB]
   refine⟨byteCells s',⟨hk,fun _=>by rw[hlen];rfl,by grind[firstCells_string],by grind[firstCells_string],by simp_all[byteCells_length],fun u hu=> ?_⟩,Zn0 s,by simp_all[byteCells_length],fun j c hj=> ?_⟩
   ·obtain⟨_,_,rfl⟩:=Xa7.1 hu;rfl
   ·rw[Zhb]at hj
    simp only[encB,Xbe,Xaa]at hj
    obtain⟨b,hb,rfl⟩:=hj
    exact⟨.int .u8 b.toNat,by grind[byteCells], .int _ _⟩
  ·simp at hv
 case sl nl s xs=>
  split at hv
  ·rename_i hs
   simp only[Xac]at hv
   subst hv
   rcases hr.row with⟨_,rfl,rfl⟩|⟨_,rfl,a,rfl⟩|⟨b,off,cap,rfl,rfl,hcap,hG,hx,hrow⟩
   rotate_left
   ·exact⟨[],⟨hk,fun _=>rfl,Za5 W sz a,Za5 W.drew sz a,by simp,fun _ h=>by cases h⟩,by simp,by simp,fun j c hj=>by grind[flat]⟩
   rotate_left
   ·exact⟨[],⟨hk,fun _=>rfl,run_firstCells_none W sz 0 0 0,run_firstCells_none W.drew sz 0 0 0,by simp,fun _ h=>by cases h⟩,by simp,by simp,fun j c hj=>by grind[flat]⟩
   ·rcases hs with rfl|rfl
    ·exact fin b off cap xs hx hrow
    ·exact fin b off cap [] (by simp) ⟨by simp[flat],by simp[flat]⟩
  ·simp at hv
 case osl id off len cap s=>
  split at hv
  ·rename_i hs
   subst hs
   split at hv
   ·rename_i h0
    simp only[Xac]at hv
    subst hv;subst h0
    cases hr with
    |osln _ _ _ p=>
     cases p with
     |none=>exact⟨[],⟨hk,fun _=>rfl,run_firstCells_none W s 0 0 0,run_firstCells_none W.drew s 0 0 0,by simp,fun _ h=>by cases h⟩,by simp,by simp,fun j c hj=>by grind[flat]⟩
     |some a=>exact⟨[],⟨hk,fun _=>rfl,Za5 W s a,Za5 W.drew s a,by simp,fun _ h=>by cases h⟩,by simp,by simp,fun j c hj=>by grind[flat]⟩
    |osl _ _ _ _ _ b cap' hφ hlc hc' hs=>exact fin b off cap' [] (by simp) ⟨by simp[flat],by simp[flat]⟩
   simp only[Xab,Zap]at hv
   obtain⟨cs,hcs,hv⟩:=hv
   split at hv
   ·simp only[Xac]at hv
    subst hv
    have hH:st.H id=some (.cells cs):=Zbd (by grind[Zap])
    cases hr with
    |osln _ _ _ _=>omega
    |osl _ _ _ _ _ b cap' hφ hlc hc' hs=>
    obtain⟨xs,t,h2,h3,h4,_⟩:=(h.ob id _ hH).cells hφ
    have hsc:∀c∈cs.drop off,c.sc=true:=fun c hc=>h4 c (Xca hc)
    have hle':len*s<=(cs.drop off).length:=by grind
    have hlen:(vRow s len (cs.drop off)).length=len:=Zjo hle'
    have hfl:flat (vRow s len (cs.drop off))=(cs.drop off).take (len*s):=Zxp hsc
    have:=fin b off cap' (vRow s len (cs.drop off)) (Zqy hle' hsc) ⟨by grind,fun k c hk=>by
     rw[hfl,Zb6]at hk
     split at hk
     ·have hlt:off+k<xs.size:=Xbn (Xak.1 hk).1 h3.1
      exact⟨xs[off+k],by grind[World.cell?],h3.2 _ c _ hk (Xau hlt)⟩
     ·simp at hk⟩
    grind
   ·simp at hv
  ·simp at hv
theorem Zp2 {w B GB g st a}(h:SR w B GB g st a W){sz:Nat}{xs ys:List V}{olds news:List Value}{z:Array Value}{e:TypeId}(cap:Nat)(q:Pos)(p:Option Pos)(hcap:xs.length+ys.length<=cap)(hzs:z.size=sz)
  (hx:∀y∈xs,y.cells.length=sz/\ ∀c∈y.cells,c.sc=true) (hy:∀y∈ys,y.cells.length=sz/\ ∀c∈y.cells,c.sc=true) (hol:olds.length=xs.length*sz) (hnl:news.length=ys.length*sz)
  (hor:∀(j:Nat) (c:V),(flat xs)[j]? =some c-> ∃y,olds[j]? =some y/\Rep W g.G g.φ c y) (hnr:∀(j:Nat) (c:V),(flat ys)[j]? =some c-> ∃y,news[j]? =some y/\Rep W g.G g.φ c y)
  {W':World} (hW':W'=W.drew.alloc (.cells ((olds++news).toArray++Builtin.zeroCells z (cap-(xs.length+ys.length))) e)):
  ∃g',Adv B g g' W W' p/\Rep W' g'.G g'.φ (.sl false sz (xs++ys)) (.slice (some ⟨W.heap.size,0,none⟩) (xs.length+ys.length) cap)/\
   OwnAt W' B g' q (.sl false sz (xs++ys)) (.slice (some ⟨W.heap.size,0,none⟩) (xs.length+ys.length) cap):=by
 subst hzs
 have hB:B W.heap.size:=h.hB _ h.below.size
 obtain⟨o,ho⟩:∃o:Array Value,o=(olds++news).toArray++Builtin.zeroCells z (cap-(xs.length+ys.length)):=⟨_,rfl⟩
 rw[<-ho]at hW'
 subst hW'
 have hadv:=Adv.new h ((xs.length+ys.length)*z.size) (some q) p (Zc4 W (.cells o e)) (by simp)
 have hfit:∀y∈xs++ys,y.cells.length=z.size/\ ∀c∈y.cells,c.sc=true:=fun y hm=>by
  grind
 have hosz:o.size=cap*z.size:=by
  rw[ho]
  simp only[Xdu,size_zeroCells,Xec,Xaf,hol,hnl]
  rw[<-Xb8, <-Xb8];congr 1;omega
 refine⟨_,hadv, ?_, ?_⟩
 ·rw[<-Xaf]
  refine Rep.of_row (by grind) (by simp) hfit ⟨fun c hc=> ?_,fun k c hk=> ?_⟩
  ·obtain⟨y,hm,hc⟩:=Xb3.1 hc;grind
  ·have hmain:∃y,(olds++news)[k]? =some y/\Rep W g.G g.φ c y:=by
    grind[Zgg,Zcc]
   obtain⟨y,h1,h2⟩:=hmain
   refine⟨y, ?_,h2.keep (by rw[Xaf];exact hadv.keeps)⟩
   have hlt:k<(olds++news).length:=(Xak.1 h1).1
   rw[Xao,cell_of_row _ W.heap.size k _ e (0,0) (Zfs _ _),ho,Xcr (by simpa using hlt)]
   simpa using h1
 ·intro sz xs' b off len cap' sp hv hx'
  grind[Zfs]
theorem Z9d {w B GB g st a}(h:SR w B GB g st a W){sz:Nat}{s u:V}{xs xu:Value}{t tx ty e:TypeId}{ie:TypeInfo}{z:Value}{r:Res}{own:Bool}{p:Option Pos}(q:Pos)
  (ht:P.underlying t=some (.slice e)) (he:P.info? e=some ie) (hz:ie.zero=some z) (hsz:ie.size=sz) (hzs:z.cells.size=sz) (hby:ie.bytes<=4096) (hk:(∃e',P.underlying tx=some (.slice e')) \/P.underlying tx=some .string)
  (hs:Rep W g.G g.φ s xs) (hu:Rep W g.G g.φ u xu) (ho:own=true-> ∃p',p=some p'/\OwnAt W B g p' s xs) (hv:vApp st.H own sz p s u=some r):
  ∃y W' g',(Builtin.append_ #[t,tx] ty #[xs,xu]).run P W= .ok y W'/\Adv B g g' W W' r.tk/\Rep W' g'.G g'.φ r.v y/\(r.o=true->OwnAt W' B g' q r.v y):=by
 subst hsz
 have hB:B W.heap.size:=h.hB _ h.below.size
 unfold vApp at hv
 split at hv
 ·--onto a nil slice
  rename_i s1 xs0 ys htail
  split at hv
  ·rename_i hlim
   simp only[Xac]at hv
   subst hv
   obtain⟨news,hsrc,hfit,hnl,hnr⟩:=Zvx (P:=P) h hk hu htail
   have hnil:xs= .slice none 0 0/\xs0=[]:=by cases hs<;>grind
   obtain⟨rfl,rfl⟩:=hnil
   by_cases hy:ys=[]
   ·subst hy
    have hn0:news=[]:=by simpa using hnl
    subst hn0
    refine⟨.slice none 0 0,W,g, ?_,Adv.refl h _, .slnil _,fun _=>fun sz xs b off len cap sp hv hx=>by cases hx⟩
    simp only[Xa2]at hsrc
    have h1:=hsrc.len
    have h2:=hsrc.cells
    rcases hk with⟨e',hk⟩|hk<;>simp[Builtin.append_,Zaa ht,Zaa hk,Zaf he,h1,h2]
   ·have hpos:0<ys.length:=Xal.2 hy
    have hrun:=run_append_grow_src (P:=P) W t tx ty e ie z ht he hz none 0 0 [] (run_firstCells_none W.drew _ _ _ _) xu ys.length news hsrc (by omega) (by grind[Lim])
     (growslice_fits (by omega) (by
      have:(0+ys.length)*ie.bytes<=4294967296*4096:=Xc9 (by grind[Lim]) hby
      omega))
    obtain⟨g',hadv,hrep,hown⟩:=Zp2 h (sz:=ie.size) (xs:=[]) (ys:=ys) (olds:=[]) (news:=news) (z:=z.cells) (e:=e) (grownCap W (0+ys.length) 0 e) q none (by grind[grownCap_ge]) hzs (by simp) hfit (by simp) hnl
     (fun j c hj=>by grind[flat]) hnr rfl
    grind
  ·simp at hv
 ·rename_i s1 xs0 ys htail
  split at hv
  ·rename_i hc
   obtain⟨hlim,rfl,rfl⟩:=hc
   simp only[Xac]at hv
   subst hv
   obtain⟨p',rfl,hown⟩:=ho rfl
   obtain⟨news,hsrc,hfit,hnl,hnr⟩:=Zvx (P:=P) h hk hu htail
   rcases hs.row with⟨hh,_⟩|⟨_,rfl,a0,rfl⟩|⟨b,off,cap,_,rfl,hcap,hG,hx,hrow⟩
   ·cases hh
   ·by_cases hy:ys=[]
    ·subst hy
     have hn0:news=[]:=by simpa using hnl
     subst hn0
     refine⟨.slice (some a0) 0 0,W,g, ?_,Adv.refl h _,by simpa using hs,fun _=>fun sz xs b off len cap sp hv hx=> ?_⟩
     ·simp only[Xa2]at hsrc
      have h1:=hsrc.len
      have h2:=hsrc.cells
      rcases hk with⟨e',hk⟩|hk<;>simp[Builtin.append_,Zaa ht,Zaa hk,Zaf he,h1,h2,storeCells]
     grind
    ·have hpos:0<ys.length:=Xal.2 hy
     have hrun:=run_append_grow_src (P:=P) W t tx ty e ie z ht he hz (some a0) 0 0 [] (Za5 W.drew _ a0) xu ys.length news hsrc (by omega) (by grind[Lim])
      (growslice_fits (by omega) (by
       have:(0+ys.length)*ie.bytes<=4294967296*4096:=Xc9 (by grind[Lim]) hby
       omega))
     obtain⟨g',hadv,hrep,hown⟩:=Zp2 h (sz:=ie.size) (xs:=[]) (ys:=ys) (olds:=[]) (news:=news) (z:=z.cells) (e:=e) (grownCap W (0+ys.length) 0 e) q (some p') (by grind[grownCap_ge]) hzs (by simp) hfit (by simp) hnl
      (fun j c hj=>by grind[flat]) hnr rfl
     grind
   ·by_cases hroom:xs0.length+ys.length<=cap
    ·by_cases hy:ys=[]
     ·subst hy
      have hn0:news=[]:=by simpa using hnl
      subst hn0
      have hrun:=run_append_room_src (P:=P) W t tx ty e ie ht he b off xs0.length cap xu 0 [] hsrc (by omega) (by simp) (by simp)
      refine⟨_,W,g.move (some p') q,hrun,Adv.move h _ _, ?_,fun _=> ?_⟩
      ·show Rep W g.G g.φ _ _
       simpa using hs
      ·simpa using hown.move (q:=q)
     ·have hpos:0<ys.length:=Xal.2 hy
      obtain⟨hb1,how,hend,cs,ct,lo,hi,hheap,hfitc,hfz⟩:=(hown _ _ b off _ _ none rfl rfl).resolve_left (by omega)
      have hadd:(xs0.length+ys.length)*ie.size=xs0.length*ie.size+ys.length*ie.size:=Xb8 _ _ _
      have hroom':off+xs0.length*ie.size+ys.length*ie.size<=off+cap*ie.size:=by
       have:(xs0.length+ys.length)*ie.size<=cap*ie.size:=Xbr _ hroom
       omega
      have hrun:=run_append_room_src (P:=P) W t tx ty e ie ht he b off xs0.length cap xu ys.length news hsrc hroom
       (fun j hj=>by rw[cell_of_row _ b _ cs ct (lo,hi) hheap];simp;omega)
       (fun j hj=>by
        have:=hfz (off+xs0.length*ie.size+j) (by omega) (by omega)
        grind[World.frozen?])
      obtain⟨e1,e2,e3,e4⟩:=Zda b news (off+xs0.length*ie.size) W
      obtain⟨cs',hblk,hcs'⟩:=Zfb b news (off+xs0.length*ie.size) W cs ct (lo,hi) hheap
      have hblt:b<W.heap.size:=(Xbg.1 hheap).1
      have hold:∀i,i<g.G b->(W.setCells b (off+xs0.length*ie.size) news).cell? ⟨b,i,none⟩=W.cell? ⟨b,i,none⟩:=fun i hi=>
       World.cell?_setCells_out b news _ W _ (fun _ _=> .inl (by grind))
      have hnew:∀j (hj:j<news.length),(W.setCells b (off+xs0.length*ie.size) news).cell? ⟨b,off+xs0.length*ie.size+j,none⟩=some news[j]:=
       World.cell?_setCells_in b news _ W (fun j hj=>by rw[cell_of_row _ b _ cs ct (lo,hi) hheap];simp;omega)
      have hne:g.ow b≠none:=by rw[how];simp
      have hadv:Adv B g ⟨fun k=>if k=b then off+(xs0.length+ys.length)*ie.size else g.G k,g.φ,fun k=>if k=b then some q else g.ow k⟩ W (W.setCells b (off+xs0.length*ie.size) news) (some p'):=by
       refine⟨⟨fun k i hi=> ?_,fun k=> ?_,fun _ _ h=>h,fun _ k _=>Zfk hheap k⟩,rfl,⟨e1,e2,e3,by omega,fun k hk=>Zbp b _ _ _ _ (fun e=>hk (by grind))⟩,fun k hk=> ?_,fun k id h1 h2 h3 h4=> ?_,fun k q' h1 h2 h3=> ?_,fun k hk=> ?_⟩
       ·grind[World.cell?_of_block,Zbp]
       ·grind
       ·grind
       ·grind[Zbp]
       ·grind[Zbp]
       ·dsimp only;rw[if_neg (by omega)];exact h.Gz k (by omega)
      refine⟨_,_,_,hrun,hadv, ?_,fun _=> ?_⟩
      ·rw[<-Xaf]
       refine Rep.of_row (by grind) (by simp) (fun y hm=> ?_) ⟨fun c hc=> ?_,fun k c hk=> ?_⟩
       ·grind
       ·rw[Zgg]at hc
        rcases Xaz.1 hc with hm|hm
        ·exact hrow.sc c hm
        ·obtain⟨y,hm,hc⟩:=Xb3.1 hm;grind
       ·rw[Zgg]at hk
        have hl:=Zcc fun y hm=>(hx y hm).1
        rcases Xa6 k (flat xs0).length with hlt|hge
        ·rw[Xbx hlt]at hk
         obtain⟨y,h1,h2⟩:=hrow.cell k c hk
         exact⟨y,by grind,h2.keep (by rw[Xaf];exact hadv.keeps)⟩
        ·rw[Xcb hge,hl]at hk
         obtain⟨y,h1,h2⟩:=hnr _ c hk
         have hlt:=(Xak.1 h1).1
         have:=hnew _ hlt
         rw[show off+xs0.length*ie.size+(k-xs0.length*ie.size)=off+k by omega]at this
         refine⟨_,this, ?_⟩
         have e5:news[k-xs0.length*ie.size]=y:=by
          grind
         rw[e5];exact h2.keep (by rw[Xaf];exact hadv.keeps)
      ·intro sz xs' b' off' len cap' sp hv hx'
       grind
    ·--a new row
     obtain⟨olds,hol,hon⟩:=hrow.list (flat xs0).length (Xae _)
     have hol':olds.length=xs0.length*ie.size:=by grind[Zcc]
     have hcell:∀j u,olds[j]? =some u->W.drew.cell? ((⟨b,off,none⟩:Addr).add j)=some u:=fun j u hj=>by simp_all[Zbx]
     have hrun:=run_append_grow_src (P:=P) W t tx ty e ie z ht he hz (some ⟨b,off,none⟩) xs0.length cap olds (run_firstCells_some W.drew _ _ _ _ _ olds hol' hcell) xu ys.length news hsrc (by omega) (by grind[Lim])
      (growslice_fits (by omega) (by
       have:(xs0.length+ys.length)*ie.bytes<=4294967296*4096:=Xc9 (by grind[Lim]) hby
       omega))
     obtain⟨g',hadv,hrep,hown'⟩:=Zp2 h (sz:=ie.size) (xs:=xs0) (ys:=ys) (olds:=olds) (news:=news) (z:=z.cells) (e:=e) (grownCap W (xs0.length+ys.length) cap e) q (some p') (grownCap_ge W _ cap e) hzs hx hfit hol' hnl
      (fun j c hj=>by
       grind) hnr rfl
     grind
  ·simp at hv
 ·simp at hv
end Go.Abs
namespace Go.Abs
open Go.RowKit
variable {P:Program}{W:World}{G:Nat->Nat}{φ:Nat->Option Nat}
def setL {α:Type}(cs:List α)(off:Nat)(ys:List α):List α:=cs.take off++ys++cs.drop (off+ys.length)
theorem Zde {α:Type}(cs:List α)(off:Nat)(ys:List α)(h:off+ys.length<=cs.length)(k:Nat):
  (setL cs off ys)[k]? =if off<=k/\k<off+ys.length then ys[k-off]? else cs[k]? :=by
 unfold setL
 rw[Xar]
 grind
theorem Zeu {α:Type}(cs:List α)(off:Nat)(ys:List α)(h:off+ys.length<=cs.length):(setL cs off ys).length=cs.length:=by
 grind[setL]
theorem Zgp (cs:List V)(off:Nat)(ys:List V):Zas cs off ys=setL cs off ys:=rfl
theorem Zld :∀(ys:List Value) (off k:Nat) (cs:Array Value),off+k+ys.length<=cs.size->
  ((ys.zipIdx k).foldl (fun(cs:Array Value) (p:Value×Nat)=>cs.setIfInBounds (off+p.2) p.1) cs).toList=setL cs.toList (off+k) ys
 | [],off,k,cs,_=>by simp[setL]
 |y::r,off,k,cs,h=>by
  simp only[Xaq]at h
  rw[List.zipIdx_cons,List.foldl_cons]
  rw[Zld r off (k+1) _ (by simp;omega)]
  apply Xdv
  grind[Zde]
theorem Znw {place:Nat->Option (Nat×Nat)}{cells:Array Value}{i off size:Nat}{v:Value}{rest:List (Nat×Value)}(hp:place i=some (off,size))(hs:v.cells.size=size)(hle:off+size<=cells.size):
  Instr.fill place cells ((i,v)::rest)=Instr.fill place (setL cells.toList off v.cells.toList).toArray rest:=by
 simp only[Instr.fill,hp]
 rw[if_neg (by grind)]
 congr 1
 have:=Zld v.cells.toList off 0 cells (by simp;omega)
 grind[Array.toList_zipIdx]
theorem RepL.setL {cs:List V}{xs:Array Value}{ys:List V}{zs:Array Value}{off:Nat}(h:RepL W G φ cs xs)(hy:RepL W G φ ys zs)(hle:off+ys.length<=cs.length):
  RepL W G φ (Zas cs off ys) (Go.Abs.setL xs.toList off zs.toList).toArray:=by
 have hl:=h.1
 have hl2:=hy.1
 refine⟨by grind[Zgp,Zeu],fun i c x hc hx=> ?_⟩
 rw[Zgp,Zde _ _ _ hle]at hc
 simp only[Xct]at hx
 rw[Zde _ _ _ (by simp;omega)]at hx
 have:zs.toList.length=ys.length:=by simp[hl2]
 rw[this]at hx
 split at hc
 ·rename_i hcond
  rw[if_pos hcond]at hx
  exact hy.2 _ c x hc (by simpa using hx)
 ·rename_i hcond
  rw[if_neg hcond]at hx
  exact h.2 _ c x hc (by simpa using hx)
theorem Zna {cs ys:List V}{off:Nat}{c:V}(h:c∈Zas cs off ys):c∈cs \/c∈ys:=by
 grind[Zas]
theorem Z0t {place:Nat->Option (Nat×Nat)}:∀{ps:List (Nat×Nat×V)} {qs:List (Nat×Value)} {cs rs:List V} {xs:Array Value},
  ps.length=qs.length->(∀(k:Nat) (p:Nat×Nat×V) (q:Nat×Value),ps[k]? =some p->qs[k]? =some q->place q.1=some (p.1,p.2.1)/\Rep W G φ p.2.2 q.2)->
  RepL W G φ cs xs->(∀c∈cs,c.sc=true)->Zj4 cs ps=some rs->
  ∃ys,Instr.fill place xs qs=some ys/\RepL W G φ rs ys/\ ∀c∈rs,c.sc=true
 | [],[],cs,rs,xs,_,_,h,hs,hv=>by simp[Zj4]at hv;subst hv;exact⟨xs,rfl,h,hs⟩
 |(off,n,v)::ps,(i,x)::qs,cs,rs,xs,hl,hp,h,hs,hv=>by
  simp only[Zj4]at hv
  split at hv
  ·rename_i hc
   obtain⟨h1,h2,h3⟩:=hc
   obtain⟨hpl,hr⟩:=hp 0 _ _ rfl rfl
   have hrc:=hr.cells
   have hsz:x.cells.size=n:=by rw[<-hrc.1];exact h1
   rw[Znw hpl hsz (by rw[<-h.1];exact h3)]
   exact Z0t (by simpa using hl) (fun k p q hk hq=>hp (k+1) p q (by simpa using hk) (by simpa using hq)) (h.setL hrc (by grind))
    (fun c hc=>by
     grind[Zna]) hv
  ·simp at hv
theorem Zsm {sz:Nat}:∀(xs:List Value) (k:Nat) (pre rest:List Value),pre.length=k*sz->rest.length=xs.length*sz->(∀x∈xs,x.cells.size=sz)->
  Instr.fill (fun i=>some (i*sz,sz)) (pre++rest).toArray ((xs.zipIdx k).map fun p=>(p.2,p.1))=some (pre++xs.flatMap fun x=>x.cells.toList).toArray
 | [],k,pre,rest,_,hr,_=>by
  have:rest=[]:=by simpa using hr
  subst this;rfl
 |x::xs,k,pre,rest,hp,hr,hx=>by
  rw[List.zipIdx_cons,Xan]
  have hs:=hx x (by simp)
  simp only[Xaq,Xd7]at hr
  rw[Znw (off:=k*sz) (size:=sz) rfl hs (by simp;omega)]
  have hset:setL ((pre++rest).toArray).toList (k*sz) x.cells.toList=(pre++x.cells.toList)++rest.drop sz:=by
   simp_all[Xdi,setL]
  rw[hset]
  rw[Zsm xs (k+1) (pre++x.cells.toList) (rest.drop sz) (by grind) (by simp;omega) (fun y hy=>hx y (by simp[hy]))]
  simp
theorem Zv3 {xs:List V}{ys:List Value}(hl:xs.length=ys.length)(h:∀(i:Nat) (c:V) (x:Value),xs[i]? =some c->ys[i]? =some x->Rep W G φ c x):
  RepL W G φ (flat xs) (ys.flatMap fun x=>x.cells.toList).toArray:=by
 induction xs generalizing ys with
 |nil=>
  have:ys=[]:=by grind
  subst this;exact⟨rfl,fun i c x hc=>by grind⟩
 |cons a r ih=>
  cases ys with
  |nil=>simp at hl
  |cons y s=>
   have h1:=(h 0 a y rfl rfl).cells
   have h2:=ih (ys:=s) (by simpa using hl) fun i c x hc hx=>h (i+1) c x (by simpa using hc) (by simpa using hx)
   have e1:=h1.1
   have e2:=h2.1
   refine⟨by grind[flat],fun i c x hc hx=> ?_⟩
   simp only[flat,Xcc,Xct]at*
   rcases Xa6 i a.cells.length with hlt|hge
   ·rw[Xbx hlt]at hc
    rw[Xbx (by simp;omega)]at hx
    exact h1.2 i c x hc (by simpa using hx)
   ·rw[Xcb hge]at hc
    rw[Xcb (by simp;omega)]at hx
    have:y.cells.toList.length=a.cells.length:=by simp;omega
    rw[this]at hx
    exact h2.2 _ c x hc (by simpa using hx)
theorem Z41 {w B GB g st a}(h:SR w B GB g st a W){sz:Nat}{xs:List V}{ys:List Value}{t e:TypeId}{ie:TypeInfo}{z:Value}(ht:P.underlying t=some (.slice e))(he:P.info? e=some ie)(hz:ie.zero=some z)(hsz:ie.size=sz)(hzs:z.cells.size=sz)
  (hbig:xs.length*sz<=16777216) (hl:xs.length=ys.length) (hr:∀(i:Nat) (c:V) (x:Value),xs[i]? =some c->ys[i]? =some x->Rep W g.G g.φ c x) (hf:fits sz xs=true) (q:Pos):
  ∃y W' g',(Instr.buildSlice t xs.length ((ys.zipIdx 0).map fun p=>(p.2,p.1)).toArray).run P W= .ok y W'/\Adv B g g' W W' none/\Rep W' g'.G g'.φ (.sl false sz xs) y/\OwnAt W' B g' q (.sl false sz xs) y:=by
 subst hsz
 have hfit:=Zub hf
 have hys:∀y∈ys,y.cells.size=ie.size:=by
  intro y hy
  obtain⟨i,hi⟩:=Xdg hy
  have hlt:i<xs.length:=by grind
  have:=(hr i _ y (Xad hlt) hi).cells.1
  grind
 have hflat:=Zv3 hl hr
 have hfill:∀zz:Array Value,Instr.fill (fun i=>some (i*ie.size,ie.size)) ((Array.range (xs.length*ie.size)).map (fun k=>zz[k % zz.size]!)) ((ys.zipIdx 0).map fun p=>(p.2,p.1))=some (ys.flatMap fun x=>x.cells.toList).toArray:=by
  intro zz
  have:=Zsm (sz:=ie.size) ys 0 [] ((Array.range (xs.length*ie.size)).map (fun k=>zz[k % zz.size]!)).toList (by simp) (by simp[hl]) hys
  grind[Array.range]
 have hrun:(Instr.buildSlice t xs.length ((ys.zipIdx 0).map fun p=>(p.2,p.1)).toArray).run P W= .ok (.slice (some ⟨W.heap.size,0,none⟩) xs.length xs.length) (W.alloc (.cells (ys.flatMap fun x=>x.cells.toList).toArray e)):=by
  have hb: ¬(xs.length*ie.size>2^24):=by omega
  have hzv:(zeroValue e).run P W= .ok z W:=by simp_all[Zcd,zeroValue]
  by_cases h0:xs.length*ie.size=0
  ·have:=hfill #[]
   simp[Instr.buildSlice,Zaa ht,Zaf he,h0,newRow]at this⊢
   simp[this]
  ·have:=hfill z.cells
   simp[Instr.buildSlice,Zaa ht,Zaf he,hb,h0,hzv,newRow]at this⊢
   simp[this]
 have hadv:=Adv.new h (xs.length*ie.size) (some q) none (Zce W (.cells (ys.flatMap fun x=>x.cells.toList).toArray e)) (by simp)
 refine⟨_,_,_,hrun,hadv, ?_,fun sz xs' b off len cap sp hv hx=> ?_⟩
 ·refine Rep.of_row (Xae _) (by simp) hfit ⟨fun c hc=> ?_,fun k c hk=> ?_⟩
  ·obtain⟨y,hm,hc⟩:=Xb3.1 hc;grind
  ·have hlt:k<(ys.flatMap fun x=>x.cells.toList).toArray.size:=by rw[<-hflat.1];grind
   refine⟨_, ?_,(hflat.2 k c _ hk (Xau hlt)).keep hadv.keeps⟩<;>simp_all
 grind
theorem Z9t {w B GB g st a}(h:SR w B GB g st a W){sz:Nat}{u v:V}{xl xc:Value}{t e:TypeId}{ie:TypeInfo}{z:Value}{r:Res}(ht:P.underlying t=some (.slice e))(he:P.info? e=some ie)(hz:ie.zero=some z)(hsz:ie.size=sz)(hzs:z.cells.size=sz)(hby:ie.bytes<=4096)
  (hu:Rep W g.G g.φ u xl) (hv':Rep W g.G g.φ v xc) (hv:vMks sz u v=some r) (q:Pos):
  ∃y W' g',(Instr.makeSlice t xl xc).run P W= .ok y W'/\Adv B g g' W W' r.tk/\Rep W' g'.G g'.φ r.v y/\(r.o=true->OwnAt W' B g' q r.v y):=by
 subst hsz
 have hB:B W.heap.size:=h.hB _ h.below.size
 cases hu<;>cases hv'<;>simp only[vMks,reduceCtorEq]at hv
 rename_i kl n kc c
 split at hv
 ·rename_i hc
  obtain⟨rfl,hc0,hcl⟩:=hc
  simp only[Xac]at hv
  subst hv
  obtain⟨m,rfl⟩:∃m:Nat,c=m:=⟨c.toNat,by omega⟩
  have hm:m<=4294967296:=by grind[Lim]
  have hbig:(ie.bytes:Int)*(m:Int)<=281474976710656:=by
   have h1:ie.bytes*m<=4096*4294967296:=Xc9 hby hm
   omega
  have hrun:∃cs:Array Value,cs.size=m*ie.size/\(Instr.makeSlice t (.int kl 0) (.int kc m)).run P W= .ok (.slice (some ⟨W.heap.size,0,none⟩) 0 m) (W.alloc (.cells cs e)):=by
   have:=run_make (P:=P) W t e ie z ht he hz kl kc 0 m (by omega) (by omega) hbig (by omega)
   grind[size_madeCells]
  obtain⟨cs,hcs,hrun⟩:=hrun
  have hadv:=Adv.new h 0 (some q) none (Zce W (.cells cs e)) (by simp)
  refine⟨_,_,_,hrun,hadv, ?_,fun _=> ?_⟩
  ·exact Rep.of_row (sz:=ie.size) (xs:=[]) (by simp) (by simp) (by simp) ⟨by simp[flat],by simp[flat]⟩
  ·intro sz xs' b off len cap sp hv hx
   grind[heap_alloc_new]
 ·simp at hv
theorem Z7w {n sz:Nat}{u v:V}{x:Value}{lo hi mx:Option V}{xl xh xm:Option Value}{t e:TypeId}{ie:TypeInfo}(ht:P.underlying t=some (.array n e))(he:P.info? e=some ie)(hsz:ie.size=sz)
  (h:Rep W G φ u x) (hl:RepO W G φ lo xl) (hh:RepO W G φ hi xh) (hm:RepO W G φ mx xm) {H:Hp} (hH:∀id cs b,Zap H id=some cs->φ id=some b->cs.length<=csz W b) (hv:Zj5 H n sz u lo hi mx=some v):
  ∃y,(Instr.sliceAt t x xl xh xm).run P W= .ok y W/\Rep W G φ v y:=by
 subst hsz
 unfold Zj5 at hv
 split at hv
 ·rename_i l hi' m id o el eh em
  cases h
  rename_i b hφ
  simp only[Xab]at hv
  obtain⟨cs,hcs,hv⟩:=hv
  have hbs:=hH _ _ _ hcs hφ
  split at hv
  rotate_left
  ·cases hv
  simp only[Xaa]at hv
  obtain⟨c,hcut,rfl⟩:=hv
  obtain⟨hr,h1,h2,h3⟩:=Zb0 (P:=P) (W:=W) (isS:=false) (Xae n) (Zbt hl el) (Zbt hh eh) (Zbt hm em) hcut
  refine⟨.slice (if c.2.2=c.1 then some ⟨b,o,none⟩else some ⟨b,o+c.1*ie.size,none⟩) (c.2.1-c.1) (c.2.2-c.1), ?_, ?_⟩
  ·simp only[Instr.sliceAt,Sem.run_bind,Zaa ht,Result.andThen_ok,Instr.sureAddr,Sem.run_pure,hr,Zaf he,Zbx]
   split<;>rfl
  ·have hm':(c.2.2-c.1)*ie.size<=n*ie.size:=Xbr _ (by omega)
   split
   ·exact .osl _ _ _ _ _ _ _ hφ (by omega) (Xae _) (by omega)
   ·have:c.1*ie.size+(c.2.2-c.1)*ie.size=c.2.2*ie.size:=by rw[<-Xb8];congr 1;omega
    have h5:c.2.2*ie.size<=n*ie.size:=Xbr _ (by omega)
    exact .osl _ _ _ _ _ _ _ hφ (by omega) (Xae _) (by omega)
 ·simp at hv
theorem Z94 {n:Nat}{u v:V}{x:Value}{t e:TypeId}(ht:P.underlying t=some (.array n e))(h:Rep W G φ u x)(hv:vS2a n u=some v):
  ∃y,(Instr.arrayAt t x).run P W= .ok y W/\Rep W G φ v y:=by
 cases u<;>simp only[vS2a,reduceCtorEq]at hv
 rename_i nl sz xs
 split at hv
 ·rename_i heq
  obtain⟨rfl,rfl,rfl⟩:=heq
  split at hv
  ·rename_i hc
   obtain⟨hn,hne,hf⟩:=hc
   simp only[Xac]at hv
   subst hv
   rcases h.row with⟨hh,_⟩|⟨_,rfl,a,rfl⟩|⟨b,off,cap,_,rfl,hcap,hG,hx,hrow⟩
   ·cases hh
   ·grind
   ·refine⟨.pointer (some ⟨b,off,none⟩),by simp[Instr.arrayAt,Zaa ht,Nat.not_lt.2 hn], ?_⟩
    have hl:=Zcc (sz:=1) fun y hy=>(hx y hy).1
    obtain⟨ys,hyl,hy⟩:=hrow.list (flat xs).length (Xae _)
    refine .el (flat xs) 0 b off (fun k=>ys.getD k undef) (by rw[hl];exact hG) hrow.sc (fun k hk=> ?_) (fun k c hk=> ?_)<;>grind
  ·simp at hv
 ·simp at hv
end Go.Abs
namespace Go.Abs
open Go.RowKit
variable {P:Program}{W:World}{G:Nat->Nat}{φ:Nat->Option Nat}
abbrev Kd :=Option IntKind×Bool
def Zcu (F:TypeId->Option (List Kd))(C:TypeId->Nat):Nat->List Field->Option (List Kd)
 |_,[]=>some []
 | off, f :: fs => (F f.type).bind fun ks => if f.name ≠ "_" ∧ f.offset = off ∧ C f.type = ks.length then (Zcu F C (off + ks.length) fs).map (ks ++ ·) else none
def Ze1 (P:Program):Nat->TypeId->Option (List Kd)
 |0,_=>none
 |n+1,t=>
  match P.underlying t with
  |some (.int k)=>some [(some k,true)]
  |some .string=>some [(none,true)]
  |some .bool=>some [(none,false)]
  |some (.struct fs)=>if P.stoodInHeld t=false/\(P.info? t).isSome=true then(Zcu (Ze1 P n) P.cellsOf 0 fs.toList).bind fun ks=>if P.cellsOf t=ks.length then some ks else none else none
  |some (.array m e)=>(Ze1 P n e).bind fun ks=>if P.cellsOf e=ks.length/\(P.info? e).isSome=true/\(P.info? t).isSome=true/\P.cellsOf t=m*ks.length then some (List.replicate m ks).flatten else none
  |_=>none
theorem Zdt {k:Kd}{ks:List Kd}{xs ys:List V}{r:Bool}(h:Zat (k::ks) xs ys=some r):
  ∃x xs' y ys' b r',xs=x::xs'/\ys=y::ys'/\kdEq k x y=some b/\Zat ks xs' ys'=some r'/\r=(b&&r'):=by
 cases xs with
 |nil=>grind[Zat]
 |cons x xs=>
  cases ys<;>grind[Option.bind_eq_some_iff,Option.map_eq_some_iff,Zat]
theorem Zao :∀{ks:List Kd} {xs ys:List V} {r:Bool},Zat ks xs ys=some r->xs.length=ks.length/\ys.length=ks.length:=by
 intro ks
 induction ks<;>grind[Zdt,Zat]
theorem Zc9 :∀{ks ls:List Kd} {xs xs' ys ys':List V} {r:Bool},xs.length=ks.length->ys.length=ks.length->Zat (ks++ls) (xs++xs') (ys++ys')=some r->
  ∃r1 r2,Zat ks xs ys=some r1/\Zat ls xs' ys'=some r2/\r=(r1&&r2):=by
 intro ks
 induction ks with
 |nil=>
  intro ls xs xs' ys ys' r hx hy h
  have hx':xs=[]:=by simpa using hx
  have hy':ys=[]:=by simpa using hy
  subst hx';subst hy'
  exact⟨true,r,rfl,by simpa using h,by simp⟩
 |cons k ks ih=>
  intro ls xs xs' ys ys' r hx hy h
  cases xs with
  |nil=>simp at hx
  |cons x xs=>
   cases ys with
   |nil=>simp at hy
   |cons y ys=>
    simp only[Xb4]at h
    obtain⟨x2,xs2,y2,ys2,b,r',e1,e2,h1,h2,rfl⟩:=Zdt h
    grind[Zat]
theorem RepL.cut {cs:List V}{X:Array Value}(h:RepL W G φ cs X)(off n:Nat)(hle:off+n<=cs.length):RepL W G φ ((cs.drop off).take n) (X.extract off (off+n)):=by
 have h1:=h.1
 refine⟨by simp;omega,fun i c x hc hx=> ?_⟩
 rw[Zb6]at hc
 split at hc
 ·rw[Array.getElem?_extract]at hx
  split at hx
  ·exact h.2 _ c x hc hx
  ·simp at hx
 ·simp at hc
theorem Za0 {t:TypeId}(h:(P.info? t).isSome=true):∃i,P.info? t=some i/\i.size=P.cellsOf t:=by
 grind[Option.isSome_iff_exists,Program.cellsOf]
theorem Zxj :∀(n:Nat) (t:TypeId) (ks:List Kd),Ze1 P n t=some ks-> ∀(d:Nat),n<=d-> ∀(cs ds:List V) (X Y:Array Value) (off:Nat) (r:Bool),
  RepL W G φ cs X->RepL W G φ ds Y->Zat ks ((cs.drop off).take ks.length) ((ds.drop off).take ks.length)=some r->
  ∃a b,(part t X off).run P W= .ok a W/\(part t Y off).run P W= .ok b W/\(Op.equalIn d t a b).run P W= .ok r W:=by
 intro n
 induction n with
 |zero=>grind[Ze1]
 |succ n ih=>
  intro t ks h d hd cs ds X Y off r hX hY hr
  obtain⟨d,rfl⟩:∃m,d=m+1:=⟨d-1,by omega⟩
  have leaf:∀{u:TypeDesc},P.underlying t=some u->(∀fs,u≠ .struct fs)->(∀m e,u≠ .array m e)-> ∀(cs:List V) (X:Array Value) (v:V),RepL W G φ cs X->(cs.drop off).take 1=[v]-> ∃x,(part t X off).run P W= .ok x W/\Rep W G φ v x:=by
   intro u hu h1 h2 cs X v hX hv
   have hv':cs[off]? =some v:=by
    have:=congrArg (·[0]?) hv
    grind
   have hlt:off<X.size:=by rw[<-hX.1];grind
   refine⟨X[off], ?_,hX.2 off v _ hv' (Xau hlt)⟩
   have ha:(isAgg t).run P W= .ok false W:=by
    simp_all[Zaa,isAgg]
   simp[part,ha,hlt]
  have one:∀{u:TypeDesc} {k:Kd},P.underlying t=some u->(∀fs,u≠ .struct fs)->(∀m e,u≠ .array m e)->Zat [k] ((cs.drop off).take 1) ((ds.drop off).take 1)=some r->
    ∃v w x y,(part t X off).run P W= .ok x W/\(part t Y off).run P W= .ok y W/\Rep W G φ v x/\Rep W G φ w y/\kdEq k v w=some r:=by
   intro u k hu h1 h2 hr
   obtain⟨v,vs,w,ws,b,r',e1,e2,h3,h4,rfl⟩:=Zdt hr
   have hvs:vs=[]:=by
    have:=congrArg List.length e1;grind
   have hws:ws=[]:=by
    have:=congrArg List.length e2;grind
   subst hvs;subst hws
   simp only[Zat,Xac]at h4
   grind
  unfold Ze1 at h
  split at h
  ·rename_i k hu
   simp only[Xac]at h;subst h
   obtain⟨v,w,x,y,p1,p2,q1,q2,hk⟩:=one hu (by simp) (by simp) hr
   refine⟨x,y,p1,p2, ?_⟩
   cases q1<;>cases q2<;>simp only[kdEq,reduceCtorEq]at hk
   grind[run_equalIn_int]
  ·rename_i hu
   simp only[Xac]at h;subst h
   obtain⟨v,w,x,y,p1,p2,q1,q2,hk⟩:=one hu (by simp) (by simp) hr
   refine⟨x,y,p1,p2, ?_⟩
   cases q1<;>cases q2<;>simp only[kdEq,reduceCtorEq,Xac]at hk
   subst hk
   rename_i l1 s1 h1 l2 s2 h2
   rw[run_equalIn_string W d t _ _ hu,toList_data,toList_data,h1,h2,Zgn]
  ·rename_i hu
   simp only[Xac]at h;subst h
   obtain⟨v,w,x,y,p1,p2,q1,q2,hk⟩:=one hu (by simp) (by simp) hr
   refine⟨x,y,p1,p2, ?_⟩
   cases q1<;>cases q2<;>simp only[kdEq,reduceCtorEq,Xac]at hk
   grind[run_equalIn_bool']
  ·rename_i fs hu
   split at h
   ·rename_i hc
    obtain⟨hst,hinf⟩:=hc
    simp only[Xab]at h
    obtain⟨ks',hks,h⟩:=h
    split at h
    ·rename_i hsz
     simp only[Xac]at h;subst h
     obtain⟨i,hi,his⟩:=Za0 hinf
     obtain⟨hl1,hl2⟩:=Zao hr
     have ha:(isAgg t).run P W= .ok true W:=by simp only[isAgg,Sem.run_bind,Zaa hu,Result.andThen_ok];rfl
     have hle1:off+i.size<=cs.length \/ks'=[]:=by
      grind[List.length_eq_zero_iff]
     have hle2:off+i.size<=ds.length \/ks'=[]:=by
      grind[List.length_eq_zero_iff]
     refine⟨.agg (X.extract off (off+i.size)), .agg (Y.extract off (off+i.size)),by simp[part,ha,Zaf hi],by simp[part,ha,Zaf hi], ?_⟩
     have hfs:P.fieldsOf t=fs:=by simp[Program.fieldsOf,hu]
     rw[run_equalIn_struct W d t _ _ (by grind) hst,hfs]
     have hcX:RepL W G φ ((cs.drop off).take ks'.length) (X.extract off (off+i.size)):=by
      rcases hle1 with hle|rfl
      ·have:=hX.cut off i.size hle;grind
      ·have h0:i.size=0:=by grind
       rw[h0];exact⟨by simp;omega,fun i c x hc=>by simp at hc⟩
     have hcY:RepL W G φ ((ds.drop off).take ks'.length) (Y.extract off (off+i.size)):=by
      rcases hle2 with hle|rfl
      ·have:=hY.cut off i.size hle;grind
      ·have h0:i.size=0:=by grind
       rw[h0];exact⟨by simp;omega,fun i c x hc=>by simp at hc⟩
     have key:∀(fl:List Field) (o:Nat) (kl:List Kd) (r:Bool),Zcu (Ze1 P n) P.cellsOf o fl=some kl->Zat kl (((cs.drop off).take ks'.length).drop o) (((ds.drop off).take ks'.length).drop o)=some r->
       (Op.eqFields d (X.extract off (off+i.size)) (Y.extract off (off+i.size)) fl).run P W= .ok r W:=by
      intro fl
      induction fl with
      |nil=>
       intro o kl r h1 h2
       simp only[Zcu,Xac]at h1;subst h1
       have e1:=(Zao h2).1
       have e2:=(Zao h2).2
       have:r=true:=by
        grind[Zat]
       subst this;rfl
      |cons f fl ihf=>
       intro o kl r h1 h2
       simp only[Zcu,Xab]at h1
       obtain⟨k1,hk1,h1⟩:=h1
       split at h1
       ·rename_i hc
        obtain⟨hnm,rfl,hcl⟩:=hc
        simp only[Xaa]at h1
        obtain⟨k2,hk2,rfl⟩:=h1
        obtain⟨hL1,hL2⟩:=Zao h2
        simp only[Xaf]at hL1 hL2
        have sp:∀(l:List V),l=l.take k1.length++l.drop k1.length:=fun l=>(Xa8 _ _).symm
        rw[sp (((cs.drop off).take ks'.length).drop f.offset),sp (((ds.drop off).take ks'.length).drop f.offset)]at h2
        obtain⟨r1,r2,h3,h4,rfl⟩:=Zc9 (by rw[Xbd,hL1];omega) (by rw[Xbd,hL2];omega) h2
        obtain⟨a,b,p1,p2,p3⟩:=ih f.type k1 hk1 d (by omega) _ _ _ _ f.offset r1 hcX hcY h3
        rw[Xcn,Xcn]at h4
        have h5:=ihf (f.offset+k1.length) k2 r2 hk2 h4
        simp only[Op.eqFields,hnm,ne_eq,not_false_eq_true,if_true,Sem.run_bind,p1,p2,p3,Result.andThen_ok]
        cases r1
        ·simp
        grind
       ·simp at h1
     grind
    ·simp at h
   ·simp at h
  ·rename_i m e hu
   simp only[Xab]at h
   obtain⟨k1,hk1,h⟩:=h
   split at h
   ·rename_i hc
    obtain⟨hce,hie,hit,hct⟩:=hc
    simp only[Xac]at h;subst h
    obtain⟨i,hi,his⟩:=Za0 hit
    obtain⟨ie,hie',hies⟩:=Za0 hie
    have hkl:(List.replicate m k1).flatten.length=m*k1.length:=by simp
    rw[hkl]at hr
    obtain⟨hl1,hl2⟩:=Zao hr
    rw[hkl]at hl1 hl2
    have ha:(isAgg t).run P W= .ok true W:=by simp only[isAgg,Sem.run_bind,Zaa hu,Result.andThen_ok];rfl
    refine⟨.agg (X.extract off (off+i.size)), .agg (Y.extract off (off+i.size)),by simp[part,ha,Zaf hi],by simp[part,ha,Zaf hi], ?_⟩
    rw[run_equalIn_array W d _ _ hu hie',hce]
    have hs0:i.size=m*k1.length:=by rw[his,hct]
    have hcX:RepL W G φ ((cs.drop off).take (m*k1.length)) (X.extract off (off+i.size)):=by
     rcases Xcu (m*k1.length)with h0|h0
     ·rw[hs0,h0];exact⟨by simp;omega,fun i c x hc=>by simp at hc⟩
     ·have:=hX.cut off i.size (by grind);grind
    have hcY:RepL W G φ ((ds.drop off).take (m*k1.length)) (Y.extract off (off+i.size)):=by
     rcases Xcu (m*k1.length)with h0|h0
     ·rw[hs0,h0];exact⟨by simp;omega,fun i c x hc=>by simp at hc⟩
     ·have:=hY.cut off i.size (by grind);grind
    have key:∀(c j:Nat) (r:Bool),Zat (List.replicate c k1).flatten (((cs.drop off).take (m*k1.length)).drop (j*k1.length)) (((ds.drop off).take (m*k1.length)).drop (j*k1.length))=some r->
      (Op.eqItems d e k1.length (X.extract off (off+i.size)) (Y.extract off (off+i.size)) (List.range' j c)).run P W= .ok r W:=by
     intro c
     induction c with
     |zero=>
      intro j r h2
      have e1:=(Zao h2).1
      have e2:=(Zao h2).2
      have:r=true:=by
       have z1:=Xc3.1 e1
       grind[Zat]
      subst this;rfl
     |succ c ihc=>
      intro j r h2
      rw[Xc4,Xcd]at h2
      obtain⟨hL1,hL2⟩:=Zao h2
      simp only[Xaf]at hL1 hL2
      have sp:∀(l:List V),l=l.take k1.length++l.drop k1.length:=fun l=>(Xa8 _ _).symm
      rw[sp (((cs.drop off).take (m*k1.length)).drop (j*k1.length)),sp (((ds.drop off).take (m*k1.length)).drop (j*k1.length))]at h2
      obtain⟨r1,r2,h3,h4,rfl⟩:=Zc9 (by rw[Xbd,hL1];omega) (by rw[Xbd,hL2];omega) h2
      obtain⟨a,b,p1,p2,p3⟩:=ih e k1 hk1 d (by omega) _ _ _ _ (j*k1.length) r1 hcX hcY h3
      rw[Xcn,Xcn, <-Xd7]at h4
      have h5:=ihc (j+1) r2 h4
      rw[Xd1]
      simp only[Op.eqItems,Sem.run_bind,p1,p2,p3,Result.andThen_ok]
      cases r1
      ·simp
      grind
    grind[List.range_eq_range']
   ·simp at h
  ·simp at h
end Go.Abs
namespace Go.Abs
open Go.RowKit
def cV (P:Program)(t:TypeId):Value->Option V
 | .bool b=>some (.bool b)
 | .int k m=>some (.int k m)
 | .string s=>some (.str s.data.toList)
 | .slice none 0 0=>some (.sl true (match P.underlying t with|some (.slice e)=>P.cellsOf e|_=>0) [])
 | .pointer none=>some .nilptr
 | .map none=>some .nilmap
 | .nilFunc=>some .nilfn
 | .nilIface=>some .nilif
 |_=>none
def cOpd (P:Program)(n:Nat)(t:TypeId):Operand->Option Opd
 | .tmp k=>if k<n then some (.tmp k)else none
 | .const v=>(cV P t v).map .const
 | .global g=>some (.const (.gp g 0))
 | .func f=>some (.const (.fn f []))
def Zf4 (P:Program)(n:Nat):List TypeId->List Operand->Option (List Opd)
 |_,[]=>some []
 |ts,x::r=>(cOpd P n (ts.headD 0) x).bind fun y=>(Zf4 P n ts.tail r).map (y:: ·)
def Zjl (P:Program)(n:Nat):Option Operand->Option (Option Opd)
 |none=>some none
 |some x=>(cOpd P n 0 x).map some
def Zwp (P:Program):Nat->TypeId->List TypeId
 |0,_=> []
 |m+1,t=>
  match P.underlying t with
  |some (.struct fs)=>fs.toList.flatMap fun f=>Zwp P m f.type
  |some (.array k e)=>(List.replicate k (Zwp P m e)).flatten
  |_=> [t]
def cVs (P:Program):List TypeId->List Value->Option (List V)
 | [],[]=>some []
 |t::ts,x::xs=>(cV P t x).bind fun v=>(cVs P ts xs).map (v:: ·)
 |_,_=>none
def Zd7 (P:Program)(t:TypeId):Option (List V):=
 match P.info? t with
 |some i=>match i.zero with
  |some z=>cVs P (Zwp P 40 t) z.cells.toList
  |none=>none
 |none=>none
def slE (P:Program)(t:TypeId):Option Nat:=
 match P.underlying t with
 |some (.slice e)=>match P.info? e with
  |some i=>match i.zero with
   |some z=>if z.cells.size=i.size/\i.bytes<=4096 then some i.size else none
   |none=>none
  |none=>none
 |_=>none
def Z6u (d:Option Tmp):Operand->Bool
 | .tmp t=>d==some t
 |_=>false
def Z04 (ops:Array Oper)(d:Option Tmp):Bool:=
 ops.toList.any fun o=>match o.op with
  | .call {callee:= .builtin .append,args, .. }=>match args[0]? with|some x=>Z6u d x|none=>false
  |_=>false
def Z9q (ops:Array Oper)(d:Option Tmp):Bool:=Z04 ops d||ops.toList.any fun o=>match o.op with| .assign x=>Z6u d x|_=>false
def isSl (P:Program)(t:TypeId):Bool:=match P.underlying t with|some (.slice _)=>true|_=>false
def Zp8 (P:Program)(t:TypeId):Bool:=match P.underlying t with|some .string=>true|_=>false
def Zst (P:Program)(t:TypeId)(x y:Operand):EqK:=
 match P.underlying t with
 |some .bool=> .bool
 |some (.struct _)|some (.array _ _)=>if P.eqGuardType P.depth t=false then(match Ze1 P 60 t with|some ks=> .flat ks|none=> .no)else .no
 |some (.slice _)=> .slice
 |some (.pointer _)=> .ptr
 |some (.interface _)=>match x,y with| .const .nilIface,_=> .iface|_, .const .nilIface=> .iface|_,_=> .no
 |_=> .no
def fieldAt (P:Program)(t:TypeId)(f:Nat):Option Field:=match P.underlying t with|some (.struct fs)=>fs[f]? |_=>none
def Zoo (P:Program)(n:Nat)(place:Nat->Option (Nat×Nat)):List (Nat×Operand)->Option (List (Nat×Nat×Opd))
 | []=>some []
 |(i,x)::r=>(place i).bind fun p=>(cOpd P n 0 x).bind fun y=>(Zoo P n place r).map ((p.1,p.2,y):: ·)
def Zm2 (P:Program)(t:TypeId):Option (Nat->Option (Nat×Nat)):=
 match P.underlying t with
 |some (.struct fs)=>if fs.toList.all (fun f=>(P.info? f.type).isSome)then some fun i=>(fs[i]?).map fun f=>(f.offset,P.cellsOf f.type)else none
 |some (.array _ e)=>if(P.info? e).isSome then some fun i=>some (i*P.cellsOf e,P.cellsOf e)else none
 |_=>none
def Zmb :Nat->List (Nat×Operand)->Bool
 |_,[]=>true
 |k,(i,_)::r=>i==k&&Zmb (k+1) r
def Z1a (P:Program)(t:TypeId):Bool:=match P.underlying t with|some (.pointer _)=>true|some (.map _ _)=>true|_=>false
def keyK (P:Program)(t:TypeId):Option KK:=(Ze1 P 60 t).map fun ks=>(match P.underlying t with|some (.struct _)|some (.array _ _)=>true|_=>false,ks)
def Ziz (P:Program)(t:TypeId):Option V:=
 match P.info? t with
 |some i=>match i.zero with
  |some (.agg _)=>(Zd7 P t).map .agg
  |some _=>match Zd7 P t with|some [v]=>some v|_=>none
  |none=>none
 |none=>none
def Z7r (P:Program)(f:FuncId):Bool:=match P.funcs[f]? with|some fn=>fn.params.toList.any (Z1a P)||fn.resultTypes.toList.any (Z1a P)|none=>false
def Qa7 (P:Program)(t:TypeId):Bool:=match P.underlying t with|some (.func ..)=>true|_=>false
def Z3k (P:Program):List TypeId->List Operand->Bool
 |t::ts, .tmp _::xs=>Qa7 P t||Z3k P ts xs
 |_::ts,_::xs=>Z3k P ts xs
 |_,_=>false
def mksZ (P:Program)(t:TypeId)(l:Opd):List V:=match l with
 | .const (.int _ n)=>if 0<n then(match P.underlying t with|some (.slice e)=>(Zd7 P e).getD []|_=> [])else []
 |_=> []
def cOp (P:Program)(n:Nat)(ops:Array Oper)(o:Oper):Option AOp:=
 match o.op with
 | .move x=>if Z9q ops o.dst&&isSl P o.type then(match x with| .tmp k=>if k<n then some (.mvo k)else none|x=>(cOpd P n o.type x).map .mv)else(cOpd P n o.type x).map .mv
 | .assign x=>if isSl P o.type then(match x with| .tmp k=>if k<n then some (.mvo k)else none|x=>(cOpd P n o.type x).map .mv)else(cOpd P n o.type x).map .mv
 | .pick c a b=>(cOpd P n 0 c).bind fun c=>(cOpd P n o.type a).bind fun a=>(cOpd P n o.type b).map fun b=> .pick c a b
 | .extract x i=>(cOpd P n 0 x).map fun x=> .ext x i
 | .nilCheck x=>(cOpd P n 0 x).map .nilck
 | .binOp op t x y _=>(cOpd P n t x).bind fun x'=>(cOpd P n t y).map fun y'=> .bin op (Zst P t x y) x' y'
 | .unOp op t x=>(cOpd P n t x).map fun x=> .un op x
 | .load t a=>(ldN P t).bind fun k=>(cOpd P n 0 a).map fun a=>if Z04 ops o.dst&&isSl P t&&k.isNone then .ldo a else .load k a
 | .store t a x=>
  match P.info? t with
  |some i=>(cOpd P n 0 a).bind fun a=>if isSl P t&&i.size==1 then(match x with| .tmp k=>if k<n then some (.sto a k)else none|x=>(cOpd P n t x).map fun x=> .store i.size a x)else(cOpd P n t x).map fun x=> .store i.size a x
  |none=>none
 | .alloc t=>(Zd7 P t).map .new
 | .box t x=>(cOpd P n t x).map .box
 | .build t parts=>(Zm2 P t).bind fun pl=>(Zd7 P t).bind fun z=>(Zoo P n pl parts.toList).map fun ps=> .build z ps
 | .buildSlice t len parts=>(slE P t).bind fun sz=>if parts.size=len/\Zmb 0 parts.toList=true/\len*sz<=16777216 then(Zf4 P n [] (parts.toList.map (·.2))).map fun xs=> .bsl sz xs else none
 | .makeSlice t l c=>(slE P t).bind fun sz=>(cOpd P n 0 l).bind fun l=>(cOpd P n 0 c).map fun c=> .mks sz (mksZ P t l) l c
 | .slice t x lo hi mx=>
  match P.underlying t with
  |some .string=>if mx.isNone then(cOpd P n 0 x).bind fun x=>(Zjl P n lo).bind fun lo=>(Zjl P n hi).map fun hi=> .sls x lo hi else none
  |some (.slice e)=>match P.info? e with
   |some i=>(cOpd P n 0 x).bind fun x=>(Zjl P n lo).bind fun lo=>(Zjl P n hi).bind fun hi=>(Zjl P n mx).map fun mx=> .slc i.size x lo hi mx
   |none=>none
  |some (.array m e)=>match P.info? e with
   |some i=>(cOpd P n 0 x).bind fun x=>(Zjl P n lo).bind fun lo=>(Zjl P n hi).bind fun hi=>(Zjl P n mx).map fun mx=> .slca m i.size x lo hi mx
   |none=>none
  |_=>none
 | .fieldAddr t x f=>(fieldAt P t f).bind fun fd=>match P.info? fd.type with|some i=>if i.size≠0 then(cOpd P n 0 x).map fun x=> .faddr fd.offset x else none|none=>none
 | .field t x f=>(fieldAt P t f).bind fun fd=>(ldN P fd.type).bind fun k=>(cOpd P n 0 x).map fun x=> .fld k fd.offset x
 | .indexAddr t x i=>
  match P.underlying t with
  |some (.slice e)=>match P.info? e with|some ie=>(cOpd P n 0 x).bind fun x=>(cOpd P n 0 i).map fun i=> .iaddr ie.size x i|none=>none
  |some (.array m e)=>match P.info? e with|some ie=>(cOpd P n 0 x).bind fun x=>(cOpd P n 0 i).map fun i=> .iarr m ie.size x i|none=>none
  |_=>none
 | .index t x i=>
  match P.underlying t with
  |some .string=>(cOpd P n 0 x).bind fun x=>(cOpd P n 0 i).map fun i=> .idx x i
  |some (.array m e)=>match P.info? e with|some ie=>(ldN P e).bind fun k=>(cOpd P n 0 x).bind fun x=>(cOpd P n 0 i).map fun i=> .idxa m ie.size k x i|none=>none
  |_=>none
 | .convert s d x=>
  match P.underlying s,P.underlying d with
  |some .string,some .string=>(cOpd P n 0 x).map .s2s
  |some .string,some (.slice e)=>match P.underlying e with|some (.int .u8)=>(cOpd P n 0 x).map .s2b|_=>none
  |some (.slice e),some .string=>match P.underlying e with|some (.int .u8)=>(cOpd P n 0 x).map .b2s|_=>none
  |some (.int _),some (.int k)=>(cOpd P n 0 x).map (.i2i k)
  |_,_=>none
 | .sliceToArrayPointer d x=>match P.underlying d with|some (.array m _)=>(cOpd P n 0 x).map (.s2a m)|_=>none
 | .makeFunc (.func f) first caps=>if first.isEmpty then(Zf4 P n [] caps.toList).map (.mkf f)else if caps.isEmpty then(Zf4 P n [] first.toList).map (.mkm f)else none
 | .call {callee:= .builtin .len,args,argTypes}=>
  match args.toList,argTypes.toList with
  | [x],[t]=>match P.underlying t with|some .string=>(cOpd P n t x).map (.len true)|some (.slice _)=>(cOpd P n t x).map (.len false)|_=>none
  |_,_=>none
 | .call {callee:= .builtin .max,args, .. }=>match args.toList with| [x,y]=>(cOpd P n 0 x).bind fun x=>(cOpd P n 0 y).map fun y=> .mnx true x y|_=>none
 | .call {callee:= .builtin .min,args, .. }=>match args.toList with| [x,y]=>(cOpd P n 0 x).bind fun x=>(cOpd P n 0 y).map fun y=> .mnx false x y|_=>none
 | .call {callee:= .builtin .append,args,argTypes}=>
  match args.toList,argTypes.toList with
  | [s,x],[t,tx]=>(slE P t).bind fun sz=>if(isSl P tx||Zp8 P tx)then(cOpd P n t s).bind fun s=>(cOpd P n tx x).map fun x=> .app sz s x else none
  |_,_=>none
 | .call {callee:= .value (.func f),args,argTypes}=>if Z7r P f then(Zf4 P n argTypes.toList args.toList).map (.callh f)else if Z3k P argTypes.toList args.toList then(Zf4 P n argTypes.toList args.toList).map (.callvh (.const (.fn f [])))else(Zf4 P n argTypes.toList args.toList).map (.call f)
 | .call {callee:= .value (.tmp k),args,argTypes}=>if k<n then(Zf4 P n argTypes.toList args.toList).map (.callvh (.tmp k))else none
 |_=>none
def Zi7 (t:TypeId):Code->Bool
 | .region _ ops _=>ops.toList.any fun o=>match o.op with| .buildSlice u 0 ⟨[]⟩=>Nat.beq u t|_=>false
 | .seq a b=>Zi7 t a||Zi7 t b
 | .cond _ a b=>Zi7 t a||Zi7 t b
 | .block _ b=>Zi7 t b
 | .loop b=>Zi7 t b
 |_=>false
def Ztw (P:Program)(f:FuncId):Option TypeId:=match P.funcs[f]? with
 |some fn=>match fn.params.toList,fn.resultTypes.toList,fn.body with
  | [t],[u],some c=>if Nat.beq t u&&isSl P t&&Zi7 t c then some t else none
  |_,_,_=>none
 |none=>none
def Zes :Code->List (Nat×TypeId)
 | .region _ ops _=>ops.toList.filterMap fun o=>match o.op,o.dst with| .indexAddr t _ _,some d=>some (d,t)|_,_=>none
 | .seq a b=>Zes a++Zes b
 | .cond _ a b=>Zes a++Zes b
 | .block _ b=>Zes b
 | .loop b=>Zes b
 |_=> []
def Zdx :Code->List Nat
 | .region _ ops _=>ops.toList.filterMap fun o=>match o.op with| .store _ (.tmp k) _=>some k|_=>none
 | .seq a b=>Zdx a++Zdx b
 | .cond _ a b=>Zdx a++Zdx b
 | .block _ b=>Zdx b
 | .loop b=>Zdx b
 |_=> []
def Zep :Code->List (Nat×Nat)
 | .region _ ops _=>ops.toList.filterMap fun o=>match o.op,o.dst with| .indexAddr _ (.tmp b) _,some d=>some (d,b)|_,_=>none
 | .seq a b=>Zep a++Zep b
 | .cond _ a b=>Zep a++Zep b
 | .block _ b=>Zep b
 | .loop b=>Zep b
 |_=> []
def Zet :Code->List (Nat×Nat)
 | .region _ ops _=>ops.toList.filterMap fun o=>match o.op,o.dst with| .move (.tmp s),some d=>some (d,s)|_,_=>none
 | .seq a b=>Zet a++Zet b
 | .cond _ a b=>Zet a++Zet b
 | .block _ b=>Zet b
 | .loop b=>Zet b
 |_=> []
def Ze0 :Code->List (Nat×Nat)
 | .region _ ops _=>ops.toList.filterMap fun o=>match o.op,o.dst with| .fieldAddr _ (.tmp b) _,some d=>some (d,b)|_,_=>none
 | .seq a b=>Ze0 a++Ze0 b
 | .cond _ a b=>Ze0 a++Ze0 b
 | .block _ b=>Ze0 b
 | .loop b=>Ze0 b
 |_=> []
def Zk0 (c:Code)(d:Nat):Bool:=(Zdx c).any (Nat.beq d)||(Ze0 c).any fun p=>Nat.beq p.2 d&&(Zdx c).any (Nat.beq p.1)
def Zfq :Code->List (FuncId×List Operand×List TypeId)
 | .region _ ops _=>ops.toList.filterMap fun o=>match o.op with| .call {callee:= .value (.func f),args:=xs,argTypes:=ts}=>some (f,xs.toList,ts.toList)|_=>none
 | .seq a b=>Zfq a++Zfq b
 | .cond _ a b=>Zfq a++Zfq b
 | .block _ b=>Zfq b
 | .loop b=>Zfq b
 |_=> []
def Zl9 (P:Program):Nat->FuncId->TypeId->Bool
 |0,_,_=>false
 |n+1,f,t=>match P.funcs[f]? with
  |some fn=>match fn.body with
   |some c=>
    let par:=fun b=>match fn.params[b]? with|some u=>Nat.beq u t|none=>false
    let isPar:=fun b=>par b||(Zet c).any fun q=>Nat.beq q.1 b&&par q.2
    isSl P t&&(fn.params.toList.any (Nat.beq t))&&(((Zep c).any fun p=>Zk0 c p.1&&isPar p.2)||(Zfq c).any fun q=>q.2.2.any (Nat.beq t)&&(q.2.1.any fun x=>match x with| .tmp b=>isPar b|_=>false)&&Zl9 P n q.1 t)
   |none=>false
  |none=>false
def Zym (P:Program)(t:TypeId)(c:Code):Bool:=(Zfq c).any fun q=>q.2.2.any (Nat.beq t)&&Zl9 P 4 q.1 t
def rowT (P:Program)(c:Code)(t:TypeId):Bool:=isSl P t&&(((Zes c).any fun p=>Nat.beq p.2 t&&Zk0 c p.1)||Zym P t c)
def Z1t (P:Program)(R:TypeId->Bool)(f:FuncId)(ts:List TypeId):Bool:=ts.any fun t=>isSl P t&&(R t&&Zl9 P 4 f t)
def cOpR (P:Program)(R:TypeId->Bool)(n:Nat)(ops:Array Oper)(o:Oper):Option AOp:=
 match o.op with
 | .move x=>match x with
  | .const (.slice none 0 0)=>if R o.type then(slE P o.type).map .nro else cOp P n ops o
  |_=>cOp P n ops o
 | .assign x=>match x with
  | .const (.slice none 0 0)=>if R o.type then(slE P o.type).map .nro else cOp P n ops o
  |_=>cOp P n ops o
 | .call {callee:= .value (.func f),args,argTypes}=>if(Ztw P f).any R||Z1t P R f argTypes.toList then(Zf4 P n argTypes.toList args.toList).map (.callh f)else cOp P n ops o
 | .buildSlice t 0 ⟨[]⟩=>if R t then(slE P t).map .nro else cOp P n ops o
 | .makeSlice t l c=>if R t then(slE P t).bind fun sz=>match P.underlying t with
  |some (.slice e)=>(Zd7 P e).bind fun z=>if z.length=sz then(cOpd P n 0 l).bind fun l=>(cOpd P n 0 c).map fun c=> .mko sz z l c else none
  |_=>none else cOp P n ops o
 | .call {callee:= .builtin .append,args,argTypes}=>
  match args.toList,argTypes.toList with
  | [s,x],[t,tx]=>if R t then(slE P t).bind fun sz=>if(isSl P tx||Zp8 P tx)then(cOpd P n t s).bind fun s=>(cOpd P n tx x).map fun x=> .appo sz s x else none else cOp P n ops o
  |_,_=>none
 | .call {callee:= .builtin .copy,args,argTypes}=>
  match args.toList,argTypes.toList with
  | [d,s],[t,ts]=>(slE P t).bind fun sz=>if sz=1/\Zp8 P ts=true then(cOpd P n t d).bind fun d=>(cOpd P n ts s).map fun s=> .cpy d s else none
  |_,_=>none
 | .call {callee:= .builtin .clear,args,argTypes}=>
  match args.toList,argTypes.toList with
  | [d],[t]=>match P.underlying t with
   |some (.slice e)=>(Zd7 P e).bind fun z=>if z.length=1 then(cOpd P n t d).map fun d=> .clr z d else none
   |_=>none
  |_,_=>none
 | .makeMap _ none=>some .nmp
 | .lookup t m k ok=>match P.underlying t with
  |some (.map kt et)=>(keyK P kt).bind fun ks=>(Ziz P et).bind fun z=>(cOpd P n 0 m).bind fun m=>(cOpd P n kt k).map fun k=> .mlk ks z ok m k
  |_=>none
 | .mapUpdate t m k x=>match P.underlying t with
  |some (.map kt et)=>(keyK P kt).bind fun ks=>(cOpd P n 0 m).bind fun m=>(cOpd P n kt k).bind fun k=>(cOpd P n et x).map fun x=> .mup ks m k x
  |_=>none
 | .insert t m k x=>match P.underlying t with
  |some (.map kt et)=>(keyK P kt).bind fun ks=>(cOpd P n 0 m).bind fun m=>(cOpd P n kt k).bind fun k=>(cOpd P n et x).map fun x=> .mup ks m k x
  |_=>none
 | .call {callee:= .builtin .len,args,argTypes}=>
  match args.toList,argTypes.toList with
  | [x],[t]=>match P.underlying t with
   |some (.map _ _)=>(cOpd P n t x).map .mln
   |_=>cOp P n ops o
  |_,_=>none
 |_=>cOp P n ops o
structure Cx where
 P:Program
 w0:World
 gl:Nat->Option (List V)
def G0 (w0:World)(b:Nat):Nat:=match w0.heap[b]? with|some (.cells c _ _)=>c.size|_=>0
structure OKW (cx:Cx)(W:World)(G:Nat->Nat):Prop where
 below:Below cx.w0.heap.size cx.w0 W
 Glo:∀b,b<cx.w0.heap.size->G b=G0 cx.w0 b
 Gz:∀b,W.heap.size<=b->G b=0
def GlOK (cx:Cx):Prop:=∀g cs,cx.gl g=some cs->Row cx.w0 (G0 cx.w0) (fun _=>none) cs g 0/\cs.length<=G0 cx.w0 g
def Zez (P : Program) (f : FuncId) : Prop := ∃ fn, P.funcs[f]? = some fn ∧ fn.name ≠ "runtime.NumGoroutine" ∧ fn.body.isNone = false
def PC (cx:Cx)(f:FuncId)(args:List V)(r:V×Bool):Prop:=
 Zez cx.P f/\ ∀W G φ xs,OKW cx W G->RepL W G φ args xs->Calls cx.P f xs W fun e W'=> ∃G' y,e= .returned y/\Below W.heap.size W W'/\(∀b,b<W.heap.size->G' b=G b)/\(∀b,W'.heap.size<=b->G' b=0)/\
  Rep W' G' φ r.1 y/\(r.2=true-> ∀ow q,(∀b,W.heap.size<=b->ow b=some q)->OwnAt W' (fun b=>W.heap.size<=b) ⟨G',φ,ow⟩ q r.1 y)
structure HRel (M:Nat->Prop)(g:Gh)(hs:HS)(W:World):Prop where
 ob:∀id o,hs.H id=some o->ObOK W M g (fun j=>hs.co id j) id o
 obn:∀id,hs.nH<=id->hs.H id=none
 φ:∀id b,g.φ id=some b->M b/\b<W.heap.size/\id<hs.nH
 live:∀id b,g.φ id=some b->g.G b=0/\g.ow b=none
 inj:∀id id' b,g.φ id=some b->g.φ id'=some b->hs.H id≠none->hs.H id'≠none->id=id'
 Gz:∀b,W.heap.size<=b->g.G b=0
def PCH (cx:Cx)(f:FuncId)(args:List V)(hs:HS)(r:V×Bool)(hs':HS):Prop:=
 Zez cx.P f/\ ∀W M g xs,OKW cx W g.G->(∀b,M b->cx.w0.heap.size<=b)->HRel M g hs W->(∀b t,g.ow b≠some (.slot t))->RepL W g.G g.φ args xs->
  Calls cx.P f xs W fun e W'=> ∃g' y,e= .returned y/\Bel (fun b=>W.heap.size<=b \/M b) W W'/\(∀b,b<W.heap.size-> ¬M b->g'.G b=g.G b)/\Keeps W g.G g.φ W' g'.G g'.φ/\
   HRel (fun b=>W.heap.size<=b \/M b) g' hs' W'/\Rep W' g'.G g'.φ r.1 y/\(r.2=true->OwnAt W' (fun b=>W.heap.size<=b \/M b) g' (.slot 0) r.1 y)
structure Sound (cx:Cx)(Γ:Spec):Prop where
 p:∀f args r,Γ.p f args=some r->PC cx f args r
 h:∀f args hs r,Γ.h f args hs=some r->PCH cx f args hs (r.1,r.2.1) r.2.2
structure Scope (cx:Cx)(w:World)(B:Nat->Prop)(GB:Gh):Prop where
 below:Below cx.w0.heap.size cx.w0 w
 hB:∀b,B b->cx.w0.heap.size<=b
 Glo:∀b,b<cx.w0.heap.size->GB.G b=G0 cx.w0 b
 gl:GlOK cx
theorem SR.okw {cx w B GB g st a W}(hs:Scope cx w B GB)(h:SR w B GB g st a W):OKW cx W g.G:=
 ⟨hs.below.trans (h.below.low hs.hB),fun b hb=>(h.Glo b (fun e=>by have:=hs.hB b e;omega)).trans (hs.Glo b hb),h.Gz⟩
theorem GlOK.row {cx W G φ}(hg:GlOK cx)(hW:OKW cx W G){g:Nat}{cs:List V}(h:cx.gl g=some cs):Row W G φ cs g 0:=by
 obtain⟨h1,h2⟩:=hg g cs h
 have hlt:∀b,0<G0 cx.w0 b->b<cx.w0.heap.size:=by
  grind[G0]
 have hk:Keeps cx.w0 (G0 cx.w0) (fun _=>none) W G φ:=⟨fun b i hi=>hW.below.cell (p:=⟨b,i,none⟩) (hlt b (by omega)),fun b=>by
  rcases Xcu (G0 cx.w0 b)with h0|h0
  ·omega
  ·rw[hW.Glo b (hlt b h0)];omega,(fun _ _ h=>by cases h),fun _ _ h=>by cases h⟩
 refine⟨h1.sc,fun k c hc=> ?_⟩
 obtain⟨y,h3,h4⟩:=h1.cell k c hc
 have hkl:=(Xak.1 hc).1
 exact⟨y,by rw[hk.cell g (0+k) (by omega)];exact h3,h4.keep hk⟩
theorem Z0v {P:Program}{t:TypeId}{x:Value}{v:V}{W G φ}(h:cV P t x=some v):Rep W G φ v x:=by
 unfold cV at h
 split at h<;>simp only[Xac,reduceCtorEq]at h<;>subst h
 ·exact .bool _
 ·exact .int _ _
 ·exact .str _ _ rfl
 ·exact .slnil _
 ·exact .nilptr
 ·exact .nilmap
 ·exact .nilfn
 ·exact .nilif
theorem Qbq {P:Program}{t:TypeId}{x:Value}{v:V}(h:cV P t x=some v):v.sc=true:=by
 unfold cV at h
 split at h<;>simp only[Xac,reduceCtorEq]at h<;>subst h<;>rfl
theorem Zqi {P:Program}{W G φ}:∀{ts:List TypeId} {xs:List Value} {vs:List V},cVs P ts xs=some vs->RepL W G φ vs xs.toArray/\ ∀c∈vs,c.sc=true
 | [],[],vs,h=>by simp[cVs]at h;subst h;exact⟨⟨rfl,fun i c x hc=>by simp at hc⟩,by simp⟩
 |t::ts,x::xs,vs,h=>by
  simp only[cVs,Xab,Xaa]at h
  obtain⟨v,h1,vs',h2,rfl⟩:=h
  obtain⟨h3,h4⟩:=Zqi (W:=W) (G:=G) (φ:=φ) h2
  refine⟨⟨by simpa using h3.1,fun i c y hc hy=> ?_⟩,fun c hc=> ?_⟩
  ·cases i with
   |zero=>simp at hc hy;subst hc;subst hy;exact Z0v h1
   |succ i=>exact h3.2 i c y (by simpa using hc) (by simpa using hy)
  ·rcases Xap.1 hc with rfl|hc
   ·exact Qbq h1
   ·exact h4 c hc
theorem Zgo {P:Program}{t:TypeId}{vs:List V}{W G φ}(h:Zd7 P t=some vs):∃z,(∀W,(zeroValue t).run P W= .ok z W)/\RepL W G φ vs z.cells/\ ∀c∈vs,c.sc=true:=by
 unfold Zd7 at h
 split at h
 ·split at h
  ·obtain⟨h1,h2⟩:=Zqi (W:=W) (G:=G) (φ:=φ) h
   simp_all[Zcd,zeroValue]
  ·simp at h
 ·simp at h
theorem Zex {P:Program}{t:TypeId}{sz:Nat}(h:slE P t=some sz):∃e i z,P.underlying t=some (.slice e)/\P.info? e=some i/\i.zero=some z/\z.cells.size=i.size/\i.bytes<=4096/\i.size=sz:=by
 grind[slE]
section
variable {cx:Cx}{w:World}{B:Nat->Prop}{GB:Gh}{g:Gh}{st:St}{a:Act}{W:World}
theorem Zae {n:Nat}{P:Program}{t:TypeId}{x:Operand}{y:Opd}(h:SR w B GB g st a W)(hn:a.tmps.size=n)(hc:cOpd P n t x=some y):Rep W g.G g.φ (evO st.tm y) (a.eval x):=by
 unfold cOpd at hc
 split at hc
 ·split at hc
  ·simp only[Xac]at hc;subst hc
   exact h.get (by grind)
  ·simp at hc
 ·simp only[Xaa]at hc
  obtain⟨v,hv,rfl⟩:=hc
  exact Z0v hv
 ·simp only[Xac]at hc;subst hc;exact .gp _ _
 ·simp only[Xac]at hc;subst hc;exact .fn _ [] #[] rfl (fun i c x hc=>by simp at hc)
theorem Zcl {n:Nat}{P:Program}(h:SR w B GB g st a W)(hn:a.tmps.size=n):∀{ts:List TypeId} {xs:List Operand} {ys:List Opd},Zf4 P n ts xs=some ys->
  ys.length=xs.length/\ ∀(i:Nat) (c:V) (x:Value),(ys.map (evO st.tm))[i]? =some c->(xs.map a.eval)[i]? =some x->Rep W g.G g.φ c x
 |ts,[],ys,hc=>by grind[Zf4]
 |ts,x::xs,ys,hc=>by
  simp only[Zf4,Xab,Xaa]at hc
  obtain⟨y,h1,ys',h2,rfl⟩:=hc
  obtain⟨h3,h4⟩:=Zcl h hn h2
  refine⟨by simp[h3],fun i c z hc hz=> ?_⟩
  cases i with
  |zero=>simp at hc hz;subst hc;subst hz;exact Zae h hn h1
  |succ i=>exact h4 i c z (by simpa using hc) (by simpa using hz)
theorem Zcy {n:Nat}{P:Program}{x:Option Operand}{y:Option Opd}(h:SR w B GB g st a W)(hn:a.tmps.size=n)(hc:Zjl P n x=some y):RepO W g.G g.φ (y.map (evO st.tm)) (x.map a.eval):=by
 cases x with
 |none=>simp[Zjl]at hc;subst hc;trivial
 |some x=>
  simp only[Zjl,Xaa]at hc
  obtain⟨y',h1,rfl⟩:=hc
  exact Zae h hn h1
def After (B:Nat->Prop)(g:Gh)(W:World)(r:Res)(d:Option Nat)(y:Value)(W':World):Prop:=
 ∃g',Adv B g g' W W' r.tk/\Rep W' g'.G g'.φ r.v y/\ ∀t,d=some t->r.o=true->OwnAt W' B g' (.slot t) r.v y
theorem After.same (h:SR w B GB g st a W){v:V}{d:Option Nat}{y:Value}(hr:Rep W g.G g.φ v y):After B g W ⟨v,false,none⟩ d y W:=
 ⟨g,Adv.refl h _,hr,fun _ _ h=>by cases h⟩
theorem Zau {P:Program}{o:Oper}{next:Act->World->Prop}{Q:Exit->Act->World->Prop}{s:Sem Value}{y:Value}{W':World}(he:execOp a.eval o=(do pure (.value (<-s))))(hr:s.run P W= .ok y W')
  (h:next (a.put o.dst y) W'):o.wp P a W next Q:=by
 unfold Oper.wp
 rw[he]
 simp only[Sem.run_bind,hr,Sem.run_pure]
 exact h
end
end Go.Abs
namespace Go.Abs
open Go.RowKit
variable {cx:Cx}{w:World}{B:Nat->Prop}{GB:Gh}{g:Gh}{st:St}{a:Act}{W:World}{Γ:Spec}
theorem Zam {v:Option V}{r:Res}(h:resV v=some r):∃u,v=some u/\r=⟨u,false,none⟩:=by
 grind[Option.map_eq_some_iff,resV]
theorem SR.row (h:SR w B GB g st a W){id b:Nat}{cs:List V}(hc:Zap st.H id=some cs)(hφ:g.φ id=some b):Row W g.G g.φ cs b 0:=by
 obtain⟨xs,t,h2,h3,h4,_⟩:=(h.ob id _ (Zbd hc)).cells hφ
 refine⟨h4,fun k c hk=> ?_⟩
 have hlt:k<xs.size:=Xbn (Xak.1 hk).1 h3.1
 exact⟨xs[k],by grind[World.cell?],h3.2 k c _ hk (Xau hlt)⟩
theorem Zzy (hs:Scope cx w B GB)(h:SR w B GB g st a W){n:Option Nat}{t:TypeId}{u v:V}{x:Value}(hn:ldN cx.P t=some n)(hr:Rep W g.G g.φ u x)(hv:Zfe cx.gl st.H n u=some v):
  ∃y,(Instr.loadAt t x).run cx.P W= .ok y W/\Rep W g.G g.φ v y:=by
 cases hr<;>simp only[Zfe,reduceCtorEq]at hv
 ·rename_i cs off b base rd hG hsc hrd hh
  have hrow:Row W g.G g.φ cs b base:=⟨hsc,fun k c hk=>⟨rd k,hrd k (Xak.1 hk).1,hh k c hk⟩⟩
  obtain⟨y,h1,h2⟩:=hrow.load (P:=cx.P) hn hv
  grind[Instr.loadAt,Instr.sureAddr]
 ·simp only[Xab]at hv
  obtain⟨cs,hcs,hv⟩:=hv
  obtain⟨y,h1,h2⟩:=(hs.gl.row (φ:=g.φ) (h.okw hs) hcs).load (P:=cx.P) hn hv
  simp_all[Instr.loadAt,Instr.sureAddr]
 ·rename_i id off b hφ
  simp only[Xab]at hv
  obtain⟨cs,hcs,hv⟩:=hv
  have hrow:=h.row hcs hφ
  obtain⟨y,h1,h2⟩:=hrow.load (P:=cx.P) hn hv
  simp_all[Instr.loadAt,Instr.sureAddr]
section
variable {P:Program}
theorem Zpx (d:Nat){t e:TypeId}(ht:P.underlying t=some (.slice e))(b:Option Addr)(l c l2 c2:Nat):(Op.equalIn (d+1) t (.slice none l c) (.slice b l2 c2)).run P W= .ok b.isNone W:=by
 simp only[Op.equalIn,Sem.run_bind,Zaa ht];rfl
theorem Ziq (d:Nat){t e:TypeId}(ht:P.underlying t=some (.slice e))(a:Addr)(l c l2 c2:Nat):(Op.equalIn (d+1) t (.slice (some a) l c) (.slice none l2 c2)).run P W= .ok false W:=by
 simp only[Op.equalIn,Sem.run_bind,Zaa ht];rfl
theorem Zvo (d:Nat){t e:TypeId}(ht:P.underlying t=some (.pointer e))(b:Option Addr):(Op.equalIn (d+1) t (.pointer none) (.pointer b)).run P W= .ok b.isNone W:=by
 simp only[Op.equalIn,Sem.run_bind,Zaa ht];rfl
theorem Zvq (d:Nat){t e:TypeId}(ht:P.underlying t=some (.pointer e))(a:Addr):(Op.equalIn (d+1) t (.pointer (some a)) (.pointer none)).run P W= .ok false W:=by
 simp only[Op.equalIn,Sem.run_bind,Zaa ht];rfl
theorem Zyl (d:Nat){t:TypeId}{ms}(ht:P.underlying t=some (.interface ms)):(Op.equalIn (d+1) t .nilIface .nilIface).run P W= .ok true W:=by
 simp only[Op.equalIn,Sem.run_bind,Zaa ht];rfl
theorem Zy6 (d:Nat){t u:TypeId}{ms}{v:Value}(ht:P.underlying t=some (.interface ms)):(Op.equalIn (d+1) t .nilIface (.iface u v)).run P W= .ok false W:=by
 simp only[Op.equalIn,Sem.run_bind,Zaa ht];rfl
theorem Zxx (d:Nat){t u:TypeId}{ms}{v:Value}(ht:P.underlying t=some (.interface ms)):(Op.equalIn (d+1) t (.iface u v) .nilIface).run P W= .ok false W:=by
 simp only[Op.equalIn,Sem.run_bind,Zaa ht];rfl
end
theorem Zhs {P:Program}{t:TypeId}{x y:Operand}{xu xv:Value}{r:Bool}(hg:∀op,(eqGuard op t x y xu xv).run P W= .ok () W)(he:(Op.equal t xu xv).run P W= .ok r W)
  (h1:binOp .eql t xu xv=(Op.equal t xu xv>>=fun b=>pure (.bool b))) (h2:binOp .neq t xu xv=(Op.equal t xu xv>>=fun b=>pure (.bool !b))):
  ((do eqGuard .eql t x y xu xv;binOp .eql t xu xv:Sem Value).run P W= .ok (.bool r) W)/\((do eqGuard .neq t x y xu xv;binOp .neq t xu xv:Sem Value).run P W= .ok (.bool !r) W):=by
 simp_all
theorem Z4c {P:Program}{t:TypeId}{x y:Operand}{u v:V}{xu xv:Value}{G φ}{r:Bool}(hu:Rep W G φ u xu)(hv:Rep W G φ v xv)(hr:aeq (Zst P t x y) u v=some r):
  ((do eqGuard .eql t x y xu xv;binOp .eql t xu xv:Sem Value).run P W= .ok (.bool r) W)/\((do eqGuard .neq t x y xu xv;binOp .neq t xu xv:Sem Value).run P W= .ok (.bool !r) W):=by
 have agg:∀(ks:List Kd) (ht:(∃fs,P.underlying t=some (.struct fs)) \/ ∃m e,P.underlying t=some (.array m e)),P.eqGuardType P.depth t=false->Ze1 P 60 t=some ks-> ∀cs ds X Y,u= .agg cs->v= .agg ds->xu= .agg X->xv= .agg Y->
   Zat ks cs ds=some r->((do eqGuard .eql t x y xu xv;binOp .eql t xu xv:Sem Value).run P W= .ok (.bool r) W)/\((do eqGuard .neq t x y xu xv;binOp .neq t xu xv:Sem Value).run P W= .ok (.bool !r) W):=by
  intro ks ht hgt hk cs ds X Y e1 e2 e3 e4 hf
  subst e1;subst e2;subst e3;subst e4
  have hX:RepL W G φ cs X:=by cases hu;exact⟨by assumption,by assumption⟩
  have hY:RepL W G φ ds Y:=by cases hv;exact⟨by assumption,by assumption⟩
  obtain⟨hl1,hl2⟩:=Zao hf
  obtain⟨p,q,h1,h2,h3⟩:=Zxj (P:=P) 60 t ks hk 10000 (by omega) cs ds X Y 0 r hX hY (by grind)
  have hsz:∃i,P.info? t=some i/\i.size=ks.length:=by
   have hk':=hk
   unfold Ze1 at hk'
   rcases ht with⟨fs,ht⟩|⟨m,e,ht⟩
   ·grind[Option.bind_eq_some_iff,Za0]
   ·rw[ht]at hk'
    simp only[Xab]at hk'
    obtain⟨k',_,hk'⟩:=hk'
    split at hk'
    ·rename_i hc
     simp only[Xac]at hk';subst hk'
     obtain⟨i,hi,his⟩:=Za0 hc.2.2.1
     simp_all
    ·simp at hk'
  obtain⟨i,hi,his⟩:=hsz
  have hagg:(isAgg t).run P W= .ok true W:=by
   rcases ht with⟨fs,ht⟩|⟨m,e,ht⟩<;>(simp_all[Zaa,isAgg])
  have e1:p= .agg X:=by
   have:(part t X 0).run P W= .ok (.agg X) W:=by
    simp only[part,Sem.run_bind,hagg,Result.andThen_ok,if_true,Zaf hi,Xao,Sem.run_pure]
    congr 2
    have:X.size=i.size:=by rw[<-hX.1,hl1,his]
    grind
   grind
  have e2:q= .agg Y:=by
   have:(part t Y 0).run P W= .ok (.agg Y) W:=by
    simp only[part,Sem.run_bind,hagg,Result.andThen_ok,if_true,Zaf hi,Xao,Sem.run_pure]
    congr 2
    have:Y.size=i.size:=by rw[<-hY.1,hl2,his]
    grind
   grind
  subst e1;subst e2
  exact Zhs (fun op=>run_eqGuard_agg W op t x y X Y hgt) h3 rfl rfl
 unfold Zst at hr
 split at hr
 ·rename_i ht
  cases hu<;>simp only[aeq,reduceCtorEq]at hr
  cases hv<;>simp only[reduceCtorEq,Xac]at hr
  subst hr
  exact Zhs (fun op=>by simp_all[eqGuard]) (run_equalIn_bool' W 9999 t _ _ ht) rfl rfl
 ·rename_i fs ht
  split at hr
  ·rename_i hgt
   split at hr
   ·rename_i ks hk
    cases hu<;>simp only[aeq,reduceCtorEq]at hr
    cases hv<;>simp only[reduceCtorEq]at hr
    grind
   grind[aeq]
  grind[aeq]
 ·rename_i m e ht
  split at hr
  ·rename_i hgt
   split at hr
   ·rename_i ks hk
    cases hu<;>simp only[aeq,reduceCtorEq]at hr
    cases hv<;>simp only[reduceCtorEq]at hr
    grind
   grind[aeq]
  grind[aeq]
 ·rename_i e ht
  have hguard:∀(a1 a2:Option Addr) (l1 c1 l2 c2:Nat) op,(eqGuard op t x y (.slice a1 l1 c1) (.slice a2 l2 c2)).run P W= .ok () W:=by simp_all[eqGuard]
  cases hu<;>cases hv<;>simp only[aeq,reduceCtorEq]at hr
  all_goals (first|(split at hr<;>simp only[Xac,reduceCtorEq]at hr)|(simp only[Xac]at hr))
  all_goals (subst hr;refine Zhs (hguard _ _ _ _ _ _) ?_ rfl rfl;first|exact Zpx 9999 ht _ _ _ _ _|exact Ziq 9999 ht _ _ _ _ _)
 ·rename_i e ht
  have hguard:∀(a1 a2:Option Addr) op,(eqGuard op t x y (.pointer a1) (.pointer a2)).run P W= .ok () W:=by simp_all[eqGuard]
  cases hu<;>cases hv<;>simp only[aeq,reduceCtorEq,Xac]at hr
  all_goals (subst hr;refine Zhs (hguard _ _) ?_ rfl rfl;first|exact Zvo 9999 ht _|exact Zvq 9999 ht _)
 ·rename_i ms ht
  have hg1:∀(t1:TypeId) (y1:Value) op,(eqGuard op t x y (.iface t1 y1) .nilIface).run P W= .ok () W:=by simp_all[eqGuard]
  have hg2:∀(t1:TypeId) (y1:Value) op,(eqGuard op t x y .nilIface (.iface t1 y1)).run P W= .ok () W:=by simp_all[eqGuard]
  have main:aeq .iface u v=some r->(∃c,x= .const c \/y= .const c)->((do eqGuard .eql t x y xu xv;binOp .eql t xu xv:Sem Value).run P W= .ok (.bool r) W)/\((do eqGuard .neq t x y xu xv;binOp .neq t xu xv:Sem Value).run P W= .ok (.bool !r) W):=by
   intro hr hc
   cases hu<;>cases hv<;>simp only[aeq,reduceCtorEq,Xac]at hr
   ·subst hr;exact Zhs (hg1 _ _) (Zxx 9999 ht) rfl rfl
   ·subst hr;exact Zhs (hg2 _ _) (Zy6 9999 ht) rfl rfl
   ·subst hr
    refine Zhs (fun op=> ?_) ?_ rfl rfl
    ·unfold eqGuard
     rcases hc with⟨c,rfl|rfl⟩<;>(split<;>simp)
    ·exact Zyl 9999 ht
  grind[aeq]
 grind[aeq]
theorem Qax {P:Program}{t:TypeId}{x y:Operand}{op:BinOp}{u v r:V}{xu xv:Value}{G φ}(hu:Rep W G φ u xu)(hv:Rep W G φ v xv)(hr:abin op (Zst P t x y) u v=some r):
  ∃z,(do eqGuard op t x y xu xv;binOp op t xu xv:Sem Value).run P W= .ok z W/\Rep W G φ r z:=by
 by_cases h1:∃k a k' b,u= .int k a/\v= .int k' b
 ·obtain⟨k,a,k',b,rfl,rfl⟩:=h1
  cases hu;cases hv
  obtain⟨z,h2,h3⟩:=Ztt (P:=P) (W:=W) (G:=G) (φ:=φ) (t:=t) hr
  simp_all[eqGuard]
 by_cases h2:∃a b,u= .str a/\v= .str b
 ·obtain⟨a,b,rfl,rfl⟩:=h2
  cases hu with
  |str _ s hs=>
   cases hv with
   |str _ s' hs'=>
    subst hs;subst hs'
    obtain⟨z,h2,h3⟩:=Zxd (P:=P) (W:=W) (G:=G) (φ:=φ) (t:=t) hr
    simp_all[eqGuard]
 by_cases h3:∃id o n c z s,u= .osl id o n c z/\v= .sl true s []
 ·obtain⟨id,o,n,c,z,s,rfl,rfl⟩:=h3
  simp only[abin]at hr
  split at hr
  rotate_left
  ·cases hr
  rename_i hk
  split at hr
  ·cases hr
  cases hv
  have hsl:∃a l c',xu= .slice (some a) l c':=by
   cases hu<;>grind
  obtain⟨a,l,c',rfl⟩:=hsl
  have hu':∃e,P.underlying t=some (.slice e):=by
   unfold Zst at hk
   grind
  obtain⟨e,ht⟩:=hu'
  have hguard:∀op,(eqGuard op t x y (.slice (some a) l c') (.slice none 0 0)).run P W= .ok () W:=by simp_all[eqGuard]
  have hfin:=Zhs (x:=x) (y:=y) hguard (Ziq 9999 ht a l c' 0 0) rfl rfl
  unfold vEq at hr
  split at hr
  ·simp only[Xay,Xac]at hr;subst hr;exact⟨_,hfin.1, .bool _⟩
  ·simp only[Xay,Xac]at hr;subst hr;exact⟨_,hfin.2, .bool _⟩
  ·cases hr
 have hr':vEq op (aeq (Zst P t x y) u v)=some r:=by
  unfold abin at hr
  grind
 unfold vEq at hr'
 split at hr'
 ·simp only[Xaa]at hr'
  obtain⟨b,hb,rfl⟩:=hr'
  exact⟨_,(Z4c hu hv hb).1, .bool _⟩
 ·simp only[Xaa]at hr'
  obtain⟨b,hb,rfl⟩:=hr'
  exact⟨_,(Z4c hu hv hb).2, .bool _⟩
 ·simp at hr'
end Go.Abs
namespace Go.Abs
open Go.RowKit
variable {cx:Cx}{w:World}{B:Nat->Prop}{GB:Gh}{g:Gh}{st:St}{a:Act}{W:World}{Γ:Spec}
theorem Zk4 {n:Nat}{P:Program}{pl:Nat->Option (Nat×Nat)}(h:SR w B GB g st a W)(hn:a.tmps.size=n):∀{ps:List (Nat×Operand)} {qs:List (Nat×Nat×Opd)},Zoo P n pl ps=some qs->
  qs.length=ps.length/\ ∀(k:Nat) (p:Nat×Nat×V) (q:Nat×Value),(qs.map fun p=>(p.1,p.2.1,evO st.tm p.2.2))[k]? =some p->(ps.map fun q=>(q.1,a.eval q.2))[k]? =some q->pl q.1=some (p.1,p.2.1)/\Rep W g.G g.φ p.2.2 q.2
 | [],qs,hc=>by grind[Zoo]
 |(i,x)::ps,qs,hc=>by
  simp only[Zoo,Xab,Xaa]at hc
  obtain⟨p0,h1,y,h2,qs',h3,rfl⟩:=hc
  obtain⟨h4,h5⟩:=Zk4 h hn h3
  refine⟨by simp[h4],fun k p q hp hq=> ?_⟩
  cases k with
  |zero=>simp at hp hq;subst hp;subst hq;exact⟨h1,Zae h hn h2⟩
  |succ k=>exact h5 k p q (by simpa using hp) (by simpa using hq)
noncomputable def Zel (st:St)(g:Gh)(W:World)(b:Nat):Nat:=by
 classical exact if ∃id,g.φ id=some b then csz W b else g.G b
theorem Zr5 {st:St}{g:Gh}{W:World}{b id:Nat}(hb:g.φ id=some b):Zel st g W b=csz W b:=by
 unfold Zel;rw[if_pos ⟨id,hb⟩]
theorem Zxv (h:SR w B GB g st a W)(b:Nat):g.G b<=Zel st g W b:=by
 unfold Zel
 split
 ·rename_i hex
  obtain⟨id,h2⟩:=hex
  rw[(h.live id b h2).1];omega
 omega
def Zmw :Value->Bool
 | .slice none _ _=>true
 |_=>false
theorem Zzg (h:SR w B GB g st a W){v u:V}{x:Value}{nl:Bool}(hr:Rep W g.G g.φ v x)(hs:Zf3 nl st.H v=some u)(hnl:v.isOsl0=true->nl=Zmw x):Rep W (Zel st g W) g.φ u x:=by
 have hk:Keeps W g.G g.φ W (Zel st g W) g.φ:=⟨fun _ _ _=>rfl,Zxv h,fun _ _ h=>h,fun _ _ _=>rfl⟩
 unfold Zf3 at hs
 split at hs
 ·rename_i id off len cap sz
  split at hs
  ·rename_i h0
   subst h0
   cases hs
   have hn:=hnl rfl
   cases hr with
   |osln _ _ _ p=>
    cases p with
    |none=>rw[hn];exact .slnil sz
    |some a=>rw[hn];exact .sl0 sz a
   |osl _ _ _ _ _ b cap' hφ hlc hc' hz=>
    rw[hn]
    exact Rep.sl (W:=W) (G:=Zel st g W) (φ:=g.φ) sz [] b off cap' (fun _=>default) (Xbz _) (by
     grind[Zr5]) (fun x hx=>by cases hx) (fun k hk=>by simp at hk) (fun i x j c hx=>by simp at hx)
  simp only[Xab]at hs
  obtain⟨cs,hcs,hs⟩:=hs
  split at hs
  ·rename_i hle
   cases hs
   cases hr with
   |osln _ _ _ _=>omega
   |osl _ _ _ _ _ b cap' hφ hlc hc' hz=>
    obtain⟨ys,t,h2,h3,h4,_⟩:=(h.ob id _ (Zbd hcs)).cells hφ
    have hcz:csz W b=ys.size:=by grind[csz]
    have hsc:∀c∈cs.drop off,c.sc=true:=fun c hc=>h4 c (Xca hc)
    have hle':len*sz<=(cs.drop off).length:=by grind
    have hll:(vRow sz len (cs.drop off)).length=len:=Zjo hle'
    have hys:off+len*sz<=ys.size:=Xba hle h3.1
    have:=Rep.sl (W:=W) (G:=Zel st g W) (φ:=g.φ) sz (vRow sz len (cs.drop off)) b off cap' (fun k=>(ys[off+k]?).getD default) (by rw[hll];omega) (by
     grind[Zr5]) (Zqy hle' hsc) (fun k hk=>by
     grind[World.cell?]) (fun i x j c hx hc=>by
     obtain⟨hi,hj,hcc⟩:=Zxy hle' hsc hx hc
     rw[Xd8]at hcc
     have hlt:off+(i*sz+j)<ys.size:=Xbn (Xak.1 hcc).1 h3.1
     rw[Xau hlt]
     exact(h3.2 _ _ _ hcc (Xau hlt)).keep hk)
    grind
  ·cases hs
 ·cases hs;exact hr.keep hk
theorem Zm6 (h:SR w B GB g st a W){nl:Bool}:∀{vs us:List V} {xs:List Value},Zgk nl st.H vs=some us->vs.length=xs.length->(∀(i:Nat) (c:V) (x:Value),vs[i]? =some c->xs[i]? =some x->Rep W g.G g.φ c x)->
  (∀(i:Nat) (c:V) (x:Value),vs[i]? =some c->xs[i]? =some x->c.isOsl0=true->nl=Zmw x)->
  us.length=xs.length/\ ∀(i:Nat) (c:V) (x:Value),us[i]? =some c->xs[i]? =some x->Rep W (Zel st g W) g.φ c x
 | [],us,xs,hs,hl,_,_=>by
  grind[Zgk]
 |v::vs,us,[],hs,hl,_,_=>by simp at hl
 |v::vs,us,x::xs,hs,hl,hr,hq=>by
  simp only[Zgk,Xab,Xaa]at hs
  obtain⟨u,h1,us',h2,rfl⟩:=hs
  obtain⟨h3,h4⟩:=Zm6 h (xs:=xs) h2 (by simpa using hl) (fun i c y hc hy=>hr (i+1) c y (by simpa using hc) (by simpa using hy)) fun i c y hc hy=>hq (i+1) c y (by simpa using hc) (by simpa using hy)
  refine⟨by simp[h3],fun i c y hc hy=> ?_⟩
  cases i with
  |zero=>simp at hc hy;subst hc;subst hy;exact Zzg h (hr 0 v _ rfl rfl) h1 (hq 0 v _ rfl rfl)
  |succ i=>exact h4 i c y (by simpa using hc) (by simpa using hy)
theorem Zrj :∀{vs:List V} {xs:List Value},fewE vs=true-> ∃nl:Bool, ∀(i:Nat) (c:V) (x:Value),vs[i]? =some c->xs[i]? =some x->c.isOsl0=true->nl=Zmw x
 | [],xs,_=>⟨true,fun i c x hc=>by simp at hc⟩
 |v::vs,[],_=>⟨true,fun i c x _ hx=>by simp at hx⟩
 |v::vs,y::xs,h=>by
  unfold fewE at h
  split at h
  ·refine⟨Zmw y,fun i c x hc hx h0=> ?_⟩<;>grind
  ·obtain⟨nl,hnl⟩:=Zrj (xs:=xs) h
   refine⟨nl,fun i c x hc hx h0=> ?_⟩<;>grind
theorem Znx (hs:Scope cx w B GB)(h:SR w B GB g st a W){f:FuncId}{args l:List V}{xs:Array Value}{r:V×Bool}{nl:Bool}(hsn:Zgk nl st.H args=some l)(hway:∀(i:Nat) (c:V) (x:Value),args[i]? =some c->xs.toList[i]? =some x->c.isOsl0=true->nl=Zmw x)(hpc:PC cx f l r)(hfl:r.1.flatT=true)(hr:RepL W g.G g.φ args xs)(d:Option Nat):
  (callFunc f xs).run cx.P W= .ok (.enter f xs) W/\Calls cx.P f xs W fun e W'=> ∃y,e= .returned y/\After B g W ⟨r.1,false,none⟩ d y W':=by
 obtain⟨⟨fn,hf,hname,hbody⟩,hcalls⟩:=hpc
 have hr2:=Zm6 h (xs:=xs.toList) hsn (by simpa using hr.1) (fun i c x hc hx=>hr.2 i c x hc (by simpa using hx)) hway
 have hout:∀b,¬B b->Zel st g W b=g.G b:=fun b hb=>by
  unfold Zel
  rw[if_neg]
  rintro⟨id,h2⟩
  exact hb (h.φ id b h2).1
 have hok:=h.okw hs
 have hok2:OKW cx W (Zel st g W):=⟨hok.below,fun b hb=>by rw[hout b (fun e=>by have:=hs.hB b e;omega)];exact hok.Glo b hb,fun b hb=>by
  unfold Zel
  rw[if_neg]
  ·exact h.Gz b hb
  ·rintro⟨id,h2⟩
   have:=(h.φ id b h2).2.1;omega⟩
 refine⟨by grind[Sem.run_bind,run_program,Result.andThen_ok,Sem.run_pure,callFunc],(hcalls W _ g.φ xs hok2 ⟨by grind,fun i c x hc hx=>hr2.2 i c x hc (by simpa using hx)⟩).mono fun e W'=> ?_⟩
 rintro⟨G',y,rfl,hb,hG,hGz,hrep,hown⟩
 refine⟨y,rfl,⟨fun b=>if b<W.heap.size then g.G b else 0,g.φ,fun b=>if b<W.heap.size then g.ow b else none⟩, ?_, ?_,fun t ht ho=>by cases ho⟩
 ·refine⟨⟨fun b i hi=> ?_,fun b=> ?_,fun _ _ h=>h,fun id b' hb'=>Zji (hb.block _ (h.φ id b' hb').2.1)⟩,rfl, .of hb (fun b hb=>h.hB b (Xba h.below.size hb)),fun b hb'=> ?_,fun b id h1 h2 h3 h4=> ?_,fun b q h1 h2 _=> ?_,fun b hb'=> ?_⟩
  ·have:b<W.heap.size:=by
    rcases Xa6 b W.heap.size with h'|h'
    ·exact h'
    ·have:=h.Gz b h';omega
   exact hb.cell (p:=⟨b,i,none⟩) this
  ·dsimp only;split
   ·omega
   ·rw[h.Gz b (by omega)];omega
  ·have hlt:b<W.heap.size:=Xd0 fun e=>hb' (h.hB b (Xba h.below.size e))
   grind
  ·dsimp only;rw[if_pos h2,if_pos h2];exact⟨hb.block _ h2,h3,h4⟩
  ·dsimp only;rw[if_pos h1,if_pos h1];exact⟨hb.block _ h1,rfl,h2⟩
  ·have:=hb.size
   grind
 ·generalize r.1=u at hfl hrep
  have flat:∀{u:V} {y:Value} {G2:Nat->Nat} {φ2:Nat->Option Nat},Rep W' G' g.φ u y->u.flatR=true->Rep W' G2 φ2 u y:=by
   intro u y G2 φ2 hrep hfl
   cases hrep<;>first|(simp[V.flatR]at hfl)|skip
   ·exact .bool _
   ·exact .int _ _
   ·rename_i l s hl;exact .str _ _ hl
  cases u<;>first|exact flat hrep hfl|skip
  cases hrep with
  |tup _ zs hl hz=>exact .tup _ zs hl fun i c x hc hx=>flat (hz i c x hc hx) (Xav.1 hfl c (Xaj hc))
theorem Zhi (hs:Scope cx w B GB)(h:SR w B GB g st a W){f:FuncId}{args:List V}{xs:Array Value}{r:V×Bool}(hpc:PC cx f args r)(hr:RepL W g.G g.φ args xs)(d:Option Nat):
  (callFunc f xs).run cx.P W= .ok (.enter f xs) W/\Calls cx.P f xs W fun e W'=> ∃y,e= .returned y/\After B g W ⟨r.1,r.2,none⟩ d y W':=by
 obtain⟨⟨fn,hf,hname,hbody⟩,hcalls⟩:=hpc
 refine⟨by grind[Sem.run_bind,run_program,Result.andThen_ok,Sem.run_pure,callFunc],(hcalls W g.G g.φ xs (h.okw hs) hr).mono fun e W'=> ?_⟩
 rintro⟨G',y,rfl,hb,hG,hGz,hrep,hown⟩
 refine⟨y,rfl,⟨G',g.φ,fun b=>if b<W.heap.size then g.ow b else some (.slot (d.getD 0))⟩, ?_,hrep,fun t ht ho=> ?_⟩
 ·refine⟨⟨fun b i hi=> ?_,fun b=> ?_,fun _ _ h=>h,fun id b' hb'=>Zji (hb.block _ (h.φ id b' hb').2.1)⟩,rfl, .of hb (fun b hb=>h.hB b (Xba h.below.size hb)),fun b hb'=>hG b (Xd0 fun e=>hb' (h.hB b (Xba h.below.size e))),fun b id h1 h2 h3 h4=> ?_,fun b q h1 h2 _=> ?_,hGz⟩
  ·have:b<W.heap.size:=by
    rcases Xa6 b W.heap.size with h'|h'
    ·exact h'
    ·have:=h.Gz b h';omega
   exact hb.cell (p:=⟨b,i,none⟩) this
  ·rcases Xa6 b W.heap.size with h'|h'
   ·grind
   ·rw[h.Gz b h'];omega
  ·dsimp only;rw[if_pos h2];exact⟨hb.block _ h2,by grind,h4⟩
  ·dsimp only;rw[if_pos h1];exact⟨hb.block _ h1,hG b h1,h2⟩
 ·subst ht
  have:=hown ho (fun b=>if b<W.heap.size then g.ow b else some (.slot t)) (.slot t) (fun b hb=>by grind)
  intro sz xs b off len cap sp hv hx
  rcases this sz xs b off len cap sp hv hx with h1|⟨h1,h2,h3,h4⟩
  ·exact .inl h1
  ·exact .inr ⟨h.hB b (Xba h.below.size h1),h2,h3,h4⟩
theorem After.of {r:Res}{d:Option Nat}{y:Value}{W':World}{g':Gh}(h1:Adv B g g' W W' r.tk)(h2:Rep W' g'.G g'.φ r.v y)(h3:r.o=true->OwnAt W' B g' (.slot (d.getD 0)) r.v y):After B g W r d y W':=
 ⟨g',h1,h2,fun t ht ho=>by grind⟩
theorem Zey {P:Program}{o:Oper}{next:Act->World->Prop}{Q:Exit->Act->World->Prop}{f:FuncId}{xs:Array Value}(he:(execOp a.eval o).run P W= .ok (.enter f xs) W){R:Value->World->Prop}
  (hc:Calls P f xs W fun e W'=> ∃y,e= .returned y/\R y W') (h:∀y W',R y W'->next (a.put o.dst y) W'):o.wp P a W next Q:=by
 unfold Oper.wp
 rw[he]
 refine hc.mono fun e W'=> ?_<;>grind
theorem Za4 {P:Program}{o:Oper}{next:Act->World->Prop}{Q:Exit->Act->World->Prop}{y:Value}{W':World}(he:(execOp a.eval o).run P W= .ok (.value y) W')
  (h:next (a.put o.dst y) W'):o.wp P a W next Q:=by
 unfold Oper.wp
 rw[he]
 exact h
theorem RepO.map {x:Option Operand}{y:Option Opd}(h:RepO W g.G g.φ (y.map (evO st.tm)) (x.map a.eval)):RepO W g.G g.φ (y.map (evO st.tm)) (x.map a.eval):=h
theorem Zx1 {n:Nat}{P:Program}{t:TypeId}{x:Operand}{k:Nat}(hc:cOpd P n t x=some (.tmp k)):x= .tmp k/\k<n:=by
 unfold cOpd at hc
 split at hc
 ·grind
 ·simp at hc
 ·simp at hc
 ·simp at hc
theorem Zgd (h:SR w B GB g st a W){k:Nat}(hk:k<a.tmps.size)(ho:st.own (.slot k)=true):OwnAt W B g (.slot k) (st.tm k) (a.eval (.tmp k)):=by
 have:=h.own k a.tmps[k] (Xau hk) ho
 simp_all[Act.eval]
theorem Zop (h:SR w B GB g st a W){n:Nat}(hn:a.tmps.size=n){k:Nat}(hk:k<n)(d:Option Nat):After B g W ⟨st.tm k,st.own (.slot k),some (.slot k)⟩ d (a.eval (.tmp k)) W:=
 .of (Adv.move h _ (.slot (d.getD 0))) (h.get (by omega)) fun ho=>(Zgd h (by omega) ho).move
theorem Zk9 :∀(k:Nat) (ps:List (Nat×Operand)),Zmb k ps=true->(ps.map fun p=>(p.1,a.eval p.2))=((ps.map fun p=>a.eval p.2).zipIdx k).map fun p=>(p.2,p.1)
 |_,[],_=>rfl
 |k,(i,x)::r,h=>by
  simp only[Zmb,Xai,beq_iff_eq]at h
  obtain⟨rfl,h⟩:=h
  simp[Zk9 _ r h]
set_option maxHeartbeats 1000000 in
theorem Zlv {P:Program}{e:TypeId}{ie:TypeInfo}{z:Value}{zv:V}{W:World}{G:Nat->Nat}{φ:Nat->Option Nat}(he:P.info? e=some ie)(hz:ie.zero=some z)(h:Zd7 P e=some [zv]):∃x,z.cells= #[x]/\Rep W G φ zv x/\zv.sc=true:=by
 unfold Zd7 at h
 rw[he]at h
 simp only[hz]at h
 obtain⟨h1,h2⟩:=Zqi (W:=W) (G:=G) (φ:=φ) h
 have hl:z.cells.size=1:=by have:=h1.1;simpa using this.symm
 refine⟨z.cells[0], ?_,h1.2 0 zv _ rfl (by simp),h2 zv (by simp)⟩
 apply Array.ext'
 apply Xdv
 intro j
 cases j with
 |zero=>simp
 |succ j=>simp;omega
theorem Z9s {P:Program}(h:SR w B GB g st a W){sz:Nat}{zero:List V}{u v:V}{xl xc:Value}{t e:TypeId}{ie:TypeInfo}{z:Value}{r:Res}(ht:P.underlying t=some (.slice e))(he:P.info? e=some ie)(hz:ie.zero=some z)(hsz:ie.size=sz)(hby:ie.bytes<=4096)(hzv:zero=[] \/Zd7 P e=some zero)
  (hu:Rep W g.G g.φ u xl) (hv':Rep W g.G g.φ v xc) (hv:vMkz sz zero u v=some r) (q:Pos):
  ∃y W' g',(Instr.makeSlice t xl xc).run P W= .ok y W'/\Adv B g g' W W' r.tk/\Rep W' g'.G g'.φ r.v y/\(r.o=true->OwnAt W' B g' q r.v y):=by
 cases hu<;>cases hv'<;>simp only[vMkz,reduceCtorEq]at hv
 rename_i kl n kc m
 split at hv
 rotate_left
 ·cases hv
 rename_i zv
 split at hv
 rotate_left
 ·cases hv
 rename_i hcond
 obtain⟨h0,hnm,hlim,hs1,hsc⟩:=hcond
 simp only[Xac]at hv
 have hzv':Zd7 P e=some [zv]:=hzv.resolve_left (by simp)
 obtain⟨x,hzc,hrz,_⟩:=Zlv (W:=W) (G:=g.G) (φ:=g.φ) he hz hzv'
 obtain⟨k,rfl⟩:∃k:Nat,n=k:=⟨n.toNat,by omega⟩
 obtain⟨j,rfl⟩:∃j:Nat,m=j:=⟨m.toNat,by omega⟩
 have hbig:(ie.bytes:Int)*(j:Int)<=281474976710656:=by
  unfold Lim at hlim
  have h1:ie.bytes*j<=4096*4294967296:=Xc9 hby (by omega)
  omega
 have hrun:=run_make (P:=P) W t e ie z ht he hz kl kc k j h0 hnm hbig (by grind[Lim])
 have hcs:(madeCells z.cells (j*ie.size)).size=j:=by simp_all[size_madeCells]
 have hadv:=Adv.new h k none none (Zce W (.cells (madeCells z.cells (j*ie.size)) e)) (by simp)
 have hzc1:zv.cells=[zv]:=by cases zv<;>first|rfl|cases hsc
 have hfl:∀k,flat (List.replicate k zv)=List.replicate k zv:=by
  intro k
  induction k with
  |zero=>rfl
  |succ k ih=>
   show(List.replicate (k+1) zv).flatMap V.cells=_
   rw[Xc4,Xcc,hzc1]
   exact congrArg (zv:: ·) ih
 have hr:=Rep.of_row (W:=W.alloc (.cells (madeCells z.cells (j*ie.size)) e)) (G:=fun b=>if b=W.heap.size then k else g.G b) (φ:=g.φ) (sz:=1) (xs:=List.replicate k zv) (b:=W.heap.size) (off:=0) (cap:=j) (by simp;omega) (by simp) (fun y hy=>by
  grind) ⟨fun c hc=>by grind,fun i c hi=>by
   rw[hfl]at hi
   have hik:i<k:=by grind
   have hce:c=zv:=(Xd9.1 (Xaj hi)).2
   subst hce
   refine⟨x, ?_,hrz.keep hadv.keeps⟩
   rw[Xao,cell_of_row _ W.heap.size i _ e (0,0) (heap_alloc_new _ _),Xau (by omega)]
   grind[madeCells]⟩
 grind
theorem Zqg (hs:Scope cx w B GB)(hΓ:Sound cx Γ)(h:SR w B GB g st a W){n:Nat}(hn:a.tmps.size=n){ops:Array Oper}{o:Oper}{ao:AOp}(hc:cOp cx.P n ops o=some ao){r:Res}
  (hv:Zbr Γ cx.gl st.H st.own st.tm ao=some r) {next:Act->World->Prop} {Q:Exit->Act->World->Prop} (hnext:∀y W',After B g W r o.dst y W'->next (a.put o.dst y) W'):o.wp cx.P a W next Q:=by
 obtain⟨dst,op,ty,pos,after,guard⟩:=o
 simp only[]at hnext
 have mvc:∀{x:Operand} {y:Opd} {t:TypeId},cOpd cx.P n t x=some y-> ∀{v},r=⟨v,false,none⟩->v=evO st.tm y->After B g W r dst (a.eval x) W:=fun hx _ hr he=>by
  rw[hr,he];exact .same h (Zae h hn hx)
 cases op with
 |move x=>
  have fin:∀{y:Opd},cOpd cx.P n ty x=some y->ao= .mv y->(⟨dst, .move x,ty,pos,after,guard⟩:Oper).wp cx.P a W next Q:=fun hx he=>by
   subst he
   simp only[Zbr,Xac]at hv
   exact Za4 rfl (hnext _ _ (mvc hx hv.symm rfl))
  simp only[cOp]at hc
  split at hc
  ·split at hc
   ·split at hc
    ·rename_i k hk
     simp only[Xac]at hc;subst hc
     simp only[Zbr,Xac]at hv;subst hv
     exact Za4 rfl (hnext _ _ (Zop h hn hk dst))
    ·simp at hc
   grind[Option.map_eq_some_iff]
  grind[Option.map_eq_some_iff]
 |assign x=>
  have fin:∀{y:Opd},cOpd cx.P n ty x=some y->ao= .mv y->(⟨dst, .assign x,ty,pos,after,guard⟩:Oper).wp cx.P a W next Q:=fun hx he=>by
   subst he
   simp only[Zbr,Xac]at hv
   exact Za4 rfl (hnext _ _ (mvc hx hv.symm rfl))
  simp only[cOp]at hc
  split at hc
  ·split at hc
   ·split at hc
    ·rename_i k hk
     simp only[Xac]at hc;subst hc
     simp only[Zbr,Xac]at hv;subst hv
     exact Za4 rfl (hnext _ _ (Zop h hn hk dst))
    ·simp at hc
   grind[Option.map_eq_some_iff]
  grind[Option.map_eq_some_iff]
 |pick c x y=>
  simp only[cOp,Xab,Xaa]at hc
  obtain⟨c',h1,x',h2,y',h3,rfl⟩:=hc
  replace hv:=Zam hv;obtain⟨v,hv,rfl⟩:=hv
  obtain⟨t,e,hr⟩:=Z58 (Zae h hn h1) (Zae h hn h2) (Zae h hn h3) hv
  refine Za4 (y:=if t then a.eval x else a.eval y) ?_ (hnext _ _ (.same h hr))
  simp[execOp,e,asBool]
 |extract x i=>
  simp only[cOp,Xaa]at hc
  obtain⟨x',h1,rfl⟩:=hc
  replace hv:=Zam hv;obtain⟨v,hv,rfl⟩:=hv
  obtain⟨y,h2,hr⟩:=Qas (P:=cx.P) (Zae h hn h1) hv
  exact Zau rfl h2 (hnext _ _ (.same h hr))
 |nilCheck x=>
  simp only[cOp,Xaa]at hc
  obtain⟨x',h1,rfl⟩:=hc
  replace hv:=Zam hv;obtain⟨v,hv,rfl⟩:=hv
  have hr:=Zae h hn h1
  obtain⟨rfl,h2⟩:=Z3m hr hv
  refine Za4 (y:=a.eval x) ?_ (hnext _ _ (.same h hr))
  rcases h2 with⟨p,h2⟩|⟨f,p,c,h2⟩<;>simp[execOp,h2]
 |binOp bop t x y yt=>
  simp only[cOp,Xab,Xaa]at hc
  obtain⟨x',h1,y',h2,rfl⟩:=hc
  replace hv:=Zam hv;obtain⟨v,hv,rfl⟩:=hv
  obtain⟨z,h3,hr⟩:=Qax (x:=x) (y:=y) (Zae h hn h1) (Zae h hn h2) hv
  exact Zau rfl h3 (hnext _ _ (.same h hr))
 |unOp uop t x=>
  simp only[cOp,Xaa]at hc
  obtain⟨x',h1,rfl⟩:=hc
  replace hv:=Zam hv;obtain⟨v,hv,rfl⟩:=hv
  obtain⟨y,h2,hr⟩:=d_un (P:=cx.P) (W:=W) (Zae h hn h1) hv
  exact Zau rfl h2 (hnext _ _ (.same h hr))
 |load t x=>
  simp only[cOp,Xab,Xaa]at hc
  obtain⟨k,hk,x',h1,rfl⟩:=hc
  split at hv
  ·rename_i hcond
   simp only[Xai,Option.isNone_iff_eq_none]at hcond
   obtain⟨_,rfl⟩:=hcond
   simp only[Zbr]at hv
   have hr:=Zae h hn h1
   generalize evO st.tm x'=u at hv hr
   generalize hxe:a.eval x=xv at hr
   cases hr<;>simp only[vLdo,reduceCtorEq,Xab,Xaa]at hv
   rename_i id off b hφ
   obtain⟨cs,hcs,v,hv,rfl⟩:=hv
   obtain⟨xs,t',e2,e3,e4,e5⟩:=(h.ob id _ (Zbd hcs)).cells hφ
   have hlt:off<xs.size:=Xbn (Xak.1 hv).1 e3.1
   have hrun:(Instr.loadAt t (.pointer (some ⟨b,off,none⟩))).run cx.P W= .ok xs[off] W:=by
    have hcell:W.cell? ⟨b,off,none⟩=some xs[off]:=by grind[cell_of_row]
    simp_all[Zml,Instr.loadAt,Instr.sureAddr,loadVar]
   refine Zau (by grind[execOp]) hrun (hnext _ _ ?_)
   exact .of (Adv.move h _ (.slot (dst.getD 0))) (e3.2 off v _ hv (Xau hlt)) fun ho=>(e5 off v _ hv (Xau hlt) ho).move
  ·replace hv:=Zam hv;obtain⟨v,hv,rfl⟩:=hv
   obtain⟨y,h2,hr⟩:=Zzy hs h hk (Zae h hn h1) hv
   exact Zau rfl h2 (hnext _ _ (.same h hr))
 |build t parts=>
  simp only[cOp,Xab,Xaa]at hc
  obtain⟨pl,hpl,z,hz,ps,hps,rfl⟩:=hc
  replace hv:=Zam hv;obtain⟨v,hv,rfl⟩:=hv
  simp only[Xaa]at hv
  obtain⟨rs,hrs,rfl⟩:=hv
  obtain⟨zv,hzv,hzr,hzs⟩:=Zgo (W:=W) (G:=g.G) (φ:=g.φ) hz
  obtain⟨hl,hp⟩:=Zk4 h hn hps
  obtain⟨ys,hfill,hrep,hsc⟩:=Z0t (by simpa using hl) hp hzr hzs hrs
  refine Zau (s:=Instr.build t (parts.map fun(i,x)=>(i,a.eval x))) rfl (y:= .agg ys) ?_ (hnext _ _ (.same h (.agg _ _ hrep.1 hsc hrep.2)))
  have hlist:(parts.map fun(i,x)=>(i,a.eval x)).toList=parts.toList.map fun q=>(q.1,a.eval q.2):=by simp
  unfold Zm2 at hpl
  split at hpl
  ·rename_i fs hu
   split at hpl
   ·rename_i hall
    simp only[Xac]at hpl;subst hpl
    have hmap:(fs.mapM fun f=>(do pure (f.offset, <-sizeOf f.type):Sem (Nat×Nat))).run cx.P W= .ok (fs.map fun f=>(f.offset,cx.P.cellsOf f.type)) W:=by
     have key:∀(l:List Field),(∀f∈l,(cx.P.info? f.type).isSome=true)->(l.mapM fun f=>(do pure (f.offset, <-sizeOf f.type):Sem (Nat×Nat))).run cx.P W= .ok (l.map fun f=>(f.offset,cx.P.cellsOf f.type)) W:=by
      intro l
      induction l with
      |nil=>intro _;rfl
      |cons f l ih=>
       intro hl
       obtain⟨i,hi,his⟩:=Za0 (hl f (by simp))
       have:=ih fun f hf=>hl f (by simp[hf])
       simp only[List.mapM_cons,Sem.run_bind,Zaf hi,Result.andThen_ok,Sem.run_pure,this,Xan,his]
     have:=key fs.toList (fun f hf=>Xav.1 hall f hf)
     rw[Array.mapM_eq_mapM_toList]
     simp only[Functor.map,Sem.run_bind',this,Result.andThen_ok]
     show Result.ok _ W=_
     congr 1
     grind
    have hfill':Instr.fill (fun i=>(fs.map fun f=>(f.offset,cx.P.cellsOf f.type))[i]?) zv.cells (parts.map fun(i,x)=>(i,a.eval x)).toList=some ys:=by
     rw[hlist, <-hfill];congr 1;funext i;simp
    simp only[Instr.build,Sem.run_bind,hzv,Result.andThen_ok,Zaa hu,hmap,hfill',Sem.run_pure]
   ·simp at hpl
  ·rename_i m e hu
   split at hpl
   ·rename_i hie
    simp only[Xac]at hpl;subst hpl
    obtain⟨i,hi,his⟩:=Za0 hie
    simp only[Instr.build,Sem.run_bind,hzv,Result.andThen_ok,Zaa hu,Zaf hi,hlist,his,hfill,Sem.run_pure]
   ·simp at hpl
  ·simp at hpl
 |buildSlice t len parts=>
  simp only[cOp,Xab]at hc
  obtain⟨sz,hsz,hc⟩:=hc
  split at hc
  ·rename_i hcond
   obtain⟨hlen,hord,hbig⟩:=hcond
   simp only[Xaa]at hc
   obtain⟨xs,hxs,rfl⟩:=hc
   simp only[Zbr]at hv
   split at hv
   ·rename_i hf
    simp only[Xac]at hv;subst hv
    obtain⟨e,ie,z,hu,hi,hz,hzs,hby,his⟩:=Zex hsz
    obtain⟨hl,hr⟩:=Zcl h hn hxs
    have hlen':(xs.map (evO st.tm)).length=len:=by simp[hl,hlen]
    obtain⟨y,W',g',hrun,hadv,hrep,hown⟩:=Z41 h (sz:=sz) (xs:=xs.map (evO st.tm)) (ys:=(parts.toList.map (·.2)).map a.eval) hu hi hz his (by omega) (by grind) (by simp[hl]) hr hf (.slot (dst.getD 0))
    rw[hlen']at hrun
    have he:(parts.map fun(i,x)=>(i,a.eval x))=((((parts.toList.map (·.2)).map a.eval).zipIdx 0).map fun p=>(p.2,p.1)).toArray:=by
     apply Array.ext'
     have:=Zk9 (a:=a) 0 parts.toList hord
     simp only[Array.toList_map,Xcg]at this⊢
     exact this
    exact Zau (by grind[execOp]) hrun (hnext _ _ (.of hadv hrep fun _=>hown))
   ·simp at hv
  ·simp at hc
 |makeSlice t l c=>
  simp only[cOp,Xab,Xaa]at hc
  obtain⟨sz,hsz,l',h1,c',h2,rfl⟩:=hc
  obtain⟨e,ie,z,hu,hi,hz,hzs,hby,his⟩:=Zex hsz
  have hv0:vMk sz (mksZ cx.P t l') (evO st.tm l') (evO st.tm c')=some r:=hv
  unfold vMk at hv0
  split at hv0
  ·obtain⟨y,W',g',hrun,hadv,hrep,hown⟩:=Z9t h hu hi hz his (by omega) hby (Zae h hn h1) (Zae h hn h2) hv0 (.slot (dst.getD 0))
   exact Zau rfl hrun (hnext _ _ (.of hadv hrep hown))
  ·have hzz:mksZ cx.P t l'=[] \/Zd7 cx.P e=some (mksZ cx.P t l'):=by
    unfold mksZ
    split
    ·split
     ·rw[hu]
      simp only
      cases hq:Zd7 cx.P e<;>grind
     grind
    grind
   obtain⟨y,W',g',hrun,hadv,hrep,hown⟩:=Z9s h hu hi hz his hby hzz (Zae h hn h1) (Zae h hn h2) hv0 (.slot (dst.getD 0))
   exact Zau rfl hrun (hnext _ _ (.of hadv hrep hown))
 |slice t x lo hi mx=>
  simp only[cOp]at hc
  split at hc
  ·rename_i hu
   split at hc
   ·rename_i hm
    simp only[Xab,Xaa]at hc
    obtain⟨x',h1,lo',h2,hi',h3,rfl⟩:=hc
    replace hv:=Zam hv;obtain⟨v,hv,rfl⟩:=hv
    obtain⟨y,hrun,hr⟩:=Z9h (P:=cx.P) hu (Zae h hn h1) (Zcy h hn h2) (Zcy h hn h3) hv
    have:mx=none:=by simpa using hm
    subst this
    exact Zau rfl hrun (hnext _ _ (.same h hr))
   ·simp at hc
  ·rename_i e hu
   split at hc
   ·rename_i i hi'
    simp only[Xab,Xaa]at hc
    obtain⟨x',h1,lo',h2,hi2,h3,mx',h4,rfl⟩:=hc
    obtain⟨y,hrun,hr,htk,hown⟩:=Qa9 hu hi' rfl (Zae h hn h1) (Zcy h hn h2) (Zcy h hn h3) (Zcy h hn h4) hv
    refine Zau rfl hrun (hnext _ _ ⟨g,by grind[Adv.refl],hr,fun t _ ho=>hown ho _ _ _⟩)
   ·simp at hc
  ·rename_i m e hu
   split at hc
   ·rename_i i hi'
    simp only[Xab,Xaa]at hc
    obtain⟨x',h1,lo',h2,hi2,h3,mx',h4,rfl⟩:=hc
    replace hv:=Zam hv;obtain⟨v,hv,rfl⟩:=hv
    obtain⟨y,hrun,hr⟩:=Z7w hu hi' rfl (Zae h hn h1) (Zcy h hn h2) (Zcy h hn h3) (Zcy h hn h4) h.csz hv
    exact Zau rfl hrun (hnext _ _ (.same h hr))
   ·simp at hc
  ·simp at hc
 |fieldAddr t x f=>
  simp only[cOp,Xab]at hc
  obtain⟨fd,hfd,hc⟩:=hc
  split at hc
  ·rename_i i hi
   split at hc
   ·rename_i hz
    simp only[Xaa]at hc
    obtain⟨x',h1,rfl⟩:=hc
    replace hv:=Zam hv;obtain⟨v,hv,rfl⟩:=hv
    unfold fieldAt at hfd
    split at hfd
    ·rename_i fs hu
     obtain⟨y,hrun,hr⟩:=Z3u hu hfd hi hz (Zae h hn h1) hv
     exact Zau rfl hrun (hnext _ _ (.same h hr))
    ·simp at hfd
   ·simp at hc
  ·simp at hc
 |field t x f=>
  simp only[cOp,Xab,Xaa]at hc
  obtain⟨fd,hfd,k,hk,x',h1,rfl⟩:=hc
  replace hv:=Zam hv;obtain⟨v,hv,rfl⟩:=hv
  unfold fieldAt at hfd
  split at hfd
  ·rename_i fs hu
   obtain⟨y,hrun,hr⟩:=Qag hu hfd hk (Zae h hn h1) hv
   exact Zau rfl hrun (hnext _ _ (.same h hr))
  ·simp at hfd
 |indexAddr t x i=>
  simp only[cOp]at hc
  split at hc
  ·rename_i e hu
   split at hc
   ·rename_i ie hie
    simp only[Xab,Xaa]at hc
    obtain⟨x',h1,i',h2,rfl⟩:=hc
    replace hv:=Zam hv;obtain⟨v,hv,rfl⟩:=hv
    obtain⟨y,hrun,hr⟩:=Z3s hu hie (Zae h hn h1) (Zae h hn h2) hv
    exact Zau rfl hrun (hnext _ _ (.same h hr))
   ·simp at hc
  ·rename_i m e hu
   split at hc
   ·rename_i ie hie
    simp only[Xab,Xaa]at hc
    obtain⟨x',h1,i',h2,rfl⟩:=hc
    replace hv:=Zam hv;obtain⟨v,hv,rfl⟩:=hv
    obtain⟨y,hrun,hr⟩:=Z62 hu hie (Zae h hn h1) (Zae h hn h2) hv
    exact Zau rfl hrun (hnext _ _ (.same h hr))
   ·simp at hc
  ·simp at hc
 |index t x i=>
  simp only[cOp]at hc
  split at hc
  ·rename_i hu
   simp only[Xab,Xaa]at hc
   obtain⟨x',h1,i',h2,rfl⟩:=hc
   replace hv:=Zam hv;obtain⟨v,hv,rfl⟩:=hv
   obtain⟨y,hrun,hr⟩:=Qa0 hu (Zae h hn h1) (Zae h hn h2) hv
   exact Zau rfl hrun (hnext _ _ (.same h hr))
  ·rename_i m e hu
   split at hc
   ·rename_i ie hie
    simp only[Xab,Xaa]at hc
    obtain⟨k,hk,x',h1,i',h2,rfl⟩:=hc
    replace hv:=Zam hv;obtain⟨v,hv,rfl⟩:=hv
    obtain⟨y,hrun,hr⟩:=Z71 hu hie hk (Zae h hn h1) (Zae h hn h2) hv
    exact Zau rfl hrun (hnext _ _ (.same h hr))
   ·simp at hc
  ·simp at hc
 |convert s d x=>
  simp only[cOp]at hc
  split at hc
  ·rename_i hs' hd
   simp only[Xaa]at hc
   obtain⟨x',h1,rfl⟩:=hc
   replace hv:=Zam hv;obtain⟨v,hv,rfl⟩:=hv
   obtain⟨y,hrun,hr⟩:=Z9x hs' hd (Zae h hn h1) hv
   exact Zau rfl hrun (hnext _ _ (.same h hr))
  ·rename_i e hs' hd
   split at hc
   ·rename_i he
    simp only[Xaa]at hc
    obtain⟨x',h1,rfl⟩:=hc
    obtain⟨y,W',g',hrun,hadv,hrep,hown⟩:=Z9o h hs' hd he (Zae h hn h1) hv (.slot (dst.getD 0))
    exact Zau rfl hrun (hnext _ _ (.of hadv hrep hown))
   ·simp at hc
  ·rename_i e hs' hd
   split at hc
   ·rename_i he
    simp only[Xaa]at hc
    obtain⟨x',h1,rfl⟩:=hc
    replace hv:=Zam hv;obtain⟨v,hv,rfl⟩:=hv
    have hr0:=Zae h hn h1
    generalize evO st.tm x'=u at hv hr0
    generalize hxe:a.eval x=xv at hr0
    have goal:∃y,(convert s d xv).run cx.P W= .ok y W/\Rep W g.G g.φ v y:=by
     unfold vB2s at hv
     split at hv
     ·exact Zmg (H:=st.H) hs' he hd hr0 (by grind[vB2s])
     ·rename_i id off len cap
      split at hv
      ·rename_i h0
       cases hv;subst h0
       cases hr0 with
       |osl _ _ _ _ _ b cap' hφ hlc hc' hs=>
        have:=Zpw (W:=W) (G:=g.G) (φ:=g.φ) (ns:=[]) (off:=off) (cap:=cap') (b:=b) hs' he hd ⟨fun c hc=>(by cases hc),fun k c hk=>(by simp at hk)⟩
        exact⟨_,this, .str _ _ (strOfNums_data [])⟩
       |osln _ _ _ p=>cases p with
        |none=>exact Zmg (H:=st.H) hs' he hd (.slnil 1) rfl
        |some a=>exact Zmg (H:=st.H) hs' he hd (.sl0 1 a) rfl
      rename_i hn0
      simp only[Xab]at hv
      obtain⟨cs,hcs,hv⟩:=hv
      split at hv
      ·rename_i hle
       simp only[Xaa]at hv
       obtain⟨l,hl,rfl⟩:=hv
       cases hr0 with
       |osl _ _ _ _ _ b cap' hφ hlc hc' hs=>exact Zuj hs' he hd (h.row hcs hφ) hle hl
       |osln _ _ _ _=>omega
      ·simp at hv
     ·simp at hv
    obtain⟨y,hrun,hr⟩:=goal
    exact Zau (by grind[execOp]) hrun (hnext _ _ (.same h hr))
   ·simp at hc
  ·rename_i hs' hd
   simp only[Xaa]at hc
   obtain⟨x',h1,rfl⟩:=hc
   replace hv:=Zam hv;obtain⟨v,hv,rfl⟩:=hv
   obtain⟨y,hrun,hr⟩:=Z9g hs' hd (Zae h hn h1) hv
   exact Zau rfl hrun (hnext _ _ (.same h hr))
  ·simp at hc
 |sliceToArrayPointer d x=>
  simp only[cOp]at hc
  split at hc
  ·rename_i m e hu
   simp only[Xaa]at hc
   obtain⟨x',h1,rfl⟩:=hc
   replace hv:=Zam hv;obtain⟨v,hv,rfl⟩:=hv
   obtain⟨y,hrun,hr⟩:=Z94 hu (Zae h hn h1) hv
   exact Zau rfl hrun (hnext _ _ (.same h hr))
  ·simp at hc
 |makeFunc fn first caps=>
  cases fn with
  |func f=>
   simp only[cOp]at hc
   split at hc
   ·rename_i hf
    simp only[Xaa]at hc
    obtain⟨xs,hxs,rfl⟩:=hc
    simp only[Zbr,Xac]at hv;subst hv
    obtain⟨hl,hr⟩:=Zcl h hn hxs
    have hfe:first= #[]:=by simpa using hf
    subst hfe
    refine Za4 (y:= .func (.func f) #[] (caps.map a.eval)) (by simp[execOp,Instr.makeFunc]) (hnext _ _ (.same h (.fn f _ _ (by simp[hl]) fun i c x hc hx=>hr i c x hc (by simpa using hx))))
   ·split at hc
    ·rename_i hf
     simp only[Xaa]at hc
     obtain⟨xs,hxs,rfl⟩:=hc
     simp only[Zbr,Xac]at hv;subst hv
     obtain⟨hl,hr⟩:=Zcl h hn hxs
     have hfe:caps= #[]:=by simpa using hf
     subst hfe
     refine Za4 (y:= .func (.func f) (first.map a.eval) #[]) (by simp[execOp,Instr.makeFunc]) (hnext _ _ (.same h (.mfn f _ _ (by simp[hl]) fun i c x hc hx=>hr i c x hc (by simpa using hx))))
    ·simp at hc
  |_=>grind[cOp]
 |call c=>
  obtain⟨callee,args,argTypes⟩:=c
  cases callee with
  |value fo=>
   cases fo with
   |func f=>
    simp only[cOp]at hc
    split at hc
    ·grind[Option.map_eq_some_iff,Zbr]
    split at hc
    ·grind[Option.map_eq_some_iff,Zbr]
    ·simp only[Xaa]at hc
     obtain⟨xs,hxs,rfl⟩:=hc
     obtain⟨hl,hr⟩:=Zcl h hn hxs
     have hL:RepL W g.G g.φ (xs.map (evO st.tm)) (args.map a.eval):=⟨by simp[hl],fun i c x hc hx=>hr i c x hc (by simpa using hx)⟩
     simp only[Zbr,Zke]at hv
     split at hv
     ·cases hv
     split at hv
     ·simp only[Xab]at hv
      obtain⟨l,hsn,l',hsn',r0,hr0,r1,hr1,hv⟩:=hv
      split at hv
      ·rename_i hfl
       simp only[Xac]at hv
       subst hv
       simp only[Xai]at hfl
       obtain⟨heq,hflat⟩:=Z4f hfl.1
       obtain⟨nl,hway⟩:=Zrj (xs:=(args.map a.eval).toList) hfl.2
       cases nl with
       |true=>
        obtain⟨e1,e2⟩:=Znx hs h hsn hway (hΓ.p _ _ _ hr0) hflat hL dst
        refine Zey (f:=f) (xs:=args.map a.eval) ?_ e2 hnext<;>simp_all[execOp,resolve,Deferred.ofValue,invoke,Act.eval]
       |false=>
        obtain⟨e1,e2⟩:=Znx hs h hsn' hway (hΓ.p _ _ _ hr1) (by grind) hL dst
        rw[<-heq]at e2
        refine Zey (f:=f) (xs:=args.map a.eval) ?_ e2 hnext<;>simp_all[execOp,resolve,Deferred.ofValue,invoke,Act.eval]
      ·cases hv
     ·simp only[Xaa]at hv
      obtain⟨r0,hr0,rfl⟩:=hv
      obtain⟨e1,e2⟩:=Zhi hs h (hΓ.p _ _ _ hr0) hL dst
      refine Zey (f:=f) (xs:=args.map a.eval) ?_ e2 hnext
      simpa[execOp,resolve,Deferred.ofValue,invoke,Act.eval]using e1
   |tmp k=>
    grind[Option.map_eq_some_iff,cOp,Zbr]
   |const v=>grind[cOp]
   |global v=>simp[cOp]at hc
  |invoke rc m=>simp[cOp]at hc
  |builtin b=>
   cases b with
   |len=>
    simp only[cOp]at hc
    split at hc
    ·rename_i x t ha ht
     have ha':args= #[x]:=Array.ext' (by simpa using ha)
     have ht':argTypes= #[t]:=Array.ext' (by simpa using ht)
     subst ha';subst ht'
     split at hc
     ·rename_i hu
      simp only[Xaa]at hc
      obtain⟨x',h1,rfl⟩:=hc
      replace hv:=Zam hv;obtain⟨v,hv,rfl⟩:=hv
      obtain⟨y,hrun,hr⟩:=Z5o (ty:=ty) (str:=true) (by simpa using hu) (Zae h hn h1) hv
      refine Za4 ?_ (hnext _ _ (.same h hr))<;>grind[Sem.run_bind,Sem.run_pure,Result.andThen_ok,execOp,resolve,invoke,builtin]
     ·rename_i e hu
      simp only[Xaa]at hc
      obtain⟨x',h1,rfl⟩:=hc
      replace hv:=Zam hv;obtain⟨v,hv,rfl⟩:=hv
      obtain⟨y,hrun,hr⟩:=Z5o (ty:=ty) (str:=false) (by simpa using⟨e,hu⟩) (Zae h hn h1) hv
      refine Za4 ?_ (hnext _ _ (.same h hr))<;>grind[Sem.run_bind,Sem.run_pure,Result.andThen_ok,execOp,resolve,invoke,builtin]
     ·simp at hc
    ·simp at hc
   |max=>
    simp only[cOp]at hc
    split at hc
    ·rename_i x y ha
     have ha':args= #[x,y]:=Array.ext' (by simpa using ha)
     subst ha'
     simp only[Xab,Xaa]at hc
     obtain⟨x',h1,y',h2,rfl⟩:=hc
     replace hv:=Zam hv;obtain⟨v,hv,rfl⟩:=hv
     have hx:=Zae h hn h1
     have hy:=Zae h hn h2
     generalize evO st.tm x'=u1 at hv hx
     generalize evO st.tm y'=u2 at hv hy
     generalize hxe:a.eval x=xv at hx
     generalize hye:a.eval y=yv at hy
     cases hx<;>try (simp[vMnx]at hv;done)
     cases hy<;>try (simp[vMnx]at hv;done)
     rename_i k n k' n'
     simp only[vMnx]at hv
     split at hv
     ·rename_i hk
      subst hk
      simp only[Xac]at hv
      subst hv
      refine Za4 (y:= .int k (if n'>n then n' else n)) ?_ (hnext _ _ (.same h (.int _ _)))
      simp[execOp,resolve,invoke,builtin,Builtin.max_,Builtin.max2,hxe,hye]
     ·cases hv
    ·simp at hc
   |min=>
    simp only[cOp]at hc
    split at hc
    ·rename_i x y ha
     have ha':args= #[x,y]:=Array.ext' (by simpa using ha)
     subst ha'
     simp only[Xab,Xaa]at hc
     obtain⟨x',h1,y',h2,rfl⟩:=hc
     replace hv:=Zam hv;obtain⟨v,hv,rfl⟩:=hv
     have hx:=Zae h hn h1
     have hy:=Zae h hn h2
     generalize evO st.tm x'=u1 at hv hx
     generalize evO st.tm y'=u2 at hv hy
     generalize hxe:a.eval x=xv at hx
     generalize hye:a.eval y=yv at hy
     cases hx<;>try (simp[vMnx]at hv;done)
     cases hy<;>try (simp[vMnx]at hv;done)
     rename_i k n k' n'
     simp only[vMnx]at hv
     split at hv
     ·rename_i hk
      subst hk
      simp only[Xac]at hv
      subst hv
      refine Za4 (y:= .int k (if n'<n then n' else n)) ?_ (hnext _ _ (.same h (.int _ _)))
      simp[execOp,resolve,invoke,builtin,Builtin.min_,Builtin.min2,hxe,hye]
     ·cases hv
    ·simp at hc
   |append=>
    simp only[cOp]at hc
    split at hc
    ·rename_i s x t tx ha ht
     have ha':args= #[s,x]:=Array.ext' (by simpa using ha)
     have ht':argTypes= #[t,tx]:=Array.ext' (by simpa using ht)
     subst ha';subst ht'
     simp only[Xab]at hc
     obtain⟨sz,hsz,hc⟩:=hc
     split at hc
     ·rename_i hk
      simp only[Xab,Xaa]at hc
      obtain⟨s',h1,x',h2,rfl⟩:=hc
      obtain⟨e,ie,z,hu,hi,hz,hzs,hby,his⟩:=Zex hsz
      have hk':(∃e',cx.P.underlying tx=some (.slice e')) \/cx.P.underlying tx=some .string:=by
       grind[isSl,Zp8]
      simp only[Zbr]at hv
      obtain⟨y,W',g',hrun,hadv,hrep,hown⟩:=Z9d (ty:=ty) (e:=e) h (.slot (dst.getD 0)) hu hi hz his (by omega) hby hk' (Zae h hn h1) (Zae h hn h2) (fun ho=>by
       cases s' with
       |const v=>grind[ownO]
       |tmp k=>
        obtain⟨rfl,hkn⟩:=Zx1 h1
        exact⟨_,rfl,Zgd h (by omega) ho⟩) hv
      refine Za4 ?_ (hnext _ _ (.of hadv hrep hown))<;>grind[Sem.run_bind,Sem.run_pure,Result.andThen_ok,execOp,resolve,invoke,builtin]
     ·simp at hc
    ·simp at hc
   |_=>simp[cOp]at hc
 |store t x y=>
  simp only[cOp]at hc
  split at hc
  ·simp only[Xab]at hc
   obtain⟨a',h1,hc⟩:=hc
   split at hc
   ·split at hc
    ·split at hc
     ·simp only[Xac]at hc;subst hc;simp[Zbr]at hv
     ·simp at hc
    ·simp only[Xaa]at hc
     obtain⟨_,_,rfl⟩:=hc;simp[Zbr]at hv
   ·simp only[Xaa]at hc
    obtain⟨_,_,rfl⟩:=hc;simp[Zbr]at hv
  ·simp at hc
 |alloc t=>
  simp only[cOp,Xaa]at hc
  obtain⟨_,_,rfl⟩:=hc;simp[Zbr]at hv
 |box t x=>
  simp only[cOp,Xaa]at hc
  obtain⟨_,_,rfl⟩:=hc;simp[Zbr]at hv
 |_=>simp[cOp]at hc
end Go.Abs
namespace Go.Abs
open Go.RowKit
variable {cx:Cx}{w:World}{B:Nat->Prop}{GB:Gh}{g:Gh}{st:St}{a:Act}{W:World}{Γ:Spec}
theorem RepP.setL {cs:List V}{xs:Array Value}{ys:List V}{zs:Array Value}{off:Nat}{G:Nat->Nat}{φ:Nat->Option Nat}(h:RepP W G φ cs xs)(hy:RepL W G φ ys zs)(hle:off+ys.length<=cs.length):
  RepP W G φ (Zas cs off ys) (Go.Abs.setL xs.toList off zs.toList).toArray:=by
 have hl:=h.1
 have hl2:=hy.1
 refine⟨by grind[Zgp,Zeu],fun i c x hc hx=> ?_⟩
 rw[Zgp,Zde _ _ _ hle]at hc
 simp only[Xct]at hx
 rw[Zde _ _ _ (by simp;omega)]at hx
 have:zs.toList.length=ys.length:=by simp[hl2]
 rw[this]at hx
 split at hc
 ·rename_i hcond
  rw[if_pos hcond]at hx
  exact hy.2 _ c x hc (by simpa using hx)
 ·rename_i hcond
  rw[if_neg hcond]at hx
  exact h.2 _ c x hc (by simpa using hx)
theorem SR.newObW (h:SR w B GB g st a W){cs:List V}{xs:Array Value}{t:TypeId}{W':World}(hb:Below W.heap.size W W')(hsz:W'.heap.size=W.heap.size+1)(hblk:W'.heap[W.heap.size]? =some (.cells xs t (0,0)))
  (hr:RepP W g.G g.φ cs xs) (hsc:∀c∈cs,c.sc=true):∃g',SR w B GB g' (st.new cs) a W'/\g'.φ st.nH=some W.heap.size:=by
 have hB:B W.heap.size:=h.hB _ h.below.size
 have hfr:∀id,st.nH<=id->g.φ id=none:=by
  intro id hid
  cases hφ:g.φ id with
  |none=>rfl
  |some b=>have:=(h.φ id b hφ).2.2;omega
 have hadv:=Adv.new h 0 none none hb hsz
 have hG:(fun b=>if b=W.heap.size then 0 else g.G b)=g.G:=by
  funext b;split
  ·rename_i e;rw[e];exact(h.Gz _ (Xae _)).symm
  ·rfl
 rw[hG]at hadv
 have h1:=h.adv hadv
 simp only[St.take]at h1
 have hk:Keeps W g.G g.φ W' g.G (upd g.φ st.nH (some W.heap.size)):=⟨hadv.keeps.cell,fun _=>Xae _,fun id b hφ=>by
  grind[upd],fun id b' hb'=>Zji (hb.block _ (h.φ id b' hb').2.1)⟩
 have hk2:Keeps W' g.G g.φ W' g.G (upd g.φ st.nH (some W.heap.size)):=⟨fun _ _ _=>rfl,fun _=>Xae _,hk.φ,fun _ _ _=>rfl⟩
 have hlt:∀id b,g.φ id=some b->b≠W.heap.size:=fun id b hφ e=>by have:=(h.φ id b hφ).2.1;omega
 refine⟨⟨g.G,upd g.φ st.nH (some W.heap.size),fun b=>if b=W.heap.size then none else g.ow b⟩,⟨h1.defers,fun t x hx=>(h1.tm t x hx).keep hk2,fun t x hx ho=>h1.own t x hx ho,fun id o hH=> ?_,fun id hid=> ?_,fun id b hφ=> ?_,fun id b hφ=> ?_,fun id id' b e1 e2 l1 l2=> ?_,h1.Gz,h1.Glo,h1.kp,h1.kG,fun id b e=>hk.φ id b (h.kφ id b e),h1.ksz,h1.below,h1.hB⟩,by simp[upd]⟩
 ·by_cases hid:id=st.nH
  ·subst hid
   simp only[St.new,upd,if_true,Xac]at hH
   subst hH
   exact .inr ⟨W.heap.size,xs,t,by simp[upd],hblk,hr.keep hk,hsc,fun j v x _ _ ho=>by grind[St.new]⟩
  ·simp only[St.new,upd,hid]at hH
   refine ObOK.keep (h1.ob id o hH) hk2 (by simp[upd,hid]) (fun _ _=>rfl) (fun j v x hw=>⟨?_,fun hq=>hq⟩)<;>grind[St.new]
 ·simp only[St.new]at hid⊢
  have:id≠st.nH:=by omega
  simp only[upd,this]
  exact h.obn id (by omega)
 ·simp only[St.new]
  by_cases hid:id=st.nH
  ·grind[upd]
  ·simp only[upd,hid]at hφ
   obtain⟨q1,q2,q5⟩:=h1.φ id b hφ
   grind
 ·by_cases hid:id=st.nH
  ·grind[upd]
  ·simp only[upd,hid]at hφ
   exact h1.live id b hφ
 ·by_cases hid:id=st.nH<;>by_cases hid':id'=st.nH
  ·rw[hid,hid']
  ·grind[upd]
  ·grind[upd]
  ·simp only[upd,hid,hid']at e1 e2
   simp only[St.new,upd,hid,hid']at l1 l2
   exact h.inj id id' b e1 e2 l1 l2
theorem SR.newOb (h:SR w B GB g st a W){cs:List V}{xs:Array Value}{t:TypeId}(hr:RepL W g.G g.φ cs xs)(hsc:∀c∈cs,c.sc=true):
  ∃g',SR w B GB g' (st.new cs) a (W.alloc (.cells xs t))/\g'.φ st.nH=some W.heap.size:=
 h.newObW (Zce W _) (by simp) (heap_alloc_new _ _) hr.pre hsc
theorem SR.newNil (h:SR w B GB g st a W):SR w B GB g (st.new []) a W where
 defers:=h.defers
 tm:=h.tm
 own t x hx ho:=h.own t x hx ho
 ob id o hH:=by
  by_cases hid:id=st.nH
  ·subst hid
   simp only[St.new,upd,if_true,Xac]at hH
   subst hH
   refine .inl ⟨rfl, ?_⟩
   cases hφ:g.φ st.nH with
   |none=>rfl
   |some b=>have:=(h.φ _ b hφ).2.2;omega
  ·simp only[St.new,upd,hid]at hH
   refine ObOK.keep (h.ob id o hH) (.refl _ _ _) rfl (fun _ _=>rfl) (fun j v x hw=>⟨?_,fun hq=>hq⟩)<;>grind[St.new]
 obn id hid:=by
  simp only[St.new]at hid⊢
  have:id≠st.nH:=by omega
  simp only[upd,this]
  exact h.obn id (by omega)
 φ id b hφ:=by
  obtain⟨q1,q2,q5⟩:=h.φ id b hφ
  grind[St.new]
 live:=h.live
 inj id id' b e1 e2 l1 l2:=by
  have hne:id≠st.nH:=fun e=>by have:=(h.φ id b e1).2.2;omega
  have hne':id'≠st.nH:=fun e=>by have:=(h.φ id' b e2).2.2;omega
  simp only[St.new,upd,hne,hne']at l1 l2
  exact h.inj id id' b e1 e2 l1 l2
 Gz:=h.Gz
 Glo:=h.Glo
 kp:=h.kp
 kG:=h.kG
 kφ:=h.kφ
 ksz:=h.ksz
 below:=h.below
 hB:=h.hB
theorem SR.kill (h:SR w B GB g st a W)(id0:Nat):SR w B GB g (st.kill id0) a W where
 defers:=h.defers
 tm:=h.tm
 own t x hx ho:=h.own t x hx ho
 ob id o hH:=by
  by_cases hid:id=id0
  ·simp_all[St.kill,upd]
  ·simp only[St.kill,upd,hid]at hH
   refine ObOK.keep (h.ob id o hH) (.refl _ _ _) rfl (fun _ _=>rfl) (fun j v x hw=>⟨?_,fun hq=>hq⟩)<;>grind[St.kill]
 obn id hid:=by
  simp only[St.kill,upd]
  split
  ·rfl
  ·exact h.obn id hid
 φ:=h.φ
 live:=h.live
 inj id id' b e1 e2 l1 l2:=by
  simp only[St.kill,upd]at l1 l2
  split at l1
  ·grind
  ·split at l2
   ·grind
   ·exact h.inj id id' b e1 e2 l1 l2
 Gz:=h.Gz
 Glo:=h.Glo
 kp:=h.kp
 kG:=h.kG
 kφ:=h.kφ
 ksz:=h.ksz
 below:=h.below
 hB:=h.hB
theorem SR.rebind (h:SR w B GB g st a W){id b:Nat}(hid:g.φ id=some b)(hdead:∀id',g.φ id'=some b->st.H id'=none)(hG:g.G b=0)(how:g.ow b=none){cs:List V}{xs xs0:Array Value}{t t0:TypeId}{W':World}
  (hblk0:W.heap[b]? =some (.cells xs0 t0 (0,0))) (hblk:W'.heap[b]? =some (.cells xs t (0,0))) (hxs:xs.size=xs0.size) (hfar:∀k,k≠b->W'.heap[k]? =W.heap[k]?) (hs:W'.os=W.os/\W'.tape=W.tape/\W'.output=W.output/\W'.heap.size=W.heap.size)
  (hr:RepP W g.G g.φ cs xs) (hsc:∀c∈cs,c.sc=true):∃g',SR w B GB g' (st.new cs) a W'/\g'.φ st.nH=some b:=by
 obtain⟨q1,q2,q5⟩:=h.φ id b hid
 have hfr:g.φ st.nH=none:=by
  cases hφ:g.φ st.nH with
  |none=>rfl
  |some b=>have:=(h.φ _ b hφ).2.2;omega
 have hcz:∀k,Abs.csz W' k=Abs.csz W k:=fun k=>by
  grind[Abs.csz]
 have hcell:∀k i,i<g.G k->W'.cell? ⟨k,i,none⟩=W.cell? ⟨k,i,none⟩:=fun k i hi=>World.cell?_of_block (w:=W) (hfar k fun e=>by subst e;omega)
 have hk:Keeps W g.G g.φ W' g.G (upd g.φ st.nH (some b)):=⟨hcell,fun _=>Xae _,fun i c hφ=>by
  grind[upd],fun _ k _=>hcz k⟩
 have hown:∀p v x,OwnAt W B g p v x->OwnAt W' B ⟨g.G,upd g.φ st.nH (some b),g.ow⟩ p v x:=by
  intro p v x hp sz xs' b' off' len cap sp hv hx
  rcases hp sz xs' b' off' len cap sp hv hx with h1|⟨h1,h2,h3,cs',t',lo,hi,h4,h5,h6⟩<;>grind
 have hnew:∀i c,upd g.φ st.nH (some b) i=some c->(i=st.nH/\c=b) \/(i≠st.nH/\g.φ i=some c):=fun i c hi=>by
  grind[upd]
 refine⟨⟨g.G,upd g.φ st.nH (some b),g.ow⟩,⟨h.defers,fun t x hx=>(h.tm t x hx).keep hk,fun t x hx ho=>hown _ _ _ (h.own t x hx ho),fun i o hH=> ?_,fun i hi=> ?_,fun i c hφ=> ?_,fun i c hφ=> ?_,fun i i' c e1 e2 l1 l2=> ?_,fun k hk'=>h.Gz k (by omega),h.Glo,fun k i hi=>(hcell k i (Xbn hi (h.kG k))).trans (h.kp k i hi),h.kG,fun i c e=>hk.φ i c (h.kφ i c e),fun i c e=>(hcz c).trans (h.ksz i c e),h.below.trans ⟨hs.1,hs.2.1,hs.2.2.1,by omega,fun k hk'=>hfar k (fun e=>hk' (by grind))⟩,h.hB⟩,by simp[upd]⟩
 ·by_cases hi:i=st.nH
  ·subst hi
   simp only[St.new,upd,if_true,Xac]at hH
   subst hH
   exact .inr ⟨b,xs,t,by simp[upd],hblk,hr.keep hk,hsc,fun j v x _ _ ho=>by grind[St.new]⟩
  ·simp only[St.new,upd,hi]at hH
   refine ObOK.keep (h.ob i o hH) hk (by simp[upd,hi]) (fun c hc=>hfar c fun e=> ?_) (fun j v x hw=>⟨?_,fun hq=>hown _ _ _ hq⟩)<;>grind[St.new]
 ·simp only[St.new]at hi⊢
  have:i≠st.nH:=by omega
  simp only[upd,this]
  exact h.obn i (by omega)
 ·simp only[St.new]
  rcases hnew i c hφ with⟨rfl,rfl⟩|⟨h1,h2⟩
  ·grind
  ·obtain⟨r1,r2,r5⟩:=h.φ i c h2
   grind
 ·rcases hnew i c hφ with⟨rfl,rfl⟩|⟨h1,h2⟩
  ·grind
  ·exact h.live i c h2
 ·rcases hnew i c e1 with⟨h1,rfl⟩|⟨h1,h2⟩<;>rcases hnew i' _ e2 with⟨h3,h4⟩|⟨h3,h4⟩
  ·rw[h1,h3]
  ·simp_all[St.new,upd]
  ·simp_all[St.new,upd]
  ·simp only[St.new,upd,h1,h3]at l1 l2
   exact h.inj i i' c h2 h4 l1 l2
theorem Zh5 {b o:Nat}{vs:List Value}{W:World}{c:Array Value}{t:TypeId}(h:W.heap[b]? =some (.cells c t (0,0)))(hle:o+vs.length<=c.size):(W.setCells b o vs).heap[b]? =some (.cells (setL c.toList o vs).toArray t (0,0)):=by
 have key:∀(vs:List Value) (o:Nat) (u:World) (c:Array Value),u.heap[b]? =some (.cells c t (0,0))->o+vs.length<=c.size->(u.setCells b o vs).heap[b]? =some (.cells (setL c.toList o vs).toArray t (0,0)):=by
  intro vs
  induction vs with
  |nil=>simp_all[World.setCells,setL]
  |cons v vs ih=>
   intro o u c hu hlen
   simp only[Xaq]at hlen
   have h1:(u.setCell ⟨b,o,none⟩ v).heap[b]? =some (.cells (c.setIfInBounds o v) t (0,0)):=by grind[World.setCell]
   simp only[World.setCells]
   rw[ih (o+1) _ _ h1 (by simp;omega)]
   congr 2
   apply Array.ext'
   apply Xdv
   intro j
   rw[Zde _ _ _ (by simp;omega),Zde _ _ _ (by omega)]
   grind
 grind
theorem SR.setObj (h:SR w B GB g st a W){id b off:Nat}{cs ys:List V}{zs:Array Value}{own':Pos->Bool}(hH:st.H id=some (.cells cs))(hφ:g.φ id=some b)(hle:off+ys.length<=cs.length)
  (hr:RepL W g.G g.φ ys zs) (hsc:∀c∈ys,c.sc=true)
  (ho:∀p,own' p=true->(∃j v x,p= .cell id j/\off<=j/\ys[j-off]? =some v/\zs[j-off]? =some x/\OwnAt W B g p v x) \/(st.own p=true/\ ∀j,p= .cell id j->j<off \/off+ys.length<=j)):
  SR w B GB g {st with H:=upd st.H id (some (.cells (Zas cs off ys))),own:=own'} a (W.setCells b off zs.toList):=by
 obtain⟨xs,t,e2,e3,e4,e5⟩:=(h.ob id _ hH).cells hφ
 obtain⟨q1,q2,q5⟩:=h.φ id b hφ
 obtain⟨q3,q4⟩:=h.live id b hφ
 obtain⟨s1,s2,s3,s4⟩:=Zda b zs.toList off W
 have hfar:∀k,k≠b->(W.setCells b off zs.toList).heap[k]? =W.heap[k]? :=fun k hk=>Zbp b _ _ _ _ hk
 have hk:Keeps W g.G g.φ (W.setCells b off zs.toList) g.G g.φ:=⟨fun k i hi=>World.cell?_of_block (w:=W) (hfar k fun e=>by subst e;omega),fun _=>Xae _,fun _ _ h=>h,fun _ k _=>Zfk e2 k⟩
 have hown:∀p v x,OwnAt W B g p v x->OwnAt (W.setCells b off zs.toList) B g p v x:=by
  intro p v x hp sz xs' b' off' len cap sp hv hx
  rcases hp sz xs' b' off' len cap sp hv hx with h1|⟨h1,h2,h3,cs',t',lo,hi,h4,h5,h6⟩<;>grind
 have hsz:=e3.1
 have hzl:zs.size=ys.length:=hr.1.symm
 have hrow:(W.setCells b off zs.toList).heap[b]? =some (.cells (setL xs.toList off zs.toList).toArray t (0,0)):=Zh5 e2 (by simp;omega)
 have hrep:RepP (W.setCells b off zs.toList) g.G g.φ (Zas cs off ys) (setL xs.toList off zs.toList).toArray:=(e3.setL hr hle).keep hk
 refine⟨h.defers,fun t x hx=>(h.tm t x hx).keep hk,fun t x hx hp=> ?_,fun id' o hH'=> ?_,fun id' hid=> ?_,fun id' b' hφ'=> ?_,h.live,fun i i' c e1 e2 l1 l2=> ?_,fun k hk'=>h.Gz k (by omega),h.Glo,fun k i hi=>(hk.cell k i (Xbn hi (h.kG k))).trans (h.kp k i hi),h.kG,h.kφ,fun i c e=>(hk.sz i c (h.kφ i c e)).trans (h.ksz i c e),h.below.trans ⟨s1,s2,s3,by omega,fun k hk'=>hfar k (fun e=>hk' (by grind))⟩,h.hB⟩
 ·rcases ho _ hp with⟨j,_,_,e,_⟩|⟨h1,_⟩
  ·cases e
  ·exact hown _ _ _ (h.own t x hx h1)
 ·by_cases hid:id'=id
  ·subst hid
   simp only[upd,if_true,Xac]at hH'
   subst hH'
   refine .inr ⟨b,_,t,hφ,hrow,hrep,fun c hc=> ?_,fun j v x hv hx hp=> ?_⟩<;>grind[Zna,Zgp,Zde]
  ·simp only[upd,hid,if_false]at hH'
   refine ObOK.keep (h.ob id' o hH') hk rfl (fun c hc=>hfar c fun e=> ?_) (fun j v x hw=> ?_)
   ·subst e
    exact hid (h.inj id' id _ hc hφ (by rw[hH'];simp) (by rw[hH];simp))
   grind
 ·have hid2:st.nH<=id':=hid
  have:id'≠id:=fun e=>by omega
  simp only[upd,this]
  exact h.obn id' hid2
 ·obtain⟨r1,r2,r5⟩:=h.φ id' b' hφ'
  grind
 ·have lv:∀i,upd st.H id (some (Ob.cells (Zas cs off ys))) i≠none->st.H i≠none:=fun i hi=>by
   grind[upd]
  exact h.inj i i' c e1 e2 (lv i l1) (lv i' l2)
theorem Zpj {P:Program}{t:TypeId}{i:TypeInfo}{b off:Nat}{v:Value}(hi:P.info? t=some i)(hsz:v.cells.size=i.size)
  (hc:∀j,j<v.cells.size->(W.cell? ⟨b,off+j,none⟩).isSome=true) (hf:∀j,j<v.cells.size->W.frozen? ⟨b,off+j,none⟩=false) (h1:∀x∈v.cells.toList,x.oneCell'=true):
  (Instr.storeAt t (.pointer (some ⟨b,off,none⟩)) v).run P W= .ok () (W.setCells b off v.cells.toList):=by
 simp_all[run_storeCells_cells,Zaf,Instr.storeAt,Instr.sureAddr,storeVar]
theorem Za1 (a:Act)(d:Option Nat)(x:Value):(a.put d x).tmps.size=a.tmps.size:=by cases d<;>simp[Act.put]
theorem Zq8 {P:Program}{o:Oper}{next:Act->World->Prop}{Q:Exit->Act->World->Prop}{W':World}(he:(execOp a.eval o).run P W= .ok .skip W')
  (h:next (a.put o.dst undef) W'):o.wp P a W next Q:=by
 unfold Oper.wp
 rw[he]
 exact h
theorem Z3h {G:Nat->Nat}{φ:Nat->Option Nat}:Rep W G φ Nil undef:= .tup [] #[] rfl (fun i c x hc=>by simp at hc)
theorem SR.putNil (h:SR w B GB g st a W)(d:Option Nat):SR w B GB g (st.put d Nil false) (a.put d undef) W:=
 h.put d Nil false undef Z3h (fun _ _ h=>by cases h)
theorem Zjn (h:SR w B GB g st a W){n:Nat}(hn:a.tmps.size=n){o:Oper}{t:TypeId}{p x:Operand}{i:TypeInfo}(ho:o.op= .store t p x)(hi:cx.P.info? t=some i){p':Opd}{u:V}(h1:cOpd cx.P n 0 p=some p')
  (hu:Rep W g.G g.φ u (a.eval x)) {id off:Nat} {cs:List V} (hp:evO st.tm p'= .ptr id off) (hcs:Zap st.H id=some cs) (hlen:u.cells.length=i.size) (hsc:∀c∈u.cells,c.sc=true) (hle:off+i.size<=cs.length)
  {own':Pos->Bool} {g2:Gh} (h2:∃st2,SR w B GB g2 st2 a W/\st2.tm=st.tm/\st2.H=st.H/\st2.nH=st.nH/\
   ∀q,own' q=true->(∃j v x',q= .cell id j/\off<=j/\u.cells[j-off]? =some v/\(a.eval x).cells[j-off]? =some x'/\OwnAt W B g2 q v x') \/(st2.own q=true/\ ∀j,q= .cell id j->j<off \/off+u.cells.length<=j))
  (hg2:g2.G=g.G/\g2.φ=g.φ) {next:Act->World->Prop} {Q:Exit->Act->World->Prop}
  (hnext:∀W',SR w B GB g2 ({st with H:=upd st.H id (some (.cells (Zas cs off u.cells))),own:=own'}.put o.dst Nil false) (a.put o.dst undef) W'->next (a.put o.dst undef) W'):o.wp cx.P a W next Q:=by
 obtain⟨st2,hs2,e1,e2,e3,hown⟩:=h2
 have hpr:=Zae h hn h1
 rw[hp]at hpr
 generalize hpe:a.eval p=pv at hpr
 cases hpr with
 |ptr _ _ b hφ=>
 obtain⟨xs,t',f2,f3,f4,f5⟩:=(h.ob id _ (Zbd hcs)).cells hφ
 have huc:=hu.cells
 have hsz:(a.eval x).cells.size=i.size:=by rw[<-huc.1];exact hlen
 have hxs:cs.length<=xs.size:=f3.1
 have hrun:=Zpj (W:=W) (b:=b) (off:=off) (v:=a.eval x) hi hsz
  (fun j hj=>by rw[cell_of_row _ b _ xs t' (0,0) f2];simp;omega)
  (fun j hj=>by simp[World.frozen?,f2])
  (fun y hy=>by
   obtain⟨k,hk⟩:=Xdg hy
   have hk':(a.eval x).cells[k]? =some y:=by simpa using hk
   have hlt:k<u.cells.length:=by grind
   exact(huc.2 k _ y (Xad hlt) hk').one (hsc _ (Xam hlt)))
 have hset:=SR.setObj (own':=own') hs2 (by rw[e2];exact Zbd hcs) (by rw[hg2.2];exact hφ) (by omega) (zs:=(a.eval x).cells) (by grind) hsc hown
 rw[e2]at hset
 refine Zq8 (W':=W.setCells b off (a.eval x).cells.toList) ?_ (hnext _ ?_)
 ·grind[Sem.run_bind,Result.andThen_ok,Sem.run_pure,execOp]
 ·have:({st2 with H:=upd st.H id (some (.cells (Zas cs off u.cells))),own:=own'}:St)= {st with H:=upd st.H id (some (.cells (Zas cs off u.cells))),own:=own'}:=by
   grind
  rw[this]at hset
  exact hset.putNil o.dst
def AOp.isRow :AOp->Bool
 | .nro _| .mko _ _ _ _| .appo _ _ _| .cpy _ _| .clr _ _| .nmp| .mup _ _ _ _| .mlk _ _ _ _ _| .mln _=>true
 |_=>false
theorem Zs4 {gl:Nat->Option (List V)}{o:AOper}{st':St}(hrow:o.op.isRow=false)(he:exec1 Γ gl o st=some st')(h:∀r,Zbr Γ gl st.H st.own st.tm o.op=some r->st'=(st.take r.tk).put o.dst r.v r.o->False):
  (∃cs,o.op= .new cs) \/(∃x,o.op= .box x) \/(∃n p x,o.op= .store n p x) \/(∃p t,o.op= .sto p t) \/(∃f xs,o.op= .callh f xs) \/ ∃f xs,o.op= .callvh f xs:=by
 obtain⟨d,op,gd,af⟩:=o
 cases op<;>try (simp[AOp.isRow]at hrow)
 case new cs=>grind
 case box x=>grind
 case store n p x=>grind
 case sto p t=>grind
 case callh f xs=>grind
 case callvh f xs=>grind
 all_goals
  simp only[exec1,Xaa]at he
  obtain⟨r,hr,rfl⟩:=he
  grind
theorem Zuh {P:Program}{n:Nat}{ops:Array Oper}{o:Oper}{x:AOp}(h:cOp P n ops o=some x):x.isRow=false:=by
 unfold cOp at h
 repeat' split at h
 all_goals first
  |(simp only[reduceCtorEq]at h)
  |(rfl)
  |(obtain⟨_,_,rfl⟩:=h;rfl)
  |(simp only[Xab,Xaa]at h
    first
     |(rfl)
     |(rfl)
     |(obtain⟨_,_,_,_,_,_,_,_,rfl⟩:=h;rfl)
     |(obtain⟨_,_,h⟩:=h
       repeat' split at h
       all_goals first
        |(simp only[reduceCtorEq]at h)
        |(obtain⟨_,_,rfl⟩:=h;rfl)
        |(simp only[Xaa]at h;obtain⟨_,_,rfl⟩:=h;rfl)
        |(rfl)))
theorem Z23 {P:Program}{n:Nat}{ops:Array Oper}{o:Oper}{cs:List V}(h:cOp P n ops o=some (.new cs)):∃t,o.op= .alloc t/\Zd7 P t=some cs:=by
 unfold cOp at h
 repeat' split at h
 all_goals try (simp only[Xac,reduceCtorEq,and_false]at h)
 all_goals first
  |(simp only[Xaa]at h
    grind)
  |(simp only[Xab]at h
    obtain⟨_,_,h⟩:=h
    first
     |(split at h<;>(grind))
     |(repeat' split at h
       all_goals simp_all))
theorem Z2x {P:Program}{n:Nat}{ops:Array Oper}{o:Oper}{x:Opd}(h:cOp P n ops o=some (.box x)):∃t y,o.op= .box t y/\cOpd P n t y=some x:=by
 unfold cOp at h
 repeat' split at h
 all_goals try (simp only[Xac,reduceCtorEq,and_false]at h)
 all_goals first
  |(simp only[Xaa]at h
    grind)
  |(simp only[Xab]at h
    obtain⟨_,_,h⟩:=h
    first
     |(split at h<;>(grind))
     |(repeat' split at h
       all_goals simp_all))
theorem Zwf {P:Program}{n:Nat}{ops:Array Oper}{o:Oper}{k:Nat}{p x:Opd}(h:cOp P n ops o=some (.store k p x)):∃t q y i,o.op= .store t q y/\P.info? t=some i/\i.size=k/\cOpd P n 0 q=some p/\cOpd P n t y=some x:=by
 unfold cOp at h
 repeat' split at h
 all_goals first
  |grind[Option.bind_eq_some_iff,Option.map_eq_some_iff]
  |(exfalso)
theorem Z1y {P:Program}{n:Nat}{ops:Array Oper}{o:Oper}{p:Opd}{k:Nat}(h:cOp P n ops o=some (.sto p k)):∃t q i,o.op= .store t q (.tmp k)/\P.info? t=some i/\i.size=1/\cOpd P n 0 q=some p/\k<n:=by
 unfold cOp at h
 repeat' split at h
 all_goals try (simp only[reduceCtorEq,and_false]at h)
 all_goals first
  |(simp only[Xab,Xac]at h
    grind)
  |(simp only[Xab,Xaa]at h
    obtain⟨_,_,h⟩:=h
    first
     |(split at h<;>(grind))
     |(repeat' split at h
       all_goals simp_all))
theorem Zt0 {P:Program}{n:Nat}{ops:Array Oper}{o:Oper}{f:Nat}{xs:List Opd}(h:cOp P n ops o=some (.callh f xs)):∃args ts,o.op= .call {callee:= .value (.func f),args:=args,argTypes:=ts}/\Zf4 P n ts.toList args.toList=some xs:=by
 unfold cOp at h
 repeat' split at h
 all_goals try (simp only[Xac,reduceCtorEq,and_false]at h)
 all_goals first
  |(simp only[Xaa]at h
    grind)
  |(simp only[Xab]at h
    obtain⟨_,_,h⟩:=h
    first
     |(split at h<;>(grind))
     |(repeat' split at h
       all_goals simp_all))
theorem Zto {P:Program}{n:Nat}{ops:Array Oper}{o:Oper}{f:Opd}{xs:List Opd}(h:cOp P n ops o=some (.callvh f xs)):
  (∃k args ts,o.op= .call {callee:= .value (.tmp k),args:=args,argTypes:=ts}/\k<n/\f= .tmp k/\Zf4 P n ts.toList args.toList=some xs) \/
  ∃g args ts,o.op= .call {callee:= .value (.func g),args:=args,argTypes:=ts}/\f= .const (.fn g [])/\Zf4 P n ts.toList args.toList=some xs:=by
 unfold cOp at h
 repeat' split at h
 all_goals try (simp only[Xac,reduceCtorEq,and_false]at h)
 all_goals first
  |(simp only[Xaa]at h
    grind)
  |(simp only[Xab]at h
    obtain⟨_,_,h⟩:=h
    first
     |(split at h<;>(grind))
     |(repeat' split at h
       all_goals simp_all))
def Giv (B:Nat->Prop)(g:Gh)(b:Nat):Prop:=B b/\((∃id,g.φ id=some b) \/ ∃id j,g.ow b=some (.cell id j))
def Gh.strip (g:Gh):Gh:=⟨g.G,g.φ,fun b=>match g.ow b with|some (.cell i j)=>some (.cell i j)|_=>none⟩
theorem Zsx {g:Gh}{b i j:Nat}(h:g.ow b=some (.cell i j)):g.strip.ow b=some (.cell i j):=by grind[Gh.strip]
def Gh.back (g g':Gh)(n d:Nat):Gh:=⟨g'.G,g'.φ,fun b=>match g.ow b with
 |some (.slot t)=>if b<n then some (.slot t)else(match g'.ow b with|some (.slot _)=>some (.slot d)|q=>q)
 |_=>(match g'.ow b with|some (.slot _)=>some (.slot d)|q=>q)⟩
theorem SR.hrel (h:SR w B GB g st a W):HRel (Giv B g) g.strip st.hs W where
 ob id o hH:=by
  refine ObOK.keep (h.ob id o hH) (.refl _ _ _) rfl (fun _ _=>rfl) (fun j v x hw=>⟨hw,fun hq=> ?_⟩)
  intro sz ys b' off len cap sp e1 e2
  rcases hq sz ys b' off len cap sp e1 e2 with h6|⟨h6,h7,h8⟩
  ·exact .inl h6
  ·exact .inr ⟨⟨h6, .inr ⟨id,j,h7⟩⟩,Zsx h7,h8⟩
 obn:=h.obn
 φ id b hb:=by
  obtain⟨h1,h2,h5⟩:=h.φ id b hb
  exact⟨⟨h1, .inl ⟨id,hb⟩⟩,h2,h5⟩
 live id b hb:=by
  obtain⟨h3,h4⟩:=h.live id b hb
  grind[Gh.strip]
 inj:=h.inj
 Gz:=h.Gz
theorem Zeo (hs:Scope cx w B GB)(h:SR w B GB g st a W){f:FuncId}{args:List V}{xs:Array Value}{r:V×Bool}{hs':HS}(hpc:PCH cx f args st.hs r hs')(hr:RepL W g.G g.φ args xs)(d:Option Nat):
  (callFunc f xs).run cx.P W= .ok (.enter f xs) W/\Calls cx.P f xs W fun e W'=> ∃y,e= .returned y/\ ∃g',SR w B GB g' ((st.setHS hs').put d r.1 r.2) (a.put d y) W':=by
 obtain⟨⟨fn,hf,hname,hbody⟩,hcalls⟩:=hpc
 have hokw:OKW cx W g.G:=h.okw hs
 have hr':RepL W g.strip.G g.strip.φ args xs:=hr
 refine⟨by grind[Sem.run_bind,run_program,Result.andThen_ok,Sem.run_pure,callFunc],(hcalls W (Giv B g) g.strip xs hokw (fun b hb=>hs.hB b hb.1) h.hrel (fun b t e=>by
  grind[Gh.strip]) hr').mono fun e W'=> ?_⟩
 rintro⟨g',y,rfl,hb,hG,hkeep,hrel,hrep,hown⟩
 have hle:∀b,(W.heap.size<=b \/Giv B g b)->B b:=fun b hb=>hb.elim (fun h'=>h.hB b (Xba h.below.size h')) (·.1)
 have hkeep':Keeps W g.G g.φ W' g'.G g'.φ:=hkeep
 --a slot's row is not the call's
 have hslot:∀b t,b<W.heap.size->g.ow b=some (.slot t)-> ¬(W.heap.size<=b \/Giv B g b):=by
  rintro b t h1 h2 (h3|⟨_,⟨id,h3⟩|⟨id,j,h3⟩⟩)
  ·omega
  ·have:=(h.live id b h3).2;grind
  grind
 have hcell:∀b,(W.heap.size<=b \/Giv B g b)-> ∀q,g'.ow b=some q->(∀t,q≠ .slot t)->(g.back g' W.heap.size (d.getD 0)).ow b=some q:=by
  grind[Gh.back]
 refine⟨y,rfl,g.back g' W.heap.size (d.getD 0), ?_⟩
 have key:SR w B GB (g.back g' W.heap.size (d.getD 0)) (st.setHS hs') a W':=
  {defers:=h.defers
   tm:=fun t x hx=>(h.tm t x hx).keep hkeep'
   own:=fun t x hx ho=>by
    intro sz ys b off len cap sp e1 e2
    rcases h.own t x hx ho sz ys b off len cap sp e1 e2 with h6|⟨h6,h7,h8,cs,ty,lo,hi,h9,h10,h11⟩
    ·exact .inl h6
    ·have hlt:b<W.heap.size:=(Xbg.1 h9).1
     have hno:=hslot b t hlt h7
     have hGb:g'.G b=g.G b:=hG b hlt fun h=>hno (.inr h)
     refine .inr ⟨h6, ?_, ?_,cs,ty,lo,hi, ?_,h10, ?_⟩
     ·grind[Gh.back]
     ·show _=g'.G b;omega
     ·rw[hb.block b hno];exact h9
     ·show ∀j,g'.G b<=j->_;grind
   ob:=fun id o hH=>by
    refine ObOK.keep (hrel.ob id o hH) (.refl _ _ _) rfl (fun _ _=>rfl) (fun j v x hw=>⟨hw,fun hq=> ?_⟩)
    intro sz ys b' off len cap sp e1 e2
    rcases hq sz ys b' off len cap sp e1 e2 with h6|⟨h6,h7,h8⟩
    ·exact .inl h6
    ·exact .inr ⟨hle b' h6,hcell b' h6 _ h7 (fun t e=>by cases e),h8⟩
   obn:=hrel.obn
   φ:=fun id b hb'=>by
    obtain⟨h1,h2,h5⟩:=hrel.φ id b hb'
    exact⟨hle b h1,h2,h5⟩
   live:=fun id b hb'=>by
    obtain⟨h1,_,_⟩:=hrel.φ id b hb'
    obtain⟨h3,h4⟩:=hrel.live id b hb'
    grind[Gh.back]
   inj:=hrel.inj
   Gz:=hrel.Gz
   Glo:=fun b hb'=>by
    have hlt:b<W.heap.size:=Xd0 fun e=>hb' (h.hB b (Xba h.below.size e))
    exact(hG b hlt fun e=>hb' e.1).trans (h.Glo b hb')
   kp:=fun b i hi=>(hkeep'.cell b i (Xbn hi (h.kG b))).trans (h.kp b i hi)
   kG:=fun b=>Xba (h.kG b) (hkeep'.G b)
   kφ:=fun id b e=>hkeep'.φ id b (h.kφ id b e)
   ksz:=fun id b e=>(hkeep'.sz id b (h.kφ id b e)).trans (h.ksz id b e)
   below:=h.below.trans (hb.mono hle)
   hB:=h.hB}
 refine key.put d r.1 r.2 y hrep fun t ht ho=> ?_
 intro sz ys b off len cap sp e1 e2
 rcases hown ho sz ys b off len cap sp e1 e2 with h6|⟨h6,h7,h8⟩<;>grind[Gh.back]
theorem Zpu (hs:Scope cx w B GB)(hΓ:Sound cx Γ)(h:SR w B GB g st a W){n:Nat}(hn:a.tmps.size=n){ops:Array Oper}{o:Oper}{ao:AOper}(hc:cOp cx.P n ops o=some ao.op)(hd:ao.dst=o.dst){st':St}
  (he:exec1 Γ cx.gl ao st=some st') {next:Act->World->Prop} {Q:Exit->Act->World->Prop} (hnext:∀g' a' W',SR w B GB g' st' a' W'->a'.tmps.size=n->next a' W'):o.wp cx.P a W next Q:=by
 by_cases hp:∃r,Zbr Γ cx.gl st.H st.own st.tm ao.op=some r/\st'=(st.take r.tk).put ao.dst r.v r.o
 ·obtain⟨r,hr,rfl⟩:=hp
  refine Zqg hs hΓ h hn hc hr fun y W' ⟨g',h1,h2,h3⟩=>hnext g' _ _ ?_ (by grind[Za1])
  rw[hd]
  exact(h.adv h1).put o.dst r.v r.o y h2 h3
 ·obtain⟨d,op,gd,af⟩:=ao
  simp only at hd hc;subst hd
  rcases Zs4 (Zuh hc) he (fun r h1 h2=>hp ⟨r,h1,h2⟩)with⟨cs,e⟩|⟨x,e⟩|⟨k,p,x,e⟩|⟨p,t,e⟩|⟨f,xs,e⟩|⟨f,xs,e⟩<;>simp only at e<;>subst e
  ·obtain⟨t,ho,hz⟩:=Z23 hc
   obtain⟨z,hzr,hzrep,hzs⟩:=Zgo (W:=W) (G:=g.G) (φ:=g.φ) hz
   obtain⟨g',h1,h2⟩:=h.newOb (t:=t) hzrep hzs
   simp only[exec1,Xac]at he
   subst he
   have hrun:(Instr.alloc t true (.tuple #[])).run cx.P W= .ok (.pointer (some ⟨W.heap.size,0,none⟩)) (W.alloc (.cells z.cells t)):=by
    simp_all[Instr.alloc,newVar,newRow]
   refine Zau (by grind[execOp]) hrun (hnext g' _ _ (h1.put o.dst (.ptr st.nH 0) false _ (.ptr _ _ _ h2) (fun _ _ h=>by cases h)) (by grind[Za1]))
  ·obtain⟨t,y,ho,hy⟩:=Z2x hc
   have hr:=(Zae h hn hy).cells
   simp only[exec1]at he
   split at he
   ·rename_i hall
    simp only[Xac]at he
    subst he
    obtain⟨g',h1,h2⟩:=h.newOb (t:=t) hr (fun c hc=>Xav.1 hall c hc)
    have hrun:(Instr.box t (a.eval y)).run cx.P W= .ok (.pointer (some ⟨W.heap.size,0,none⟩)) (W.alloc (.cells (a.eval y).cells t)):=by
     simp_all[Instr.box,newVar,newRow]
    refine Zau (by grind[execOp]) hrun (hnext g' _ _ (h1.put o.dst (.ptr st.nH 0) false _ (.ptr _ _ _ h2) (fun _ _ h=>by cases h)) (by grind[Za1]))
   ·simp at he
  ·obtain⟨t,q,y,i,ho,hi,rfl,hq,hy⟩:=Zwf hc
   simp only[exec1,St.ev]at he
   split at he
   ·rename_i id off hp'
    split at he
    ·rename_i cs hcs
     simp only[Xaa,St.storeOb]at he
     obtain⟨s',he,rfl⟩:=he
     split at he
     ·rename_i hcond
      obtain⟨c1,c2,c3⟩:=hcond
      simp only[Xac]at he
      subst he
      refine Zjn h hn ho hi hq (Zae h hn hy) hp' hcs c1 (fun c hc=>Xav.1 c2 c hc) c3 (own':=(st.setOb id cs off (evO st.tm x).cells).own) (g2:=g) ⟨st,h,rfl,rfl,rfl,fun p hp2=> .inr ?_⟩ ⟨rfl,rfl⟩ (fun W' hsr=>hnext g _ _ hsr (by rw[Za1];exact hn))<;>grind[St.setOb]
     ·simp at he
    ·simp at he
   ·simp at he
  ·obtain⟨ty,q,i,ho,hi,hsz,hq,hk⟩:=Z1y hc
   simp only[exec1,St.ev]at he
   split at he
   ·rename_i id off hp'
    split at he
    ·rename_i cs hcs
     split at he
     ·rename_i hcond
      obtain⟨c1,c2⟩:=hcond
      simp only[Xac]at he
      subst he
      have hrep:Rep W g.G g.φ (st.tm t) (a.eval (.tmp t)):=h.get (by omega)
      have hcl:=Zgz c1
      refine Zjn h hn ho hi hq hrep hp' hcs (by grind) (by grind) (by omega) (own':=(st.stoOb id cs off t).own) (g2:=g.move (some (.slot t)) (.cell id off))
       ⟨st.take (some (.slot t)),h.adv (Adv.move h _ _),rfl,rfl,rfl,fun p hp2=> ?_⟩ ⟨rfl,rfl⟩ (fun W' hsr=>hnext _ _ _ (by rw[hcl]at hsr;exact hsr) (by grind[Za1]))
      simp only[St.stoOb,updP]at hp2
      split at hp2
      ·cases hp2
      ·rename_i hne
       split at hp2
       ·rename_i heq
        subst heq
        left
        have hxc:=hrep.cells
        rw[hcl]at hxc
        have hx1:(a.eval (.tmp t)).cells= #[a.eval (.tmp t)]:=by
         have:=hrep.one c1
         generalize a.eval (.tmp t)=z at this
         cases z<;>first|rfl|grind[Value.oneCell']
        refine⟨off,st.tm t,a.eval (.tmp t),rfl,Xae _,by rw[hcl];simp,by rw[hx1];simp, ?_⟩
        exact(Zgd h (by omega) hp2).move
       ·rename_i hne2
        right
        refine⟨by simp only[St.take,updP,hne,if_false];exact hp2,fun j e=> ?_⟩<;>grind
     ·simp at he
    ·simp at he
   ·simp at he
  ·obtain⟨args,ts,ho,hxs⟩:=Zt0 hc
   simp only[exec1,St.doCall,Xaa]at he
   obtain⟨r0,hr0,rfl⟩:=he
   obtain⟨hl,hr⟩:=Zcl h hn hxs
   have hL:RepL W g.G g.φ (xs.map (evO st.tm)) (args.map a.eval):=⟨by simp[hl],fun i c x hc hx=>hr i c x hc (by simpa using hx)⟩
   obtain⟨e1,e2⟩:=Zeo hs h (hΓ.h _ _ _ _ hr0) hL o.dst
   refine Zey (f:=f) (xs:=args.map a.eval) ?_ e2 fun y W' ⟨g',hsr⟩=>hnext g' _ _ hsr (by rw[Za1];exact hn)<;>simp_all[execOp,resolve,Deferred.ofValue,invoke,Act.eval]
  ·rcases Zto hc with⟨k,args,ts,ho,hk,rfl,hxs⟩|⟨f,args,ts,ho,rfl,hxs⟩
   rotate_left
   ·obtain⟨hl,hr⟩:=Zcl h hn hxs
    have hL:RepL W g.G g.φ (xs.map (evO st.tm)) (args.map a.eval):=⟨by simp[hl],fun i c x hc hx=>hr i c x hc (by simpa using hx)⟩
    have hfa:Zg5 (st.ev (.const (.fn f []))) (xs.map st.ev)=some (f,xs.map (evO st.tm)):=by
     show some (f,xs.map (evO st.tm)++ [])=_
     grind
    simp only[exec1,hfa]at he
    split at he
    ·rename_i r0 hr0
     simp only[Xac]at he
     subst he
     obtain⟨e1,e2⟩:=Zhi hs h (hΓ.p _ _ _ hr0) hL o.dst
     refine Zey (f:=f) (xs:=args.map a.eval) ?_ e2 fun y W' ⟨g',h1,h2,h3⟩=>hnext g' _ _ ?_ (by grind[Za1])
     ·grind[execOp,resolve,Deferred.ofValue,invoke,Act.eval]
     ·exact(h.adv h1).put o.dst r0.1 r0.2 y h2 h3
    ·simp only[St.doCall,Xaa]at he
     obtain⟨r0,hr0,rfl⟩:=he
     obtain⟨e1,e2⟩:=Zeo hs h (hΓ.h _ _ _ _ hr0) hL o.dst
     refine Zey (f:=f) (xs:=args.map a.eval) ?_ e2 fun y W' ⟨g',hsr⟩=>hnext g' _ _ hsr (by rw[Za1];exact hn)<;>simp_all[execOp,resolve,Deferred.ofValue,invoke,Act.eval]
   obtain⟨hl,hr⟩:=Zcl h hn hxs
   have hf:Rep W g.G g.φ (evO st.tm (.tmp k)) (a.eval (.tmp k)):=h.get (by grind)
   simp only[exec1,St.ev]at he
   generalize evO st.tm (.tmp k)=u at he hf
   generalize hxe:a.eval (.tmp k)=xv at hf
   have happ:∀{us vs:List V} {ys zs:Array Value},RepL W g.G g.φ us ys->RepL W g.G g.φ vs zs->RepL W g.G g.φ (us++vs) (ys++zs):=fun{us vs ys zs} h1 h2=>⟨by simp[h1.1,h2.1],fun i c x hc hx=>by
    rw[Xcx]at hc
    rw[Array.getElem?_append]at hx
    rw[h1.1]at hc
    split at hc
    ·rename_i hlt
     rw[if_pos hlt]at hx
     exact h1.2 i c x hc hx
    ·rename_i hlt
     rw[if_neg hlt]at hx
     exact h2.2 _ c x hc hx⟩
   have hA:RepL W g.G g.φ (xs.map (evO st.tm)) (args.map a.eval):=⟨by simp[hl],fun i c x hc hx=>hr i c x hc (by simpa using hx)⟩
   have hev:(xs.map fun x=>evO st.tm x)=xs.map (evO st.tm):=rfl
   rw[hev]at he
   obtain⟨f,l,ys,hfa,hres,hL⟩:∃f l ys,Zg5 u (xs.map (evO st.tm))=some (f,l)/\(∃first caps,xv= .func (.func f) first caps/\ys=first++args.map a.eval++caps)/\RepL W g.G g.φ l ys:=by
    cases hf<;>simp only[Zg5,reduceCtorEq]at he⊢
    ·rename_i f cs ys hcl hcr
     exact⟨f,_,args.map a.eval++ys,rfl,⟨#[],ys,rfl,by simp⟩,happ hA ⟨hcl,hcr⟩⟩
    ·rename_i f cs ys hcl hcr
     exact⟨f,_,ys++args.map a.eval,rfl,⟨ys, #[],rfl,by simp⟩,happ ⟨hcl,hcr⟩ hA⟩
   obtain⟨first,caps,rfl,rfl⟩:=hres
   rw[hfa]at he
   simp only at he
   split at he
   ·rename_i r0 hr0
    simp only[Xac]at he
    subst he
    obtain⟨e1,e2⟩:=Zhi hs h (hΓ.p _ _ _ hr0) hL o.dst
    refine Zey (f:=f) (xs:=first++args.map a.eval++caps) ?_ e2 fun y W' ⟨g',h1,h2,h3⟩=>hnext g' _ _ ?_ (by grind[Za1])
    ·simp_all[execOp,resolve,Deferred.ofValue,invoke]
    ·exact(h.adv h1).put o.dst r0.1 r0.2 y h2 h3
   ·simp only[St.doCall,Xaa]at he
    obtain⟨r0,hr0,rfl⟩:=he
    obtain⟨e1,e2⟩:=Zeo hs h (hΓ.h _ _ _ _ hr0) hL o.dst
    refine Zey (f:=f) (xs:=first++args.map a.eval++caps) ?_ e2 fun y W' ⟨g',hsr⟩=>hnext g' _ _ hsr (by rw[Za1];exact hn)<;>simp_all[execOp,resolve,Deferred.ofValue,invoke]
end Go.Abs
namespace Go.Abs
open Go.RowKit
section
variable {P:Program}{W:World}{G:Nat->Nat}{φ:Nat->Option Nat}
theorem Zzp (em:Bool):∀(n:Nat) (t:TypeId) (ks:List Kd),Ze1 P n t=some ks-> ∀(d:Nat),n<=d-> ∀(cs:List V) (X:Array Value) (off:Nat) (r:Bool),
  RepL W G φ cs X->Zat ks ((cs.drop off).take ks.length) ((cs.drop off).take ks.length)=some r->
  ∃a,(part t X off).run P W= .ok a W/\(Instr.checkKey em d t a).run P W= .ok () W:=by
 intro n
 induction n with
 |zero=>grind[Ze1]
 |succ n ih=>
  intro t ks h d hd cs X off r hX hr
  obtain⟨d,rfl⟩:∃m,d=m+1:=⟨d-1,by omega⟩
  have leaf:∀{u:TypeDesc} {k:Kd},P.underlying t=some u->(∀fs,u≠ .struct fs)->(∀m e,u≠ .array m e)->Zat [k] ((cs.drop off).take 1) ((cs.drop off).take 1)=some r->
    ∃v x,(part t X off).run P W= .ok x W/\Rep W G φ v x:=by
   intro u k hu h1 h2 hr
   obtain⟨v,vs,w,ws,b,r',e1,e2,h3,h4,rfl⟩:=Zdt hr
   have hv':cs[off]? =some v:=by
    have:=congrArg (·[0]?) e1
    grind
   have hlt:off<X.size:=by rw[<-hX.1];grind
   refine⟨v,X[off], ?_,hX.2 off v _ hv' (Xau hlt)⟩<;>simp_all[Zaa,isAgg,part]
  unfold Ze1 at h
  split at h
  ·rename_i k hu
   simp only[Xac]at h;subst h
   obtain⟨v,x,p1,_⟩:=leaf hu (by simp) (by simp) hr
   exact⟨x,p1,by simp[Instr.checkKey,Zaa hu]⟩
  ·rename_i hu
   simp only[Xac]at h;subst h
   obtain⟨v,x,p1,_⟩:=leaf hu (by simp) (by simp) hr
   exact⟨x,p1,by simp[Instr.checkKey,Zaa hu]⟩
  ·rename_i hu
   simp only[Xac]at h;subst h
   obtain⟨v,x,p1,_⟩:=leaf hu (by simp) (by simp) hr
   exact⟨x,p1,by simp[Instr.checkKey,Zaa hu]⟩
  ·rename_i fs hu
   split at h
   ·rename_i hc
    obtain⟨hst,hit⟩:=hc
    simp only[Xab]at h
    obtain⟨ks',hks',h⟩:=h
    split at h
    ·rename_i hct
     simp only[Xac]at h;subst h
     obtain⟨i,hi,his⟩:=Za0 hit
     obtain⟨hl1,_⟩:=Zao hr
     have ha:(isAgg t).run P W= .ok true W:=by simp_all[Zaa,isAgg]
     refine⟨.agg (X.extract off (off+i.size)),by simp[part,ha,Zaf hi], ?_⟩
     have hs0:i.size=ks'.length:=by rw[his,hct]
     have hcX:RepL W G φ ((cs.drop off).take ks'.length) (X.extract off (off+i.size)):=by
      rcases Xcu ks'.length with h0|h0
      ·rw[hs0,h0];exact⟨by simp;omega,fun i c x hc=>by simp at hc⟩
      ·have:=hX.cut off i.size (by grind);grind
     simp only[Instr.checkKey,Sem.run_bind,Zaa hu,Result.andThen_ok]
     rw[<-Array.forIn_toList]
     have key:∀(fl:List Field) (o:Nat) (kl:List Kd) (r:Bool),Zcu (Ze1 P n) P.cellsOf o fl=some kl->Zat kl (((cs.drop off).take ks'.length).drop o) (((cs.drop off).take ks'.length).drop o)=some r->
       (forIn (m:=Sem) fl PUnit.unit fun(f:Field) _=>do
        if f.name ≠ "_" then
         Instr.checkKey em d f.type (<-part f.type (X.extract off (off+i.size)) f.offset)
         pure (ForInStep.yield PUnit.unit)
        else pure (ForInStep.yield PUnit.unit)).run P W= .ok PUnit.unit W:=by
      intro fl
      induction fl with
      |nil=>simp_all
      |cons f fl ihf=>
       intro o kl r h1 h2
       simp only[Zcu,Xab]at h1
       obtain⟨k0,hk0,h1⟩:=h1
       split at h1
       ·rename_i hcf
        obtain⟨hn,ho,hcl⟩:=hcf
        simp only[Xaa]at h1
        obtain⟨k1,hk1,rfl⟩:=h1
        obtain⟨hL1,_⟩:=Zao h2
        simp only[Xaf]at hL1
        have sp:∀(l:List V),l=l.take k0.length++l.drop k0.length:=fun l=>(Xa8 _ _).symm
        rw[sp (((cs.drop off).take ks'.length).drop o)]at h2
        obtain⟨r1,r2,h3,h4,rfl⟩:=Zc9 (by rw[Xbd,hL1];omega) (by rw[Xbd,hL1];omega) h2
        obtain⟨a,p1,p2⟩:=ih f.type k0 hk0 d (by omega) _ _ o r1 hcX h3
        rw[Xcn]at h4
        have h5:=ihf (o+k0.length) k1 r2 hk1 h4
        subst ho
        simp only[List.forIn_cons,Sem.run_bind,hn,ne_eq,not_false_eq_true,if_true,Result.andThen_ok,p1,p2,Sem.run_pure]
        exact h5
       ·simp at h1
     exact(congrArg (fun z=>Result.andThen z fun a w'=>Sem.run P (pure ()) w') (key fs.toList 0 ks' r hks' (by simpa using hr))).trans rfl
    ·simp at h
   ·simp at h
  ·rename_i m e hu
   simp only[Xab]at h
   obtain⟨k1,hk1,h⟩:=h
   split at h
   ·rename_i hc
    obtain⟨hce,hie,hit,hct⟩:=hc
    simp only[Xac]at h;subst h
    obtain⟨i,hi,his⟩:=Za0 hit
    obtain⟨ie,hie',hies⟩:=Za0 hie
    have hkl:(List.replicate m k1).flatten.length=m*k1.length:=by simp
    rw[hkl]at hr
    obtain⟨hl1,_⟩:=Zao hr
    rw[hkl]at hl1
    have ha:(isAgg t).run P W= .ok true W:=by simp_all[Zaa,isAgg]
    refine⟨.agg (X.extract off (off+i.size)),by simp[part,ha,Zaf hi], ?_⟩
    have hs0:i.size=m*k1.length:=by rw[his,hct]
    have hcX:RepL W G φ ((cs.drop off).take (m*k1.length)) (X.extract off (off+i.size)):=by
     rcases Xcu (m*k1.length)with h0|h0
     ·rw[hs0,h0];exact⟨by simp;omega,fun i c x hc=>by simp at hc⟩
     ·have:=hX.cut off i.size (by grind);grind
    simp only[Instr.checkKey,Sem.run_bind,Zaa hu,Result.andThen_ok]
    simp only[Std.Legacy.Range.forIn_eq_forIn_range',Std.Legacy.Range.size,Nat.sub_zero,Nat.add_one_sub_one,Nat.div_one]
    have key:∀(c j:Nat) (r:Bool),Zat (List.replicate c k1).flatten (((cs.drop off).take (m*k1.length)).drop (j*k1.length)) (((cs.drop off).take (m*k1.length)).drop (j*k1.length))=some r->
      (forIn (m:=Sem) (List.range' j c) PUnit.unit fun(i':Nat) _=>do
       Instr.checkKey em d e (<-part e (X.extract off (off+i.size)) (i'*(<-sizeOf e)))
       pure (ForInStep.yield PUnit.unit)).run P W= .ok PUnit.unit W:=by
     intro c
     induction c with
     |zero=>simp_all
     |succ c ihc=>
      intro j r h2
      rw[Xc4,Xcd]at h2
      obtain⟨hL1,_⟩:=Zao h2
      simp only[Xaf]at hL1
      have sp:∀(l:List V),l=l.take k1.length++l.drop k1.length:=fun l=>(Xa8 _ _).symm
      rw[sp (((cs.drop off).take (m*k1.length)).drop (j*k1.length))]at h2
      obtain⟨r1,r2,h3,h4,rfl⟩:=Zc9 (by rw[Xbd,hL1];omega) (by rw[Xbd,hL1];omega) h2
      obtain⟨a,p1,p2⟩:=ih e k1 hk1 d (by omega) _ _ (j*k1.length) r1 hcX h3
      rw[Xcn, <-Xd7]at h4
      have h5:=ihc (j+1) r2 h4
      rw[Xd1]
      simp only[List.forIn_cons,Sem.run_bind,Zaf hie',hies,hce,Result.andThen_ok,p1,p2,Sem.run_pure]
      exact h5
    exact(congrArg (fun z=>Result.andThen z fun a w'=>Sem.run P (pure ()) w') (key m 0 r (by simpa using hr))).trans rfl
   ·simp at h
  ·simp at h
theorem Ziv {t:TypeId}{q:KK}(h:keyK P t=some q):∃ks,Ze1 P 60 t=some ks/\((q=(true,ks)/\((∃fs,P.underlying t=some (.struct fs)) \/(∃m e,P.underlying t=some (.array m e)))) \/
  (q=(false,ks)/\ ∃u,P.underlying t=some u/\(∀fs,u≠ .struct fs)/\(∀m e,u≠ .array m e))):=by
 grind[Option.map_eq_some_iff,keyK,Ze1]
theorem Zxr {ks:List Kd}{k k':V}{r:Bool}(h:Zdr (true,ks) k k'=some r):∃x y,k= .agg x/\k'= .agg y/\Zat ks x y=some r:=by
 cases k<;>cases k'<;>simp only[Zdr,reduceCtorEq]at h
 grind
theorem Zpd {ks:List Kd}{k k':V}{r:Bool}(h:Zdr (false,ks) k k'=some r):k.sc=true/\k'.sc=true/\Zat ks [k] [k']=some r:=by
 grind[Zdr]
theorem Zlt {t:TypeId}{q:KK}{k:V}{x:Value}{r:Bool}(hq:keyK P t=some q)(hk:Rep W G φ k x){k':V}(he:Zdr q k k'=some r):
  ∃ks,Ze1 P 60 t=some ks/\q.2=ks/\RepL W G φ k.cells x.cells/\k.cells.length=ks.length/\(part t x.cells 0).run P W= .ok x W/\Zat ks k.cells k'.cells=some r/\k'.cells.length=ks.length/\(∀x':Value,Rep W G φ k' x'->(part t x'.cells 0).run P W= .ok x' W):=by
 obtain⟨ks,hks,hcase⟩:=Ziv hq
 rcases hcase with⟨rfl,ht⟩|⟨rfl,u,hu,hn1,hn2⟩
 ·have ha:(isAgg t).run P W= .ok true W:=by rcases ht with⟨fs,ht⟩|⟨m,e,ht⟩<;>(simp_all[Zaa,isAgg])
  have hi:∃i,P.info? t=some i/\i.size=ks.length:=by
   have hk':=hks
   unfold Ze1 at hk'
   rcases ht with⟨fs,ht⟩|⟨m,e,ht⟩
   ·grind[Option.bind_eq_some_iff,Za0]
   ·rw[ht]at hk'
    simp only[Xab]at hk'
    obtain⟨k',_,hk'⟩:=hk'
    split at hk'
    ·rename_i hc
     simp only[Xac]at hk';subst hk'
     obtain⟨i,hi,his⟩:=Za0 hc.2.2.1
     simp_all
    ·simp at hk'
  obtain⟨i,hi,his⟩:=hi
  have wagg:∀{ds:List V} {y:Value},ds.length=ks.length->Rep W G φ (.agg ds) y->(part t y.cells 0).run P W= .ok y W:=by
   intro ds y hl hr
   cases hr<;>simp_all[Zaf,part,Value.cells]
  obtain⟨a,b,rfl,rfl,he⟩:=Zxr he
  obtain⟨l1,l2⟩:=Zao he
  exact⟨ks,hks,rfl,hk.cells,l1,wagg l1 hk,he,l2,fun x' hx'=>wagg l2 hx'⟩
 ·have ha:(isAgg t).run P W= .ok false W:=by
   simp_all[Zaa,isAgg]
  have wone:∀{v:V} {y:Value},v.sc=true->Rep W G φ v y->(part t y.cells 0).run P W= .ok y W:=by
   intro v y hs hr
   have hc:y.cells= #[y]:=by
    have:=hr.one hs
    cases y<;>first|rfl|grind[Value.oneCell']
   simp_all[part]
  obtain⟨h1,h2,he⟩:=Zpd he
  obtain⟨l1,l2⟩:=Zao he
  have hc1:k.cells=[k]:=Zgz h1
  have hc2:k'.cells=[k']:=Zgz h2
  exact⟨ks,hks,rfl,hk.cells,by grind,wone h1 hk,by grind,by grind,fun x' hx'=>wone h2 hx'⟩
theorem Zoi {t:TypeId}{q:KK}{k:V}{x:Value}{r:Bool}(em:Bool)(hq:keyK P t=some q)(hk:Rep W G φ k x)(he:Zdr q k k=some r):(Instr.checkKey em 10000 t x).run P W= .ok () W:=by
 obtain⟨ks,hks,_,hL,hl,hp,hf,_,_⟩:=Zlt hq hk he
 obtain⟨a,p1,p2⟩:=Zzp (P:=P) em 60 t ks hks 10000 (by omega) k.cells x.cells 0 r hL (by grind)
 grind
theorem Z26 {t:TypeId}{q:KK}{k k':V}{x x':Value}{r:Bool}(hq:keyK P t=some q)(hk:Rep W G φ k x)(hk':Rep W G φ k' x')(he:Zdr q k k'=some r):(Op.equal t x x').run P W= .ok r W:=by
 obtain⟨ks,hks,_,hL,hl,hp,hf,hl',hp'⟩:=Zlt hq hk he
 obtain⟨a,b,p1,p2,p3⟩:=Zxj (P:=P) 60 t ks hks 10000 (by omega) k.cells k'.cells x.cells x'.cells 0 r hL hk'.cells (by grind)
 rw[hp]at p1;cases p1
 rw[hp' x' hk']at p2;cases p2
 exact p3
def mIdx (q:KK)(k:V):List (V×V)->Option (Option Nat)
 | []=>some none
 |p::r=>(Zdr q k p.1).bind fun b=>if b then some (some 0)else(mIdx q k r).map fun o=>o.map (· +1)
theorem Zm5 {q:KK}{k:V}:∀{l:List (V×V)} {r:Option V},Ze3 q k l=some r-> ∃o,mIdx q k l=some o/\((o=none/\r=none) \/ ∃j p,o=some j/\l[j]? =some p/\r=some p.2)
 | [],r,h=>by simp only[Ze3,Xac]at h;exact⟨none,rfl, .inl ⟨rfl,h.symm⟩⟩
 |p::l,r,h=>by
  simp only[Ze3,Xab]at h
  obtain⟨b,hb,h⟩:=h
  cases b with
  |true=>
   simp only[if_true,Xac]at h
   exact⟨some 0,by simp[mIdx,hb], .inr ⟨0,p,rfl,rfl,h.symm⟩⟩
  |false=>
   simp only[Xat,if_false]at h
   obtain⟨o,h1,h2⟩:=Zm5 h
   refine⟨o.map (· +1),by simp[mIdx,hb,h1], ?_⟩
   rcases h2 with⟨rfl,h2⟩|⟨j,p',rfl,h2,h3⟩
   ·exact .inl ⟨rfl,h2⟩
   ·exact .inr ⟨j+1,p',rfl,by simpa using h2,h3⟩
theorem Zru {q:KK}{k x:V}:∀{l l':List (V×V)},mPut q k x l=some l'-> ∃o,mIdx q k l=some o/\((o=none/\l'=l++ [(k,x)]) \/ ∃j p,o=some j/\l[j]? =some p/\Zdr q k p.1=some true/\l'=l.set j (k,x))
 | [],l',h=>by simp only[mPut,Xac]at h;exact⟨none,rfl, .inl ⟨rfl,h.symm⟩⟩
 |p::l,l',h=>by
  simp only[mPut,Xab]at h
  obtain⟨b,hb,h⟩:=h
  cases b with
  |true=>
   simp only[if_true,Xac]at h
   exact⟨some 0,by simp[mIdx,hb], .inr ⟨0,p,rfl,rfl,hb,h.symm⟩⟩
  |false=>
   simp only[Xat,if_false,Xaa]at h
   obtain⟨l1,h,rfl⟩:=h
   obtain⟨o,h1,h2⟩:=Zru h
   refine⟨o.map (· +1),by simp[mIdx,hb,h1], ?_⟩
   rcases h2 with⟨rfl,h2⟩|⟨j,p',rfl,h2,h3,h4⟩
   ·exact .inl ⟨rfl,by rw[h2];rfl⟩
   ·exact .inr ⟨j+1,p',rfl,by simpa using h2,h3,by rw[h4];rfl⟩
def RepM (W:World)(G:Nat->Nat)(φ:Nat->Option Nat)(l:List (V×V))(es:List MapEntry):Prop:=
 l.length=es.length/\ ∀(i:Nat) (p:V×V) (e:MapEntry),l[i]? =some p->es[i]? =some e->Rep W G φ p.1 e.key/\Rep W G φ p.2 e.val
theorem RepM.cons {p:V×V}{l:List (V×V)}{e:MapEntry}{es:List MapEntry}(h:RepM W G φ (p::l) (e::es)):(Rep W G φ p.1 e.key/\Rep W G φ p.2 e.val)/\RepM W G φ l es:=
 ⟨h.2 0 p e rfl rfl,by have:=h.1;grind,fun i p' e' hp he=>h.2 (i+1) p' e' (by simpa using hp) (by simpa using he)⟩
theorem Zve {t:TypeId}{q:KK}{k:V}{x:Value}(hq:keyK P t=some q)(hk:Rep W G φ k x):∀{l:List (V×V)} {es:List MapEntry} {o:Option Nat} (i:Nat),RepM W G φ l es->mIdx q k l=some o->
  (Instr.findAsking t x es i).run P W= .ok (o.bind fun j=>(es[j]?).map fun e=>(i+j,e.val)) W
 | [],[],o,i,_,h=>by simp only[mIdx,Xac]at h;subst h;rfl
 | [],e::es,o,i,hM,_=>by have:=hM.1;simp at this
 |p::l,[],o,i,hM,_=>by have:=hM.1;simp at this
 |p::l,e::es,o,i,hM,h=>by
  obtain⟨⟨h1,h2⟩,hM'⟩:=hM.cons
  simp only[mIdx,Xab]at h
  obtain⟨b,hb,h⟩:=h
  have heq:=Z26 hq hk h1 hb
  cases b with
  |true=>
   simp only[if_true,Xac]at h
   subst h
   simp[Instr.findAsking,heq]
  |false=>
   simp only[Xat,if_false,Xaa]at h
   obtain⟨o',ho,rfl⟩:=h
   have ih:=Zve hq hk (i+1) hM' ho
   simp only[Instr.findAsking,Sem.run_bind,heq,Result.andThen_ok,Xat,if_false,ih]
   cases o' with
   |none=>rfl
   |some j=>simp[Xeg,Nat.add_comm 1 j]
theorem Zvy {t:TypeId}{q:KK}{k:V}{x:Value}{u:TypeDesc}(hu:P.underlying t=some u)(hq:keyK P t=some q)(h1:∀fs,u≠ .struct fs)(h2:∀m e,u≠ .array m e)(hk:Rep W G φ k x):∀{l:List (V×V)} {es:List MapEntry} {o:Option Nat} (i:Nat),RepM W G φ l es->mIdx q k l=some o->
  Instr.findNow u x es i=some (o.bind fun j=>(es[j]?).map fun e=>(i+j,e.val))
 | [],[],o,i,_,h=>by simp only[mIdx,Xac]at h;subst h;rfl
 | [],e::es,o,i,hM,_=>by have:=hM.1;simp at this
 |p::l,[],o,i,hM,_=>by have:=hM.1;simp at this
 |p::l,e::es,o,i,hM,h=>by
  obtain⟨⟨g1,g2⟩,hM'⟩:=hM.cons
  simp only[mIdx,Xab]at h
  obtain⟨b,hb,h⟩:=h
  have hsame:Instr.sameNow u x e.key=some b:=by
   obtain⟨ks,hks,hcase⟩:=Ziv hq
   rcases hcase with⟨_,ht⟩|⟨rfl,_⟩
   ·grind
   obtain⟨_,_,hb'⟩:=Zpd hb
   clear hb h
   unfold Ze1 at hks
   rw[hu]at hks
   have fin:∀kd:Kd,ks=[kd]->kdEq kd k p.1=some b:=by
    grind[Option.bind_eq_some_iff,Zat]
   cases u with
   |bool=>
    simp only[Xac]at hks
    have hkd:=fin _ hks.symm
    generalize p.1=pk at hkd g1
    generalize e.key=ek at g1⊢
    cases hk<;>simp only[kdEq,reduceCtorEq]at hkd
    cases g1<;>simp only[kdEq,reduceCtorEq]at hkd
    grind[Instr.sameNow]
   |int kk=>
    simp only[Xac]at hks
    have hkd:=fin _ hks.symm
    generalize p.1=pk at hkd g1
    generalize e.key=ek at g1⊢
    cases hk<;>simp only[kdEq,reduceCtorEq]at hkd
    cases g1<;>simp only[kdEq,reduceCtorEq]at hkd
    grind[Instr.sameNow]
   |string=>
    simp only[Xac]at hks
    have hkd:=fin _ hks.symm
    generalize p.1=pk at hkd g1
    generalize e.key=ek at g1⊢
    obtain⟨c1,c2,rfl,rfl,rfl⟩:∃c1 c2,k= .str c1/\pk= .str c2/\b=decide (c1=c2):=by
     cases k<;>cases pk<;>simp only[kdEq,reduceCtorEq,Xac]at hkd
     grind
    cases hk with
    |str _ s1 e1=>
    cases g1 with
    |str _ s2 e2=>
    simp only[Instr.sameNow,Xac]
    have hiff:(s1=s2)<->s1.data.toList=s2.data.toList:=by
     constructor
     ·intro e;rw[e]
     ·intro e
      obtain⟨⟨a⟩⟩:=s1;obtain⟨⟨b⟩⟩:=s2
      grind
    grind[MapKept.bytes_beq]
   |struct fs=>grind
   |array m e'=>grind
   |_=>simp at hks
  cases b with
  |true=>
   grind[Instr.findNow]
  |false=>
   simp only[Xat,if_false,Xaa]at h
   obtain⟨o',ho,rfl⟩:=h
   have ih:=Zvy hu hq h1 h2 hk (i+1) hM' ho
   simp only[Instr.findNow,hsame,ih]
   cases o'<;>grind
theorem Zr4 {t:TypeId}{q:KK}{k:V}{x:Value}(hq:keyK P t=some q)(hk:Rep W G φ k x){l:List (V×V)}{es:List MapEntry}{o:Option Nat}(hM:RepM W G φ l es)(h:mIdx q k l=some o):
  (Instr.findKey t x es).run P W= .ok (o.bind fun j=>(es[j]?).map fun e=>(j,e.val)) W:=by
 obtain⟨ks,hks,hcase⟩:=Ziv hq
 rcases hcase with⟨_,ht⟩|⟨_,u,hu,h1,h2⟩
 ·grind[run_findKey_eq,Zve]
 ·have:=Zvy hu hq h1 h2 hk 0 hM h
  simp_all[MapKept.run_findKey]
theorem Zxk {kd:Kd}{v w:V}{x y:Value}(hv:Rep W G φ v x)(hw:Rep W G φ w y)(h:kdEq kd v w=some true)(n:Nat):Instr.sameBits n y x=true:=by
 unfold kdEq at h
 split at h
 ·cases hv;cases hw<;>simp_all[Instr.sameBits]
 ·cases hv;cases hw
  rename_i s1 e1 s2 e2
  simp only[Xac,decide_eq_true_eq]at h
  have:s2=s1:=by
   rw[<-e1, <-e2]at h
   obtain⟨⟨a⟩⟩:=s1;obtain⟨⟨b⟩⟩:=s2
   grind
  grind[MapKept.bytes_beq,Instr.sameBits]
 ·cases hv;cases hw<;>simp_all[Instr.sameBits]
 ·cases h
theorem Znh (n:Nat):∀{ks:List Kd} {cs ds:List V} {X Y:List Value},Zat ks cs ds=some true->cs.length=X.length->ds.length=Y.length->(∀(i:Nat) (c:V) (x:Value),cs[i]? =some c->X[i]? =some x->Rep W G φ c x)->(∀(i:Nat) (c:V) (x:Value),ds[i]? =some c->Y[i]? =some x->Rep W G φ c x)->
  ((Y.zip X).all fun(x,y)=>Instr.sameBits n x y)=true
 | [],cs,ds,X,Y,h,l1,l2,_,_=>by
  obtain⟨e1,e2⟩:=Zao h
  have:Y=[]:=Xc3.1 (by grind)
  subst this;rfl
 |kd::ks,cs,ds,X,Y,h,l1,l2,hX,hY=>by
  obtain⟨c,cs',d,ds',b,r',rfl,rfl,h1,h2,h3⟩:=Zdt h
  have hb:b=true/\r'=true:=by grind
  obtain⟨rfl,rfl⟩:=hb
  cases X with
  |nil=>simp at l1
  |cons x X=>
   cases Y with
   |nil=>simp at l2
   |cons y Y=>
    have ih:=Znh n h2 (by simpa using l1) (by simpa using l2) (fun i c x hc hx=>hX (i+1) c x (by simpa using hc) (by simpa using hx)) (fun i c x hc hx=>hY (i+1) c x (by simpa using hc) (by simpa using hx))
    simp only[List.zip_cons_cons,Xcs,ih,Xce]
    exact Zxk (hX 0 c x rfl rfl) (hY 0 d y rfl rfl) h1 n
theorem Zu5 {t:TypeId}{q:KK}{k k':V}{x x':Value}(hq:keyK P t=some q)(hk:Rep W G φ k x)(hk':Rep W G φ k' x')(he:Zdr q k k'=some true):(Instr.keyThatStays x' x).run P W= .ok x W:=by
 obtain⟨ks,hks,_,hL,hl,hp,hf,hl',hp'⟩:=Zlt hq hk he
 have hb:Instr.sameBits 10000 x' x=true:=by
  obtain⟨b,ks'⟩:=q
  cases b with
  |true=>
   obtain⟨c1,c2,rfl,rfl,he⟩:=Zxr he
   cases hk with
   |agg _ X hlX _ hrX=>
    cases hk' with
    |agg _ Y hlY _ hrY=>
     simp only[Instr.sameBits,Xai,beq_iff_eq]
     have hf':=Zao he
     refine⟨by omega, ?_⟩
     exact Znh 9999 he (by simpa using hlX) (by simpa using hlY) (fun i c x hc hx=>hrX i c x hc (by simpa using hx)) (fun i c x hc hx=>hrY i c x hc (by simpa using hx))
  |false=>
   obtain⟨_,_,he⟩:=Zpd he
   cases ks'<;>grind[Option.bind_eq_some_iff,Option.map_eq_some_iff,Zxk,Zat]
 simp[Instr.keyThatStays,hb]
theorem Zx4 {t:TypeId}{zv:V}(h:Ziz P t=some zv):∃z,(zeroValue t).run P W= .ok z W/\Rep W G φ zv z:=by
 unfold Ziz at h
 split at h
 ·rename_i i hi
  split at h
  ·rename_i xs hz
   simp only[Xaa]at h
   obtain⟨vs,hvs,rfl⟩:=h
   obtain⟨z,h1,h2,h3⟩:=Zgo (W:=W) (G:=G) (φ:=φ) hvs
   have h1W:=h1 W
   have e:z= .agg xs:=by
    simp_all[Zcd,zeroValue]
   subst e
   exact⟨_,h1W, .agg vs xs h2.1 h3 h2.2⟩
  ·rename_i x hna hz
   split at h
   ·rename_i v hvs
    simp only[Xac]at h;subst h
    obtain⟨z,h1,h2,h3⟩:=Zgo (W:=W) (G:=G) (φ:=φ) hvs
    have h1W:=h1 W
    have e:z=x:=by
     simp_all[Zcd,zeroValue]
    subst e
    refine⟨_,h1W, ?_⟩
    have hc:z.cells= #[z]:=by
     cases z<;>first|rfl|grind
    exact h2.2 0 v z rfl (by rw[hc];rfl)
   ·cases h
  ·cases h
 ·cases h
end
variable {cx:Cx}{w:World}{B:Nat->Prop}{GB:Gh}{g:Gh}{st:St}{a:Act}{W:World}{Γ:Spec}
theorem Zt5 {H:Hp}{id:Nat}{l:List (V×V)}(h:hMap H id=some l):H id=some (.mp l):=by
 grind[hMap]
theorem Zwz (h:SR w B GB g st a W){m:V}{x:Value}{l:List (V×V)}(hm:Rep W g.G g.φ m x)(hl:Zjz st.H m=some l):
  (x= .map none/\l=[]/\m= .nilmap) \/ ∃id b es ck,m= .map id/\x= .map (some b)/\g.φ id=some b/\st.H id=some (.mp l)/\W.heap[b]? =some (.map es ck)/\RepM W g.G g.φ l es.toList:=by
 cases hm<;>simp only[Zjz,reduceCtorEq,Xac]at hl
 ·rename_i id b hφ
  have hH:=Zt5 hl
  obtain⟨b',es,ck,h1,h2,h3,h4⟩:=h.ob id _ hH
  rw[hφ]at h1;cases h1
  exact .inr ⟨id,b,es,ck,rfl,rfl,hφ,hH,h2,by simpa using h3,fun i p e hp he=>h4 i p e hp (by simpa using he)⟩
 grind
theorem Z3n (h:SR w B GB g st a W){P:Program}{t kt et:TypeId}{q:KK}{z m k v:V}{ok:Bool}{xm xk:Value}(ht:P.underlying t=some (.map kt et))(hq:keyK P kt=some q)(hz:Ziz P et=some z)
  (hm:Rep W g.G g.φ m xm) (hk:Rep W g.G g.φ k xk) (hv:vMlk st.H q z ok m k=some v):∃y,(Instr.lookup t xm xk ok).run P W= .ok y W/\Rep W g.G g.φ v y:=by
 unfold vMlk at hv
 simp only[Xab]at hv
 obtain⟨l,hl,hv⟩:=hv
 split at hv
 ·rename_i hkk
  simp only[Xaa]at hv
  obtain⟨r,hr,rfl⟩:=hv
  obtain⟨o,ho,hor⟩:=Zm5 hr
  obtain⟨zx,hz1,hz2⟩:=Zx4 (W:=W) (G:=g.G) (φ:=g.φ) hz
  have pair:∀(v:V) (b:Bool) (y:Value),Rep W g.G g.φ v y->Rep W g.G g.φ (.tup [v, .bool b]) (.tuple #[y, .bool b]):=fun v b y hv=> .tup _ _ rfl fun i c x hc hx=>by
   rcases i with _|_|i
   ·grind
   ·simp at hc hx;subst hc;subst hx;exact .bool _
   ·simp at hc
  have core:∀{es:Array MapEntry},RepM W g.G g.φ l es.toList-> ∃y,(do
    Instr.checkKey es.isEmpty 10000 kt xk
    let (v,ok')<-match<-Instr.findKey kt xk es.toList with
     |some (_,v)=>pure (v,true)
     |none=>pure (<-zeroValue et,false)
    pure (if ok then .tuple #[v, .bool ok']else v):Sem Value).run P W= .ok y W/\Rep W g.G g.φ (if ok then .tup [r.getD z, .bool r.isSome]else r.getD z) y:=by
   intro es hM
   have hfk:=Zr4 hq hk hM ho
   have hck:=Zoi (P:=P) es.isEmpty hq hk hkk
   rcases hor with⟨rfl,rfl⟩|⟨j,p,rfl,hp,rfl⟩
   ·refine⟨if ok then .tuple #[zx, .bool false]else zx,by simp[hck,hfk,hz1], ?_⟩<;>grind
   ·have hlt:=(Xak.1 hp).1
    have hlt':j<es.toList.length:=by rw[<-hM.1];exact hlt
    obtain⟨_,hv2⟩:=hM.2 j p _ hp (Xad hlt')
    simp only[Xaw,Xad hlt',Xay]at hfk
    refine⟨if ok then .tuple #[(es.toList[j]).val, .bool true]else(es.toList[j]).val,by simp[hck,hfk], ?_⟩<;>grind
  unfold Instr.lookup
  rcases Zwz h hm hl with⟨rfl,rfl,_⟩|⟨id,b,es,ck,_,rfl,_,_,hb,hM⟩
  ·obtain⟨y,h1,h2⟩:=core (es:= #[]) ⟨rfl,fun i p e hp=>by simp at hp⟩
   refine⟨y, ?_,h2⟩
   simp only[Sem.run_bind,Zaa ht,Result.andThen_ok,Sem.run_pure]at h1⊢
   exact h1
  ·obtain⟨y,h1,h2⟩:=core hM
   refine⟨y, ?_,h2⟩
   simp only[Sem.run_bind,Zaa ht,Result.andThen_ok,Sem.run_pure,MapKept.run_getObj_map hb]at h1⊢
   exact h1
 ·cases hv
theorem SR.newMpW (h:SR w B GB g st a W):∃g',SR w B GB g' st.newMp a (W.alloc (.map #[] 0))/\g'.φ st.nH=some W.heap.size:=by
 obtain⟨W',hW'⟩:∃W',W'=W.alloc (.map #[] 0):=⟨_,rfl⟩
 have hb:Below W.heap.size W W':=by grind[Zce]
 have hsz:W'.heap.size=W.heap.size+1:=by rw[hW'];simp
 have hblk:W'.heap[W.heap.size]? =some (.map #[] 0):=by grind[heap_alloc_new]
 rw[<-hW']
 have hB:B W.heap.size:=h.hB _ h.below.size
 have hfr:∀id,st.nH<=id->g.φ id=none:=by
  intro id hid
  cases hφ:g.φ id with
  |none=>rfl
  |some b=>have:=(h.φ id b hφ).2.2;omega
 have hadv:=Adv.new h 0 none none hb hsz
 have hG:(fun b=>if b=W.heap.size then 0 else g.G b)=g.G:=by
  funext b;split
  ·rename_i e;rw[e];exact(h.Gz _ (Xae _)).symm
  ·rfl
 rw[hG]at hadv
 have h1:=h.adv hadv
 simp only[St.take]at h1
 have hk:Keeps W g.G g.φ W' g.G (upd g.φ st.nH (some W.heap.size)):=⟨hadv.keeps.cell,fun _=>Xae _,fun id b hφ=>by
  grind[upd],fun id b' hb'=>Zji (hb.block _ (h.φ id b' hb').2.1)⟩
 have hk2:Keeps W' g.G g.φ W' g.G (upd g.φ st.nH (some W.heap.size)):=⟨fun _ _ _=>rfl,fun _=>Xae _,hk.φ,fun _ _ _=>rfl⟩
 have hlt:∀id b,g.φ id=some b->b≠W.heap.size:=fun id b hφ e=>by have:=(h.φ id b hφ).2.1;omega
 refine⟨⟨g.G,upd g.φ st.nH (some W.heap.size),fun b=>if b=W.heap.size then none else g.ow b⟩,⟨h1.defers,fun t x hx=>(h1.tm t x hx).keep hk2,fun t x hx ho=>h1.own t x hx ho,fun id o hH=> ?_,fun id hid=> ?_,fun id b hφ=> ?_,fun id b hφ=> ?_,fun id id' b e1 e2 l1 l2=> ?_,h1.Gz,h1.Glo,h1.kp,h1.kG,fun id b e=>hk.φ id b (h.kφ id b e),h1.ksz,h1.below,h1.hB⟩,by simp[upd]⟩
 ·by_cases hid:id=st.nH
  ·subst hid
   simp only[St.newMp,upd,if_true,Xac]at hH
   subst hH
   exact⟨W.heap.size, #[],0,by simp[upd],hblk,rfl,fun i p e hp=>by simp at hp⟩
  ·simp only[St.newMp,upd,hid,if_false]at hH
   refine ObOK.keep (h1.ob id o hH) hk2 (by simp[upd,hid]) (fun _ _=>rfl) (fun j v x hw=>⟨?_,fun hq=>hq⟩)<;>grind[St.newMp]
 ·simp only[St.newMp]at hid⊢
  have:id≠st.nH:=by omega
  simp only[upd,this,if_false]
  exact h.obn id (by omega)
 ·simp only[St.newMp]
  by_cases hid:id=st.nH
  ·grind[upd]
  ·simp only[upd,hid,if_false]at hφ
   obtain⟨q1,q2,q5⟩:=h1.φ id b hφ
   grind
 ·by_cases hid:id=st.nH
  ·grind[upd]
  ·simp only[upd,hid,if_false]at hφ
   exact h1.live id b hφ
 ·by_cases hid:id=st.nH<;>by_cases hid':id'=st.nH
  ·rw[hid,hid']
  ·grind[upd]
  ·grind[upd]
  ·simp only[upd,hid,hid',if_false]at e1 e2
   simp only[St.newMp,upd,hid,hid',if_false]at l1 l2
   exact h.inj id id' b e1 e2 l1 l2
theorem SR.setMp (h:SR w B GB g st a W){id b:Nat}{l l':List (V×V)}{es es':Array MapEntry}{ck ck':Nat}(hH:st.H id=some (.mp l))(hφ:g.φ id=some b)(hblk:W.heap[b]? =some (.map es ck))(hM:RepM W g.G g.φ l' es'.toList):
  SR w B GB g (st.setMp id l') a {W with heap:=W.heap.setIfInBounds b (.map es' ck')}:=by
 obtain⟨W',hW'⟩:∃W':World,W'= {W with heap:=W.heap.setIfInBounds b (.map es' ck')}:=⟨_,rfl⟩
 have hset:=MapKept.heap_set (o':= .map es' ck') hblk
 have hb2:W'.heap[b]? =some (.map es' ck'):=by grind
 have hfar:∀k,k≠b->W'.heap[k]? =W.heap[k]? :=fun k hk=>by grind
 have hsz:W'.heap.size=W.heap.size:=by rw[hW'];simp
 have hos:W'.os=W.os/\W'.tape=W.tape/\W'.output=W.output:=by grind
 rw[<-hW']
 obtain⟨q1,q2,q5⟩:=h.φ id b hφ
 obtain⟨q3,q4⟩:=h.live id b hφ
 have hcz:∀k,Abs.csz W' k=Abs.csz W k:=fun k=>by
  grind[Abs.csz]
 have hk:Keeps W g.G g.φ W' g.G g.φ:=⟨fun k i hi=>World.cell?_of_block (w:=W) (hfar k fun e=>by subst e;omega),fun _=>Xae _,fun _ _ h=>h,fun _ k _=>hcz k⟩
 have hown:∀p v x,OwnAt W B g p v x->OwnAt W' B g p v x:=by
  intro p v x hp sz xs' b' off' len cap sp hv hx
  rcases hp sz xs' b' off' len cap sp hv hx with h1|⟨h1,h2,h3,cs',t',lo,hi,h4,h5,h6⟩<;>grind
 refine⟨h.defers,fun t x hx=>(h.tm t x hx).keep hk,fun t x hx hp=>hown _ _ _ (h.own t x hx hp),fun id' o hH'=> ?_,fun id' hid=> ?_,fun id' b' hφ'=> ?_,h.live,fun i i' c e1 e2 l1 l2=> ?_,fun k hk'=>h.Gz k (by omega),h.Glo,fun k i hi=>(hk.cell k i (Xbn hi (h.kG k))).trans (h.kp k i hi),h.kG,h.kφ,fun i c e=>(hk.sz i c (h.kφ i c e)).trans (h.ksz i c e),h.below.trans ⟨hos.1,hos.2.1,hos.2.2,by omega,fun k hk'=>hfar k (fun e=>hk' (by grind))⟩,h.hB⟩
 ·by_cases hid:id'=id
  ·subst hid
   simp only[St.setMp,upd,if_true,Xac]at hH'
   subst hH'
   exact⟨b,es',ck',hφ,hb2,by simpa using hM.1,fun i p e hp he=>⟨((hM.2 i p e hp (by simpa using he)).1).keep hk,((hM.2 i p e hp (by simpa using he)).2).keep hk⟩⟩
  ·simp only[St.setMp,upd,hid,if_false]at hH'
   refine ObOK.keep (h.ob id' o hH') hk rfl (fun c hc=>hfar c fun e=> ?_) (fun j v x hw=>⟨?_,fun hq=>hown _ _ _ hq⟩)
   ·subst e
    exact hid (h.inj id' id c hc hφ (by rw[hH'];simp) (by rw[hH];simp))
   grind[St.setMp]
 ·simp only[St.setMp]at hid⊢
  have:id'≠id:=fun e=>by omega
  simp only[upd,this,if_false]
  exact h.obn id' hid
 ·obtain⟨r1,r2,r5⟩:=h.φ id' b' hφ'
  exact⟨r1,by omega,r5⟩
 ·have key:∀j,(st.setMp id l').H j≠none->st.H j≠none:=fun j hj=>by
   by_cases e:j=id<;>simp_all[St.setMp,upd]
  exact h.inj i i' c e1 e2 (key i l1) (key i' l2)
theorem Z2v (h:SR w B GB g st a W){P:Program}{t kt et:TypeId}{q:KK}{m k x:V}{xm xk xx:Value}{st':St}(ht:P.underlying t=some (.map kt et))(hq:keyK P kt=some q)
  (hm:Rep W g.G g.φ m xm) (hk:Rep W g.G g.φ k xk) (hx:Rep W g.G g.φ x xx) (hv:st.upMp q m k x=some st'):∃W',(Instr.mapUpdate t xm xk xx).run P W= .ok () W'/\SR w B GB g st' a W':=by
 unfold St.upMp at hv
 split at hv
 rotate_left
 ·cases hv
 rename_i id
 simp only[Xab]at hv
 obtain⟨l,hl,hv⟩:=hv
 split at hv
 rotate_left
 ·cases hv
 rename_i hkk
 simp only[Xaa]at hv
 obtain⟨l',hl',rfl⟩:=hv
 obtain⟨o,ho,hor⟩:=Zru hl'
 rcases Zwz h hm (m:= .map id) (show Zjz st.H (.map id)=some l from hl)with⟨_,_,e⟩|⟨id',b,es,ck,e,rfl,hφ,hH,hblk,hM⟩
 ·cases e
 cases e
 have hfk:=Zr4 hq hk hM ho
 have hck:=Zoi (P:=P) false hq hk hkk
 rcases hor with⟨rfl,rfl⟩|⟨j,p,rfl,hp,hke,rfl⟩
 ·refine⟨_, ?_,h.setMp (es':=es.push {key:=xk,val:=xx,born:=ck}) (ck':=ck+1) hH hφ hblk ?_⟩
  ·simp only[Option.bind_none]at hfk
   simp[Instr.mapUpdate,Zaa ht,MapKept.run_getObj_map hblk,hck,hfk,MapKept.run_setObj_map _ hblk]
  ·have hl0:l.length=es.size:=by simpa using hM.1
   refine⟨by simp[hl0],fun i p e hp he=> ?_⟩
   simp only[Array.toList_push]at he
   rcases Xa6 i l.length with hlt|hge
   ·rw[Xbx hlt]at hp
    rw[Xbx (by grind)]at he
    exact hM.2 i p e hp he
   grind
 ·have hlt:=(Xak.1 hp).1
  have hlt':j<es.toList.length:=by rw[<-hM.1];exact hlt
  have hlt2:j<es.size:=by omega
  obtain⟨hr1,_⟩:=hM.2 j p _ hp (Xad hlt')
  have hst:=Zu5 (P:=P) hq hk hr1 hke
  simp only[Xaw,Xad hlt',Xay]at hfk
  refine⟨_, ?_,h.setMp (es':=es.modify j fun e=> {e with key:=xk,val:=xx}) (ck':=ck) hH hφ hblk ?_⟩
  ·have hkey:((es[j]?).map (·.key)).getD xk=(es.toList[j]).key:=by grind
   simp[Instr.mapUpdate,Zaa ht,MapKept.run_getObj_map hblk,hck,hfk,MapKept.run_setObj_map _ hblk]
   simp only[Array.getElem_toList]at hst
   simp[hst,hlt2,MapKept.run_setObj_map _ hblk]
  ·have hl0:l.length=es.size:=by simpa using hM.1
   refine⟨by simp[hl0],fun i p' e hp' he=> ?_⟩
   have he':(es.modify j fun e=> {e with key:=xk,val:=xx})[i]? =some e:=by grind
   rw[Array.getElem?_modify]at he'
   by_cases hij:j=i
   ·grind
   ·rw[if_neg hij]at he'
    rw[List.getElem?_set_ne hij]at hp'
    exact hM.2 i p' e hp' (by grind)
theorem Z1l (h:SR w B GB g st a W){P:Program}{t kt et ty:TypeId}{m v:V}{xm:Value}(ht:P.underlying t=some (.map kt et))(hm:Rep W g.G g.φ m xm)(hv:vMln st.H m=some v):
  ∃y,(Builtin.len_ #[t] ty #[xm]).run P W= .ok y W/\Rep W g.G g.φ v y:=by
 unfold vMln at hv
 simp only[Xaa]at hv
 obtain⟨l,hl,rfl⟩:=hv
 rcases Zwz h hm hl with⟨rfl,rfl,_⟩|⟨id,b,es,ck,_,rfl,_,_,hb,hM⟩
 ·exact⟨.int .i64 0,by simp[Builtin.len_,Zaa ht,goInt], .int _ _⟩
 ·refine⟨.int .i64 (es.size:Int),by simp[Builtin.len_,Zaa ht,goInt,MapKept.run_getObj_map hb], ?_⟩
  have:l.length=es.size:=by simpa using hM.1
  rw[this];exact .int _ _
end Go.Abs
namespace Go.Abs
open Go.RowKit
variable {cx:Cx}{w:World}{B:Nat->Prop}{GB:Gh}{g:Gh}{st:St}{a:Act}{W:World}{Γ:Spec}
inductive RowOp (P:Program)(n:Nat)(op:Op):AOp->Prop
 |nro (sz:Nat) (h:op= .move (.const (.slice none 0 0)) \/op= .assign (.const (.slice none 0 0))):RowOp P n op (.nro sz)
 |clo (f:Nat) (args:Array Operand) (ts:Array TypeId) (xs:List Opd) (h:op= .call {callee:= .value (.func f),args:=args,argTypes:=ts}) (hx:Zf4 P n ts.toList args.toList=some xs):RowOp P n op (.callh f xs)
 |nrb (sz:Nat) (t:TypeId) (hs:slE P t=some sz) (h:op= .buildSlice t 0 #[]):RowOp P n op (.nro sz)
 |mko (t e:TypeId) (l c:Operand) (sz:Nat) (z:List V) (l' c':Opd) (h:op= .makeSlice t l c) (hs:slE P t=some sz) (hu:P.underlying t=some (.slice e)) (hz:Zd7 P e=some z) (h1:cOpd P n 0 l=some l') (h2:cOpd P n 0 c=some c'):RowOp P n op (.mko sz z l' c')
 |appo (s x:Operand) (t tx:TypeId) (sz:Nat) (s' x':Opd) (cl:Call) (h:op= .call cl) (hcl:cl.callee= .builtin .append) (ha:cl.args= #[s,x]) (ht:cl.argTypes= #[t,tx]) (hs:slE P t=some sz)
   (hk:(isSl P tx||Zp8 P tx)=true) (h1:cOpd P n t s=some s') (h2:cOpd P n tx x=some x'):RowOp P n op (.appo sz s' x')
 |cpy (d s:Operand) (t ts:TypeId) (d' s':Opd) (cl:Call) (h:op= .call cl) (hcl:cl.callee= .builtin .copy) (ha:cl.args= #[d,s]) (ht:cl.argTypes= #[t,ts]) (hs:slE P t=some 1) (hk:Zp8 P ts=true) (h1:cOpd P n t d=some d') (h2:cOpd P n ts s=some s'):RowOp P n op (.cpy d' s')
 |clr (d:Operand) (t e:TypeId) (z:List V) (d':Opd) (cl:Call) (h:op= .call cl) (hcl:cl.callee= .builtin .clear) (ha:cl.args= #[d]) (ht:cl.argTypes= #[t]) (hu:P.underlying t=some (.slice e)) (hz:Zd7 P e=some z) (hl:z.length=1) (h1:cOpd P n t d=some d'):RowOp P n op (.clr z d')
 |nmp (t:TypeId) (h:op= .makeMap t none):RowOp P n op .nmp
 |mlk (t kt et:TypeId) (m k:Operand) (ok:Bool) (q:KK) (z:V) (m' k':Opd) (h:op= .lookup t m k ok) (hu:P.underlying t=some (.map kt et)) (hq:keyK P kt=some q) (hz:Ziz P et=some z) (h1:cOpd P n 0 m=some m') (h2:cOpd P n kt k=some k'):RowOp P n op (.mlk q z ok m' k')
 |mup (t kt et:TypeId) (m k x:Operand) (q:KK) (m' k' x':Opd) (h:op= .mapUpdate t m k x \/op= .insert t m k x) (hu:P.underlying t=some (.map kt et)) (hq:keyK P kt=some q) (h1:cOpd P n 0 m=some m') (h2:cOpd P n kt k=some k') (h3:cOpd P n et x=some x'):RowOp P n op (.mup q m' k' x')
 |mln (t kt et:TypeId) (m:Operand) (m':Opd) (cl:Call) (h:op= .call cl) (hcl:cl.callee= .builtin .len) (ha:cl.args= #[m]) (ht:cl.argTypes= #[t]) (hu:P.underlying t=some (.map kt et)) (h1:cOpd P n t m=some m'):RowOp P n op (.mln m')
theorem Zyy {α:Type}{xs:Array α}{a b:α}(h:xs.toList=[a,b]):xs= #[a,b]:=by grind
theorem Zya {α:Type}{xs:Array α}{a:α}(h:xs.toList=[a]):xs= #[a]:=by cases xs;simp at h;rw[h]
theorem Ztk {P:Program}{R:TypeId->Bool}{n:Nat}{ops:Array Oper}{o:Oper}{x:AOp}(h:cOpR P R n ops o=some x):cOp P n ops o=some x \/RowOp P n o.op x:=by
 unfold cOpR at h
 split at h
 ·rename_i y hop
  split at h
  ·split at h
   ·simp only[Xaa]at h
    obtain⟨sz,_,rfl⟩:=h
    exact .inr (.nro sz (.inl hop))
   ·exact .inl h
  ·exact .inl h
 ·rename_i y hop
  split at h
  ·split at h
   ·simp only[Xaa]at h
    obtain⟨sz,_,rfl⟩:=h
    exact .inr (.nro sz (.inr hop))
   ·exact .inl h
  ·exact .inl h
 ·rename_i f args ts hop
  split at h
  ·simp only[Xaa]at h
   obtain⟨xs,hxs,rfl⟩:=h
   exact .inr (.clo f args ts xs hop hxs)
  ·exact .inl h
 ·rename_i t hop
  split at h
  ·simp only[Xaa]at h
   obtain⟨sz,hsz,rfl⟩:=h
   exact .inr (.nrb sz t hsz hop)
  ·exact .inl h
 ·rename_i t l c hop
  split at h
  ·simp only[Xab]at h
   obtain⟨sz,hsz,h⟩:=h
   split at h
   ·rename_i e hu
    simp only[Xab]at h
    obtain⟨z,hz,h⟩:=h
    split at h
    ·simp only[Xab,Xaa]at h
     obtain⟨l',h1,c',h2,rfl⟩:=h
     exact .inr (.mko t e l c sz z l' c' hop hsz hu hz h1 h2)
    ·cases h
   ·cases h
  ·exact .inl h
 ·rename_i args ts hop
  split at h
  ·rename_i s x t tx ha ht
   split at h
   ·simp only[Xab]at h
    obtain⟨sz,hsz,h⟩:=h
    split at h
    ·rename_i hk
     simp only[Xab,Xaa]at h
     obtain⟨s',h1,x',h2,rfl⟩:=h
     exact .inr (.appo s x t tx sz s' x' _ hop rfl (Zyy ha) (Zyy ht) hsz hk h1 h2)
    ·cases h
   ·exact .inl h
  ·cases h
 ·rename_i args ts hop
  split at h
  ·rename_i d s t tx ha ht
   simp only[Xab]at h
   obtain⟨sz,hsz,h⟩:=h
   split at h
   ·rename_i hk
    obtain⟨rfl,hk⟩:=hk
    simp only[Xab,Xaa]at h
    obtain⟨d',h1,s',h2,rfl⟩:=h
    exact .inr (.cpy d s t tx d' s' _ hop rfl (Zyy ha) (Zyy ht) hsz hk h1 h2)
   ·cases h
  ·cases h
 ·rename_i args ts hop
  split at h
  ·rename_i d t ha ht
   split at h
   ·rename_i e hu
    simp only[Xab]at h
    obtain⟨z,hz,h⟩:=h
    split at h
    ·rename_i hl
     simp only[Xaa]at h
     obtain⟨d',h1,rfl⟩:=h
     exact .inr (.clr d t e z d' _ hop rfl (Zya ha) (Zya ht) hu hz hl h1)
    ·cases h
   ·cases h
  ·cases h
 ·rename_i t hop
  simp only[Xac]at h;subst h
  exact .inr (.nmp t hop)
 ·rename_i t m k ok hop
  split at h
  ·rename_i kt et hu
   simp only[Xab,Xaa]at h
   obtain⟨q,hq,z,hz,m',h1,k',h2,rfl⟩:=h
   exact .inr (.mlk t kt et m k ok q z m' k' hop hu hq hz h1 h2)
  ·cases h
 ·rename_i t m k x hop
  split at h
  ·rename_i kt et hu
   simp only[Xab,Xaa]at h
   obtain⟨q,hq,m',h1,k',h2,x',h3,rfl⟩:=h
   exact .inr (.mup t kt et m k x q m' k' x' (.inl hop) hu hq h1 h2 h3)
  ·cases h
 ·rename_i t m k x hop
  split at h
  ·rename_i kt et hu
   simp only[Xab,Xaa]at h
   obtain⟨q,hq,m',h1,k',h2,x',h3,rfl⟩:=h
   exact .inr (.mup t kt et m k x q m' k' x' (.inr hop) hu hq h1 h2 h3)
  ·cases h
 ·rename_i args ts hop
  split at h
  ·rename_i x t ha ht
   split at h
   ·rename_i kt et hu
    simp only[Xaa]at h
    obtain⟨m',h1,rfl⟩:=h
    exact .inr (.mln t kt et x m' _ hop rfl (Zya ha) (Zya ht) hu h1)
   ·exact .inl h
  ·cases h
 ·exact .inl h
theorem Z1j {sz:Nat}{ys fs:List V}(h:Zkg sz ys=some fs):(∀y∈ys,y.cells.length=sz/\ ∀c∈y.cells,c.sc=true)/\fs=flat ys:=by
 unfold Zkg at h
 split at h
 ·rename_i hf
  cases h
  refine⟨fun y hy=> ?_,rfl⟩
  have:=Xav.1 hf y hy
  grind
 ·cases h
theorem Zyq {sz:Nat}{ys:List V}(h:∀y∈ys,y.cells.length=sz/\ ∀c∈y.cells,c.sc=true):∀c∈flat ys,c.sc=true:=by
 intro c hc
 obtain⟨y,hy,hc⟩:=Xb3.1 hc
 grind
theorem Zsb {W:World}{G:Nat->Nat}{φ:Nat->Option Nat}{cs fs:List V}{olds news:List Value}{more:Array Value}(ho:olds.length=cs.length)(hn:news.length=fs.length)(h1:∀(j:Nat) (c:V),cs[j]? =some c-> ∃y,olds[j]? =some y/\Rep W G φ c y)
  (h2:∀(j:Nat) (c:V),fs[j]? =some c-> ∃y,news[j]? =some y/\Rep W G φ c y):RepP W G φ (cs++fs) ((olds++news).toArray++more):=by
 refine⟨by simp;omega,fun i c x hc hx=> ?_⟩<;>grind
theorem Zsw (h:SR w B GB g st a W){P:Program}{sz:Nat}{s u v:V}{xs xu:Value}{t tx ty e:TypeId}{ie:TypeInfo}{z:Value}{st':St}
  (ht:P.underlying t=some (.slice e)) (he:P.info? e=some ie) (hz:ie.zero=some z) (hsz:ie.size=sz) (hzs:z.cells.size=sz) (hby:ie.bytes<=4096) (hk:(∃e',P.underlying tx=some (.slice e')) \/P.underlying tx=some .string)
  (hs:Rep W g.G g.φ s xs) (hu:Rep W g.G g.φ u xu) (hv:st.appOb sz s u=some (st',v)):
  ∃y W' g',(Builtin.append_ #[t,tx] ty #[xs,xu]).run P W= .ok y W'/\SR w B GB g' st' a W'/\Rep W' g'.G g'.φ v y:=by
 subst hsz
 unfold St.appOb at hv
 split at hv
 rotate_left
 ·cases hv
 rename_i id len cap s' ys htail
 split at hv
 rotate_left
 ·cases hv
 rename_i cs fs hcs hfs
 split at hv
 rotate_left
 ·cases hv
 rename_i hcond
 obtain⟨rfl,hpos,hlen,hlim⟩:=hcond
 simp only[Xac,Xen]at hv
 obtain⟨rfl,rfl⟩:=hv
 obtain⟨news,hsrc,hfit,hnl,hnr⟩:=Zvx (P:=P) h hk hu htail
 obtain⟨_,rfl⟩:=Z1j hfs
 have hfl:(flat ys).length=ys.length*ie.size:=Zcc fun y hy=>(hfit y hy).1
 have hH:st.H id=some (.cells cs):=Zbd hcs
 have hk0:=h.kill id
 have hscs:∀c∈cs.take (len*ie.size)++flat ys,c.sc=true:=fun c hc=>by
  rcases Xaz.1 hc with hc|hc
  ·exact(h.ob id _ hH).sc c (Xcl hc)
  ·exact Zyq hfit c hc
 have htl:(cs.take (len*ie.size)).length=len*ie.size:=by simp;omega
 have hfitsB:∀(l c:Nat),c<l+ys.length->l=len->Builtin.nextslicecap (l+ys.length) c*ie.bytes<=281474976710656:=fun l c h1 h2=>growslice_fits h1 (by
  subst h2
  have:(l+ys.length)*ie.bytes<=4294967296*4096:=Xc9 (by grind[Lim]) hby
  omega)
 cases hs with
 |osln _ _ _ p=>
  by_cases hy:ys=[]
  ·subst hy
   have hn0:news=[]:=by simpa using hnl
   subst hn0
   refine⟨.slice p 0 0,W,g, ?_, ?_, ?_⟩
   ·simp only[Xa2]at hsrc
    have h1:=hsrc.len
    have h2:=hsrc.cells
    cases p<;>rcases hk with⟨e',hk⟩|hk<;>simp[Builtin.append_,Zaa ht,Zaa hk,Zaf he,h1,h2,storeCells]
   ·have e:cs.take (0*ie.size)++flat []=[]:=by simp[flat]
    rw[e];exact hk0.newNil
   ·exact .osln _ _ _ _
  ·have hpos:0<ys.length:=Xal.2 hy
   have hrun:=run_append_grow_src (P:=P) W t tx ty e ie z ht he hz p 0 0 [] (by cases p<;>grind[run_firstCells_none,Za5]) xu ys.length news hsrc (by omega) (by grind[Lim]) (hfitsB 0 0 (by omega) rfl)
   obtain⟨g',h1,h2⟩:=hk0.newObW (cs:=cs.take (0*ie.size)++flat ys) (Zc4 W _) (by simp) (Zfs W _) (by
    rw[Nat.zero_mul,Xcw,Xbl]
    exact Zsb (W:=W) (G:=g.G) (φ:=g.φ) (cs:=[]) (fs:=flat ys) (olds:=[]) (news:=news) (more:=Builtin.zeroCells z.cells (grownCap W (0+ys.length) 0 e-(0+ys.length))) rfl (by rw[hnl,hfl]) (fun j c hj=>by simp at hj) hnr) hscs
   have hcapG:=grownCap_ge W (0+ys.length) 0 e
   refine⟨_,_,g',hrun,h1, .osl _ _ _ _ _ _ _ h2 (Xae _) (by omega) ?_⟩
   rw[Xao]
   unfold csz;rw[Zfs]
   simp only[Xdu,Xec,Xbl,hnl,size_zeroCells,hzs]
   rw[<-Xb8]
   grind
 |osl _ _ _ _ _ b cap' hφ hlc hc' hcz=>
  obtain⟨ys0,t0,hblk,hrep,hsc0,_⟩:=(h.ob id _ hH).cells hφ
  have hcb:csz W b=ys0.size:=by grind[csz]
  have hdead:∀id',g.φ id'=some b->(st.kill id).H id'=none:=fun id' h'=>by
   simp only[St.kill,upd]
   split
   ·rfl
   ·rename_i hne
    cases hH':st.H id' with
    |none=>rfl
    |some o=>exact absurd (h.inj id' id b h' hφ (by rw[hH'];simp) (by rw[hH];simp)) hne
  obtain⟨hG0,how0⟩:=h.live id b hφ
  have hoverall:len*ie.size<=ys0.size:=Xba hlen hrep.1
  by_cases hroom:len+ys.length<=cap'
  ·have hm1:(len+ys.length)*ie.size<=cap'*ie.size:=Xbr _ hroom
   have hm2:(len+ys.length)*ie.size=len*ie.size+ys.length*ie.size:=Xb8 _ _ _
   have hrun:=run_append_room_src (P:=P) W t tx ty e ie ht he b 0 len cap' xu ys.length news hsrc hroom
    (fun j hj=>by rw[cell_of_row _ b _ ys0 t0 (0,0) hblk];simp;omega) (fun j hj=>by grind[World.frozen?])
   obtain⟨s1,s2,s3,s4⟩:=Zda b news (0+len*ie.size) W
   have hrow:=Zh5 (o:=0+len*ie.size) (vs:=news) hblk (by omega)
   obtain⟨g',h1,h2⟩:=hk0.rebind hφ hdead hG0 how0 hblk hrow (by grind[Zeu]) (fun k hk=>Zbp b _ _ _ _ hk) ⟨s1,s2,s3,s4⟩ (cs:=cs.take (len*ie.size)++flat ys) (by
    refine⟨by grind[Zeu],fun i c x hc hx=> ?_⟩
    simp only[Xct]at hx
    rw[Zde _ _ _ (by simp;omega),Xao]at hx
    rcases Xa6 i (len*ie.size)with hlt|hge
    ·rw[Xbx (by omega),Xdo hlt]at hc
     rw[if_neg (by omega)]at hx
     exact hrep.2 i c x hc (by simpa using hx)
    grind) hscs
   refine⟨_,_,g',hrun,h1, .osl _ _ _ _ _ _ _ h2 (Xae _) hroom ?_⟩
   grind[Zfk]
  ·have holds:∃olds:List Value,olds.length=len*ie.size/\(∀j u,olds[j]? =some u->W.cell? ((⟨b,0,none⟩:Addr).add j)=some u)/\ ∀(j:Nat) (c:V),(cs.take (len*ie.size))[j]? =some c-> ∃y,olds[j]? =some y/\Rep W g.G g.φ c y:=by
    refine⟨ys0.toList.take (len*ie.size),by simp;omega,fun j u hu=> ?_,fun j c hc=> ?_⟩
    ·have hj:=(Xak.1 hu).1
     simp only[Xbd,Xcp]at hj
     rw[Xdo (by omega)]at hu
     rw[Zbx,Xao,cell_of_row _ b _ ys0 t0 (0,0) hblk];simpa using hu
    ·have hj:=(Xak.1 hc).1
     rw[htl]at hj
     rw[Xdo hj]at hc
     exact⟨ys0[j]'(by omega),by grind,hrep.2 j c _ hc (Xau (by omega))⟩
   obtain⟨olds,hol,holc,hor⟩:=holds
   have hrun:=run_append_grow_src (P:=P) W t tx ty e ie z ht he hz (some ⟨b,0,none⟩) len cap' olds (run_firstCells_some W.drew ie.size _ _ _ _ olds hol (by simp_all)) xu ys.length news hsrc (by omega) (by grind[Lim]) (hfitsB len cap' (by omega) rfl)
   obtain⟨g',h1,h2⟩:=hk0.newObW (cs:=cs.take (len*ie.size)++flat ys) (Zc4 W _) (by simp) (Zfs W _) (by
    exact Zsb (W:=W) (G:=g.G) (φ:=g.φ) (more:=Builtin.zeroCells z.cells (grownCap W (len+ys.length) cap' e-(len+ys.length))) (by rw[hol,htl]) (by rw[hnl,hfl]) hor hnr) hscs
   have hcapG:=grownCap_ge W (len+ys.length) cap' e
   refine⟨_,_,g',hrun,h1, .osl _ _ _ _ _ _ _ h2 (Xae _) (by omega) ?_⟩
   rw[Xao]
   unfold csz;rw[Zfs]
   simp only[Xdu,Xec,Xaf,hol,hnl,size_zeroCells,hzs]
   rw[<-Xb8, <-Xb8]
   grind
theorem SR.setOb' (h:SR w B GB g st a W){id b off:Nat}{cs ys:List V}{zs:Array Value}(hH:st.H id=some (.cells cs))(hφ:g.φ id=some b)(hle:off+ys.length<=cs.length)
  (hr:RepL W g.G g.φ ys zs) (hsc:∀c∈ys,c.sc=true):SR w B GB g (st.setOb id cs off ys) a (W.setCells b off zs.toList):=by
 grind[SR.setObj,St.setOb]
theorem Zsj {W:World}{G:Nat->Nat}{φ:Nat->Option Nat}{v:V}{x:Value}(h:Rep W G φ v x){n:Nat}{xs:Array Value}(hn:n<=xs.size)(hx:∀(i:Nat) (y:Value),xs[i]? =some y->y=x):RepP W G φ (List.replicate n v) xs:=by
 refine⟨by simpa using hn,fun i c y hc hy=> ?_⟩<;>grind
theorem Zvs (h:SR w B GB g st a W){P:Program}{sz:Nat}{zero:List V}{l c v:V}{xl xc:Value}{t e:TypeId}{ie:TypeInfo}{z:Value}{st':St}
  (ht:P.underlying t=some (.slice e)) (he:P.info? e=some ie) (hz:ie.zero=some z) (hsz:ie.size=sz) (hby:ie.bytes<=4096) (hzv:Zd7 P e=some zero)
  (hl:Rep W g.G g.φ l xl) (hc:Rep W g.G g.φ c xc) (hv:st.mkOb sz zero l c=some (st',v)):
  ∃y W' g',(Instr.makeSlice t xl xc).run P W= .ok y W'/\SR w B GB g' st' a W'/\Rep W' g'.G g'.φ v y:=by
 unfold St.mkOb at hv
 split at hv
 rotate_left
 ·cases hv
 rename_i kl n kc m
 split at hv
 rotate_left
 ·cases hv
 rename_i zv
 split at hv
 rotate_left
 ·cases hv
 rename_i hcond
 obtain⟨h0,hnm,hlim,hs1,hsc⟩:=hcond
 obtain⟨rfl,rfl⟩:=hv
 cases hl;cases hc
 obtain⟨x,hzc,hrz,_⟩:=Zlv (W:=W) (G:=g.G) (φ:=g.φ) he hz hzv
 have hbig:(ie.bytes:Int)*m<=281474976710656:=by
  unfold Lim at hlim
  obtain⟨k,rfl⟩:∃k:Nat,m=k:=⟨m.toNat,by omega⟩
  have h1:ie.bytes*k<=4096*4294967296:=Xc9 hby (by omega)
  omega
 have hrun:=run_make (P:=P) W t e ie z ht he hz kl kc n m h0 hnm hbig (by grind[Lim])
 obtain⟨g',h1,h2⟩:=h.newObW (cs:=List.replicate n.toNat zv) (Zce W (.cells (madeCells z.cells (m.toNat*ie.size)) e)) (by simp) (heap_alloc_new _ _) (Zsj hrz (by grind[size_madeCells]) (fun i y hy=>by
  simp_all[Nat.mod_one,madeCells])) (fun c hc=>by grind)
 refine⟨_,_,g',hrun,h1, .osl _ _ _ _ _ _ _ h2 (Xae _) (by omega) ?_⟩
 grind[heap_alloc_new,size_madeCells,csz]
theorem Zw2 (h:SR w B GB g st a W){P:Program}{d s v:V}{xd xs:Value}{t ts ty e:TypeId}{ie:TypeInfo}{st':St}
  (ht:P.underlying t=some (.slice e)) (he:P.info? e=some ie) (hsz:ie.size=1) (hd:Rep W g.G g.φ d xd) (hs:Rep W g.G g.φ s xs) (hv:st.cpyOb d s=some (st',v)):
  ∃y W',(Builtin.copy_ #[t,ts] ty #[xd,xs]).run P W= .ok y W'/\SR w B GB g st' a W'/\Rep W' g.G g.φ v y:=by
 unfold St.cpyOb at hv
 split at hv
 rotate_left
 ·cases hv
 rename_i id off len cap ys hsrc
 split at hv
 rotate_left
 ·cases hv
 rename_i cs hcs
 split at hv
 rotate_left
 ·cases hv
 rename_i hcond
 obtain⟨rfl,rfl⟩:=hv
 cases hs<;>simp only[vSrc,reduceCtorEq,Xac]at hsrc
 subst hsrc
 rename_i bs s' hb
 cases hd with
 |osln _ _ _ _=>omega
 |osl _ _ _ _ _ b cap' hφ hlc hc' hcz=>
  have hH:st.H id=some (.cells cs):=Zbd hcs
  obtain⟨ys0,t0,hblk,hrep,hsc0,_⟩:=(h.ob id _ hH).cells hφ
  have hs':s'.size=bs.length:=by rw[<-hb];rfl
  have hel:(encB bs).length=bs.length:=by simp[encB]
  obtain⟨k,hk⟩:∃k,k=Nat.min s'.size len:=⟨_,rfl⟩
  have hk2:k<=bs.length/\k<=len/\(k=bs.length \/k=len):=by
   grind
  have htk:(encB bs).take len=encB (bs.take k):=by
   simp only[encB, <-Xeo]
   grind
  have hrl:RepL W g.G g.φ (encB (bs.take k)) ((bs.take k).map fun b=>Value.int .u8 (b.toNat:Int)).toArray:=by
   refine⟨by simp[encB],fun i c x hc hx=> ?_⟩
   simp only[encB,Xbe,Xaa]at hc
   simp only[Xct,Xbe,Xaa]at hx
   obtain⟨u,hu,rfl⟩:=hc
   obtain⟨u',hu',rfl⟩:=hx
   rw[hu]at hu';cases hu'
   exact .int _ _
  have hle2:off+(encB (bs.take k)).length<=cs.length:=by grind
  have hstore:=run_storeCells_cells (P:=P) b off ((bs.take k).map fun b=>Value.int .u8 (b.toNat:Int)) 0 W (fun j hj=>by
    simp only[Xb2,Xbd]at hj
    rw[cell_of_row _ b _ ys0 t0 (0,0) hblk]
    have:=hrep.1
    simp;omega) (fun j hj=>by grind[World.frozen?]) (fun y hy=>by
    obtain⟨_,_,rfl⟩:=Xa7.1 hy;rfl)
  rw[htk]
  refine⟨.int .i64 (k:Int),_, ?_,h.setOb' hH hφ hle2 hrl (fun c hc=> ?_), ?_⟩
  ·simp_all[Zaa,Zaf,Builtin.copy_,Builtin.lenOf,Builtin.firstCells,goInt]
  ·obtain⟨_,_,rfl⟩:=Xa7.1 hc;rfl
  ·have:(min ((encB bs).length:Int) (len:Int))=(k:Int):=by rw[hel];omega
   rw[this];exact .int _ _
theorem Zuq (h:SR w B GB g st a W){P:Program}{d zv:V}{xd:Value}{t ty e:TypeId}{ie:TypeInfo}{z:Value}{st':St}
  (ht:P.underlying t=some (.slice e)) (he:P.info? e=some ie) (hz:ie.zero=some z) (hzv:Zd7 P e=some [zv]) (hd:Rep W g.G g.φ d xd) (hv:st.clrOb [zv] d=some st'):
  ∃W',(Builtin.clear_ #[t] ty #[xd]).run P W= .ok undef W'/\SR w B GB g st' a W':=by
 unfold St.clrOb at hv
 split at hv
 rotate_left
 ·cases hv
 rename_i id off len cap z1 hz1
 cases hz1
 split at hv
 rotate_left
 ·cases hv
 rename_i cs hcs
 split at hv
 rotate_left
 ·cases hv
 rename_i hcond
 obtain⟨hle,hpos,hsc⟩:=hcond
 simp only[Xac]at hv
 subst hv
 cases hd with
 |osln _ _ _ _=>omega
 |osl _ _ _ _ _ b cap' hφ hlc hc' hcz=>
  have hH:st.H id=some (.cells cs):=Zbd hcs
  obtain⟨ys0,t0,hblk,hrep,hsc0,_⟩:=(h.ob id _ hH).cells hφ
  obtain⟨x,hzc,hrz,hzs⟩:=Zlv (W:=W) (G:=g.G) (φ:=g.φ) he hz hzv
  obtain⟨news,hn⟩:∃news,news=Builtin.zeroCells z.cells len:=⟨_,rfl⟩
  have hns:news.size=len:=by grind[size_zeroCells]
  have hnx:∀(i:Nat) (y:Value),news[i]? =some y->y=x:=fun i y hy=>by
   simp_all[Nat.mod_one,Builtin.zeroCells]
  have hrl:RepL W g.G g.φ (List.replicate len zv) news:=⟨by simp[hns],(Zsj hrz (by omega) hnx).2⟩
  have hstore:=run_storeCells_cells (P:=P) b off news.toList 0 W (fun j hj=>by
    simp only[Xcp]at hj
    rw[cell_of_row _ b _ ys0 t0 (0,0) hblk]
    have:=hrep.1
    simp;omega) (fun j hj=>by grind[World.frozen?]) (fun y hy=>by
    obtain⟨i,hi⟩:=Xdg hy
    rw[hnx i y (by simpa using hi)]
    exact hrz.one hzs)
  obtain⟨n,rfl⟩:∃n,len=n+1:=⟨len-1,by omega⟩
  refine⟨_, ?_,h.setOb' hH hφ (by simpa using hle) hrl (fun c hc=>by grind)⟩
  simp[Builtin.clear_,Zaa ht,zeroValue,Zcd he,hz, <-hn,hstore]
  rfl
theorem Zor (hs:Scope cx w B GB)(hΓ:Sound cx Γ)(h:SR w B GB g st a W){n:Nat}(hn:a.tmps.size=n){R:TypeId->Bool}{ops:Array Oper}{o:Oper}{ao:AOper}(hc:cOpR cx.P R n ops o=some ao.op)(hd:ao.dst=o.dst){st':St}
  (he:exec1 Γ cx.gl ao st=some st') {next:Act->World->Prop} {Q:Exit->Act->World->Prop} (hnext:∀g' a' W',SR w B GB g' st' a' W'->a'.tmps.size=n->next a' W'):o.wp cx.P a W next Q:=by
 rcases Ztk hc with hc|hrow
 ·grind[Zpu]
 ·obtain⟨d,op,gd,af⟩:=ao
  subst hd
  obtain⟨dst,oop,ty,pos,after,guard⟩:=o
  cases hrow with
  |nro sz hop=>
   simp only[exec1,Xac]at he
   subst he
   refine Za4 (y:= .slice none 0 0) (by rcases hop with rfl|rfl<;>rfl) (hnext g _ _ ((h.newNil).put dst _ false _ (.osln _ _ _ _) (fun _ _ h=>by cases h)) (by grind[Za1]))
  |clo f args ts xs ho hxs=>
   simp only[exec1,St.doCall,Xaa]at he
   obtain⟨r0,hr0,rfl⟩:=he
   obtain⟨hl,hr⟩:=Zcl h hn hxs
   have hL:RepL W g.G g.φ (xs.map (evO st.tm)) (args.map a.eval):=⟨by simp[hl],fun i c x hc hx=>hr i c x hc (by simpa using hx)⟩
   obtain⟨e1,e2⟩:=Zeo hs h (hΓ.h _ _ _ _ hr0) hL dst
   refine Zey (f:=f) (xs:=args.map a.eval) ?_ e2 fun y W' ⟨g',hsr⟩=>hnext g' _ _ hsr (by rw[Za1];exact hn)<;>simp_all[execOp,resolve,Deferred.ofValue,invoke,Act.eval]
  |nrb sz t hsz hop=>
   subst hop
   simp only[exec1,Xac]at he
   subst he
   obtain⟨e',ie,zz,hu',hi,hzz,hzs,hby,his⟩:=Zex hsz
   obtain⟨y,W',g',hrun,hadv,_,_⟩:=Z41 h (P:=cx.P) (sz:=sz) (xs:=[]) (ys:=[]) (q:= .slot 0) hu' hi hzz his (by omega) (by simp) rfl (fun i c x hc=>by simp at hc) rfl
   have hrun2:(Instr.buildSlice t 0 #[]).run cx.P W= .ok (.slice (some ⟨W.heap.size,0,none⟩) 0 0) (W.alloc (.cells #[] e')):=by
    simp_all[Zaa,Zaf,Array.ext',Instr.buildSlice,newRow,Instr.fill]
   have hrun3:(Instr.buildSlice t 0 #[]).run cx.P W= .ok y W':=by simp_all
   have hsr:SR w B GB g' st a (W.alloc (.cells #[] e')):=by have:=h.adv hadv;grind[St.take]
   exact Zau rfl (show(Instr.buildSlice t 0 _).run cx.P W=_ by simpa using hrun2) (hnext g' _ _ ((hsr.newNil).put dst _ false _ (.osln _ _ _ _) (fun _ _ h=>by cases h)) (by grind[Za1]))
  |mko t e l c sz z l' c' hop hsz hu hz h1 h2=>
   subst hop
   simp only[exec1,Xaa]at he
   obtain⟨⟨s1,v⟩,he,rfl⟩:=he
   obtain⟨e',ie,zz,hu',hi,hzz,hzs,hby,his⟩:=Zex hsz
   rw[hu]at hu';cases hu'
   obtain⟨y,W',g',hrun,hsr,hrep⟩:=Zvs h hu hi hzz his hby hz (Zae h hn h1) (Zae h hn h2) he
   exact Zau rfl hrun (hnext g' _ _ (hsr.put dst v false y hrep (fun _ _ h=>by cases h)) (by grind[Za1]))
  |appo s x t tx sz s' x' cl hop hcl ha hts hsz hk h1 h2=>
   subst hop
   obtain⟨callee,args,argTypes⟩:=cl
   subst hcl;subst ha;simp only[exec1,Xaa]at he
   obtain⟨⟨s1,v⟩,he,rfl⟩:=he
   obtain⟨e,ie,z,hu,hi,hz,hzs,hby,his⟩:=Zex hsz
   have hk':(∃e',cx.P.underlying tx=some (.slice e')) \/cx.P.underlying tx=some .string:=by
    grind[isSl,Zp8]
   obtain⟨y,W',g',hrun,hsr,hrep⟩:=Zsw (ty:=ty) h hu hi hz his (by omega) hby hk' (Zae h hn h1) (Zae h hn h2) he
   refine Za4 ?_ (hnext g' _ _ (hsr.put dst v false y hrep (fun _ _ h=>by cases h)) (by rw[Za1];exact hn))<;>grind[Sem.run_bind,Sem.run_pure,Result.andThen_ok,execOp,resolve,invoke,builtin]
  |cpy dd s t ts d' s' cl hop hcl ha hts hsz hk h1 h2=>
   subst hop
   obtain⟨callee,args,argTypes⟩:=cl
   subst hcl;subst ha;simp only[exec1,Xaa]at he
   obtain⟨⟨s1,v⟩,he,rfl⟩:=he
   obtain⟨e,ie,z,hu,hi,hz,hzs,hby,his⟩:=Zex hsz
   obtain⟨y,W',hrun,hsr,hrep⟩:=Zw2 (ts:=ts) (ty:=ty) h hu hi his (Zae h hn h1) (Zae h hn h2) he
   refine Za4 ?_ (hnext g _ _ (hsr.put dst v false y hrep (fun _ _ h=>by cases h)) (by rw[Za1];exact hn))<;>grind[Sem.run_bind,Sem.run_pure,Result.andThen_ok,execOp,resolve,invoke,builtin]
  |clr dd t e z d' cl hop hcl ha hts hu hz hl h1=>
   subst hop
   obtain⟨callee,args,argTypes⟩:=cl
   subst hcl;subst ha;simp only[exec1,Xaa]at he
   obtain⟨s1,he,rfl⟩:=he
   match z,hl with
   | [zv],_=>
   have hz0:=hz
   unfold Zd7 at hz0
   split at hz0
   ·rename_i ie hi
    split at hz0
    ·rename_i zz hzz
     obtain⟨W',hrun,hsr⟩:=Zuq (ty:=ty) h hu hi hzz hz (Zae h hn h1) he
     refine Za4 ?_ (hnext g _ _ (hsr.putNil dst) (by rw[Za1];exact hn))<;>grind[Sem.run_bind,Sem.run_pure,Result.andThen_ok,execOp,resolve,invoke,builtin]
    ·cases hz0
   ·cases hz0
  |nmp t hop=>
   subst hop
   simp only[exec1,Xac]at he
   subst he
   obtain⟨g',h1,h2⟩:=h.newMpW
   have hrun:(Instr.makeMap t none).run cx.P W= .ok (.map (some W.heap.size)) (W.alloc (.map #[] 0)):=by
    simp[Instr.makeMap]
   exact Zau rfl hrun (hnext g' _ _ (h1.put dst (.map st.nH) false _ (.map _ _ h2) (fun _ _ h=>by cases h)) (by grind[Za1]))
  |mlk t kt et m k ok q z m' k' hop hu hq hz h1 h2=>
   subst hop
   simp only[exec1,Xaa,Zbr]at he
   obtain⟨r,hr,rfl⟩:=he
   obtain⟨v,hv,rfl⟩:=Zam hr
   obtain⟨y,hrun,hrep⟩:=Z3n h hu hq hz (Zae h hn h1) (Zae h hn h2) hv
   exact Zau rfl hrun (hnext g _ _ ((by grind[St.take]:SR w B GB g (st.take none) a W).put dst v false y hrep (fun _ _ h=>by cases h)) (by grind[Za1]))
  |mup t kt et m k x q m' k' x' hop hu hq h1 h2 h3=>
   simp only[exec1,Xaa]at he
   obtain⟨s1,he,rfl⟩:=he
   obtain⟨W',hrun,hsr⟩:=Z2v h hu hq (Zae h hn h1) (Zae h hn h2) (Zae h hn h3) he
   refine Zq8 (W':=W') ?_ (hnext g _ _ (hsr.putNil dst) (by grind[Za1]))
   rcases hop with rfl|rfl<;>simp[execOp,hrun]
  |mln t kt et m m' cl hop hcl ha hts hu h1=>
   subst hop
   obtain⟨callee,args,argTypes⟩:=cl
   subst hcl;subst ha;simp only[exec1,Xaa,Zbr]at he
   obtain⟨r,hr,rfl⟩:=he
   obtain⟨v,hv,rfl⟩:=Zam hr
   obtain⟨y,hrun,hrep⟩:=Z1l (ty:=ty) h hu (Zae h hn h1) hv
   refine Za4 ?_ (hnext g _ _ ((by simpa[St.take]using h:SR w B GB g (st.take none) a W).put dst v false y hrep (fun _ _ h=>by cases h)) (by rw[Za1];exact hn))<;>grind[Sem.run_bind,Sem.run_pure,Result.andThen_ok,execOp,resolve,invoke,builtin]
end Go.Abs
namespace Go.Abs
open Go.RowKit
def Z0r (n:Nat)(ops:Array Oper):Option (Nat×Bool)->Option (Option (Nat×Bool))
 |none=>some none
 |some (j,wt)=>match(ops[j]?).bind (·.dst)with
  |some s=>if s<n then some (some (s,wt))else none
  |none=>none
def Zrr (o:Oper):List Nat:=(o.after.toList.filter (Region.binds .any)).map (·.on)
def Zic (P:Program)(R:TypeId->Bool)(n:Nat)(ops:Array Oper)(o:Oper):Option AOper:=
 (cOpR P R n ops o).bind fun ao=>(Z0r n ops o.guard).map fun gd=>⟨o.dst,ao,gd,Zrr o⟩
def Zf7 (P:Program)(R:TypeId->Bool)(n:Nat)(ops:Array Oper):List Oper->Option (List AOper)
 | []=>some []
 |o::r=>(Zic P R n ops o).bind fun a=>(Zf7 P R n ops r).map (a:: ·)
variable {cx:Cx}{w:World}{B:Nat->Prop}{GB:Gh}{g:Gh}{st:St}{a:Act}{W:World}{Γ:Spec}{R:TypeId->Bool}
theorem Zdj {P:Program}{R:TypeId->Bool}{n:Nat}{ops:Array Oper}:∀{os:List Oper} {aos:List AOper},Zf7 P R n ops os=some aos->aos.length=os.length/\ ∀(i:Nat) (o:Oper),os[i]? =some o-> ∃x,aos[i]? =some x/\Zic P R n ops o=some x
 | [],aos,h=>by grind[Zf7]
 |o::r,aos,h=>by
  simp only[Zf7,Xab,Xaa]at h
  obtain⟨x,h1,xs,h2,rfl⟩:=h
  obtain⟨h3,h4⟩:=Zdj h2
  refine⟨by simp[h3],fun i o' hi=> ?_⟩
  cases i with
  |zero=>simp at hi;subst hi;exact⟨x,rfl,h1⟩
  |succ i=>simpa using h4 i o' (by simpa using hi)
theorem Zyx (h:SR w B GB g st a W){n:Nat}(hn:a.tmps.size=n){ops:Array Oper}{o:Oper}{x:AOper}(hc:Zic cx.P R n ops o=some x):Region.wanted o (yielded ops a.tmps)=st.wants x:=by
 simp only[Zic,Xab,Xaa]at hc
 obtain⟨ao,_,gd,hg,rfl⟩:=hc
 unfold Z0r at hg
 unfold Region.wanted St.wants
 split at hg
 ·grind
 ·rename_i j wt he
  rw[he]
  split at hg
  ·rename_i s hs
   split at hg
   ·simp only[Xac]at hg;subst hg
    simp only[yielded,hs,Xaw]
    obtain⟨y,hx⟩:∃y,a.tmps[s]? =some y:=⟨_,Xau (show s<a.tmps.size by grind)⟩
    have hr:=h.tm s _ hx
    rw[hx]
    generalize st.tm s=v at hr
    cases hr<;>simp
   ·simp at hg
  ·simp at hg
theorem Zi0 (hs:Scope cx w B GB)(hΓ:Sound cx Γ)(h:SR w B GB g st a W){n:Nat}(hn:a.tmps.size=n){ops:Array Oper}{i:Nat}{o:Oper}{x:AOper}(ho:ops[i]? =some o)(hc:Zic cx.P R n ops o=some x){st':St}
  (he:exec Γ cx.gl x st=some st') {K:Act->World->Prop} {Q:Exit->Act->World->Prop} (hnext:∀g' a' W',SR w B GB g' st' a' W'->a'.tmps.size=n->K a' W'):wpOp cx.P ops Q i K a W:=by
 unfold wpOp
 simp only[ho]
 have hw:=Zyx h hn hc
 have hc':=hc
 simp only[Zic,Xab,Xaa]at hc'
 obtain⟨ao,h1,gd,_,rfl⟩:=hc'
 rw[hw]
 unfold exec at he
 split at he
 ·rename_i hwt
  rw[if_pos hwt]
  exact .inl (Zor hs hΓ h hn (ao:=⟨o.dst,ao,gd,Zrr o⟩) h1 rfl he hnext)
 ·rename_i hwt
  rw[if_neg hwt]
  simp only[Xac]at he
  subst he
  exact hnext g _ _ (h.putNil o.dst) (by grind[Za1])
theorem Zpm (hs:Scope cx w B GB)(hΓ:Sound cx Γ){n:Nat}{ops:Array Oper}{aos:List AOper}(hc:Zf7 cx.P R n ops ops.toList=some aos){Q:Exit->Act->World->Prop}{st':St}
  (hnext:∀g' a' W',SR w B GB g' st' a' W'->a'.tmps.size=n->Q .normal a' W'):∀(m k:Nat) (g:Gh) (st:St) (a:Act) (W:World),k+m=ops.size->SR w B GB g st a W->a.tmps.size=n->execs Γ cx.gl (aos.drop k) st=some st'->
  wpOps cx.P ops Q (List.range' k m) a W:=by
 obtain⟨hl,hget⟩:=Zdj hc
 intro m
 induction m with
 |zero=>
  intro k g st a W hk h hn he
  have:aos.drop k=[]:=Xas (by grind)
  rw[this]at he
  simp only[execs,Xac]at he
  subst he
  exact hnext g a W h hn
 |succ m ih=>
  intro k g st a W hk h hn he
  have hlt:k<ops.size:=by omega
  obtain⟨x,hx,hcx⟩:=hget k ops[k] (by simp[hlt])
  have hd:aos.drop k=x::aos.drop (k+1):=by
   grind[List.drop_eq_getElem_cons]
  rw[hd]at he
  simp only[execs]at he
  split at he
  ·rename_i st1 he1
   exact Zi0 hs hΓ h hn (Xau hlt) hcx he1 fun g' a' W' h' hn'=>ih (k+1) g' st1 a' W' (by omega) h' hn' he
  ·simp at he
def opdR :Opd->List Nat
 | .tmp t=> [t]
 | .const _=> []
def Z1b (xs:List Opd):List Nat:=xs.flatMap opdR
def optR :Option Opd->List Nat
 |some x=>opdR x
 |none=> []
def AOp.reads :AOp->List Nat
 | .mv x| .ext x _| .un _ x| .len _ x| .faddr _ x| .load _ x| .ldp _ x| .ldo x| .fld _ _ x| .s2b x| .b2s x| .i2i _ x| .s2s x| .s2a _ x| .nilck x| .box x=>opdR x
 | .mvo t=> [t]
 | .pick c x y=>opdR c++opdR x++opdR y
 | .bin _ _ x y| .mnx _ x y| .iaddr _ x y| .iarr _ _ x y| .idx x y| .idxa _ _ _ x y| .app _ x y| .mks _ _ x y=>opdR x++opdR y
 | .sls x lo hi=>opdR x++optR lo++optR hi
 | .slc _ x lo hi mx| .slca _ _ x lo hi mx=>opdR x++optR lo++optR hi++optR mx
 | .build _ ps=>ps.flatMap fun p=>opdR p.2.2
 | .bsl _ xs| .call _ xs| .mkf _ xs| .mkm _ xs| .callh _ xs=>Z1b xs
 | .callv f xs| .callvh f xs=>opdR f++Z1b xs
 | .new _| .nro _| .nmp=> []
 | .mlk _ _ _ x y=>opdR x++opdR y
 | .mup _ x y z=>opdR x++opdR y++opdR z
 | .mln x=>opdR x
 | .mko _ _ x y| .appo _ x y| .cpy x y=>opdR x++opdR y
 | .clr _ x=>opdR x
 | .store _ x y=>opdR x++opdR y
 | .sto x t=>opdR x++ [t]
def AOp.owns :AOp->List Nat
 | .mvo t=> [t]
 | .app _ x _=>opdR x
 |_=> []
def AOp.isLdo :AOp->Bool
 | .ldo _=>true
 |_=>false
def AOp.isNew :AOp->Bool
 | .new _| .box _=>true
 |_=>false
def AOp.isStore :AOp->Bool
 | .store _ _ _| .sto _ _| .callh _ _| .callvh _ _| .nro _| .mko _ _ _ _| .appo _ _ _| .cpy _ _| .clr _ _| .nmp| .mup _ _ _ _=>true
 |_=>false
theorem Zba {tm tm':Nat->V}{x:Opd}(h:∀t∈opdR x,tm t=tm' t):evO tm x=evO tm' x:=by
 cases x with
 |tmp t=>exact h t (by simp[opdR])
 |const v=>rfl
theorem Zeb {tm tm':Nat->V}{xs:List Opd}(h:∀t∈Z1b xs,tm t=tm' t):xs.map (evO tm)=xs.map (evO tm'):=by
 apply Xc5
 intro x hx
 exact Zba fun t ht=>h t (Xb3.2 ⟨x,hx,ht⟩)
theorem Zho {tm tm':Nat->V}{x:Option Opd}(h:∀t∈optR x,tm t=tm' t):x.map (evO tm)=x.map (evO tm'):=by
 cases x with
 |none=>rfl
 |some x=>simp only[Xay];rw[Zba h]
theorem Zpo {gl:Nat->Option (List V)}{H:Hp}{own own':Pos->Bool}{tm tm':Nat->V}{ao:AOp}(h:∀t∈ao.reads,tm t=tm' t)(ho:∀t∈ao.owns,own (.slot t)=own' (.slot t))(hl:ao.isLdo=true-> ∀id j,own (.cell id j)=own' (.cell id j)):
  Zbr Γ gl H own tm ao=Zbr Γ gl H own' tm' ao:=by
 cases ao<;>simp only[AOp.reads,AOp.owns,AOp.isLdo]at h ho hl<;>simp only[Zbr]
 case build z ps=>
  grind[List.map_congr_left,Zba]
 case bsl sz xs=>rw[Zeb h]
 case call f xs=>rw[Zeb h]
 case mkf f xs=>rw[Zeb h]
 case mkm f xs=>rw[Zeb h]
 case callv f xs=>grind[Zba,Zeb]
 case sls x lo hi=>
  grind[Zba,Zho]
 case slc sz x lo hi mx=>
  grind[Zba,Zho]
 case slca n sz x lo hi mx=>
  grind[Zba,Zho]
 case ldo x=>
  rw[Zba h]
  cases evO tm' x<;>simp only[vLdo]
  grind
 case app sz s x=>
  rw[Zba (x:=s) fun t ht=>h t (by simp[ht]),Zba (x:=x) fun t ht=>h t (by simp[ht])]
  congr 1
  cases s with
  |tmp t=>exact ho t (by simp[opdR])
  |const v=>rfl
 all_goals grind[Zba]
end Go.Abs
