/-
  Parts of the proof, one behind the other. Own work of this seat; some printed by its programs.
-/
import Derived.Calls
import Derived.Orders
import Derived.Below
import Derived.KernelRfl
import Derived.Deep.AppendSrc
import Derived.Laws.Slices
import Derived.WalkKit
import Derived.Lib.ConvBytes
import Derived.Laws.BytesArg
import Derived.Laws.MakeOwn
import Derived.ChangeKeysEq
import Derived.Laws.StructEq
import Derived.WideKeyRuns
abbrev Xaa := @Option.map_eq_some_iff
abbrev Xab := @Option.bind_eq_some_iff
abbrev Xac := @Option.some.injEq
abbrev Xad := @List.getElem?_eq_getElem
abbrev Xae := @List.getElem?_eq_some_iff
abbrev Xaf := @List.length_append
abbrev Xag := @Nat.le_refl
abbrev Xah := @Nat.eq_of_beq_eq_true
abbrev Xai := @Bool.and_eq_true
abbrev Xaj := @List.append_assoc
abbrev Xak := @Option.bind_some
abbrev Xal := @List.all_eq_true
abbrev Xam := @List.mem_of_getElem?
abbrev Xan := @Nat.zero_add
abbrev Xao := @List.append_nil
abbrev Xap := @List.drop_eq_getElem_cons
abbrev Xaq := @List.map_cons
abbrev Xar := @Array.getElem?_eq_getElem
abbrev Xas := @Option.map_some
abbrev Xat := @Bool.false_eq_true
abbrev Xau := @List.getElem_mem
abbrev Xav := @List.drop_eq_nil_of_le
abbrev Xaw := @List.take_of_length_le
abbrev Xax := @List.length_cons
abbrev Xay := @List.mem_append
abbrev Xaz := @List.length_pos_iff
abbrev Xa0 := @List.mem_cons
abbrev Xa1 := @List.mem_singleton
abbrev Xa2 := @List.getElem?_append_right
abbrev Xa3 := @List.getElem?_append_left
abbrev Xa4 := @Nat.lt_or_ge
abbrev Xa5 := @Bool.or_eq_true
abbrev Xa6 := @Nat.le_of_ble_eq_true
abbrev Xa7 := @List.length_nil
abbrev Xa8 := @Array.getElem?_eq_some_iff
abbrev Xa9 := @List.mem_map
abbrev Xba := @List.nil_append
abbrev Xbb := @List.mem_append_right
abbrev Xbc := @List.drop_zero
abbrev Xbd := @List.eq_nil_of_length_eq_zero
abbrev Xbe := @List.pairwise_iff_getElem
abbrev Xbf := @List.contains_iff_mem
abbrev Xbg := @List.map_nil
abbrev Xbh := @Bool.not_eq_true'
abbrev Xbi := @List.mem_range
abbrev Xbj := @Bool.or_eq_false_iff
abbrev Xbk := @List.mem_cons_of_mem
abbrev Xbl := @List.take_append_drop
abbrev Xbm := @Nat.lt_or_eq_of_le
abbrev Xbn := @List.mem_of_mem_take
abbrev Xbo := @List.mem_append_left
abbrev Xbp := @List.flatMap_cons
abbrev Xbq := @List.cons_append
abbrev Xbr := @List.length_take
abbrev Xbs := @Nat.le_trans
abbrev Xbt := @List.getElem?_map
abbrev Xbu := @Int.toNat_natCast
abbrev Xbv := @Nat.mul_le_mul_right
abbrev Xbw := @Nat.zero_le
abbrev Xbx := @Nat.lt_trichotomy
abbrev Xby := @List.drop_append_of_le_length
abbrev Xbz := @List.getElem_append_right
abbrev Xb0 := @Nat.lt_of_lt_of_le
abbrev Xb1 := @Option.getD_some
abbrev Xb2 := @List.mem_of_mem_drop
abbrev Xb3 := @List.mem_iff_getElem
abbrev Xb4 := @List.take_append_of_le_length
abbrev Xb5 := @Option.isSome_none
abbrev Xb6 := @List.length_eq_zero_iff
abbrev Xb7 := @List.pairwise_append
abbrev Xb8 := @List.cons.injEq
abbrev Xb9 := @List.getElem_of_eq
abbrev Xca := @Nat.add_mul
abbrev Xcb := @Array.length_toList
abbrev Xcc := @Bool.and_self
abbrev Xcd := @List.append_cancel_left
abbrev Xce := @List.mem_flatMap
abbrev Xcf := @List.length_map
abbrev Xcg := @List.getElem?_drop
abbrev Xch := @Bool.and_true
abbrev Xci := @List.pairwise_cons
abbrev Xcj := @List.getElem_append_left
abbrev Xck := @List.take_succ_eq_append_getElem
abbrev Xcl := @List.set_append_right
abbrev Xcm := @Option.getD_none
abbrev Xcn := @List.take_zero
abbrev Xco := @List.flatten_cons
abbrev Xcp := @List.getElem?_append
abbrev Xcq := @List.mem_replicate
abbrev Xcr := @List.mem_cons_self
abbrev Xcs := @List.map_append
abbrev Xct := @List.length_drop
abbrev Xcu := @List.all_cons
abbrev Xcv := @Bool.or_false
abbrev Xcw := @Nat.mul_one
abbrev Xcx := @Nat.succ_mul
abbrev Xcy := @Option.isSome_iff_exists
abbrev Xcz := @List.any_eq_false
abbrev Xc0 := @List.mem_iff_getElem?
abbrev Xc1 := @List.length_singleton
abbrev Xc2 := @List.singleton_append
abbrev Xc3 := @Prod.mk.injEq
abbrev Xc4 := @List.set_eq_take_append_cons_drop
abbrev Xc5 := @Nat.add_zero
abbrev Xc6 := @List.drop_append
abbrev Xc7 := @Array.toList_setIfInBounds
abbrev Xc8 := @Nat.add_assoc
abbrev Xc9 := @List.drop_left
abbrev Xda := @List.getElem?_toArray
abbrev Xdb := @List.append_inj
abbrev Xdc := @Option.isSome_some
abbrev Xdd := @Int.emod_eq_of_lt
abbrev Xde := @List.replicate_succ
abbrev Xdf := @List.mem_map_of_mem
abbrev Xdg := @List.take_succ_cons
abbrev Xdh := @Int.fdiv_eq_ediv_of_nonneg
abbrev Xdi := @List.not_mem_nil
abbrev Xdj := @List.any_eq_true
abbrev Xdk := @List.getElem?_take
abbrev Xdl := @Nat.eq_zero_or_pos
abbrev Xdm := @List.map_map
abbrev Xdn := @Bool.and_eq_false_iff
abbrev Xdo := @List.count_pos_iff
abbrev Xdp := @List.drop_drop
abbrev Xdq := @List.mem_of_find?_eq_some
abbrev Xdr := @List.size_toArray
abbrev Xds := @List.getElem?_take_of_lt
abbrev Xdt := @List.mem_filter
abbrev Xdu := @List.replicate_append_replicate
abbrev Xdv := @List.eq_nil_iff_forall_not_mem
abbrev Xdw := @List.map_take
abbrev Xdx := @List.getElem?_range
abbrev Xdy := @Nat.le_max_right
abbrev Xdz := @Nat.mul_le_mul
abbrev Xd0 := @Array.getElem?_eq_none
abbrev Xd1 := @List.getElem?_eq_none
abbrev Xd2 := @Array.getElem?_toList
abbrev Xd3 := @Option.map_none
abbrev Xd4 := @List.perm_append_comm
abbrev Xd5 := @Array.getElem?_append_left
abbrev Xd6 := @List.getElem?_of_mem
abbrev Xd7 := @Nat.lt_of_not_le
abbrev Xd8 := @List.range'_succ
abbrev Xd9 := @List.ext_getElem
abbrev Xea := @Nat.shiftLeft_eq
abbrev Xeb := @Nat.mod_eq_of_lt
abbrev Xec := @List.map_congr_left
abbrev Xed := @List.getElem?_cons_zero
abbrev Xee := @List.getElem?_cons_succ
abbrev Xef := @Nat.le_max_left
abbrev Xeg := @List.all_append
abbrev Xeh := @List.take_left'
abbrev Xei := @List.length_eq_one_iff
abbrev Xej := @Nat.div_div_eq_div_mul
abbrev Xek := @List.length_pos_of_mem
abbrev Xel := @List.ext_getElem?
abbrev Xem := @List.getElem?_set
abbrev Xen := @List.getElem?_inj
abbrev Xeo := @List.drop_sublist
abbrev Xep := @Bool.false_and
abbrev Xeq := @Bool.and_false
abbrev Xer := @Array.getElem?_modify
abbrev Xes := @List.length_replicate
abbrev Xet := @Nat.ble_eq_true_of_le
abbrev Xeu := @Nat.beq_refl
abbrev Xev := @List.take_length
abbrev Xew := @List.count_replicate
abbrev Xex := @List.any_cons
abbrev Xey := @Bool.and_comm
abbrev Xez := @Bool.false_or
abbrev Xe0 := @Bool.true_and
abbrev Xe1 := @List.map_drop
abbrev Xe2 := @Nat.not_lt
abbrev Xe3 := @Int.natCast_mul
abbrev Xe4 := @List.find?_some
abbrev Xe5 := @Array.getElem?_append_right
abbrev Xe6 := @List.range_succ
abbrev Xe7 := @List.drop_succ_cons
abbrev Xe8 := @List.map_eq_nil_iff
abbrev Xe9 := @Nat.div_le_self
abbrev Xfa := @UInt8.toNat_inj
abbrev Xfb := @List.getD_eq_getElem?_getD
abbrev Xfc := @Nat.add_comm
abbrev Xfd := @Nat.lt_or_gt_of_ne
abbrev Xfe := @Option.isNone_iff_eq_none
abbrev Xff := @Array.size_append
abbrev Xfg := @Array.getElem?_replicate
abbrev Xfh := @List.take_sublist
abbrev Xfi := @List.sum_cons
abbrev Xfj := @List.isEmpty_iff
abbrev Xfk := @List.perm_middle
abbrev Xfl := @Nat.sub_self
abbrev Xfm := @Nat.zero_mul
abbrev Xfn := @Bool.or_true
abbrev Xfo := @Nat.min_eq_left
abbrev Xfp := @Nat.div_add_mod
abbrev Xfq := @List.sum_append
abbrev Xfr := @Int.natCast_add
abbrev Xfs := @List.count_set
abbrev Xft := @Int.ofNat_tmod
abbrev Xfu := @Nat.not_le
namespace Go.Abs
open Go.RowKit
abbrev Bytes :=List UInt8
inductive V where
 |bool (b:Bool)
 |int (k:IntKind) (n:Int)
 |str (s:Bytes)
 |agg (cs:List V)
 |sl (nl:Bool) (sz:Nat) (xs:List V)
 |osl (id off len cap sz:Nat)
 |el (cs:List V) (off:Nat)
 |gp (g off:Nat)
 |ptr (id off:Nat)
 |nilptr
 |map (id:Nat)
 |nilmap
 |fn (f:Nat) (caps:List V)
 |mfn (f:Nat) (fs:List V)
 |nilfn
 |iface (t:Nat) (v:V)
 |nilif
 |tup (vs:List V)
 deriving Inhabited
def V.cells :V->List V
 | .agg cs=>cs
 |v=> [v]
def V.sc :V->Bool
 | .agg _| .tup _=>false
 |_=>true
abbrev Nil :V:= .tup []
def csz (W:World)(b:Nat):Nat:=match W.heap[b]? with|some (.cells c _ _)=>c.size|_=>0
theorem Zhb {W W':World}{b:Nat}(h:W'.heap[b]? =W.heap[b]?):csz W' b=csz W b:=by unfold csz;rw[h]
inductive Rep (W:World)(G:Nat->Nat)(φ:Nat->Option Nat):V->Value->Prop
 |bool (b:Bool):Rep W G φ (.bool b) (.bool b)
 |int (k:IntKind) (n:Int):Rep W G φ (.int k n) (.int k n)
 |str (l:Bytes) (s:ByteArray) (h:s.data.toList=l):Rep W G φ (.str l) (.string s)
 |agg (cs:List V) (xs:Array Value) (hl:cs.length=xs.size) (hs:∀c∈cs,c.sc=true)
   (h:∀(i:Nat) (c:V) (x:Value),cs[i]? =some c->xs[i]? =some x->Rep W G φ c x):Rep W G φ (.agg cs) (.agg xs)
 |slnil (sz:Nat):Rep W G φ (.sl true sz []) (.slice none 0 0)
 |sl (sz:Nat) (xs:List V) (b off cap:Nat) (rd:Nat->Value) (hcap:xs.length<=cap) (hG:off+xs.length*sz<=G b)
   (hx:∀x∈xs,x.cells.length=sz/\ ∀c∈x.cells,c.sc=true)
   (hrd:∀k,k<xs.length*sz->W.cell? ⟨b,off+k,none⟩=some (rd k))
   (h:∀(i:Nat) (x:V) (j:Nat) (c:V),xs[i]? =some x->x.cells[j]? =some c->Rep W G φ c (rd (i*sz+j))):
   Rep W G φ (.sl false sz xs) (.slice (some ⟨b,off,none⟩) xs.length cap)
 |sl0 (sz:Nat) (a:Addr):Rep W G φ (.sl false sz []) (.slice (some a) 0 0)
 |osl (id off len cap sz b cap':Nat) (h:φ id=some b) (hc:len<=cap) (hc':cap<=cap') (hs:off+cap'*sz<=csz W b):Rep W G φ (.osl id off len cap sz) (.slice (some ⟨b,off,none⟩) len cap')
 |osln (id off sz:Nat) (p:Option Addr):Rep W G φ (.osl id off 0 0 sz) (.slice p 0 0)
 |el (cs:List V) (off b base:Nat) (rd:Nat->Value) (hG:base+cs.length<=G b) (hs:∀c∈cs,c.sc=true)
   (hrd:∀k,k<cs.length->W.cell? ⟨b,base+k,none⟩=some (rd k))
   (h:∀(k:Nat) (c:V),cs[k]? =some c->Rep W G φ c (rd k)):Rep W G φ (.el cs off) (.pointer (some ⟨b,base+off,none⟩))
 |gp (g off:Nat):Rep W G φ (.gp g off) (.pointer (some ⟨g,off,none⟩))
 |ptr (id off b:Nat) (h:φ id=some b):Rep W G φ (.ptr id off) (.pointer (some ⟨b,off,none⟩))
 |nilptr:Rep W G φ .nilptr (.pointer none)
 |map (id b:Nat) (h:φ id=some b):Rep W G φ (.map id) (.map (some b))
 |nilmap:Rep W G φ .nilmap (.map none)
 |fn (f:Nat) (cs:List V) (xs:Array Value) (hl:cs.length=xs.size) (h:∀(i:Nat) (c:V) (x:Value),cs[i]? =some c->xs[i]? =some x->Rep W G φ c x):
   Rep W G φ (.fn f cs) (.func (.func f) #[] xs)
 |mfn (f:Nat) (cs:List V) (xs:Array Value) (hl:cs.length=xs.size) (h:∀(i:Nat) (c:V) (x:Value),cs[i]? =some c->xs[i]? =some x->Rep W G φ c x):
   Rep W G φ (.mfn f cs) (.func (.func f) xs #[])
 |nilfn:Rep W G φ .nilfn .nilFunc
 |iface (t:Nat) (v:V) (x:Value) (h:Rep W G φ v x):Rep W G φ (.iface t v) (.iface t x)
 |nilif:Rep W G φ .nilif .nilIface
 |tup (cs:List V) (xs:Array Value) (hl:cs.length=xs.size) (h:∀(i:Nat) (c:V) (x:Value),cs[i]? =some c->xs[i]? =some x->Rep W G φ c x):
   Rep W G φ (.tup cs) (.tuple xs)
def RepL (W:World)(G:Nat->Nat)(φ:Nat->Option Nat)(vs:List V)(xs:Array Value):Prop:=
 vs.length=xs.size/\ ∀(i:Nat) (c:V) (x:Value),vs[i]? =some c->xs[i]? =some x->Rep W G φ c x
structure Keeps (W:World)(G:Nat->Nat)(f:Nat->Option Nat)(W':World)(G':Nat->Nat)(f':Nat->Option Nat):Prop where
 cell:∀b i,i<G b->W'.cell? ⟨b,i,none⟩=W.cell? ⟨b,i,none⟩
 G:∀b,G b<=G' b
 φ:∀id b,f id=some b->f' id=some b
 sz:∀id b,f id=some b->csz W' b=csz W b
theorem Keeps.refl (W:World)(G:Nat->Nat)(φ:Nat->Option Nat):Keeps W G φ W G φ:=⟨fun _ _ _=>rfl,fun _=>Xag _,fun _ _ h=>h,fun _ _ _=>rfl⟩
theorem Keeps.trans {W G φ W' G' φ' W'' G'' φ''}(h:Keeps W G φ W' G' φ')(k:Keeps W' G' φ' W'' G'' φ''):Keeps W G φ W'' G'' φ'':=
 ⟨fun b i hi=>(k.cell b i (Xb0 hi (h.G b))).trans (h.cell b i hi),fun b=>Xbs (h.G b) (k.G b),fun id b e=>k.φ id b (h.φ id b e),fun id b e=>(k.sz id b (h.φ id b e)).trans (h.sz id b e)⟩
theorem Rep.keep {W G φ W' G' φ' v x}(hk:Keeps W G φ W' G' φ')(h:Rep W G φ v x):Rep W' G' φ' v x:=by
 induction h with
 |bool b=>exact .bool b
 |int k n=>exact .int k n
 |str l s h=>exact .str l s h
 |agg cs xs hl hs _ ih=>exact .agg cs xs hl hs ih
 |slnil sz=>exact .slnil sz
 |sl sz xs b off cap rd hcap hG hx hrd _ ih=>
  refine .sl sz xs b off cap rd hcap (Xbs hG (hk.G b)) hx (fun k h=> ?_) ih
  rw[hk.cell b (off+k) (by omega)];exact hrd k h
 |sl0 sz a=>exact .sl0 sz a
 |osl id off len cap sz b cap' h hc hc' hs=>exact .osl id off len cap sz b cap' (hk.φ _ _ h) hc hc' (by rw[hk.sz _ _ h];exact hs)
 |osln id off sz p=>exact .osln id off sz p
 |el cs off b base rd hG hs hrd _ ih=>
  refine .el cs off b base rd (Xbs hG (hk.G b)) hs (fun k h=> ?_) ih
  rw[hk.cell b (base+k) (by omega)];exact hrd k h
 |gp g off=>exact .gp g off
 |ptr id off b h=>exact .ptr id off b (hk.φ _ _ h)
 |nilptr=>exact .nilptr
 |map id b h=>exact .map id b (hk.φ _ _ h)
 |nilmap=>exact .nilmap
 |fn f cs xs hl _ ih=>exact .fn f cs xs hl ih
 |mfn f cs xs hl _ ih=>exact .mfn f cs xs hl ih
 |nilfn=>exact .nilfn
 |iface t v x _ ih=>exact .iface t v x ih
 |nilif=>exact .nilif
 |tup cs xs hl _ ih=>exact .tup cs xs hl ih
theorem RepL.keep {W G φ W' G' φ' vs xs}(hk:Keeps W G φ W' G' φ')(h:RepL W G φ vs xs):RepL W' G' φ' vs xs:=
 ⟨h.1,fun i c x hc hx=>(h.2 i c x hc hx).keep hk⟩
theorem RepL.one {W G φ v x}(h:Rep W G φ v x):RepL W G φ [v] #[x]:=⟨rfl,fun i c y hc hy=>by
 cases i with
 |zero=>simp at hc hy;subst hc;subst hy;exact h
 |succ i=>simp at hc⟩
theorem Rep.cells {W G φ v x}(h:Rep W G φ v x):RepL W G φ v.cells x.cells:=by
 cases h with
 |agg cs xs hl hs h=>exact⟨hl,h⟩
 |bool b=>exact .one (.bool b)
 |int k n=>exact .one (.int k n)
 |str l s h=>exact .one (.str l s h)
 |slnil sz=>exact .one (.slnil sz)
 |sl sz xs b off cap rd hcap hG hx hrd h=>exact .one (.sl sz xs b off cap rd hcap hG hx hrd h)
 |sl0 sz a=>exact .one (.sl0 sz a)
 |osl id off len cap sz b cap' h hc hc' hs=>exact .one (.osl id off len cap sz b cap' h hc hc' hs)
 |osln id off sz p=>exact .one (.osln id off sz p)
 |el cs off b base rd hG hs hrd h=>exact .one (.el cs off b base rd hG hs hrd h)
 |gp g off=>exact .one (.gp g off)
 |ptr id off b h=>exact .one (.ptr id off b h)
 |nilptr=>exact .one .nilptr
 |map id b h=>exact .one (.map id b h)
 |nilmap=>exact .one .nilmap
 |fn f cs xs hl h=>exact .one (.fn f cs xs hl h)
 |mfn f cs xs hl h=>exact .one (.mfn f cs xs hl h)
 |nilfn=>exact .one .nilfn
 |iface t v x h=>exact .one (.iface t v x h)
 |nilif=>exact .one .nilif
 |tup cs xs hl h=>exact .one (.tup cs xs hl h)
end Go.Abs
namespace Go.Abs
inductive Opd where
 |tmp (t:Nat)
 |const (v:V)
 deriving Inhabited
inductive Pos where
 |slot (t:Nat)
 |cell (id j:Nat)
 deriving DecidableEq
inductive EqK where
 |no|bool|flat (ks:List (Option IntKind×Bool))|slice|ptr|iface|fn
 deriving Inhabited
abbrev KK :=Bool×List (Option IntKind×Bool)
inductive AOp where
 |mv (x:Opd)
 |mvo (t:Nat)
 |pick (c a b:Opd)
 |ext (t:Opd) (i:Nat)
 |bin (op:BinOp) (q:EqK) (x y:Opd)
 |un (op:UnOp) (x:Opd)
 |len (str:Bool) (x:Opd)
 |mnx (mx:Bool) (x y:Opd)
 |iaddr (sz:Nat) (x i:Opd)
 |iarr (n sz:Nat) (x i:Opd)
 |faddr (off:Nat) (x:Opd)
 |load (n:Option Nat) (x:Opd)
 |ldp (n:Option Nat) (x:Opd)
 |ldo (x:Opd)
 |fld (n:Option Nat) (off:Nat) (x:Opd)
 |idx (x i:Opd)
 |idxa (len sz:Nat) (n:Option Nat) (x i:Opd)
 |sls (x:Opd) (lo hi:Option Opd)
 |slc (sz:Nat) (x:Opd) (lo hi mx:Option Opd)
 |slca (n sz:Nat) (x:Opd) (lo hi mx:Option Opd)
 |build (zero:List V) (parts:List (Nat×Nat×Opd))
 |bsl (sz:Nat) (parts:List Opd)
 |app (sz:Nat) (s x:Opd)
 |mks (sz:Nat) (zero:List V) (len cap:Opd)
 |s2b (x:Opd)
 |b2s (x:Opd)
 |i2i (k:IntKind) (x:Opd)
 |s2s (x:Opd)
 |s2a (n:Nat) (x:Opd)
 |call (f:Nat) (args:List Opd)
 |callv (f:Opd) (args:List Opd)
 |callh (f:Nat) (args:List Opd)
 |callvh (f:Opd) (args:List Opd)
 |mkf (f:Nat) (caps:List Opd)
 |mkm (f:Nat) (fs:List Opd)
 |nilck (x:Opd)
 --those that touch the objects
 |new (cs:List V)
 |box (x:Opd)
 |store (n:Nat) (a x:Opd)
 |sto (a:Opd) (t:Nat)
 --rows that are written in place
 |nro (sz:Nat)
 |mko (sz:Nat) (zero:List V) (len cap:Opd)
 |appo (sz:Nat) (s x:Opd)
 |cpy (d s:Opd)
 |clr (zero:List V) (d:Opd)
 --maps
 |nmp
 |mlk (ks:KK) (z:V) (ok:Bool) (m k:Opd)
 |mup (ks:KK) (m k x:Opd)
 |mln (m:Opd)
 deriving Inhabited
inductive Ob where
 |cells (cs:List V)
 |mp (l:List (V×V))
 deriving Inhabited
abbrev Hp :=Nat->Option Ob
structure HS where
 H:Hp
 nH:Nat
 co:Nat->Nat->Bool
structure Spec where
 p:Nat->List V->Option (V×Bool)
 h:Nat->List V->HS->Option (V×Bool×HS)
instance : CoeFun Spec fun _=>Nat->List V->Option (V×Bool):=⟨Spec.p⟩
def Zav (cs:List V)(off:Nat)(ys:List V):List V:=cs.take off++ys++cs.drop (off+ys.length)
def Zak (n:Option Nat)(cs:List V)(off:Nat):Option V:=
 match n with
 |none=>cs[off]?
 |some k=>if off+k<=cs.length then some (.agg ((cs.drop off).take k))else none
def aint (op:BinOp)(k:IntKind)(a b:Int):Option V:=
 match op with
 | .add=>some (.int k (k.wrap (a+b)))
 | .sub=>some (.int k (k.wrap (a-b)))
 | .mul=>some (.int k (k.wrap (a*b)))
 | .quo=>if b=0 then none else some (.int k (k.wrap (a.tdiv b)))
 | .rem=>if b=0 then none else some (.int k (a.tmod b))
 | .and=>some (.int k (k.wrap (BitVec.ofInt k.bits a&&&BitVec.ofInt k.bits b).toNat))
 | .or=>some (.int k (k.wrap (BitVec.ofInt k.bits a|||BitVec.ofInt k.bits b).toNat))
 | .xor=>some (.int k (k.wrap (BitVec.ofInt k.bits a^^^BitVec.ofInt k.bits b).toNat))
 | .andNot=>some (.int k (k.wrap (BitVec.ofInt k.bits a&&& ~~~BitVec.ofInt k.bits b).toNat))
 | .eql=>some (.bool (decide (a=b)))
 | .neq=>some (.bool (!decide (a=b)))
 | .lss=>some (.bool (decide (a<b)))
 | .leq=>some (.bool (decide (a<=b)))
 | .gtr=>some (.bool (decide (b<a)))
 | .geq=>some (.bool (decide (b<=a)))
 |_=>none
def astr (op:BinOp)(a b:Bytes):Option V:=
 match op with
 | .add=>if a.length+b.length<=4611686018427387904 then some (.str (a++b))else none
 | .eql=>some (.bool (decide (a=b)))
 | .neq=>some (.bool (!decide (a=b)))
 | .lss=>some (.bool (Op.bytesLess a b))
 | .leq=>some (.bool (Op.bytesLess a b||decide (a=b)))
 | .gtr=>some (.bool (!(Op.bytesLess a b||decide (a=b))))
 | .geq=>some (.bool (!Op.bytesLess a b))
 |_=>none
def kdEq :(Option IntKind×Bool)->V->V->Option Bool
 |(some k,_), .int j a, .int j' b=>if j=k/\j'=k then some (decide (a=b))else none
 |(none,true), .str a, .str b=>some (decide (a=b))
 |(none,false), .bool a, .bool b=>some (a==b)
 |_,_,_=>none
def Zaw :List (Option IntKind×Bool)->List V->List V->Option Bool
 | [],[],[]=>some true
 |k::ks,x::xs,y::ys=>(kdEq k x y).bind fun b=>(Zaw ks xs ys).map (b&& ·)
 |_,_,_=>none
def aeq (q:EqK)(x y:V):Option Bool:=
 match q,x,y with
 | .bool, .bool a, .bool b=>some (a==b)
 | .flat ks, .agg a, .agg b=>Zaw ks a b
 | .slice, .sl nl _ _, .sl true _ []=>some nl
 | .slice, .sl true _ [], .sl nl _ _=>some nl
 | .ptr, .nilptr, .nilptr=>some true
 | .ptr, .ptr _ _, .nilptr=>some false
 | .ptr, .nilptr, .ptr _ _=>some false
 | .iface, .nilif, .nilif=>some true
 | .iface, .iface _ _, .nilif=>some false
 | .iface, .nilif, .iface _ _=>some false
 |_,_,_=>none
def vEq (op:BinOp)(b:Option Bool):Option V:=
 match op with
 | .eql=>b.map .bool
 | .neq=>b.map fun b=> .bool !b
 |_=>none
def abin (op:BinOp)(q:EqK)(x y:V):Option V:=
 match x,y with
 | .int k a, .int k' b=>
  match op with
  | .shl=>if b<0 then none else some (.int k (k.wrap (a*2^(min b.toNat k.bits))))
  | .shr=>if b<0 then none else some (.int k (a.fdiv (2^(min b.toNat k.bits))))
  |_=>if k=k' then aint op k a b else none
 | .str a, .str b=>astr op a b
 | .osl _ _ n _ _, .sl true _ []=>match q with| .slice=>if n=0 then none else vEq op (some false)|_=>none
 |_,_=>vEq op (aeq q x y)
def aun (op:UnOp)(x:V):Option V:=
 match op,x with
 | .neg, .int k n=>some (.int k (k.wrap (0-n)))
 | .xor, .int k n=>some (.int k (k.wrap (BitVec.ofInt k.bits (if k.signed then-1 else k.max)^^^BitVec.ofInt k.bits n).toNat))
 | .not, .bool b=>some (.bool !b)
 |_,_=>none
def Zb0 :List V->Option Bytes
 | []=>some []
 | .int .u8 n::r=>(Zb0 r).map (UInt8.ofNat n.toNat:: ·)
 |_=>none
def byteV (b:UInt8):V:= .int .u8 b.toNat
def encB (l:Bytes):List V:=l.map byteV
def cut3 (len cap:Nat)(lo hi mx:Option Int):Option (Nat×Nat×Nat):=
 let m:=mx.getD cap
 let h:=hi.getD len
 let l:=lo.getD 0
 if 0<=m/\m<=cap/\0<=h/\h<=m/\0<=l/\l<=h/\(mx.isSome=true->hi.isSome=true)then some (l.toNat,h.toNat,m.toNat)else none
def Zio :List V->List (Nat×Nat×V)->Option (List V)
 |cs,[]=>some cs
 |cs,(off,n,v)::r=>if v.cells.length=n/\v.cells.all V.sc=true/\off+n<=cs.length then Zio (Zav cs off v.cells) r else none
structure Res where
 v:V
 o:Bool
 tk:Option Pos
def resV (v:Option V):Option Res:=v.map fun v=>⟨v,false,none⟩
def Lim :Nat:=4294967296
def fits (sz:Nat)(xs:List V):Bool:=xs.all fun x=>x.cells.length==sz&&x.cells.all V.sc
def Zpy :V->V->V->Option V
 | .bool t,a,b=>some (if t then a else b)
 |_,_,_=>none
def vExt :V->Nat->Option V
 | .tup vs,i=>vs[i]?
 |_,_=>none
def vLen :Bool->V->Option V
 |true, .str s=>some (.int .i64 s.length)
 |false, .sl _ _ xs=>some (.int .i64 xs.length)
 |false, .osl _ _ n _ _=>some (.int .i64 n)
 |_,_=>none
def vMnx (mx:Bool):V->V->Option V
 | .int k a, .int k' b=>if k=k' then some (.int k (if mx then(if a<b then b else a)else(if b<a then b else a)))else none
 |_,_=>none
def Zeu (sz:Nat):V->V->Option V
 | .sl false s xs, .int _ n=>if 0<=n/\s=sz then(xs[n.toNat]?).map fun e=> .el e.cells 0 else none
 | .osl id off len _ s, .int _ n=>if 0<=n/\n<len/\s=sz then some (.ptr id (off+n.toNat*sz))else none
 |_,_=>none
def Zpj (n sz:Nat):V->V->Option V
 | .ptr id off, .int _ j=>if 0<=j/\j<n then some (.ptr id (off+j.toNat*sz))else none
 | .el cs off, .int _ j=>if 0<=j/\j<n then some (.el cs (off+j.toNat*sz))else none
 | .gp g off, .int _ j=>if 0<=j/\j<n then some (.gp g (off+j.toNat*sz))else none
 |_,_=>none
def Zjt (off:Nat):V->Option V
 | .ptr id o=>some (.ptr id (o+off))
 | .el cs o=>some (.el cs (o+off))
 | .gp g o=>some (.gp g (o+off))
 |_=>none
def Zat (H:Hp)(id:Nat):Option (List V):=match H id with|some (.cells cs)=>some cs|_=>none
def hMap (H:Hp)(id:Nat):Option (List (V×V)):=match H id with|some (.mp l)=>some l|_=>none
def Zd4 (ks:KK)(a b:V):Option Bool:=
 match ks,a,b with
 |(true,ks), .agg x, .agg y=>Zaw ks x y
 |(false,ks),x,y=>if x.sc=true/\y.sc=true then Zaw ks [x] [y]else none
 |_,_,_=>none
def Zfv (ks:KK)(k:V):List (V×V)->Option (Option V)
 | []=>some none
 |p::r=>(Zd4 ks k p.1).bind fun b=>if b then some (some p.2)else Zfv ks k r
def mPut (ks:KK)(k x:V):List (V×V)->Option (List (V×V))
 | []=>some [(k,x)]
 |p::r=>(Zd4 ks k p.1).bind fun b=>if b then some ((k,x)::r)else(mPut ks k x r).map (p:: ·)
def Zjh (H:Hp):V->Option (List (V×V))
 | .map id=>hMap H id
 | .nilmap=>some []
 |_=>none
def vMlk (H:Hp)(ks:KK)(z:V)(ok:Bool)(m k:V):Option V:=
 (Zjh H m).bind fun l=>if Zd4 ks k k=some true then(Zfv ks k l).map fun r=>if ok then .tup [r.getD z, .bool r.isSome]else r.getD z else none
def vMln (H:Hp)(m:V):Option V:=(Zjh H m).map fun l=> .int .i64 l.length
def Zfr (gl:Nat->Option (List V))(H:Hp)(n:Option Nat):V->Option V
 | .ptr id o=>(Zat H id).bind fun cs=>Zak n cs o
 | .el cs o=>Zak n cs o
 | .gp g o=>(gl g).bind fun cs=>Zak n cs o
 |_=>none
def vLdp (gl:Nat->Option (List V))(n:Option Nat):V->Option V
 | .el cs o=>Zak n cs o
 | .gp g o=>(gl g).bind fun cs=>Zak n cs o
 |_=>none
def vLdo (H:Hp)(own:Pos->Bool):V->Option Res
 | .ptr id o=>(Zat H id).bind fun cs=>(cs[o]?).map fun v=>⟨v,own (.cell id o),some (.cell id o)⟩
 |_=>none
def vFld (n:Option Nat)(off:Nat):V->Option V
 | .agg cs=>Zak n cs off
 |_=>none
def vIdx :V->V->Option V
 | .str s, .int _ n=>if 0<=n then(s[n.toNat]?).map byteV else none
 |_,_=>none
def Zp6 (len sz:Nat)(n:Option Nat):V->V->Option V
 | .agg cs, .int _ j=>if 0<=j/\j<len then Zak n cs (j.toNat*sz)else none
 |_,_=>none
def vOpt :Option V->Option (Option Int)
 |none=>some none
 |some (.int _ n)=>some (some n)
 |some _=>none
def vSls (x:V)(lo hi:Option V):Option V:=
 match vOpt lo,vOpt hi,x with
 |some l,some h, .str s=>(cut3 s.length s.length l h none).map fun c=> .str ((s.take c.2.1).drop c.1)
 |_,_,_=>none
def vSlc (sz:Nat)(x:V)(lo hi mx:Option V):Option Res:=
 match vOpt lo,vOpt hi,vOpt mx,x with
 |some l,some h,some m, .sl nl s xs=>
  if s=sz/\(m=none \/m=h)then(cut3 xs.length xs.length l h none).map fun c=>⟨.sl nl sz ((xs.take c.2.1).drop c.1),m.isSome,none⟩else none
 |some l,some h,some m, .osl id off len cap s=>
  if s=sz/\m=none then(cut3 len cap l h none).map fun c=>⟨.osl id (off+c.1*sz) (c.2.1-c.1) (c.2.2-c.1) sz,false,none⟩else none
 |_,_,_,_=>none
def Zi6 (H:Hp)(n sz:Nat)(x:V)(lo hi mx:Option V):Option V:=
 match vOpt lo,vOpt hi,vOpt mx,x with
 |some l,some h,some m, .ptr id o=>(Zat H id).bind fun cs=>if o+n*sz<=cs.length/\cs≠ []then(cut3 n n l h m).map fun c=> .osl id (if c.2.2=c.1 then o else o+c.1*sz) (c.2.1-c.1) (c.2.2-c.1) sz else none
 |_,_,_,_=>none
def vB2s (H:Hp):V->Option V
 | .sl _ 1 xs=>(Zb0 xs).map .str
 | .osl id off len _ 1=>if len=0 then some (.str [])else(Zat H id).bind fun cs=>if off+len<=cs.length then(Zb0 ((cs.drop off).take len)).map .str else none
 |_=>none
def vI2i (k:IntKind):V->Option V
 | .int _ n=>some (.int k (k.wrap n))
 |_=>none
def vS2s :V->Option V
 | .str s=>some (.str s)
 |_=>none
def vS2a (n:Nat):V->Option V
 | .sl false 1 xs=>if n<=xs.length/\xs≠ []/\fits 1 xs=true then some (.el (xs.flatMap V.cells) 0)else none
 |_=>none
def Zoq :V->Option V
 | .ptr id o=>some (.ptr id o)
 | .el cs o=>some (.el cs o)
 | .fn f c=>some (.fn f c)
 | .mfn f c=>some (.mfn f c)
 |_=>none
def vS2b :V->Option Res
 | .str s=>some ⟨.sl false 1 (encB s),true,none⟩
 |_=>none
def vMks (sz:Nat):V->V->Option Res
 | .int _ n, .int _ c=>if n=0/\0<=c/\c<=Lim then some ⟨.sl false sz [],true,none⟩else none
 |_,_=>none
def vMkz (sz:Nat)(zero:List V):V->V->Option Res
 | .int _ n, .int _ c=>match zero with
  | [z]=>if 0<=n/\n<=c/\c<=Lim/\sz=1/\z.sc=true then some ⟨.sl false 1 (List.replicate n.toNat z),false,none⟩else none
  |_=>none
 |_,_=>none
def vMk (sz:Nat)(zero:List V)(l c:V):Option Res:=match zero with| []=>vMks sz l c|zero=>vMkz sz zero l c
def Zfn (sz:Nat):Nat->List V->List V
 |0,_=> []
 |n+1,cs=> .agg (cs.take sz)::Zfn sz n (cs.drop sz)
def vRow (sz n:Nat)(cs:List V):List V:=if sz=1 then cs.take n else Zfn sz n cs
theorem Zhv {sz:Nat}:∀{n:Nat} {cs:List V},(Zfn sz n cs).length=n
 |0,_=>rfl
 |n+1,cs=>by simp[Zfn,Zhv]
theorem Znw {sz:Nat}:∀{n:Nat} {cs:List V},n*sz<=cs.length->(∀c∈cs,c.sc=true)-> ∀y∈Zfn sz n cs,y.cells.length=sz/\ ∀c∈y.cells,c.sc=true
 |0,_,_,_,y,hy=>by cases hy
 |n+1,cs,hl,hs,y,hy=>by
  rw[Xcx]at hl
  rcases Xa0.1 hy with rfl|hy
  ·exact⟨by simp[V.cells];omega,fun c hc=>hs c (Xbn hc)⟩
  ·exact Znw (by rw[Xct];omega) (fun c hc=>hs c (Xb2 hc)) y hy
theorem Zoh {sz:Nat}:∀{n:Nat} {cs:List V} {i j:Nat} {x c:V},n*sz<=cs.length->(Zfn sz n cs)[i]? =some x->x.cells[j]? =some c->i<n/\j<sz/\cs[i*sz+j]? =some c
 |0,_,i,_,_,_,_,h,_=>by simp[Zfn]at h
 |n+1,cs,0,j,x,c,hl,h,hc=>by
  simp only[Zfn,Xed,Xac]at h
  subst h
  have hj:(cs.take sz)[j]? =some c:=hc
  rw[Xdk]at hj
  split at hj
  ·rename_i hlt;exact⟨by omega,hlt,by simpa using hj⟩
  ·cases hj
 |n+1,cs,i+1,j,x,c,hl,h,hc=>by
  rw[Xcx]at hl
  simp only[Zfn,Xee]at h
  obtain⟨h1,h2,h3⟩:=Zoh (by rw[Xct];omega) h hc
  refine⟨by omega,h2, ?_⟩
  rw[Xcg]at h3
  rw[Xcx,show i*sz+sz+j=sz+(i*sz+j)by omega];exact h3
theorem Zkj {sz:Nat}:∀{n:Nat} {cs:List V},(Zfn sz n cs).flatMap V.cells=cs.take (n*sz)
 |0,_=>by simp[Zfn]
 |n+1,cs=>by
  simp only[Zfn,Xbp,Zkj]
  rw[Xcx,Xfc,List.take_add];rfl
theorem Zjm {sz n:Nat}{cs:List V}(h:n*sz<=cs.length):(vRow sz n cs).length=n:=by
 unfold vRow
 split
 ·rename_i e;subst e;simp;omega
 ·exact Zhv
theorem Zja {v:V}(h:v.sc=true):v.cells=[v]:=by cases v<;>first|rfl|simp[V.sc]at h
theorem Zr5 {sz n:Nat}{cs:List V}(h:n*sz<=cs.length)(hs:∀c∈cs,c.sc=true):∀y∈vRow sz n cs,y.cells.length=sz/\ ∀c∈y.cells,c.sc=true:=by
 unfold vRow
 split
 ·rename_i e;subst e
  intro y hy
  have hy':=hs y (Xbn hy)
  rw[Zja hy']
  exact⟨rfl,by simpa using hy'⟩
 ·exact Znw h hs
theorem Zxl {sz n:Nat}{cs:List V}{i j:Nat}{x c:V}(h:n*sz<=cs.length)(hs:∀c∈cs,c.sc=true)(hx:(vRow sz n cs)[i]? =some x)(hc:x.cells[j]? =some c):i<n/\j<sz/\cs[i*sz+j]? =some c:=by
 unfold vRow at hx
 split at hx
 ·rename_i e;subst e
  rw[Xdk]at hx
  split at hx
  ·rename_i hlt
   rw[Zja (hs x (Xam hx))]at hc
   cases j with
   |zero=>simp at hc;subst hc;exact⟨hlt,by omega,by simpa using hx⟩
   |succ j=>simp at hc
  ·cases hx
 ·exact Zoh h hx hc
theorem Zwg {sz n:Nat}{cs:List V}(hs:∀c∈cs,c.sc=true):(vRow sz n cs).flatMap V.cells=cs.take (n*sz):=by
 unfold vRow
 split
 ·rename_i e;subst e
  rw[Xcw]
  have:∀l:List V,(∀c∈l,c.sc=true)->l.flatMap V.cells=l:=by
   intro l
   induction l with
   |nil=>intro _;rfl
   |cons a r ih=>intro h;rw[Xbp,Zja (h a (by simp)),ih fun c hc=>h c (by simp[hc])];rfl
  exact this _ fun c hc=>hs c (Xbn hc)
 ·exact Zkj
def Zb2 (H:Hp)(sz:Nat):V->Option (List V)
 | .sl _ s ys=>if s=sz \/ys=[]then some ys else none
 | .str b=>if sz=1 then some (encB b)else none
 | .osl id off len _ s=>if s=sz then if len=0 then some []else(Zat H id).bind fun cs=>if off+len*sz<=cs.length then some (vRow sz len (cs.drop off))else none else none
 |_=>none
def vApp (H:Hp)(own:Bool)(sz:Nat)(p:Option Pos)(s x:V):Option Res:=
 match s,Zb2 H sz x with
 | .sl true _ _,some ys=>if ys.length<=Lim then some ⟨.sl ys.isEmpty sz ys,true,none⟩else none
 | .sl false s' xs,some ys=>if xs.length+ys.length<=Lim/\s'=sz/\own=true then some ⟨.sl false sz (xs++ys),true,p⟩else none
 |_,_=>none
def V.isOsl :V->Bool
 | .osl _ _ _ _ _=>true
 |_=>false
def Zgc (nl:Bool)(H:Hp):V->Option V
 | .osl id off len _ sz=>if len=0 then some (.sl nl sz [])else(Zat H id).bind fun cs=>if off+len*sz<=cs.length then some (.sl false sz (vRow sz len (cs.drop off)))else none
 |v=>some v
def Zg8 (nl:Bool)(H:Hp):List V->Option (List V)
 | []=>some []
 |v::r=>(Zgc nl H v).bind fun x=>(Zg8 nl H r).map (x:: ·)
def V.isOsl0 :V->Bool
 | .osl _ _ 0 _ _=>true
 |_=>false
def fewE :List V->Bool
 | []=>true
 |v::r=>match v.isOsl0 with|true=> !r.any V.isOsl0|false=>fewE r
def V.flatR :V->Bool
 | .bool _| .int _ _| .str _=>true
 |_=>false
def V.isPtrV :V->Bool
 | .ptr _ _=>true
 | .map _=>true
 |_=>false
def V.flatT :V->Bool
 | .tup xs=>xs.all V.flatR
 |v=>v.flatR
def eqR :V->V->Bool
 | .bool a, .bool b=>a==b
 | .int k a, .int k' b=>decide (k=k')&&decide (a=b)
 | .str a, .str b=>decide (a=b)
 |_,_=>false
def eqRs :List V->List V->Bool
 | [],[]=>true
 |x::r,y::s=>eqR x y&&eqRs r s
 |_,_=>false
def eqT :V->V->Bool
 | .tup xs, .tup ys=>eqRs xs ys
 |x,y=>eqR x y
theorem Zy1 {x y:V}(h:eqR x y=true):x=y/\x.flatR=true:=by
 unfold eqR at h
 split at h<;>simp_all[V.flatR]
theorem Zqu {x:V}(h:x.flatR=true):eqR x x=true:=by
 unfold V.flatR at h
 split at h<;>simp_all[eqR]
theorem Zvx :∀{xs ys:List V},eqRs xs ys=true->xs=ys/\xs.all V.flatR=true
 | [],[],_=>⟨rfl,rfl⟩
 | [],_::_,h=>by cases h
 |_::_,[],h=>by cases h
 |x::r,y::s,h=>by
  simp only[eqRs,Xai]at h
  obtain⟨rfl,h1⟩:=Zy1 h.1
  obtain⟨rfl,h2⟩:=Zvx h.2
  exact⟨rfl,by simp[h1,h2]⟩
theorem Zoy :∀{xs:List V},xs.all V.flatR=true->eqRs xs xs=true
 | [],_=>rfl
 |x::r,h=>by
  simp only[Xcu,Xai]at h
  simp[eqRs,Zqu h.1,Zoy h.2]
theorem Z4f {x y:V}(h:eqT x y=true):x=y/\x.flatT=true:=by
 unfold eqT at h
 split at h
 ·obtain⟨rfl,h2⟩:=Zvx h;exact⟨rfl,h2⟩
 ·obtain⟨rfl,h2⟩:=Zy1 h
  refine⟨rfl, ?_⟩
  cases x<;>first|exact h2|cases h2
theorem Zxn {x:V}(h:x.flatT=true):eqT x x=true:=by
 cases x<;>simp only[V.flatT]at h<;>first|exact Zoy h|exact Zqu h
def Zj4 (Γ:Spec)(H:Hp)(f:Nat)(args:List V):Option Res:=
 if args.any V.isPtrV then none else if args.any V.isOsl then(Zg8 true H args).bind fun l=>(Zg8 false H args).bind fun l'=>(Γ f l).bind fun r=>(Γ f l').bind fun r'=>if eqT r.1 r'.1&&fewE args then some ⟨r.1,false,none⟩else none
 else(Γ f args).map fun r=>⟨r.1,r.2,none⟩
def Zos (Γ:Spec):V->List V->Option Res
 | .fn g caps,args=>(Γ g (args++caps)).map fun r=>⟨r.1,r.2,none⟩
 |_,_=>none
def evO (tm:Nat->V):Opd->V
 | .tmp t=>tm t
 | .const v=>v
def ownO (own:Pos->Bool):Opd->Bool
 | .tmp t=>own (.slot t)
 | .const _=>false
def posO :Opd->Option Pos
 | .tmp t=>some (.slot t)
 | .const _=>none
def Zbr (Γ:Spec)(gl:Nat->Option (List V))(H:Hp)(own:Pos->Bool)(tm:Nat->V):AOp->Option Res
 | .mv x=>some ⟨evO tm x,false,none⟩
 | .mvo t=>some ⟨tm t,own (.slot t),some (.slot t)⟩
 | .pick c a b=>resV (Zpy (evO tm c) (evO tm a) (evO tm b))
 | .ext t i=>resV (vExt (evO tm t) i)
 | .bin op q x y=>resV (abin op q (evO tm x) (evO tm y))
 | .un op x=>resV (aun op (evO tm x))
 | .len s x=>resV (vLen s (evO tm x))
 | .mnx mx x y=>resV (vMnx mx (evO tm x) (evO tm y))
 | .iaddr sz x i=>resV (Zeu sz (evO tm x) (evO tm i))
 | .iarr n sz x i=>resV (Zpj n sz (evO tm x) (evO tm i))
 | .faddr off x=>resV (Zjt off (evO tm x))
 | .load n x=>resV (Zfr gl H n (evO tm x))
 | .ldp n x=>resV (vLdp gl n (evO tm x))
 | .ldo x=>vLdo H own (evO tm x)
 | .fld n off x=>resV (vFld n off (evO tm x))
 | .idx x i=>resV (vIdx (evO tm x) (evO tm i))
 | .idxa len sz n x i=>resV (Zp6 len sz n (evO tm x) (evO tm i))
 | .sls x lo hi=>resV (vSls (evO tm x) (lo.map (evO tm)) (hi.map (evO tm)))
 | .slc sz x lo hi mx=>vSlc sz (evO tm x) (lo.map (evO tm)) (hi.map (evO tm)) (mx.map (evO tm))
 | .slca n sz x lo hi mx=>resV (Zi6 H n sz (evO tm x) (lo.map (evO tm)) (hi.map (evO tm)) (mx.map (evO tm)))
 | .build zero parts=>resV ((Zio zero (parts.map fun p=>(p.1,p.2.1,evO tm p.2.2))).map .agg)
 | .bsl sz parts=>if fits sz (parts.map (evO tm))then some ⟨.sl false sz (parts.map (evO tm)),true,none⟩else none
 | .s2b x=>vS2b (evO tm x)
 | .b2s x=>resV (vB2s H (evO tm x))
 | .i2i k x=>resV (vI2i k (evO tm x))
 | .s2s x=>resV (vS2s (evO tm x))
 | .s2a n x=>resV (vS2a n (evO tm x))
 | .call f args=>Zj4 Γ H f (args.map (evO tm))
 | .callv f args=>Zos Γ (evO tm f) (args.map (evO tm))
 | .mkf f caps=>some ⟨.fn f (caps.map (evO tm)),false,none⟩
 | .mkm f fs=>some ⟨.mfn f (fs.map (evO tm)),false,none⟩
 | .nilck x=>resV (Zoq (evO tm x))
 | .mks sz z len cap=>vMk sz z (evO tm len) (evO tm cap)
 | .app sz s x=>vApp H (ownO own s) sz (posO s) (evO tm s) (evO tm x)
 | .mlk ks z ok m k=>resV (vMlk H ks z ok (evO tm m) (evO tm k))
 | .mln m=>resV (vMln H (evO tm m))
 | .new _| .box _| .store _ _ _| .sto _ _| .callh _ _| .callvh _ _| .nro _| .mko _ _ _ _| .appo _ _ _| .cpy _ _| .clr _ _| .nmp| .mup _ _ _ _=>none
structure AOper where
 dst:Option Nat
 op:AOp
 guard:Option (Nat×Bool)
 after:List Nat
 deriving Inhabited
structure St where
 tm:Nat->V
 own:Pos->Bool
 H:Hp
 nH:Nat
def upd {α:Type}(f:Nat->α)(d:Nat)(v:α):Nat->α:=fun t=>if t=d then v else f t
def updP (f:Pos->Bool)(d:Pos)(v:Bool):Pos->Bool:=fun t=>if t=d then v else f t
def St.put (st:St)(d:Option Nat)(v:V)(o:Bool):St:=
 match d with
 |some d=> {st with tm:=upd st.tm d v,own:=updP st.own (.slot d) o}
 |none=>st
def St.take (st:St)(p:Option Pos):St:=
 match p with
 |some p=> {st with own:=updP st.own p false}
 |none=>st
def St.wants (st:St)(o:AOper):Bool:=
 match o.guard with
 |none=>true
 |some (t,w)=>match st.tm t with| .bool b=>b==w|_=>false
def St.ev (st:St):Opd->V:=evO st.tm
def St.new (st:St)(cs:List V):St:=
 {st with H:=upd st.H st.nH (some (.cells cs)),nH:=st.nH+1,own:=fun p=>match p with| .cell i j=>if i=st.nH then false else st.own (.cell i j)| .slot t=>st.own (.slot t)}
def St.newMp (st:St):St:=
 {st with H:=upd st.H st.nH (some (.mp [])),nH:=st.nH+1,own:=fun p=>match p with| .cell i j=>if i=st.nH then false else st.own (.cell i j)| .slot t=>st.own (.slot t)}
def St.setMp (st:St)(id:Nat)(l:List (V×V)):St:=
 {st with H:=upd st.H id (some (.mp l)),own:=fun p=>match p with| .cell i j=>if i=id then false else st.own (.cell i j)| .slot t=>st.own (.slot t)}
def St.upMp (st:St)(ks:KK)(m k x:V):Option St:=
 match m with
 | .map id=>(hMap st.H id).bind fun l=>if Zd4 ks k k=some true then(mPut ks k x l).map (st.setMp id)else none
 |_=>none
def St.setOb (st:St)(id:Nat)(cs:List V)(off:Nat)(ys:List V):St:=
 {st with H:=upd st.H id (some (.cells (Zav cs off ys))),own:=fun p=>match p with| .cell i j=>if i=id/\off<=j/\j<off+ys.length then false else st.own (.cell i j)| .slot t=>st.own (.slot t)}
def St.storeOb (st:St)(id:Nat)(cs:List V)(off n:Nat)(ys:List V):Option St:=
 if ys.length=n/\ys.all V.sc=true/\off+n<=cs.length then some (st.setOb id cs off ys)else none
def St.stoOb (st:St)(id:Nat)(cs:List V)(off t:Nat):St:=
 {st with H:=upd st.H id (some (.cells (Zav cs off [st.tm t]))),own:=updP (updP st.own (.cell id off) (st.own (.slot t))) (.slot t) false}
def St.kill (st:St)(id:Nat):St:=
 {st with H:=upd st.H id none,own:=fun p=>match p with| .cell i j=>if i=id then false else st.own (.cell i j)| .slot t=>st.own (.slot t)}
def St.turnOb (st:St)(id:Nat)(cs:List V):St:=(st.kill id).new cs
def Zj6 (sz:Nat)(ys:List V):Option (List V):=if fits sz ys then some (ys.flatMap V.cells)else none
def vSrc :V->Option (List V)
 | .str b=>some (encB b)
 |_=>none
def St.appOb (st:St)(sz:Nat)(s x:V):Option (St×V):=
 match s,Zb2 st.H sz x with
 | .osl id 0 len _ s',some ys=>
  match Zat st.H id,Zj6 sz ys with
  |some cs,some fs=>if s'=sz/\0<sz/\len*sz<=cs.length/\len+ys.length<=Lim then some (st.turnOb id (cs.take (len*sz)++fs), .osl st.nH 0 (len+ys.length) (len+ys.length) sz)else none
  |_,_=>none
 |_,_=>none
def St.cpyOb (st:St)(d s:V):Option (St×V):=
 match d,vSrc s with
 | .osl id off len _ 1,some ys=>
  match Zat st.H id with
  |some cs=>if off+len<=cs.length/\0<len then some (st.setOb id cs off (ys.take len), .int .i64 (min ys.length len))else none
  |none=>none
 |_,_=>none
def St.clrOb (st:St)(zero:List V)(d:V):Option St:=
 match d,zero with
 | .osl id off len _ 1,[z]=>
  match Zat st.H id with
  |some cs=>if off+len<=cs.length/\0<len/\z.sc=true then some (st.setOb id cs off (List.replicate len z))else none
  |none=>none
 |_,_=>none
def St.mkOb (st:St)(sz:Nat)(zero:List V):V->V->Option (St×V)
 | .int _ n, .int _ c=>match zero with
  | [z]=>if 0<=n/\n<=c/\c<=Lim/\sz=1/\z.sc=true then some (st.new (List.replicate n.toNat z), .osl st.nH 0 n.toNat n.toNat 1)else none
  |_=>none
 |_,_=>none
def St.hs (st:St):HS:=⟨st.H,st.nH,fun i j=>st.own (.cell i j)⟩
def St.setHS (st:St)(hs:HS):St:= {st with H:=hs.H,nH:=hs.nH,own:=fun p=>match p with| .cell i j=>hs.co i j| .slot t=>st.own (.slot t)}
def St.doCall (st:St)(Γ:Spec)(d:Option Nat)(f:Nat)(args:List V):Option St:=(Γ.h f args st.hs).map fun r=>(st.setHS r.2.2).put d r.1 r.2.1
def Zgz :V->List V->Option (Nat×List V)
 | .fn g caps,args=>some (g,args++caps)
 | .mfn g fs,args=>some (g,fs++args)
 |_,_=>none
def exec1 (Γ:Spec)(gl:Nat->Option (List V))(o:AOper)(st:St):Option St:=
 match o.op with
 | .new cs=>some ((st.new cs).put o.dst (.ptr st.nH 0) false)
 | .box x=>if(st.ev x).cells.all V.sc then some ((st.new (st.ev x).cells).put o.dst (.ptr st.nH 0) false)else none
 | .store n a x=>match st.ev a with
  | .ptr id off=>match Zat st.H id with
   |some cs=>(st.storeOb id cs off n (st.ev x).cells).map fun s=>s.put o.dst Nil false
   |_=>none
  |_=>none
 | .sto a t=>match st.ev a with
  | .ptr id off=>match Zat st.H id with
   |some cs=>
    if(st.tm t).sc=true/\off<cs.length then
     some ((st.stoOb id cs off t).put o.dst Nil false)
    else none
   |_=>none
  |_=>none
 | .callh f args=>st.doCall Γ o.dst f (args.map st.ev)
 | .callvh f args=>match Zgz (st.ev f) (args.map st.ev)with
  |some ga=>match Γ.p ga.1 ga.2 with
   |some r=>some (st.put o.dst r.1 r.2)
   |none=>st.doCall Γ o.dst ga.1 ga.2
  |none=>none
 | .nro sz=>some ((st.new []).put o.dst (.osl st.nH 0 0 0 sz) false)
 | .mko sz zero l c=>(st.mkOb sz zero (st.ev l) (st.ev c)).map fun r=>r.1.put o.dst r.2 false
 | .appo sz s x=>(st.appOb sz (st.ev s) (st.ev x)).map fun r=>r.1.put o.dst r.2 false
 | .cpy d s=>(st.cpyOb (st.ev d) (st.ev s)).map fun r=>r.1.put o.dst r.2 false
 | .clr z d=>(st.clrOb z (st.ev d)).map fun s=>s.put o.dst Nil false
 | .nmp=>some (st.newMp.put o.dst (.map st.nH) false)
 | .mup ks m k x=>(st.upMp ks (st.ev m) (st.ev k) (st.ev x)).map fun s=>s.put o.dst Nil false
 |op=>(Zbr Γ gl st.H st.own st.tm op).map fun r=>(st.take r.tk).put o.dst r.v r.o
def exec (Γ:Spec)(gl:Nat->Option (List V))(o:AOper)(st:St):Option St:=
 if st.wants o then exec1 Γ gl o st else some (st.put o.dst Nil false)
def execs (Γ:Spec)(gl:Nat->Option (List V)):List AOper->St->Option St
 | [],st=>some st
 |o::r,st=>match exec Γ gl o st with|some st=>execs Γ gl r st|none=>none
inductive ACode where
 |skip
 |region (ops:List AOper) (draw:Bool)
 |seq (a b:ACode)
 |cond (c:Opd) (thn els:ACode)
 |block (id:Nat) (body:ACode)
 |loop (body:ACode)
 |exit (id:Nat)
 |ret
 |fail
 deriving Inhabited
inductive Ex where
 |normal|exit (id:Nat)|ret
 deriving DecidableEq
def Ex.inBlock (id:Nat):Ex->Ex
 | .exit i=>if i=id then .normal else .exit i
 |e=>e
end Go.Abs
namespace Go.Abs
open Go.RowKit
structure Bel (B:Nat->Prop)(w w':World):Prop where
 os:w'.os=w.os
 tape:w'.tape=w.tape
 output:w'.output=w.output
 size:w.heap.size<=w'.heap.size
 block:∀k,¬B k->w'.heap[k]? =w.heap[k]?
theorem Bel.refl (B:Nat->Prop)(w:World):Bel B w w:=⟨rfl,rfl,rfl,Xag _,fun _ _=>rfl⟩
theorem Bel.trans {B:Nat->Prop}{a b c:World}(h:Bel B a b)(k:Bel B b c):Bel B a c:=
 ⟨k.os.trans h.os,k.tape.trans h.tape,k.output.trans h.output,Xbs h.size k.size,fun i hi=>(k.block i hi).trans (h.block i hi)⟩
theorem Bel.drew {B:Nat->Prop}{a w:World}(h:Bel B a w):Bel B a w.drew:=⟨h.os,h.tape,h.output,h.size,h.block⟩
theorem Bel.of {B:Nat->Prop}{n:Nat}{a w:World}(h:Below n a w)(hB:∀b,n<=b->B b):Bel B a w:=
 ⟨h.os,h.tape,h.output,h.size,fun k hk=>h.block k (Xd7 fun e=>hk (hB k e))⟩
theorem Bel.below {n:Nat}{a w:World}(h:Bel (fun b=>n<=b) a w):Below n a w:=⟨h.os,h.tape,h.output,h.size,fun k hk=>h.block k (Xfu.2 hk)⟩
theorem Bel.low {B:Nat->Prop}{n:Nat}{a w:World}(h:Bel B a w)(hB:∀b,B b->n<=b):Below n a w:=⟨h.os,h.tape,h.output,h.size,fun k hk=>h.block k fun e=>absurd (hB k e) (Xfu.2 hk)⟩
theorem Bel.mono {B B':Nat->Prop}{a w:World}(h:Bel B a w)(hB:∀b,B b->B' b):Bel B' a w:=⟨h.os,h.tape,h.output,h.size,fun k hk=>h.block k fun e=>hk (hB k e)⟩
structure Gh where
 G:Nat->Nat
 φ:Nat->Option Nat
 ow:Nat->Option Pos
def OwnAt (W:World)(B:Nat->Prop)(g:Gh)(p:Pos)(v:V)(x:Value):Prop:=
 ∀sz xs b off len cap sp,v= .sl false sz xs->x= .slice (some ⟨b,off,sp⟩) len cap->
  cap=len \/(B b/\g.ow b=some p/\off+xs.length*sz=g.G b/\
   ∃cs t lo hi,W.heap[b]? =some (.cells cs t (lo,hi))/\off+cap*sz<=cs.size/\ ∀j,g.G b<=j->j<off+cap*sz-> ¬(lo<=j/\j<hi))
def RepP (W:World)(G:Nat->Nat)(φ:Nat->Option Nat)(vs:List V)(xs:Array Value):Prop:=
 vs.length<=xs.size/\ ∀(i:Nat) (c:V) (x:Value),vs[i]? =some c->xs[i]? =some x->Rep W G φ c x
theorem RepP.keep {W G φ W' G' φ' vs xs}(hk:Keeps W G φ W' G' φ')(h:RepP W G φ vs xs):RepP W' G' φ' vs xs:=
 ⟨h.1,fun i c x hc hx=>(h.2 i c x hc hx).keep hk⟩
theorem RepL.pre {W G φ vs xs}(h:RepL W G φ vs xs):RepP W G φ vs xs:=⟨by rw[h.1];exact Xag _,h.2⟩
def ObOK (W:World)(B:Nat->Prop)(g:Gh)(own:Nat->Bool)(id:Nat):Ob->Prop
 | .cells cs=>(cs=[]/\g.φ id=none) \/ ∃b xs t,g.φ id=some b/\W.heap[b]? =some (.cells xs t (0,0))/\RepP W g.G g.φ cs xs/\(∀c∈cs,c.sc=true)/\
  ∀(j:Nat) (v:V) (x:Value),cs[j]? =some v->xs[j]? =some x->own j=true->OwnAt W B g (.cell id j) v x
 | .mp l=> ∃b es ck,g.φ id=some b/\W.heap[b]? =some (.map es ck)/\l.length=es.size/\ ∀(i:Nat) (p:V×V) (e:MapEntry),l[i]? =some p->es[i]? =some e->Rep W g.G g.φ p.1 e.key/\Rep W g.G g.φ p.2 e.val
theorem ObOK.cells {W B g own id cs b}(h:ObOK W B g own id (.cells cs))(hb:g.φ id=some b):∃xs t,W.heap[b]? =some (.cells xs t (0,0))/\RepP W g.G g.φ cs xs/\(∀c∈cs,c.sc=true)/\
  ∀(j:Nat) (v:V) (x:Value),cs[j]? =some v->xs[j]? =some x->own j=true->OwnAt W B g (.cell id j) v x:=by
 rcases h with⟨_,h⟩|⟨b',xs,t,h1,h2⟩
 ·rw[hb]at h;cases h
 ·rw[hb]at h1;cases h1;exact⟨xs,t,h2⟩
theorem ObOK.full {W B g own id cs}(h:ObOK W B g own id (.cells cs))(hc:cs≠ []):∃b xs t,g.φ id=some b/\W.heap[b]? =some (.cells xs t (0,0))/\RepP W g.G g.φ cs xs/\(∀c∈cs,c.sc=true)/\
  ∀(j:Nat) (v:V) (x:Value),cs[j]? =some v->xs[j]? =some x->own j=true->OwnAt W B g (.cell id j) v x:=
 h.resolve_left fun e=>hc e.1
theorem ObOK.sc {W B g own id cs}(h:ObOK W B g own id (.cells cs)):∀c∈cs,c.sc=true:=by
 rcases h with⟨rfl,_⟩|⟨b',xs,t,h1,h2,h3,h4,_⟩
 ·intro c hc;cases hc
 ·exact h4
theorem ObOK.keep {W B g own id o W' B' g' own'}(h:ObOK W B g own id o)(hk:Keeps W g.G g.φ W' g'.G g'.φ)(hφ:g'.φ id=g.φ id)(hb:∀b,g.φ id=some b->W'.heap[b]? =W.heap[b]?)
  (ho:∀j v x,own' j=true->own j=true/\(OwnAt W B g (.cell id j) v x->OwnAt W' B' g' (.cell id j) v x)):ObOK W' B' g' own' id o:=by
 cases o with
 |cells cs=>
  rcases h with⟨h1,h2⟩|⟨b,xs,t,h1,h2,h3,h4,h5⟩
  ·exact .inl ⟨h1,hφ.trans h2⟩
  ·exact .inr ⟨b,xs,t,hφ.trans h1,(hb b h1).trans h2,h3.keep hk,h4,fun j v x hv hx hw=>(ho j v x hw).2 (h5 j v x hv hx (ho j v x hw).1)⟩
 |mp l=>
  obtain⟨b,es,ck,h1,h2,h3,h4⟩:=h
  exact⟨b,es,ck,hφ.trans h1,(hb b h1).trans h2,h3,fun i p e hp he=>⟨(h4 i p e hp he).1.keep hk,(h4 i p e hp he).2.keep hk⟩⟩
structure SR (w:World)(B:Nat->Prop)(GB:Gh)(g:Gh)(st:St)(a:Act)(W:World):Prop where
 defers:a.defers=[]
 tm:∀(t:Nat) (x:Value),a.tmps[t]? =some x->Rep W g.G g.φ (st.tm t) x
 own:∀(t:Nat) (x:Value),a.tmps[t]? =some x->st.own (.slot t)=true->OwnAt W B g (.slot t) (st.tm t) x
 ob:∀id o,st.H id=some o->ObOK W B g (fun j=>st.own (.cell id j)) id o
 obn:∀id,st.nH<=id->st.H id=none
 φ:∀id b,g.φ id=some b->B b/\b<W.heap.size/\id<st.nH
 live:∀id b,g.φ id=some b->g.G b=0/\g.ow b=none
 inj:∀id id' b,g.φ id=some b->g.φ id'=some b->st.H id≠none->st.H id'≠none->id=id'
 Gz:∀b,W.heap.size<=b->g.G b=0
 Glo:∀b,¬B b->g.G b=GB.G b
 kp:∀b i,i<GB.G b->W.cell? ⟨b,i,none⟩=w.cell? ⟨b,i,none⟩
 kG:∀b,GB.G b<=g.G b
 kφ:∀id b,GB.φ id=some b->g.φ id=some b
 ksz:∀id b,GB.φ id=some b->csz W b=csz w b
 below:Bel B w W
 hB:∀b,w.heap.size<=b->B b
theorem Zbk {H:Hp}{id:Nat}{cs:List V}(h:Zat H id=some cs):H id=some (.cells cs):=by
 unfold Zat at h
 split at h
 ·rename_i e;cases h;exact e
 ·cases h
theorem SR.csz {w B GB g st a W}(h:SR w B GB g st a W):∀id cs b,Zat st.H id=some cs->g.φ id=some b->cs.length<=csz W b:=by
 intro id cs b hc hb
 unfold Zat at hc
 split at hc
 ·rename_i cs' hH
  cases hc
  obtain⟨xs,t,h1,h2,_⟩:=(h.ob id _ hH).cells hb
  unfold Abs.csz;rw[h1];exact h2.1
 ·cases hc
structure Adv (B:Nat->Prop)(g g':Gh)(W W':World)(p:Option Pos):Prop where
 keeps:Keeps W g.G g.φ W' g'.G g'.φ
 φ:g'.φ=g.φ
 below:Bel B W W'
 Glo:∀b,¬B b->g'.G b=g.G b
 ob:∀b id,g.φ id=some b->b<W.heap.size->g.G b=0->g.ow b=none->W'.heap[b]? =W.heap[b]? /\g'.G b=0/\g'.ow b=none
 own:∀b q,b<W.heap.size->g.ow b=some q->some q≠p->W'.heap[b]? =W.heap[b]? /\g'.G b=g.G b/\g'.ow b=some q
 Gz:∀b,W'.heap.size<=b->g'.G b=0
theorem OwnAt.adv {B g g' W W' p q v x}(h:OwnAt W B g q v x)(ha:Adv B g g' W W' p)(hq:some q≠p):OwnAt W' B g' q v x:=by
 intro sz xs b off len cap sp hv hx
 rcases h sz xs b off len cap sp hv hx with h|⟨h1,h2,h3,cs,t,lo,hi,h4,h5,h6⟩
 ·exact .inl h
 ·have hlt:b<W.heap.size:=(Xa8.1 h4).1
  obtain⟨e1,e2,e3⟩:=ha.own b q hlt h2 hq
  exact .inr ⟨h1,e3,by rw[e2];exact h3,cs,t,lo,hi,by rw[e1];exact h4,h5,by rw[e2];exact h6⟩
theorem St.take_own {st:St}{p:Option Pos}{q:Pos}(h:(st.take p).own q=true):st.own q=true/\some q≠p:=by
 cases p with
 |none=>exact⟨h,by simp⟩
 |some p=>
  simp only[St.take,updP]at h
  split at h
  ·simp at h
  ·rename_i hne;exact⟨h,by simpa using hne⟩
@[simp] theorem St.take_tm (st:St)(p:Option Pos):(st.take p).tm=st.tm:=by cases p<;>rfl
@[simp] theorem St.take_H (st:St)(p:Option Pos):(st.take p).H=st.H:=by cases p<;>rfl
@[simp] theorem St.take_nH (st:St)(p:Option Pos):(st.take p).nH=st.nH:=by cases p<;>rfl
theorem SR.adv {w B GB g g' st a W W' p}(h:SR w B GB g st a W)(ha:Adv B g g' W W' p):SR w B GB g' (st.take p) a W' where
 defers:=h.defers
 tm t x hx:=by rw[St.take_tm];exact(h.tm t x hx).keep ha.keeps
 own t x hx ho:=by
  obtain⟨h1,h2⟩:=St.take_own ho
  rw[St.take_tm]
  exact(h.own t x hx h1).adv ha h2
 ob id o hH:=by
  rw[St.take_H]at hH
  refine ObOK.keep (h.ob id o hH) ha.keeps (by rw[ha.φ]) (fun b hb=> ?_) (fun j v x hw=> ?_)
  ·obtain⟨q1,q2⟩:=h.live id b hb
   exact(ha.ob b id hb (h.φ id b hb).2.1 q1 q2).1
  ·obtain⟨k1,k2⟩:=St.take_own hw
   exact⟨k1,fun hq=>hq.adv ha k2⟩
 obn id hid:=by rw[St.take_nH]at hid;rw[St.take_H];exact h.obn id hid
 φ id b hφ:=by
  rw[ha.φ]at hφ
  obtain⟨q1,q2,q5⟩:=h.φ id b hφ
  exact⟨q1,Xb0 q2 ha.below.size,by rw[St.take_nH];exact q5⟩
 live id b hφ:=by
  rw[ha.φ]at hφ
  obtain⟨q3,q4⟩:=h.live id b hφ
  exact(ha.ob b id hφ (h.φ id b hφ).2.1 q3 q4).2
 inj id id' b:=by rw[ha.φ,St.take_H];exact h.inj id id' b
 Gz:=ha.Gz
 Glo b hb:=(ha.Glo b hb).trans (h.Glo b hb)
 kp b i hi:=(ha.keeps.cell b i (Xb0 hi (h.kG b))).trans (h.kp b i hi)
 kG b:=Xbs (h.kG b) (ha.keeps.G b)
 kφ id b e:=by rw[ha.φ];exact h.kφ id b e
 ksz id b e:=(ha.keeps.sz id b (h.kφ id b e)).trans (h.ksz id b e)
 below:=h.below.trans ha.below
 hB:=h.hB
theorem Zh1 (a:Act)(d:Option Nat)(x:Value)(t:Nat):
  (a.put d x).tmps[t]? =if d=some t/\t<a.tmps.size then some x else a.tmps[t]? :=by
 cases d with
 |none=>simp[Act.put]
 |some d=>
  simp only[Act.put,Array.getElem?_setIfInBounds]
  by_cases h:d=t
  ·subst h;by_cases hs:d<a.tmps.size<;>simp[hs]
  ·simp[h]
theorem SR.put {w B GB g st a W}(h:SR w B GB g st a W)(d:Option Nat)(v:V)(o:Bool)(x:Value)(hr:Rep W g.G g.φ v x)
  (ho:∀t,d=some t->o=true->OwnAt W B g (.slot t) v x):SR w B GB g (st.put d v o) (a.put d x) W where
 defers:=by cases d<;>exact h.defers
 tm t y hy:=by
  rw[Zh1]at hy
  cases d with
  |none=>simp only[reduceCtorEq,false_and,if_false]at hy;exact h.tm t y hy
  |some d=>
   by_cases e:d=t
   ·subst e
    have hlt:d<a.tmps.size:=by
     rcases Xa4 d a.tmps.size with h|h
     ·exact h
     ·simp[Xe2.2 h]at hy
    simp only[hlt,and_self,if_true,Xac]at hy
    subst hy
    simpa[St.put,upd]using hr
   ·simp only[Xac,e,false_and,if_false]at hy
    have:=h.tm t y hy
    simpa[St.put,upd,Ne.symm e]using this
 own t y hy ht:=by
  rw[Zh1]at hy
  cases d with
  |none=>simp only[reduceCtorEq,false_and,if_false]at hy;exact h.own t y hy ht
  |some d=>
   by_cases e:d=t
   ·subst e
    have hlt:d<a.tmps.size:=by
     rcases Xa4 d a.tmps.size with h|h
     ·exact h
     ·simp[Xe2.2 h]at hy
    simp only[hlt,and_self,if_true,Xac]at hy
    subst hy
    have ht':o=true:=by simpa[St.put,updP]using ht
    simpa[St.put,upd]using ho d rfl ht'
   ·simp only[Xac,e,false_and,if_false]at hy
    have ht':st.own (.slot t)=true:=by simpa[St.put,updP,Ne.symm e]using ht
    have:=h.own t y hy ht'
    simpa[St.put,upd,Ne.symm e]using this
 ob id ob hH:=by
  have hH':st.H id=some ob:=by cases d<;>exact hH
  refine ObOK.keep (h.ob id ob hH') (.refl _ _ _) rfl (fun _ _=>rfl) (fun j v x hw=>⟨?_,fun h=>h⟩)
  cases d with
  |none=>exact hw
  |some d=>simpa[St.put,updP]using hw
 obn id hid:=by cases d<;>exact h.obn id hid
 φ id b hφ:=by cases d<;>exact h.φ id b hφ
 live:=h.live
 inj id id' b e1 e2:=by cases d<;>exact h.inj id id' b e1 e2
 Gz:=h.Gz
 Glo:=h.Glo
 kp:=h.kp
 kG:=h.kG
 kφ:=h.kφ
 ksz:=h.ksz
 below:=h.below
 hB:=h.hB
theorem SR.get {w B GB g st a W}(h:SR w B GB g st a W){t:Nat}(ht:t<a.tmps.size):Rep W g.G g.φ (st.tm t) (a.eval (.tmp t)):=by
 have e:a.tmps[t]? =some a.tmps[t]:=Xar ht
 have:=h.tm t _ e
 simpa[Act.eval,Array.getD,ht]using this
theorem Adv.refl {w B GB g st a W}(h:SR w B GB g st a W)(p:Option Pos):Adv B g g W W p:=
 ⟨.refl _ _ _,rfl, .refl _ _,fun _ _=>rfl,fun _ _ _ _ h1 h2=>⟨rfl,h1,h2⟩,fun _ _ _ h _=>⟨rfl,rfl,h⟩,h.Gz⟩
theorem Adv.drew {B g g' W W' p}(h:Adv B g g' W W' p):Adv B g g' W W'.drew p:=
 ⟨⟨h.keeps.cell,h.keeps.G,h.keeps.φ,h.keeps.sz⟩,h.φ,h.below.drew,h.Glo,h.ob,h.own,h.Gz⟩
theorem Adv.alloc {w B GB g st a W}(h:SR w B GB g st a W)(o:Obj)(n:Nat)(q:Option Pos)(p:Option Pos):
  Adv B g ⟨fun b=>if b=W.heap.size then n else g.G b,g.φ,fun b=>if b=W.heap.size then q else g.ow b⟩ W (W.alloc o) p:=by
 have hB:B W.heap.size:=h.hB _ h.below.size
 refine⟨⟨fun b i hi=> ?_,fun b=> ?_,fun _ _ h=>h,fun id b' hb=> ?_⟩,rfl, .of ((Below.refl _ _).alloc (Xag _) o) (fun b hb=>h.hB b (Xbs h.below.size hb)),fun b hb=> ?_,fun b id h1 h2 h3 h4=> ?_,fun b q h1 h2 _=> ?_,fun b hb=> ?_⟩
 ·have:b<W.heap.size:=by
   rcases Xa4 b W.heap.size with h'|h'
   ·exact h'
   ·have:=h.Gz b h';omega
  exact World.cell?_of_block (w:=W) (Below.heap_alloc _ _ _ this)
 ·dsimp only;split
  ·rename_i e;have:=h.Gz b (by omega);omega
  ·exact Xag _
 ·exact Zhb (Below.heap_alloc _ _ _ (h.φ id b' hb).2.1)
 ·dsimp only;rw[if_neg (fun e=>hb (by rw[e];exact hB))]
 ·dsimp only;rw[if_neg (by omega),if_neg (by omega)];exact⟨Below.heap_alloc _ _ _ h2,h3,h4⟩
 ·dsimp only;rw[if_neg (by omega),if_neg (by omega)];exact⟨Below.heap_alloc _ _ _ h1,rfl,h2⟩
 ·dsimp only
  rw[World.size_alloc]at hb
  rw[if_neg (by omega)];exact h.Gz b (by omega)
end Go.Abs
namespace Go.Abs
open Go.RowKit
theorem Zaa {P:Program}{t:TypeId}{d:TypeDesc}{w:World}(h:P.underlying t=some d):(underlying t).run P w= .ok d w:=by
 simp[underlying,h]
variable {P:Program}{W:World}{G:Nat->Nat}{φ:Nat->Option Nat}
theorem Z59 {c a b v:V}{xc xa xb:Value}(hc:Rep W G φ c xc)(ha:Rep W G φ a xa)(hb:Rep W G φ b xb)(hv:Zpy c a b=some v):
  ∃t,xc= .bool t/\Rep W G φ v (if t then xa else xb):=by
 cases hc<;>simp[Zpy]at hv
 rename_i t
 subst hv
 exact⟨t,rfl,by cases t<;>simpa⟩
theorem Z8u {t v:V}{i:Nat}{x:Value}(h:Rep W G φ t x)(hv:vExt t i=some v):
  ∃y,(Instr.extract x i).run P W= .ok y W/\Rep W G φ v y:=by
 cases h<;>simp[vExt]at hv
 rename_i cs xs hl h
 have hi:i<xs.size:=by rw[<-hl];exact(Xae.1 hv).1
 refine⟨xs[i], ?_,h i v _ hv (Xar hi)⟩
 simp[Instr.extract,hi]
theorem d_un {op:UnOp}{v u:V}{x:Value}(h:Rep W G φ v x)(hv:aun op v=some u):
  ∃y,(Op.unary op x).run P W= .ok y W/\Rep W G φ u y:=by
 cases op<;>cases h<;>simp only[aun,Xac,reduceCtorEq]at hv<;>subst hv
 all_goals first|exact⟨_,rfl, .int _ _⟩|exact⟨_,rfl, .bool _⟩
theorem Zb5 (s:ByteArray):s.toList=s.data.toList:=by
 have key:∀(s:ByteArray) (i:Nat) (r:List UInt8),ByteArray.toList.loop s i r=r.reverse++s.data.toList.drop i:=by
  intro s i
  generalize hn:s.size-i=n
  induction n generalizing i with
  |zero=>
   intro r
   unfold ByteArray.toList.loop
   have: ¬i<s.size:=by omega
   rw[if_neg this,Xav (by simp;exact Xe2.1 this),Xao]
  |succ n ih=>
   intro r
   unfold ByteArray.toList.loop
   have hlt:i<s.size:=by omega
   rw[if_pos hlt,ih (i+1) (by omega)]
   have hd:s.data.toList.drop i=s.get! i::s.data.toList.drop (i+1):=by
    have h':i<s.data.toList.length:=by simpa using hlt
    rw[Xap h']
    congr 1
    have h2:i<s.data.size:=hlt
    show s.data[i]=s.data[i]!
    rw[getElem!_pos s.data i h2]
   rw[hd];simp
 unfold ByteArray.toList
 rw[key];simp
theorem Zvj {op:BinOp}{k k':IntKind}{a b:Int}{v:V}{q:EqK}{t:TypeId}(hv:abin op q (.int k a) (.int k' b)=some v):
  ∃y,(binOp op t (.int k a) (.int k' b)).run P W= .ok y W/\Rep W G φ v y:=by
 by_cases hshl:op= .shl
 ·subst hshl
  simp only[abin]at hv
  split at hv
  ·simp at hv
  ·rename_i hb;simp at hv;subst hv
   exact⟨_,by simp[binOp,Op.shift,hb], .int _ _⟩
 by_cases hshr:op= .shr
 ·subst hshr
  simp only[abin]at hv
  split at hv
  ·simp at hv
  ·rename_i hb;simp at hv;subst hv
   exact⟨_,by simp[binOp,Op.shift,hb], .int _ _⟩
 have hv':(if k=k' then aint op k a b else none)=some v:=by cases op<;>simp_all[abin]
 split at hv'
 ·rename_i hk;subst hk
  cases op<;>simp only[aint,Xac,reduceCtorEq]at hv'
  case quo=>split at hv'<;>simp at hv';rename_i hb;subst hv';exact⟨.int k (k.wrap (a.tdiv b)),by simp[binOp,Op.intDiv,hb], .int _ _⟩
  case rem=>split at hv'<;>simp at hv';rename_i hb;subst hv';exact⟨.int k (a.tmod b),by simp[binOp,Op.intDiv,hb], .int _ _⟩
  case add=>subst hv';exact⟨.int k (k.wrap (a+b)),by simp[binOp,Op.intArith], .int _ _⟩
  case sub=>subst hv';exact⟨.int k (k.wrap (a-b)),by simp[binOp,Op.intArith], .int _ _⟩
  case mul=>subst hv';exact⟨.int k (k.wrap (a*b)),by simp[binOp,Op.intArith], .int _ _⟩
  case and=>subst hv';exact⟨.int k (k.wrap (BitVec.ofInt k.bits a&&&BitVec.ofInt k.bits b).toNat),by simp[binOp,Op.intBits], .int _ _⟩
  case or=>subst hv';exact⟨.int k (k.wrap (BitVec.ofInt k.bits a|||BitVec.ofInt k.bits b).toNat),by simp[binOp,Op.intBits], .int _ _⟩
  case xor=>subst hv';exact⟨.int k (k.wrap (BitVec.ofInt k.bits a^^^BitVec.ofInt k.bits b).toNat),by simp[binOp,Op.intBits], .int _ _⟩
  case andNot=>subst hv';exact⟨.int k (k.wrap (BitVec.ofInt k.bits a&&& ~~~BitVec.ofInt k.bits b).toNat),by simp[binOp,Op.intBits], .int _ _⟩
  case eql=>subst hv';exact⟨.bool (decide (a=b)),by simp[binOp,Op.intCmp];rfl, .bool _⟩
  case neq=>subst hv';exact⟨.bool (!decide (a=b)),by simp[binOp,Op.intCmp,bne];rfl, .bool _⟩
  case lss=>subst hv';exact⟨.bool (decide (a<b)),by simp[binOp,Op.intCmp], .bool _⟩
  case leq=>subst hv';exact⟨.bool (decide (a<=b)),by simp[binOp,Op.intCmp], .bool _⟩
  case gtr=>subst hv';exact⟨.bool (decide (b<a)),by simp[binOp,Op.intCmp], .bool _⟩
  case geq=>subst hv';exact⟨.bool (decide (b<=a)),by simp[binOp,Op.intCmp], .bool _⟩
 ·simp at hv'
theorem Zgu (a b:Bytes):(a==b)=decide (a=b):=by
 by_cases h:a=b<;>simp[h]
theorem Ztr {op:BinOp}{a b:ByteArray}{v:V}{q:EqK}{t:TypeId}(hv:abin op q (.str a.data.toList) (.str b.data.toList)=some v):
  ∃y,(binOp op t (.string a) (.string b)).run P W= .ok y W/\Rep W G φ v y:=by
 have hv':astr op a.data.toList b.data.toList=some v:=hv
 have hb:∀op,binOp op t (.string a) (.string b)=Op.stringOp op a b:=by intro op;cases op<;>rfl
 rw[hb]
 cases op<;>simp only[astr,Xac,reduceCtorEq]at hv'
 case add=>
  split at hv'<;>simp only[Xac,reduceCtorEq]at hv'
  rename_i hlen
  subst hv'
  have hl: ¬(((a.size+b.size:Nat):Int)>IntKind.i64.max):=by
   have h1:a.data.toList.length=a.size:=by simp
   have h2:b.data.toList.length=b.size:=by simp
   have h3:IntKind.i64.max=9223372036854775807:=by decide
   rw[h3];omega
  refine⟨.string (a++b), ?_, .str _ _ (by simp)⟩
  simp only[Op.stringOp,hl,if_false]
  rfl
 case eql=>subst hv';exact⟨.bool (decide (a.data.toList=b.data.toList)),by simp only[Op.stringOp,Zb5,Zgu];rfl, .bool _⟩
 case neq=>subst hv';exact⟨.bool (!decide (a.data.toList=b.data.toList)),by simp only[Op.stringOp,Zb5,Zgu];rfl, .bool _⟩
 case lss=>subst hv';exact⟨.bool (Op.bytesLess a.data.toList b.data.toList),by simp only[Op.stringOp,Zb5];rfl, .bool _⟩
 case leq=>subst hv';exact⟨.bool (Op.bytesLess a.data.toList b.data.toList||decide (a.data.toList=b.data.toList)),by simp only[Op.stringOp,Zb5,Zgu];rfl, .bool _⟩
 case gtr=>subst hv';exact⟨.bool (!(Op.bytesLess a.data.toList b.data.toList||decide (a.data.toList=b.data.toList))),by simp only[Op.stringOp,Zb5,Zgu];rfl, .bool _⟩
 case geq=>subst hv';exact⟨.bool (!Op.bytesLess a.data.toList b.data.toList),by simp only[Op.stringOp,Zb5];rfl, .bool _⟩
def RepO (W:World)(G:Nat->Nat)(φ:Nat->Option Nat):Option V->Option Value->Prop
 |none,none=>True
 |some v,some x=>Rep W G φ v x
 |_,_=>False
theorem Zbw {v:Option V}{x:Option Value}{r:Option Int}(h:RepO W G φ v x)(hv:vOpt v=some r):
  (r=none/\x=none) \/ ∃k n,r=some n/\x=some (.int k n):=by
 cases v with
 |none=>cases x with
  |none=>simp[vOpt]at hv;exact .inl ⟨hv.symm,rfl⟩
  |some x=>exact h.elim
 |some v=>cases x with
  |none=>exact h.elim
  |some x=>
   have h':Rep W G φ v x:=h
   cases h'<;>simp[vOpt]at hv
   exact .inr ⟨_,_,hv.symm,rfl⟩
theorem Zj5 {k:IntKind}{n:Int}{y:Nat}{c:BoundsCode}(h0:0<=n)(h1:n<=y):
  (Instr.sliceBound (.int k n) y c).run P W= .ok n.toNat W:=by
 simp[Instr.sliceBound,asIntOf,h0,h1]
theorem Zb7 {isS:Bool}{len cap:Nat}{l h m:Option Int}{xl xh xm:Option Value}{c:Nat×Nat×Nat}(hlen:len<=cap)
  (hl:(l=none/\xl=none) \/ ∃k n,l=some n/\xl=some (.int k n)) (hh:(h=none/\xh=none) \/ ∃k n,h=some n/\xh=some (.int k n))
  (hm:(m=none/\xm=none) \/ ∃k n,m=some n/\xm=some (.int k n)) (hc:cut3 len cap l h m=some c):
  (Instr.sliceBounds isS len cap xl xh xm).run P W= .ok (c.1,c.2.1,c.2.2) W/\c.1<=c.2.1/\c.2.1<=c.2.2/\c.2.2<=cap:=by
 unfold cut3 at hc
 simp only[]at hc
 split at hc
 ·rename_i hcond
  obtain⟨c1,c2,c3,c4,c5,c6,c7⟩:=hcond
  simp only[Xac]at hc
  subst hc
  rcases hm with⟨rfl,rfl⟩|⟨km,nm,rfl,rfl⟩<;>rcases hh with⟨rfl,rfl⟩|⟨kh,nh,rfl,rfl⟩<;>rcases hl with⟨rfl,rfl⟩|⟨kl,nl,rfl,rfl⟩<;>
   simp only[Xcm,Xb1,Xdc,Xb5,forall_const,Xat,false_implies]at* <;>
   (try exact False.elim c7)<;>
   (refine⟨?_,by omega,by omega,by omega⟩)<;>
   simp(disch:=omega) [Instr.sliceBounds,Zj5]
 ·simp at hc
theorem Zb9 (b off n:Nat):(⟨b,off,none⟩:Addr).add n=⟨b,off+n,none⟩:=by unfold Addr.add;split<;>simp_all
theorem Z9c {u v:V}{x:Value}{lo hi:Option V}{xl xh:Option Value}{t:TypeId}(ht:P.underlying t=some .string)(h:Rep W G φ u x)
  (hl:RepO W G φ lo xl) (hh:RepO W G φ hi xh) (hv:vSls u lo hi=some v):
  ∃y,(Instr.sliceAt t x xl xh none).run P W= .ok y W/\Rep W G φ v y:=by
 unfold vSls at hv
 split at hv
 ·rename_i l r s el eh
  cases h
  rename_i b hb
  simp only[Xaa]at hv
  obtain⟨c,hc,rfl⟩:=hv
  have hsz:s.length=b.size:=by rw[<-hb];simp
  rw[hsz]at hc
  obtain⟨hr,h1,h2,h3⟩:=Zb7 (P:=P) (W:=W) (isS:=false) (Xag _) (Zbw hl el) (Zbw hh eh) (.inl ⟨rfl,rfl⟩) hc
  refine⟨.string (b.extract c.1 c.2.1), ?_, .str _ _ ?_⟩
  ·simp[Instr.sliceAt,Instr.slice,Zaa ht,hr]
  ·subst hb
   simp[ByteArray.data_extract,List.drop_take]
 ·simp at hv
theorem Zs9 {sz:Nat}{xs:List V}(h:fits sz xs=true):∀x∈xs,x.cells.length=sz/\ ∀c∈x.cells,c.sc=true:=by
 intro x hx
 have:=Xal.1 h x hx
 simp only[Xai,beq_iff_eq,Xal]at this
 exact this
theorem Z11 {nl:Bool}{sz:Nat}{xs:List V}{x:Value}(h:Rep W G φ (.sl nl sz xs) x)(l k:Nat)(h1:l<=k)(h2:k<=xs.length)(m:Nat->Nat)
  (hm:∀len cap,len<=cap->m cap=cap \/m cap=k):
  ∃a len cap,x= .slice a len cap/\len=xs.length/\len<=cap/\
   Rep W G φ (.sl nl sz ((xs.take k).drop l)) (.slice (if m cap=l then a else a.map (·.add (l*sz))) (k-l) (m cap-l)):=by
 cases h with
 |slnil sz=>
  have hk:k=0:=by simpa using h2
  have hl:l=0:=by omega
  subst hk;subst hl
  refine⟨none,0,0,rfl,rfl,Xag _, ?_⟩
  have:m 0=0:=by rcases hm 0 0 (Xag _)with h|h<;>exact h
  simp only[this,Xcn,List.drop_nil,if_true,Xfl]
  exact .slnil sz
 |sl0 sz a=>
  have hk:k=0:=by simpa using h2
  have hl:l=0:=by omega
  subst hk;subst hl
  refine⟨some a,0,0,rfl,rfl,Xag _, ?_⟩
  have:m 0=0:=by rcases hm 0 0 (Xag _)with h|h<;>exact h
  simp only[this,Xcn,List.drop_nil,if_true,Xfl]
  exact .sl0 sz a
 |sl sz xs b off cap rd hcap hG hx hrd h=>
  refine⟨some ⟨b,off,none⟩,xs.length,cap,rfl,rfl,hcap, ?_⟩
  have hmk:k<=m cap:=by rcases hm xs.length cap hcap with h|h<;>omega
  have hlen:((xs.take k).drop l).length=k-l:=by simp;omega
  have hsub:∀i x,((xs.take k).drop l)[i]? =some x->xs[l+i]? =some x/\l+i<k:=by
   intro i x hi
   rw[Xcg]at hi
   rw[Xdk]at hi
   split at hi
   ·exact⟨hi,by assumption⟩
   ·simp at hi
  by_cases hml:m cap=l
  ·rw[if_pos hml]
   have hkl:k=l:=by omega
   subst hkl
   have he:(xs.take k).drop k=[]:=by apply Xav;simp;omega
   rw[he]
   have:(k-k)=([]:List V).length:=by simp
   rw[this,hml]
   refine .sl sz [] b off (k-k) rd (by simp) ?_ (by simp) (by simp) (by simp)
   simp;omega
  ·rw[if_neg hml]
   simp only[Xas,Zb9]
   rw[<-hlen]
   refine .sl sz _ b (off+l*sz) _ (fun j=>rd (l*sz+j)) (by rw[hlen];omega) ?_ ?_ ?_ ?_
   ·rw[hlen]
    have:l*sz+(k-l)*sz=k*sz:=by rw[<-Xca];congr 1;omega
    have h3:k*sz<=xs.length*sz:=Xbv _ h2
    omega
   ·intro y hy
    exact hx y (Xbn (Xb2 hy))
   ·intro j hj
    rw[hlen]at hj
    have:l*sz+(k-l)*sz=k*sz:=by rw[<-Xca];congr 1;omega
    have h3:k*sz<=xs.length*sz:=Xbv _ h2
    have:=hrd (l*sz+j) (by omega)
    rwa[<-Xc8]at this
   ·intro i y j c hi hj
    obtain⟨e1,e2⟩:=hsub i y hi
    have:=h (l+i) y j c e1 hj
    rwa[Xca,Xc8]at this
end Go.Abs
namespace Go.Abs
open Go.RowKit
variable {P:Program}{W:World}{G:Nat->Nat}{φ:Nat->Option Nat}
theorem Zcn {t:TypeId}{i:TypeInfo}(h:P.info? t=some i):(typeInfo t).run P W= .ok i W:=by simp[typeInfo,h]
theorem Zah {t:TypeId}{i:TypeInfo}(h:P.info? t=some i):(sizeOf t).run P W= .ok i.size W:=by simp[sizeOf,Zcn h]
def ldN (P:Program)(t:TypeId):Option (Option Nat):=
 match P.underlying t with
 |some (.struct _)|some (.array _ _)=>(P.info? t).map fun i=>some i.size
 |some _=>some none
 |none=>none
theorem Zlw {t:TypeId}(h:ldN P t=some none):(isAgg t).run P W= .ok false W:=by
 unfold ldN at h
 split at h
 ·simp at h
 ·simp at h
 ·rename_i d h1 h2 hd
  simp only[isAgg,Sem.run_bind,Zaa hd,Result.andThen_ok]
  cases d<;>first|rfl|exact(h1 _ hd).elim|exact(h2 _ _ hd).elim
 ·simp at h
theorem Zrr {t:TypeId}{n:Nat}(h:ldN P t=some (some n)):(isAgg t).run P W= .ok true W/\ ∃i,P.info? t=some i/\i.size=n:=by
 unfold ldN at h
 split at h
 ·rename_i fs hd
  simp only[Xaa,Xac]at h
  exact⟨by simp only[isAgg,Sem.run_bind,Zaa hd,Result.andThen_ok];rfl,h⟩
 ·rename_i m e hd
  simp only[Xaa,Xac]at h
  exact⟨by simp only[isAgg,Sem.run_bind,Zaa hd,Result.andThen_ok];rfl,h⟩
 ·simp at h
 ·simp at h
theorem Za9 {α:Type}(cs:List α)(o k i:Nat):((cs.drop o).take k)[i]? =if i<k then cs[o+i]? else none:=by
 rw[Xdk];split<;>simp
structure Row (W:World)(G:Nat->Nat)(φ:Nat->Option Nat)(cs:List V)(b base:Nat):Prop where
 sc:∀c∈cs,c.sc=true
 cell:∀(k:Nat) (c:V),cs[k]? =some c-> ∃y,W.cell? ⟨b,base+k,none⟩=some y/\Rep W G φ c y
theorem Row.load {cs:List V}{b base o:Nat}{n:Option Nat}{t:TypeId}{v:V}(h:Row W G φ cs b base)(hn:ldN P t=some n)(hv:Zak n cs o=some v):
  ∃y,(loadVar t ⟨b,base+o,none⟩).run P W= .ok y W/\Rep W G φ v y:=by
 cases n with
 |none=>
  have hv':cs[o]? =some v:=hv
  obtain⟨y,h1,h2⟩:=h.cell o v hv'
  exact⟨y,by simp[loadVar,Zlw hn,h1],h2⟩
 |some k=>
  obtain⟨ha,i,hi,rfl⟩:=Zrr (W:=W) hn
  simp only[Zak]at hv
  split at hv
  ·rename_i hle
   simp only[Xac]at hv
   subst hv
   have hex:∃ys:List Value,ys.length=i.size/\ ∀j y,ys[j]? =some y->W.cell? ⟨b,base+o+j,none⟩=some y/\ ∃c,cs[o+j]? =some c/\Rep W G φ c y:=by
    have:∀m,m<=i.size-> ∃ys:List Value,ys.length=m/\ ∀j y,ys[j]? =some y->W.cell? ⟨b,base+o+j,none⟩=some y/\ ∃c,cs[o+j]? =some c/\Rep W G φ c y:=by
     intro m
     induction m with
     |zero=>exact fun _=>⟨[],rfl,fun j y hj=>by simp at hj⟩
     |succ m ih=>
      intro hm
      obtain⟨ys,hl,hy⟩:=ih (by omega)
      have hlt:o+m<cs.length:=by omega
      obtain⟨y,h1,h2⟩:=h.cell (o+m) _ (Xad hlt)
      refine⟨ys++ [y],by simp[hl],fun j z hj=> ?_⟩
      rw[Xcp]at hj
      split at hj
      ·exact hy j z hj
      ·rename_i hge
       have:j=m:=by
        rcases Xa4 (j-ys.length) 1 with h'|h'
        ·omega
        ·rw[Xd1 (by simpa using h')]at hj;cases hj
       subst this
       simp[hl]at hj
       subst hj
       exact⟨by rwa[Xc8],_,Xad hlt,h2⟩
    exact this _ (Xag _)
   obtain⟨ys,hl,hy⟩:=hex
   have hrun:=run_loadCells_list (P:=P) W ⟨b,base+o,none⟩ ys (fun j y hj=>by rw[Zb9];exact(hy j y hj).1)
   rw[hl]at hrun
   refine⟨.agg ys.toArray,by simp[loadVar,ha,Zah hi,hrun], .agg _ _ (by simp[hl];omega) ?_ ?_⟩
   ·exact fun c hc=>h.sc c (Xb2 (Xbn hc))
   ·intro j c y hc hyj
    rw[Za9]at hc
    split at hc
    ·simp at hyj
     obtain⟨_,c',hc',hr⟩:=hy j y hyj
     rw[hc]at hc'
     cases hc'
     exact hr
    ·simp at hc
  ·simp at hv
theorem Zzw {cs:List V}{xs:Array Value}{o:Nat}{n:Option Nat}{t:TypeId}{v:V}(h:RepL W G φ cs xs)(hs:∀c∈cs,c.sc=true)(hn:ldN P t=some n)(hv:Zak n cs o=some v):
  ∃y,(part t xs o).run P W= .ok y W/\Rep W G φ v y:=by
 cases n with
 |none=>
  have hv':cs[o]? =some v:=hv
  have hlt:o<xs.size:=by rw[<-h.1];exact(Xae.1 hv').1
  exact⟨xs[o],by simp[part,Zlw hn,hlt],h.2 o v _ hv' (Xar hlt)⟩
 |some k=>
  obtain⟨ha,i,hi,rfl⟩:=Zrr (W:=W) hn
  simp only[Zak]at hv
  split at hv
  ·rename_i hle
   simp only[Xac]at hv
   subst hv
   have h1:=h.1
   refine⟨.agg (xs.extract o (o+i.size)),by simp[part,ha,Zah hi], .agg _ _ (by simp;omega) ?_ ?_⟩
   ·exact fun c hc=>hs c (Xb2 (Xbn hc))
   ·intro j c y hc hy
    rw[Za9]at hc
    split at hc
    ·rw[Array.getElem?_extract]at hy
     split at hy
     ·exact h.2 _ c y hc hy
     ·simp at hy
    ·simp at hc
  ·simp at hv
theorem Qac {f:Nat}{u v:V}{x:Value}{t:TypeId}{fs:Array Field}{fd:Field}{n:Option Nat}(ht:P.underlying t=some (.struct fs))(hf:fs[f]? =some fd)(hn:ldN P fd.type=some n)
  (h:Rep W G φ u x) (hv:vFld n fd.offset u=some v):∃y,(Instr.field t x f).run P W= .ok y W/\Rep W G φ v y:=by
 cases h<;>simp only[vFld,reduceCtorEq]at hv
 rename_i cs xs hl hs h
 obtain⟨y,h1,h2⟩:=Zzw (P:=P) ⟨hl,h⟩ hs hn hv
 exact⟨y,by simp[Instr.field,Zaa ht,hf,asAgg,h1],h2⟩
theorem Z8g {u i v:V}{x xi:Value}{t:TypeId}(ht:P.underlying t=some .string)(h:Rep W G φ u x)(hi:Rep W G φ i xi)(hv:vIdx u i=some v):
  ∃y,(Instr.index t x xi).run P W= .ok y W/\Rep W G φ v y:=by
 cases h<;>cases hi<;>simp only[vIdx,reduceCtorEq]at hv
 rename_i l s hs k n
 split at hv
 ·rename_i h0
  simp only[Xaa]at hv
  obtain⟨b,hb,rfl⟩:=hv
  subst hs
  have hb':s[n.toNat]? =some b:=by
   have hlt:n.toNat<s.data.toList.length:=(Xae.1 hb).1
   have hlt':n.toNat<s.size:=by simpa using hlt
   rw[getElem?_pos s n.toNat hlt']
   rw[Xad hlt]at hb
   have hb2:s.data[n.toNat]=b:=by simpa using hb
   exact congrArg some hb2
  exact⟨.int .u8 b.toNat,by simp[Instr.index,asIntOf,Zaa ht,h0,hb'], .int _ _⟩
 ·simp at hv
theorem Z4k {u i v:V}{x xi:Value}{t e:TypeId}{len:Nat}{ie:TypeInfo}{n:Option Nat}(ht:P.underlying t=some (.array len e))(he:P.info? e=some ie)(hn:ldN P e=some n)
  (h:Rep W G φ u x) (hi:Rep W G φ i xi) (hv:Zp6 len ie.size n u i=some v):∃y,(Instr.index t x xi).run P W= .ok y W/\Rep W G φ v y:=by
 cases h<;>cases hi<;>simp only[Zp6,reduceCtorEq]at hv
 rename_i cs xs hl hs h k j
 split at hv
 ·rename_i hj
  obtain⟨y,h1,h2⟩:=Zzw (P:=P) ⟨hl,h⟩ hs hn hv
  exact⟨y,by simp[Instr.index,asIntOf,Zaa ht,hj,Zah he,h1],h2⟩
 ·simp at hv
theorem Z2c {u i v:V}{x xi:Value}{t e:TypeId}{ie:TypeInfo}(ht:P.underlying t=some (.slice e))(he:P.info? e=some ie)
  (h:Rep W G φ u x) (hi:Rep W G φ i xi) (hv:Zeu ie.size u i=some v):∃y,(Instr.indexAt t x xi).run P W= .ok y W/\Rep W G φ v y:=by
 cases hi<;>cases h<;>simp only[Zeu,reduceCtorEq]at hv
 ·rename_i k n sz xs b off cap rd hcap hG hx hrd h
  split at hv
  ·rename_i h0
   obtain⟨h0,rfl⟩:=h0
   simp only[Xaa]at hv
   obtain⟨e',hx',rfl⟩:=hv
   have hlt:n.toNat<xs.length:=(Xae.1 hx').1
   have hlt':n<(xs.length:Int):=by omega
   have hmem:e'∈xs:=Xam hx'
   have hsz:=(hx e' hmem).1
   have hmul:n.toNat*ie.size+ie.size<=xs.length*ie.size:=by rw[<-Xcx];exact Xbv _ hlt
   refine⟨.pointer (some ⟨b,off+n.toNat*ie.size,none⟩),by simp[Instr.indexAt,asIntOf,Zaa ht,h0,hlt',Zah he,Zb9], ?_⟩
   refine .el _ 0 b (off+n.toNat*ie.size) (fun k=>rd (n.toNat*ie.size+k)) (by rw[hsz];omega) (hx e' hmem).2 (fun k hk=> ?_) (fun k c hc=>h _ _ _ _ hx' hc)
   rw[hsz]at hk
   have:=hrd (n.toNat*ie.size+k) (by omega)
   rwa[<-Xc8]at this
  ·simp at hv
 ·simp at hv
 ·rename_i k n id off len cap sz b cap' hφ hc hc' hs
  split at hv
  ·rename_i h0
   obtain⟨h0,h1,rfl⟩:=h0
   simp only[Xac]at hv
   subst hv
   exact⟨.pointer (some ⟨b,off+n.toNat*ie.size,none⟩),by simp[Instr.indexAt,asIntOf,Zaa ht,h0,h1,Zah he,Zb9], .ptr _ _ _ hφ⟩
  ·simp at hv
 ·split at hv
  ·rename_i h0;omega
  ·simp at hv
theorem Z3d {u i v:V}{x xi:Value}{t e:TypeId}{len:Nat}{ie:TypeInfo}(ht:P.underlying t=some (.array len e))(he:P.info? e=some ie)
  (h:Rep W G φ u x) (hi:Rep W G φ i xi) (hv:Zpj len ie.size u i=some v):∃y,(Instr.indexAt t x xi).run P W= .ok y W/\Rep W G φ v y:=by
 cases hi<;>cases h<;>simp only[Zpj,reduceCtorEq]at hv
 all_goals
  split at hv
  ·rename_i h0
   obtain⟨h0,h1⟩:=h0
   simp only[Xac]at hv
   subst hv
   refine⟨_,by simp[Instr.indexAt,Instr.sureAddr,asIntOf,Zaa ht,h0,h1,Zah he,Zb9];rfl, ?_⟩
   first
    |exact .ptr _ _ _ (by assumption)
    |exact .gp _ _
    |(rw[Xc8]
      exact .el _ _ _ _ _ (by assumption) (by assumption) (by assumption) (by assumption))
  ·simp at hv
theorem Z1l {u v:V}{x:Value}{t:TypeId}{fs:Array Field}{f:Nat}{fd:Field}{i:TypeInfo}(ht:P.underlying t=some (.struct fs))(hf:fs[f]? =some fd)(hi:P.info? fd.type=some i)(hz:i.size≠0)
  (h:Rep W G φ u x) (hv:Zjt fd.offset u=some v):∃y,(Instr.fieldAt t x f).run P W= .ok y W/\Rep W G φ v y:=by
 cases h<;>simp only[Zjt,reduceCtorEq,Xac]at hv
 all_goals
  subst hv
  refine⟨_,by simp[Instr.fieldAt,Instr.sureAddr,fieldPlace,Zaa ht,hf,Zah hi,hz,Zb9];rfl, ?_⟩
  first
   |exact .ptr _ _ _ (by assumption)
   |exact .gp _ _
   |(rw[Xc8]
     exact .el _ _ _ _ _ (by assumption) (by assumption) (by assumption) (by assumption))
theorem Z2s {u v:V}{x:Value}(h:Rep W G φ u x)(hv:Zoq u=some v):v=u/\((∃p,x= .pointer (some p)) \/ ∃f p c,x= .func (.func f) p c):=by
 cases h<;>simp[Zoq]at hv<;>simp[hv]
theorem Z8z {k:IntKind}{u v:V}{x:Value}{s d:TypeId}{ds:TypeDesc}(hs:P.underlying s=some ds)(hd:P.underlying d=some (.int k))(h:Rep W G φ u x)(hv:vI2i k u=some v):
  ∃y,(convert s d x).run P W= .ok y W/\Rep W G φ v y:=by
 cases h<;>simp only[vI2i,reduceCtorEq,Xac]at hv
 subst hv
 rename_i k' n
 exact⟨.int k (k.wrap n),by simp[convert,Zaa hs,Zaa hd,Conv.intToInt], .int _ _⟩
theorem Z8i {u v:V}{x:Value}{s d:TypeId}(hs:P.underlying s=some .string)(hd:P.underlying d=some .string)(h:Rep W G φ u x)(hv:vS2s u=some v):
  ∃y,(convert s d x).run P W= .ok y W/\Rep W G φ v y:=by
 cases h<;>simp only[vS2s,reduceCtorEq,Xac]at hv
 subst hv
 rename_i l s h
 exact⟨.string s,by simp[convert,Zaa hs,Zaa hd], .str _ _ h⟩
theorem Z5e {str:Bool}{u v:V}{x:Value}{t ty:TypeId}(ht:if str then P.underlying t=some .string else ∃e,P.underlying t=some (.slice e))(h:Rep W G φ u x)(hv:vLen str u=some v):
  ∃y,(Builtin.len_ #[t] ty #[x]).run P W= .ok y W/\Rep W G φ v y:=by
 cases str
 ·obtain⟨e,ht⟩:=by simpa using ht
  cases h<;>simp only[vLen,reduceCtorEq,Xac]at hv<;>subst hv
  ·exact⟨.int .i64 0,by simp[Builtin.len_,Zaa ht,goInt], .int _ _⟩
  ·rename_i sz xs b off cap rd _ _ _ _ _
   exact⟨.int .i64 xs.length,by simp[Builtin.len_,Zaa ht,goInt], .int _ _⟩
  ·exact⟨.int .i64 0,by simp[Builtin.len_,Zaa ht,goInt], .int _ _⟩
  ·rename_i id off len cap sz b cap' _ _ _ _
   exact⟨.int .i64 len,by simp[Builtin.len_,Zaa ht,goInt], .int _ _⟩
  ·exact⟨.int .i64 0,by simp[Builtin.len_,Zaa ht,goInt], .int _ _⟩
 ·have ht:P.underlying t=some .string:=by simpa using ht
  cases h<;>simp only[vLen,reduceCtorEq,Xac]at hv
  subst hv
  rename_i l s hs
  subst hs
  exact⟨.int .i64 s.size,by simp[Builtin.len_,Zaa ht,goInt],by simpa using Rep.int .i64 (s.size:Int)⟩
theorem Znf {len cap cap':Nat}{l h:Option Int}{c:Nat×Nat×Nat}(hc:cut3 len cap l h none=some c)(hle:cap<=cap'):cut3 len cap' l h none=some (c.1,c.2.1,cap')/\c.2.2=cap/\c.1<=c.2.1/\c.2.1<=cap:=by
 unfold cut3 at hc⊢
 simp only[Xcm,Xb5,Xat,false_implies,and_true]at hc⊢
 split at hc
 ·rename_i hcond
  simp only[Xac]at hc
  subst hc
  rw[if_pos (by omega)]
  exact⟨by simp,by simp,by simp;omega,by simp;omega⟩
 ·cases hc
theorem Z9t {sz:Nat}{u:V}{x:Value}{lo hi mx:Option V}{xl xh xm:Option Value}{t e:TypeId}{ie:TypeInfo}{r:Res}(ht:P.underlying t=some (.slice e))(he:P.info? e=some ie)(hsz:ie.size=sz)
  (h:Rep W G φ u x) (hl:RepO W G φ lo xl) (hh:RepO W G φ hi xh) (hm:RepO W G φ mx xm) (hv:vSlc sz u lo hi mx=some r):
  ∃y,(Instr.sliceAt t x xl xh xm).run P W= .ok y W/\Rep W G φ r.v y/\r.tk=none/\(r.o=true-> ∀B g p,OwnAt W B g p r.v y):=by
 subst hsz
 unfold vSlc at hv
 split at hv
 ·rename_i l hi' m nl s xs el eh em
  split at hv
  ·rename_i hc
   obtain⟨rfl,hc⟩:=hc
   simp only[Xaa]at hv
   obtain⟨c,hcut,rfl⟩:=hv
   have hmm:∃xm',(m=none/\xm=none/\xm'=(none:Option Int)) \/(∃k n,m=some n/\hi'=some n/\xm=some (.int k n)/\xm'=some n):=by
    rcases Zbw hm em with⟨h1,h2⟩|⟨k,n,h1,h2⟩
    ·exact⟨none, .inl ⟨h1,h2,rfl⟩⟩
    ·subst h1
     rcases hc with hc|hc
     ·cases hc
     ·exact⟨some n, .inr ⟨k,n,rfl,hc.symm,h2,rfl⟩⟩
   have hcut0:=hcut
   unfold cut3 at hcut
   simp only[Xcm,Xb5,Xat,false_implies,and_true]at hcut
   split at hcut
   ·rename_i hcond
    obtain⟨c1,c2,c3,c4,c5,c6⟩:=hcond
    simp only[Xac]at hcut
    obtain⟨mf,hmf⟩:∃mf:Nat->Nat, ∀cap,mf cap=(m.map Int.toNat).getD cap:=⟨_,fun _=>rfl⟩
    have hk:(c.2.1:Int)=hi'.getD (xs.length:Int):=by subst hcut;simp;omega
    have hl':(c.1:Int)=l.getD 0:=by subst hcut;simp;omega
    obtain⟨a,len,cap,rfl,hlen,hlc,hrep⟩:=Z11 h c.1 c.2.1 (by omega) (by omega) mf (fun len cap _=>by
     rw[hmf]
     rcases hmm with⟨_,⟨rfl,_,_⟩|⟨k,n,rfl,h2,_,_⟩⟩
     ·exact .inl rfl
     ·right;rw[h2]at hk;simp at hk;show(some n.toNat).getD cap=c.2.1;simp;omega)
    have hcut':cut3 len cap l hi' m=some (c.1,c.2.1,mf cap):=by
     unfold cut3
     rw[hmf]
     have e1:hi'.getD (len:Int)=c.2.1:=by rw[hk,hlen]
     rcases hmm with⟨_,⟨rfl,_,_⟩|⟨k,n,rfl,h2,_,_⟩⟩
     ·simp only[Xcm,Xb5,Xat,false_implies,and_true]
      rw[e1, <-hl']
      rw[if_pos (by omega)]
      simp
     ·have e2:n=c.2.1:=by rw[h2]at hk;simpa using hk.symm
      simp only[Xb1,Xdc,h2,forall_const,and_true]
      rw[e2, <-hl']
      rw[if_pos (by omega)]
      simp
    obtain⟨hr,h1,h2,h3⟩:=Zb7 (P:=P) (W:=W) (isS:=true) hlc (Zbw hl el) (Zbw hh eh) (Zbw hm em) hcut'
    refine⟨.slice (if mf cap=c.1 then a else a.map (·.add (c.1*ie.size))) (c.2.1-c.1) (mf cap-c.1),by simp[Instr.sliceAt,Instr.slice,Zaa ht,hr,Zah he],hrep,rfl, ?_⟩
    intro ho B g p sz xs' b off len' cap' sp _ hx
    simp only[Value.slice.injEq]at hx
    obtain⟨_,rfl,rfl⟩:=hx
    left
    rw[hmf]
    rcases hmm with⟨_,⟨rfl,_,_⟩|⟨k,n,rfl,h2,_,_⟩⟩
    ·simp at ho
    ·have e2:n=c.2.1:=by rw[h2]at hk;simpa using hk.symm
     show(some n.toNat).getD _-c.1=_
     simp;omega
   ·simp at hcut
  ·simp at hv
 ·rename_i l hi' m id off len cap s el eh em
  split at hv
  ·rename_i hc
   obtain⟨rfl,rfl⟩:=hc
   simp only[Xaa]at hv
   obtain⟨c,hcut,rfl⟩:=hv
   ·cases h with
    |osl _ _ _ _ _ b cap' hφ hlc hc' hs=>
     obtain⟨hcut',e1,e2,e3⟩:=Znf hcut hc'
     obtain⟨hr,h1,h2,h3⟩:=Zb7 (P:=P) (W:=W) (isS:=true) (Xbs hlc hc') (Zbw hl el) (Zbw hh eh) (Zbw hm em) hcut'
     by_cases hcc:cap'=c.1
     ·have z1:c.2.1-c.1=0:=by omega
      have z2:c.2.2-c.1=0:=by omega
      refine⟨.slice (some ⟨b,off,none⟩) 0 0, ?_,by rw[z1,z2];exact .osln _ _ _ _,rfl,fun h=>by cases h⟩
      simp only[Instr.sliceAt,Instr.slice,Sem.run_bind,Zaa ht,Result.andThen_ok,hr,Zah he,Sem.run_pure]
      rw[if_pos hcc,z1]
      simp[hcc]
     refine⟨.slice (some ⟨b,off+c.1*ie.size,none⟩) (c.2.1-c.1) (cap'-c.1), ?_, .osl _ _ _ _ _ _ _ hφ (by omega) (by omega) ?_,rfl,fun h=>by cases h⟩
     ·have hz:(if cap'=c.1 then(some ⟨b,off,none⟩:Option Addr)else some ⟨b,off+c.1*ie.size,none⟩)=some ⟨b,off+c.1*ie.size,none⟩:=if_neg hcc
      simp only[Instr.sliceAt,Instr.slice,Sem.run_bind,Zaa ht,Result.andThen_ok,hr,Zah he,Sem.run_pure,Xas,Zb9]
      rw[hz]
     ·have:off+c.1*ie.size+(cap'-c.1)*ie.size=off+cap'*ie.size:=by rw[Xc8, <-Xca];congr 2;omega
      rw[this];exact hs
    |osln _ _ _ p=>
     obtain⟨hcut',e1,e2,e3⟩:=Znf hcut (Xag 0)
     obtain⟨hr,h1,h2,h3⟩:=Zb7 (P:=P) (W:=W) (isS:=true) (Xag 0) (Zbw hl el) (Zbw hh eh) (Zbw hm em) hcut'
     have z1:c.1=0:=by omega
     have z2:c.2.1=0:=by omega
     have z3:c.2.2=0:=by omega
     refine⟨.slice p 0 0, ?_, ?_,rfl,fun h=>by cases h⟩
     ·simp only[Instr.sliceAt,Instr.slice,Sem.run_bind,Zaa ht,Result.andThen_ok,hr,Zah he,Sem.run_pure,z1,z2]
      rw[if_pos trivial]
     ·rw[z1,z2,z3];exact .osln _ _ _ _
  ·simp at hv
 ·simp at hv
end Go.Abs
namespace Go.Abs
open Go.RowKit
variable {P:Program}{W:World}{G:Nat->Nat}{φ:Nat->Option Nat}
def flat (xs:List V):List V:=xs.flatMap V.cells
theorem Zcj {sz:Nat}{xs:List V}(h:∀x∈xs,x.cells.length=sz):(flat xs).length=xs.length*sz:=by
 induction xs with
 |nil=>simp[flat]
 |cons x r ih=>
  have h1:=h x (by simp)
  have h2:=ih fun y hy=>h y (by simp[hy])
  simp only[flat,Xbp,Xaf,Xax,Xcx]at*
  omega
theorem Zx0 {sz:Nat}{xs:List V}(h:∀x∈xs,x.cells.length=sz):∀(i:Nat) (x:V) (j:Nat) (c:V),xs[i]? =some x->x.cells[j]? =some c->(flat xs)[i*sz+j]? =some c:=by
 induction xs with
 |nil=>intro i x j c hi;simp at hi
 |cons a r ih=>
  intro i x j c hi hj
  have h1:=h a (by simp)
  cases i with
  |zero=>
   simp at hi;subst hi
   have hlt:=(Xae.1 hj).1
   simp only[flat,Xbp,Xfm,Xan]
   rw[Xa3 hlt];exact hj
  |succ i=>
   simp at hi
   have:=ih (fun y hy=>h y (by simp[hy])) i x j c hi hj
   simp only[flat,Xbp]at this⊢
   rw[Xa2 (by rw[h1,Xcx];omega),h1]
   rwa[show(i+1)*sz+j-sz=i*sz+j by rw[Xcx];omega]
theorem Z1d {sz:Nat}{xs:List V}(h:∀x∈xs,x.cells.length=sz){k:Nat}{c:V}(hk:(flat xs)[k]? =some c):
  ∃i j x,k=i*sz+j/\j<sz/\xs[i]? =some x/\x.cells[j]? =some c:=by
 induction xs generalizing k with
 |nil=>simp[flat]at hk
 |cons a r ih=>
  have h1:=h a (by simp)
  simp only[flat,Xbp]at hk
  rcases Xa4 k a.cells.length with hlt|hge
  ·rw[Xa3 hlt]at hk
   exact⟨0,k,a,by simp,by omega,by simp,hk⟩
  ·rw[Xa2 hge,h1]at hk
   obtain⟨i,j,x,e,hj,hx,hc⟩:=ih (fun y hy=>h y (by simp[hy])) hk
   exact⟨i+1,j,x,by rw[Xcx];omega,hj,by simpa using hx,hc⟩
theorem Zgi (xs ys:List V):flat (xs++ys)=flat xs++flat ys:=by simp[flat]
theorem Rep.row {sz:Nat}{xs:List V}{nl:Bool}{x:Value}(h:Rep W G φ (.sl nl sz xs) x):
  (nl=true/\xs=[]/\x= .slice none 0 0) \/(nl=false/\xs=[]/\ ∃a,x= .slice (some a) 0 0) \/
  ∃b off cap,nl=false/\x= .slice (some ⟨b,off,none⟩) xs.length cap/\xs.length<=cap/\off+xs.length*sz<=G b/\
   (∀y∈xs,y.cells.length=sz/\ ∀c∈y.cells,c.sc=true)/\Row W G φ (flat xs) b off:=by
 cases h with
 |slnil=>exact .inl ⟨rfl,rfl,rfl⟩
 |sl0 sz a=>exact .inr (.inl ⟨rfl,rfl,a,rfl⟩)
 |sl sz xs b off cap rd hcap hG hx hrd h=>
  refine .inr (.inr ⟨b,off,cap,rfl,rfl,hcap,hG,hx,⟨fun c hc=> ?_,fun k c hk=> ?_⟩⟩)
  ·obtain⟨y,hy,hc⟩:=Xce.1 hc
   exact(hx y hy).2 c hc
  ·obtain⟨i,j,y,rfl,hj,hy,hc⟩:=Z1d (fun y hy=>(hx y hy).1) hk
   have hi:=(Xae.1 hy).1
   refine⟨rd (i*sz+j),hrd _ ?_,h i y j c hy hc⟩
   have:(i+1)*sz<=xs.length*sz:=Xbv _ hi
   rw[Xcx]at this;omega
theorem Rep.of_row {sz:Nat}{xs:List V}{b off cap:Nat}(hcap:xs.length<=cap)(hG:off+xs.length*sz<=G b)
  (hx:∀y∈xs,y.cells.length=sz/\ ∀c∈y.cells,c.sc=true) (h:Row W G φ (flat xs) b off):
  Rep W G φ (.sl false sz xs) (.slice (some ⟨b,off,none⟩) xs.length cap):=by
 refine .sl sz xs b off cap (fun k=>(W.cell? ⟨b,off+k,none⟩).getD undef) hcap hG hx (fun k hk=> ?_) (fun i y j c hi hj=> ?_)
 ·have hlt:k<(flat xs).length:=by rw[Zcj fun y hy=>(hx y hy).1];exact hk
  obtain⟨y,h1,_⟩:=h.cell k _ (Xad hlt)
  simp[h1]
 ·obtain⟨y,h1,h2⟩:=h.cell _ c (Zx0 (fun y hy=>(hx y hy).1) i y j c hi hj)
  rw[h1];exact h2
theorem Row.list {cs:List V}{b base:Nat}(h:Row W G φ cs b base)(n:Nat)(hn:n<=cs.length):
  ∃ys:List Value,ys.length=n/\ ∀(j:Nat) (y:Value),ys[j]? =some y->W.cell? ⟨b,base+j,none⟩=some y/\ ∃c,cs[j]? =some c/\Rep W G φ c y:=by
 induction n with
 |zero=>exact⟨[],rfl,fun j y hj=>by simp at hj⟩
 |succ m ih=>
  obtain⟨ys,hl,hy⟩:=ih (by omega)
  have hlt:m<cs.length:=by omega
  obtain⟨y,h1,h2⟩:=h.cell m _ (Xad hlt)
  refine⟨ys++ [y],by simp[hl],fun j z hj=> ?_⟩
  rw[Xcp]at hj
  split at hj
  ·exact hy j z hj
  ·rename_i hge
   have:j=m:=by
    rcases Xa4 (j-ys.length) 1 with h'|h'
    ·omega
    ·rw[Xd1 (by simpa using h')]at hj;cases hj
   subst this
   simp[hl]at hj
   subst hj
   exact⟨h1,_,Xad hlt,h2⟩
theorem Rep.one {c:V}{y:Value}(h:Rep W G φ c y)(hs:c.sc=true):y.oneCell'=true:=by
 cases h<;>first|rfl|(simp[V.sc]at hs)
theorem Row.one {cs:List V}{b base:Nat}(h:Row W G φ cs b base){ys:List Value}(hy:∀(j:Nat) (y:Value),ys[j]? =some y->W.cell? ⟨b,base+j,none⟩=some y/\ ∃c,cs[j]? =some c/\Rep W G φ c y):
  ∀y∈ys,y.oneCell'=true:=by
 intro y hm
 obtain⟨j,hj⟩:=Xd6 hm
 obtain⟨_,c,hc,hr⟩:=hy j y hj
 exact hr.one (h.sc c (Xam hc))
theorem Zff :∀{xs:List V} {l:Bytes},Zb0 xs=some l-> ∃ns:List Int,xs=ns.map (V.int .u8)/\l=ns.map fun n=>UInt8.ofNat n.toNat
 | [],l,h=>by simp[Zb0]at h;subst h;exact⟨[],rfl,rfl⟩
 | .int .u8 n::r,l,h=>by
  simp only[Zb0,Xaa]at h
  obtain⟨r',hr,rfl⟩:=h
  obtain⟨ns,rfl,rfl⟩:=Zff hr
  exact⟨n::ns,rfl,rfl⟩
theorem Zs3 (ns:List Int):flat (ns.map (V.int .u8))=ns.map (V.int .u8):=by
 induction ns with
 |nil=>rfl
 |cons n r ih=>simp only[flat,Xaq,Xbp,V.cells]at*;rw[ih];rfl
theorem Zpw {ns:List Int}{b off cap:Nat}{s d e:TypeId}(hs:P.underlying s=some (.slice e))(he:P.underlying e=some (.int .u8))(hd:P.underlying d=some .string)
  (h:Row W G φ (ns.map (V.int .u8)) b off):
  (convert s d (.slice (some ⟨b,off,none⟩) ns.length cap)).run P W= .ok (.string (strOfNums ns)) W:=by
 refine run_convert_bytes_arg W s e hs he b off ns.length cap ns rfl (fun i hi=> ?_) d hd
 obtain⟨y,h1,h2⟩:=h.cell i (.int .u8 ns[i]) (by simp[hi])
 cases h2
 rw[h1];simp[List.getD,hi]
theorem Zld {nl:Bool}{xs:List V}{v:V}{x:Value}{H:Hp}{s d e:TypeId}(hs:P.underlying s=some (.slice e))(he:P.underlying e=some (.int .u8))(hd:P.underlying d=some .string)
  (h:Rep W G φ (.sl nl 1 xs) x) (hv:vB2s H (.sl nl 1 xs)=some v):∃y,(convert s d x).run P W= .ok y W/\Rep W G φ v y:=by
 simp only[vB2s,Xaa]at hv
 obtain⟨l,hl,rfl⟩:=hv
 obtain⟨ns,rfl,rfl⟩:=Zff hl
 rcases h.row with⟨rfl,h0,rfl⟩|⟨rfl,h0,a,rfl⟩|⟨b,off,cap,rfl,rfl,hcap,hG,hx,hrow⟩
 ·have:ns=[]:=by simpa using h0
  subst this
  exact⟨_,run_convert_bytes_nil W s e hs he 0 0 d hd, .str _ _ rfl⟩
 ·have:ns=[]:=by simpa using h0
  subst this
  refine⟨.string ⟨#[]⟩, ?_, .str _ _ rfl⟩
  simp[convert,Zaa hs,Zaa hd,Zaa he,Conv.bytesToString,loadCells,loadCellsFrom];rfl
 ·rw[Zs3]at hrow
  refine⟨.string (strOfNums ns), ?_, .str _ _ (strOfNums_data ns)⟩
  simpa using Zpw (cap:=cap) hs he hd hrow
theorem Ztt {cs:List V}{off len cap:Nat}{l:Bytes}{b:Nat}{s d e:TypeId}(hs:P.underlying s=some (.slice e))(he:P.underlying e=some (.int .u8))(hd:P.underlying d=some .string)
  (h:Row W G φ cs b 0) (hle:off+len<=cs.length) (hv:Zb0 ((cs.drop off).take len)=some l):
  ∃y,(convert s d (.slice (some ⟨b,off,none⟩) len cap)).run P W= .ok y W/\Rep W G φ (.str l) y:=by
 obtain⟨ns,hns,rfl⟩:=Zff hv
 have hlen:ns.length=len:=by have:=congrArg List.length hns;simp at this;omega
 refine⟨.string (strOfNums ns), ?_, .str _ _ (strOfNums_data ns)⟩
 rw[<-hlen]
 refine Zpw (W:=W) (G:=G) (φ:=φ) hs he hd ⟨fun c hc=> ?_,fun k c hk=> ?_⟩
 ·obtain⟨n,_,rfl⟩:=Xa9.1 hc;rfl
 ·rw[<-hns,Za9]at hk
  split at hk
  ·obtain⟨y,h1,h2⟩:=h.cell _ c hk
   exact⟨y,by simpa using h1,h2⟩
  ·simp at hk
theorem Zhs (s:Bytes):flat (encB s)=encB s:=by
 induction s with
 |nil=>rfl
 |cons b r ih=>simp only[flat,encB,Xaq,Xbp]at*;rw[ih];rfl
theorem Zo0 (s:Bytes):∀x∈encB s,x.cells.length=1/\ ∀c∈x.cells,c.sc=true:=by
 intro x hx
 obtain⟨b,_,rfl⟩:=Xa9.1 hx
 exact⟨rfl,fun c hc=>by simp[byteV,V.cells]at hc;subst hc;rfl⟩
theorem Adv.new {w B GB g st a W W'}(h:SR w B GB g st a W)(n:Nat)(q:Option Pos)(p:Option Pos)(hb:Below W.heap.size W W')(hsz:W'.heap.size=W.heap.size+1):
  Adv B g ⟨fun b=>if b=W.heap.size then n else g.G b,g.φ,fun b=>if b=W.heap.size then q else g.ow b⟩ W W' p:=by
 have hB:B W.heap.size:=h.hB _ h.below.size
 refine⟨⟨fun b i hi=> ?_,fun b=> ?_,fun _ _ h=>h,fun id b' hb'=>Zhb (hb.block _ (h.φ id b' hb').2.1)⟩,rfl, .of hb (fun b hb=>h.hB b (Xbs h.below.size hb)),fun b hb'=> ?_,fun b id h1 h2 h3 h4=> ?_,fun b q h1 h2 _=> ?_,fun b hb'=> ?_⟩
 ·have:b<W.heap.size:=by
   rcases Xa4 b W.heap.size with h'|h'
   ·exact h'
   ·have:=h.Gz b h';omega
  exact hb.cell (p:=⟨b,i,none⟩) this
 ·dsimp only;split
  ·have:=h.Gz b (by omega);omega
  ·exact Xag _
 ·dsimp only;rw[if_neg (fun e=>hb' (by rw[e];exact hB))]
 ·dsimp only;rw[if_neg (by omega),if_neg (by omega)];exact⟨hb.block _ h2,h3,h4⟩
 ·dsimp only;rw[if_neg (by omega),if_neg (by omega)];exact⟨hb.block _ h1,rfl,h2⟩
 ·dsimp only
  rw[if_neg (by omega)];exact h.Gz b (by omega)
theorem Zb6 (W:World)(o:Obj):Below W.heap.size W (W.alloc o):=(Below.refl _ _).alloc (Xag _) o
theorem Zdg (W:World)(o:Obj):Below W.heap.size W (W.drew.alloc o):=((Below.refl _ W).drew).alloc (by simp) o
theorem Z9l {w B GB g st a}(h:SR w B GB g st a W){u:V}{r:Res}{x:Value}{s d e:TypeId}{us:TypeDesc}(hs:P.underlying s=some us)(hd:P.underlying d=some (.slice e))(he:P.underlying e=some (.int .u8))
  (hr:Rep W g.G g.φ u x) (hv:vS2b u=some r) (q:Pos):∃y W' g',(convert s d x).run P W= .ok y W'/\Adv B g g' W W' r.tk/\Rep W' g'.G g'.φ r.v y/\(r.o=true->OwnAt W' B g' q r.v y):=by
 cases hr<;>simp only[vS2b,reduceCtorEq,Xac]at hv
 subst hv
 rename_i l s' hl
 have hB:B W.heap.size:=h.hB _ h.below.size
 have hsz:=Lib.bytesWorld_size W e s'
 have hlen:l.length=s'.size:=by rw[<-hl];simp
 have hbel:Below W.heap.size W (Lib.bytesWorld W e s'):=⟨rfl,rfl,rfl,by omega,fun k hk=>Lib.bytesWorld_at_old W e s' k hk⟩
 have hadv:=Adv.new h l.length (some q) none hbel hsz
 have hcapge:s'.size<=grownCap W s'.size 0 e:=grownCap_ge W s'.size 0 e
 have hcs:(Lib.bytesCells W e s').size=grownCap W s'.size 0 e:=by simp[Lib.bytesCells];omega
 refine⟨_,_,_,Lib.run_convert_string_bytes W s d e s' hs hd he,hadv, ?_,fun _=> ?_⟩
 ·have hel:(encB l).length=s'.size:=by simp[encB,hlen]
  rw[<-hel]
  refine Rep.of_row (by rw[hel];exact hcapge) (by simp[encB]) (Zo0 l) ⟨fun c hc=> ?_,fun k c hk=> ?_⟩
  ·rw[Zhs]at hc;obtain⟨b,_,rfl⟩:=Xa9.1 hc;rfl
  ·rw[Zhs]at hk
   simp only[encB,Xbt,Xaa]at hk
   obtain⟨b,hb,rfl⟩:=hk
   have hlt:=(Xae.1 hb).1
   refine⟨_,by rw[Xan];exact Lib.bytesWorld_cell W e s' k (by omega), ?_⟩
   have:s'.data.toList.getD k 0=b:=by rw[hl];simp[List.getD,hb]
   rw[this];exact .int _ _
 ·intro sz xs b off len cap sp hv hx
  simp only[V.sl.injEq,true_and]at hv
  obtain⟨rfl,rfl⟩:=hv
  simp only[Value.slice.injEq,Xac,Addr.mk.injEq]at hx
  obtain⟨⟨rfl,rfl,rfl⟩,rfl,rfl⟩:=hx
  refine .inr ⟨hB,by simp,by simp[encB],_,_,_,_,Lib.bytesWorld_at_new W e s',by omega,fun j _ hj=>by omega⟩
end Go.Abs
namespace Go.Abs
open Go.RowKit
theorem Zba {P:Program}(W:World)(sz:Nat)(a:Addr):(Builtin.firstCells sz 0 (.slice (some a) 0 0)).run P W= .ok #[] W:=by simp[Builtin.firstCells,loadCells,loadCellsFrom]
variable {P:Program}{W:World}{G:Nat->Nat}{φ:Nat->Option Nat}
theorem Zhc {v:V}(h:v.sc=true):v.cells=[v]:=by cases v<;>first|rfl|(simp[V.sc]at h)
theorem Zbs (b:Nat):∀(vs:List Value) (o:Nat) (w:World) (k:Nat),k≠b->(w.setCells b o vs).heap[k]? =w.heap[k]?
 | [],_,_,_,_=>rfl
 |v::r,o,w,k,h=>by
  simp only[World.setCells]
  rw[Zbs b r (o+1) _ k h]
  exact Below.heap_setCell w _ _ _ h
theorem Zdq (b:Nat):∀(vs:List Value) (o:Nat) (w:World),(w.setCells b o vs).os=w.os/\(w.setCells b o vs).tape=w.tape/\(w.setCells b o vs).output=w.output/\(w.setCells b o vs).heap.size=w.heap.size
 | [],_,_=>⟨rfl,rfl,rfl,rfl⟩
 |v::r,o,w=>by
  obtain⟨h1,h2,h3,h4⟩:=Zdq b r (o+1) (w.setCell ⟨b,o,none⟩ v)
  simp only[World.setCells]
  exact⟨h1,h2,h3,by rw[h4];simp[World.setCell]⟩
theorem Zfu (b:Nat):∀(vs:List Value) (o:Nat) (w:World) (cs:Array Value) (t:TypeId) (fr:Nat×Nat),w.heap[b]? =some (.cells cs t fr)->
  ∃cs',(w.setCells b o vs).heap[b]? =some (.cells cs' t fr)/\cs'.size=cs.size
 | [],_,_,cs,_,_,h=>⟨cs,h,rfl⟩
 |v::r,o,w,cs,t,fr,h=>by
  have h1:(w.setCell ⟨b,o,none⟩ v).heap[b]? =some (.cells (cs.setIfInBounds o v) t fr):=by
   simp[World.setCell,Xer,h]
  obtain⟨cs',h2,h3⟩:=Zfu b r (o+1) _ _ t fr h1
  exact⟨cs',h2,by rw[h3];simp⟩
theorem Zfk {b o:Nat}{vs:List Value}{W:World}{cs:Array Value}{t:TypeId}{fr:Nat×Nat}(h:W.heap[b]? =some (.cells cs t fr))(k:Nat):csz (W.setCells b o vs) k=csz W k:=by
 by_cases hk:k=b
 ·subst hk
  obtain⟨cs',h1,h2⟩:=Zfu k vs o W cs t fr h
  unfold csz;rw[h1,h];exact h2
 ·exact Zhb (Zbs b _ _ _ _ hk)
theorem Zf3 (w:World)(o:Obj):(w.drew.alloc o).heap[w.heap.size]? =some o:=by
 show(w.drew.heap.push o)[w.heap.size]? =some o
 show(w.heap.push o)[w.heap.size]? =some o
 simp
def Gh.move (g:Gh)(p:Option Pos)(q:Pos):Gh:=⟨g.G,g.φ,fun b=>if g.ow b≠none/\g.ow b=p then some q else g.ow b⟩
theorem Adv.move {w B GB g st a W}(h:SR w B GB g st a W)(p:Option Pos)(q:Pos):Adv B g (g.move p q) W W p:=by
 refine⟨.refl _ _ _,rfl, .refl _ _,fun _ _=>rfl,fun b id h1 h2 h3 h4=>⟨rfl,h3, ?_⟩,fun b q' h1 h2 h3=>⟨rfl,rfl, ?_⟩,h.Gz⟩
 ·simp[Gh.move,h4]
 ·have:g.ow b≠p:=by rw[h2];exact h3
  show(if g.ow b≠none/\g.ow b=p then some q else g.ow b)=some q'
  rw[if_neg (fun hh=>this hh.2)];exact h2
theorem OwnAt.move {B:Nat->Prop}{g:Gh}{p q:Pos}{v:V}{x:Value}(h:OwnAt W B g p v x):OwnAt W B (g.move (some p) q) q v x:=by
 intro sz xs b off len cap sp hv hx
 rcases h sz xs b off len cap sp hv hx with h|⟨h1,h2,h3,h4⟩
 ·exact .inl h
 ·exact .inr ⟨h1,by simp[Gh.move,h2],h3,h4⟩
theorem Zt9 {w B GB g st a}(h:SR w B GB g st a W){sz:Nat}{u:V}{x:Value}{tx:TypeId}{ys:List V}(hk:(∃e',P.underlying tx=some (.slice e')) \/P.underlying tx=some .string)
  (hr:Rep W g.G g.φ u x) (hv:Zb2 st.H sz u=some ys):
  ∃news:List Value,Src P sz tx x ys.length news W/\(∀y∈ys,y.cells.length=sz/\ ∀c∈y.cells,c.sc=true)/\news.length=ys.length*sz/\
   ∀(j:Nat) (c:V),(flat ys)[j]? =some c-> ∃y,news[j]? =some y/\Rep W g.G g.φ c y:=by
 have fin:∀(b off cap:Nat) (zs:List V) (hfit:∀y∈zs,y.cells.length=sz/\ ∀c∈y.cells,c.sc=true) (hrow:Row W g.G g.φ (flat zs) b off),
   ∃news:List Value,Src P sz tx (.slice (some ⟨b,off,none⟩) zs.length cap) zs.length news W/\(∀y∈zs,y.cells.length=sz/\ ∀c∈y.cells,c.sc=true)/\news.length=zs.length*sz/\
    ∀(j:Nat) (c:V),(flat zs)[j]? =some c-> ∃y,news[j]? =some y/\Rep W g.G g.φ c y:=by
  intro b off cap zs hfit hrow
  obtain⟨news,hl,hn⟩:=hrow.list (flat zs).length (Xag _)
  have hl':news.length=zs.length*sz:=by rw[hl,Zcj fun y hy=>(hfit y hy).1]
  have hc:∀j u,news[j]? =some u->W.cell? ((⟨b,off,none⟩:Addr).add j)=some u:=fun j u hj=>by rw[Zb9];exact(hn j u hj).1
  refine⟨news,⟨hk,fun _=>rfl,run_firstCells_some W sz _ _ _ _ news hl' hc,run_firstCells_some W.drew sz _ _ _ _ news hl' (by simpa using hc),hl',hrow.one hn⟩,hfit,hl',fun j c hj=> ?_⟩
  have hlt:j<news.length:=by rw[hl];exact(Xae.1 hj).1
  obtain⟨_,c',hc',hr'⟩:=hn j _ (Xad hlt)
  rw[hj]at hc';cases hc'
  exact⟨_,Xad hlt,hr'⟩
 cases u<;>simp only[Zb2,reduceCtorEq]at hv
 case str s=>
  split at hv
  ·rename_i h1
   subst h1
   simp only[Xac]at hv
   subst hv
   cases hr
   rename_i s' hs
   have hlen:(encB s).length=s'.size:=by rw[<-hs];simp[encB]
   refine⟨byteCells s',⟨hk,fun _=>by rw[hlen];rfl,by rw[hlen];exact firstCells_string s' W,by rw[hlen];exact firstCells_string s' W.drew,by rw[byteCells_length,hlen,Xcw],fun u hu=> ?_⟩,Zo0 s,by rw[byteCells_length,hlen,Xcw],fun j c hj=> ?_⟩
   ·obtain⟨_,_,rfl⟩:=Xa9.1 hu;rfl
   ·rw[Zhs]at hj
    simp only[encB,Xbt,Xaa]at hj
    obtain⟨b,hb,rfl⟩:=hj
    exact⟨.int .u8 b.toNat,by simp[byteCells,hs,hb], .int _ _⟩
  ·simp at hv
 case sl nl s xs=>
  split at hv
  ·rename_i hs
   simp only[Xac]at hv
   subst hv
   rcases hr.row with⟨_,rfl,rfl⟩|⟨_,rfl,a,rfl⟩|⟨b,off,cap,rfl,rfl,hcap,hG,hx,hrow⟩
   rotate_left
   ·exact⟨[],⟨hk,fun _=>rfl,Zba W sz a,Zba W.drew sz a,by simp,fun _ h=>by cases h⟩,by simp,by simp,fun j c hj=>by simp[flat]at hj⟩
   rotate_left
   ·exact⟨[],⟨hk,fun _=>rfl,run_firstCells_none W sz 0 0 0,run_firstCells_none W.drew sz 0 0 0,by simp,fun _ h=>by cases h⟩,by simp,by simp,fun j c hj=>by simp[flat]at hj⟩
   ·rcases hs with rfl|rfl
    ·exact fin b off cap xs hx hrow
    ·exact fin b off cap [] (by simp) ⟨by simp[flat],by simp[flat]⟩
  ·simp at hv
 case osl id off len cap s=>
  split at hv
  ·rename_i hs
   subst hs
   split at hv
   ·rename_i h0
    simp only[Xac]at hv
    subst hv;subst h0
    cases hr with
    |osln _ _ _ p=>
     cases p with
     |none=>exact⟨[],⟨hk,fun _=>rfl,run_firstCells_none W s 0 0 0,run_firstCells_none W.drew s 0 0 0,by simp,fun _ h=>by cases h⟩,by simp,by simp,fun j c hj=>by simp[flat]at hj⟩
     |some a=>exact⟨[],⟨hk,fun _=>rfl,Zba W s a,Zba W.drew s a,by simp,fun _ h=>by cases h⟩,by simp,by simp,fun j c hj=>by simp[flat]at hj⟩
    |osl _ _ _ _ _ b cap' hφ hlc hc' hs=>exact fin b off cap' [] (by simp) ⟨by simp[flat],by simp[flat]⟩
   rename_i hn0
   simp only[Xab,Zat]at hv
   obtain⟨cs,hcs,hv⟩:=hv
   split at hv
   ·rename_i hle
    simp only[Xac]at hv
    subst hv
    have hH:st.H id=some (.cells cs):=Zbk (by simpa[Zat]using hcs)
    cases hr with
    |osln _ _ _ _=>exact absurd rfl hn0
    |osl _ _ _ _ _ b cap' hφ hlc hc' hs=>
    obtain⟨xs,t,h2,h3,h4,_⟩:=(h.ob id _ hH).cells hφ
    have hsc:∀c∈cs.drop off,c.sc=true:=fun c hc=>h4 c (Xb2 hc)
    have hle':len*s<=(cs.drop off).length:=by rw[Xct];omega
    have hlen:(vRow s len (cs.drop off)).length=len:=Zjm hle'
    have hfl:flat (vRow s len (cs.drop off))=(cs.drop off).take (len*s):=Zwg hsc
    have:=fin b off cap' (vRow s len (cs.drop off)) (Zr5 hle' hsc) ⟨by rw[hfl];exact fun c hc=>hsc c (Xbn hc),fun k c hk=>by
     rw[hfl,Za9]at hk
     split at hk
     ·have hlt:off+k<xs.size:=Xb0 (Xae.1 hk).1 h3.1
      exact⟨xs[off+k],by simp[World.cell?,h2,hlt],h3.2 _ c _ hk (Xar hlt)⟩
     ·simp at hk⟩
    rw[hlen]at this
    simpa[hlen]using this
   ·simp at hv
  ·simp at hv
theorem Zsi {α:Type}(l:List α):l.isEmpty=decide (l=[]):=by cases l<;>rfl
theorem Zpp {w B GB g st a}(h:SR w B GB g st a W){sz:Nat}{xs ys:List V}{olds news:List Value}{z:Array Value}{e:TypeId}(cap:Nat)(q:Pos)(p:Option Pos)(hcap:xs.length+ys.length<=cap)(hzs:z.size=sz)
  (hx:∀y∈xs,y.cells.length=sz/\ ∀c∈y.cells,c.sc=true) (hy:∀y∈ys,y.cells.length=sz/\ ∀c∈y.cells,c.sc=true) (hol:olds.length=xs.length*sz) (hnl:news.length=ys.length*sz)
  (hor:∀(j:Nat) (c:V),(flat xs)[j]? =some c-> ∃y,olds[j]? =some y/\Rep W g.G g.φ c y) (hnr:∀(j:Nat) (c:V),(flat ys)[j]? =some c-> ∃y,news[j]? =some y/\Rep W g.G g.φ c y)
  {W':World} (hW':W'=W.drew.alloc (.cells ((olds++news).toArray++Builtin.zeroCells z (cap-(xs.length+ys.length))) e)):
  ∃g',Adv B g g' W W' p/\Rep W' g'.G g'.φ (.sl false sz (xs++ys)) (.slice (some ⟨W.heap.size,0,none⟩) (xs.length+ys.length) cap)/\
   OwnAt W' B g' q (.sl false sz (xs++ys)) (.slice (some ⟨W.heap.size,0,none⟩) (xs.length+ys.length) cap):=by
 subst hzs
 have hB:B W.heap.size:=h.hB _ h.below.size
 obtain⟨o,ho⟩:∃o:Array Value,o=(olds++news).toArray++Builtin.zeroCells z (cap-(xs.length+ys.length)):=⟨_,rfl⟩
 rw[<-ho]at hW'
 subst hW'
 have hadv:=Adv.new h ((xs.length+ys.length)*z.size) (some q) p (Zdg W (.cells o e)) (by simp)
 have hfit:∀y∈xs++ys,y.cells.length=z.size/\ ∀c∈y.cells,c.sc=true:=fun y hm=>by
  rcases Xay.1 hm with hm|hm
  ·exact hx y hm
  ·exact hy y hm
 have hosz:o.size=cap*z.size:=by
  rw[ho]
  simp only[Xff,size_zeroCells,Xdr,Xaf,hol,hnl]
  rw[<-Xca, <-Xca];congr 1;omega
 refine⟨_,hadv, ?_, ?_⟩
 ·rw[<-Xaf]
  refine Rep.of_row (by simpa using hcap) (by simp) hfit ⟨fun c hc=> ?_,fun k c hk=> ?_⟩
  ·obtain⟨y,hm,hc⟩:=Xce.1 hc;exact(hfit y hm).2 c hc
  ·have hmain:∃y,(olds++news)[k]? =some y/\Rep W g.G g.φ c y:=by
    rw[Zgi]at hk
    have hl:=Zcj fun y hm=>(hx y hm).1
    rcases Xa4 k (flat xs).length with hlt|hge
    ·rw[Xa3 hlt]at hk
     obtain⟨y,h1,h2⟩:=hor k c hk
     exact⟨y,by rw[Xa3 (by rw[hol, <-hl];exact hlt)];exact h1,h2⟩
    ·rw[Xa2 hge]at hk
     obtain⟨y,h1,h2⟩:=hnr _ c hk
     exact⟨y,by rw[Xa2 (by rw[hol, <-hl];exact hge),hol, <-hl];exact h1,h2⟩
   obtain⟨y,h1,h2⟩:=hmain
   refine⟨y, ?_,h2.keep (by rw[Xaf];exact hadv.keeps)⟩
   have hlt:k<(olds++news).length:=(Xae.1 h1).1
   rw[Xan,cell_of_row _ W.heap.size k _ e (0,0) (Zf3 _ _),ho,Xd5 (by simpa using hlt)]
   simpa using h1
 ·intro sz xs' b off len cap' sp hv hx'
  simp only[V.sl.injEq,true_and]at hv
  obtain⟨rfl,rfl⟩:=hv
  simp only[Value.slice.injEq,Xac,Addr.mk.injEq]at hx'
  obtain⟨⟨rfl,rfl,rfl⟩,rfl,rfl⟩:=hx'
  exact .inr ⟨hB,by simp,by simp,_,_,_,_,Zf3 _ _,by rw[hosz];omega,fun j _ _=>by omega⟩
theorem Z83 {w B GB g st a}(h:SR w B GB g st a W){sz:Nat}{s u:V}{xs xu:Value}{t tx ty e:TypeId}{ie:TypeInfo}{z:Value}{r:Res}{own:Bool}{p:Option Pos}(q:Pos)
  (ht:P.underlying t=some (.slice e)) (he:P.info? e=some ie) (hz:ie.zero=some z) (hsz:ie.size=sz) (hzs:z.cells.size=sz) (hby:ie.bytes<=4096) (hk:(∃e',P.underlying tx=some (.slice e')) \/P.underlying tx=some .string)
  (hs:Rep W g.G g.φ s xs) (hu:Rep W g.G g.φ u xu) (ho:own=true-> ∃p',p=some p'/\OwnAt W B g p' s xs) (hv:vApp st.H own sz p s u=some r):
  ∃y W' g',(Builtin.append_ #[t,tx] ty #[xs,xu]).run P W= .ok y W'/\Adv B g g' W W' r.tk/\Rep W' g'.G g'.φ r.v y/\(r.o=true->OwnAt W' B g' q r.v y):=by
 subst hsz
 have hB:B W.heap.size:=h.hB _ h.below.size
 unfold vApp at hv
 split at hv
 ·--onto a nil slice
  rename_i s1 xs0 ys htail
  split at hv
  ·rename_i hlim
   simp only[Xac]at hv
   subst hv
   obtain⟨news,hsrc,hfit,hnl,hnr⟩:=Zt9 (P:=P) h hk hu htail
   have hnil:xs= .slice none 0 0/\xs0=[]:=by cases hs;exact⟨rfl,rfl⟩
   obtain⟨rfl,rfl⟩:=hnil
   by_cases hy:ys=[]
   ·subst hy
    have hn0:news=[]:=by simpa using hnl
    subst hn0
    refine⟨.slice none 0 0,W,g, ?_,Adv.refl h _, .slnil _,fun _=>fun sz xs b off len cap sp hv hx=>by cases hx⟩
    simp only[Xa7]at hsrc
    have h1:=hsrc.len
    have h2:=hsrc.cells
    rcases hk with⟨e',hk⟩|hk<;>simp[Builtin.append_,Zaa ht,Zaa hk,Zah he,h1,h2]
   ·have hpos:0<ys.length:=Xaz.2 hy
    have hrun:=run_append_grow_src (P:=P) W t tx ty e ie z ht he hz none 0 0 [] (run_firstCells_none W.drew _ _ _ _) xu ys.length news hsrc (by omega) (by unfold Lim at hlim;omega)
     (growslice_fits (by omega) (by
      have:(0+ys.length)*ie.bytes<=4294967296*4096:=Xdz (by unfold Lim at hlim;omega) hby
      omega))
    obtain⟨g',hadv,hrep,hown⟩:=Zpp h (sz:=ie.size) (xs:=[]) (ys:=ys) (olds:=[]) (news:=news) (z:=z.cells) (e:=e) (grownCap W (0+ys.length) 0 e) q none (by simpa using grownCap_ge W (0+ys.length) 0 e) hzs (by simp) hfit (by simp) hnl
     (fun j c hj=>by simp[flat]at hj) hnr rfl
    have hne:ys.isEmpty=false:=by rw[Zsi];simpa using hy
    rw[hne]
    exact⟨_,_,g',hrun,hadv,hrep,fun _=>hown⟩
  ·simp at hv
 ·rename_i s1 xs0 ys htail
  split at hv
  ·rename_i hc
   obtain⟨hlim,rfl,rfl⟩:=hc
   simp only[Xac]at hv
   subst hv
   obtain⟨p',rfl,hown⟩:=ho rfl
   obtain⟨news,hsrc,hfit,hnl,hnr⟩:=Zt9 (P:=P) h hk hu htail
   rcases hs.row with⟨hh,_⟩|⟨_,rfl,a0,rfl⟩|⟨b,off,cap,_,rfl,hcap,hG,hx,hrow⟩
   ·cases hh
   ·by_cases hy:ys=[]
    ·subst hy
     have hn0:news=[]:=by simpa using hnl
     subst hn0
     refine⟨.slice (some a0) 0 0,W,g, ?_,Adv.refl h _,by simpa using hs,fun _=>fun sz xs b off len cap sp hv hx=> ?_⟩
     ·simp only[Xa7]at hsrc
      have h1:=hsrc.len
      have h2:=hsrc.cells
      rcases hk with⟨e',hk⟩|hk<;>simp[Builtin.append_,Zaa ht,Zaa hk,Zah he,h1,h2,storeCells]
     ·cases hx;exact .inl rfl
    ·have hpos:0<ys.length:=Xaz.2 hy
     have hrun:=run_append_grow_src (P:=P) W t tx ty e ie z ht he hz (some a0) 0 0 [] (Zba W.drew _ a0) xu ys.length news hsrc (by omega) (by unfold Lim at hlim;simp at hlim;omega)
      (growslice_fits (by omega) (by
       have:(0+ys.length)*ie.bytes<=4294967296*4096:=Xdz (by unfold Lim at hlim;simp at hlim;omega) hby
       omega))
     obtain⟨g',hadv,hrep,hown⟩:=Zpp h (sz:=ie.size) (xs:=[]) (ys:=ys) (olds:=[]) (news:=news) (z:=z.cells) (e:=e) (grownCap W (0+ys.length) 0 e) q (some p') (by simpa using grownCap_ge W (0+ys.length) 0 e) hzs (by simp) hfit (by simp) hnl
      (fun j c hj=>by simp[flat]at hj) hnr rfl
     exact⟨_,_,g',hrun,hadv,hrep,fun _=>hown⟩
   ·by_cases hroom:xs0.length+ys.length<=cap
    ·by_cases hy:ys=[]
     ·subst hy
      have hn0:news=[]:=by simpa using hnl
      subst hn0
      have hrun:=run_append_room_src (P:=P) W t tx ty e ie ht he b off xs0.length cap xu 0 [] hsrc (by omega) (by simp) (by simp)
      refine⟨_,W,g.move (some p') q,hrun,Adv.move h _ _, ?_,fun _=> ?_⟩
      ·show Rep W g.G g.φ _ _
       simpa using hs
      ·simpa using hown.move (q:=q)
     ·have hpos:0<ys.length:=Xaz.2 hy
      obtain⟨hb1,how,hend,cs,ct,lo,hi,hheap,hfitc,hfz⟩:=(hown _ _ b off _ _ none rfl rfl).resolve_left (by omega)
      have hmul:off+(xs0.length+ys.length)*ie.size<=cs.size:=by
       have:(xs0.length+ys.length)*ie.size<=cap*ie.size:=Xbv _ hroom
       omega
      have hadd:(xs0.length+ys.length)*ie.size=xs0.length*ie.size+ys.length*ie.size:=Xca _ _ _
      have hroom':off+xs0.length*ie.size+ys.length*ie.size<=off+cap*ie.size:=by
       have:(xs0.length+ys.length)*ie.size<=cap*ie.size:=Xbv _ hroom
       omega
      have hrun:=run_append_room_src (P:=P) W t tx ty e ie ht he b off xs0.length cap xu ys.length news hsrc hroom
       (fun j hj=>by rw[cell_of_row _ b _ cs ct (lo,hi) hheap];simp;omega)
       (fun j hj=>by
        have:=hfz (off+xs0.length*ie.size+j) (by omega) (by omega)
        simp only[World.frozen?,hheap]
        simpa using this)
      obtain⟨e1,e2,e3,e4⟩:=Zdq b news (off+xs0.length*ie.size) W
      obtain⟨cs',hblk,hcs'⟩:=Zfu b news (off+xs0.length*ie.size) W cs ct (lo,hi) hheap
      have hblt:b<W.heap.size:=(Xa8.1 hheap).1
      have hold:∀i,i<g.G b->(W.setCells b (off+xs0.length*ie.size) news).cell? ⟨b,i,none⟩=W.cell? ⟨b,i,none⟩:=fun i hi=>
       World.cell?_setCells_out b news _ W _ (fun _ _=> .inl (by show i<_;omega))
      have hnew:∀j (hj:j<news.length),(W.setCells b (off+xs0.length*ie.size) news).cell? ⟨b,off+xs0.length*ie.size+j,none⟩=some news[j]:=
       World.cell?_setCells_in b news _ W (fun j hj=>by rw[cell_of_row _ b _ cs ct (lo,hi) hheap];simp;omega)
      have hne:g.ow b≠none:=by rw[how];simp
      have hadv:Adv B g ⟨fun k=>if k=b then off+(xs0.length+ys.length)*ie.size else g.G k,g.φ,fun k=>if k=b then some q else g.ow k⟩ W (W.setCells b (off+xs0.length*ie.size) news) (some p'):=by
       refine⟨⟨fun k i hi=> ?_,fun k=> ?_,fun _ _ h=>h,fun _ k _=>Zfk hheap k⟩,rfl,⟨e1,e2,e3,by omega,fun k hk=>Zbs b _ _ _ _ (fun e=>hk (by rw[e];exact hb1))⟩,fun k hk=> ?_,fun k id h1 h2 h3 h4=> ?_,fun k q' h1 h2 h3=> ?_,fun k hk=> ?_⟩
       ·by_cases hkb:k=b
        ·subst hkb;exact hold i hi
        ·exact World.cell?_of_block (w:=W) (Zbs b _ _ _ _ hkb)
       ·dsimp only;split
        ·rename_i hkb;subst hkb;omega
        ·exact Xag _
       ·dsimp only;rw[if_neg (fun e=>hk (by rw[e];exact hb1))]
       ·have hkb:k≠b:=fun hkb=>by subst hkb;exact hne h4
        dsimp only;rw[if_neg hkb,if_neg hkb];exact⟨Zbs b _ _ _ _ hkb,h3,h4⟩
       ·have hkb:k≠b:=fun hkb=>by subst hkb;rw[how]at h2;exact h3 h2.symm
        dsimp only;rw[if_neg hkb,if_neg hkb];exact⟨Zbs b _ _ _ _ hkb,rfl,h2⟩
       ·dsimp only;rw[if_neg (by omega)];exact h.Gz k (by omega)
      refine⟨_,_,_,hrun,hadv, ?_,fun _=> ?_⟩
      ·rw[<-Xaf]
       refine Rep.of_row (by simpa using hroom) (by simp) (fun y hm=> ?_) ⟨fun c hc=> ?_,fun k c hk=> ?_⟩
       ·rcases Xay.1 hm with hm|hm
        ·exact hx y hm
        ·exact hfit y hm
       ·rw[Zgi]at hc
        rcases Xay.1 hc with hm|hm
        ·exact hrow.sc c hm
        ·obtain⟨y,hm,hc⟩:=Xce.1 hm;exact(hfit y hm).2 c hc
       ·rw[Zgi]at hk
        have hl:=Zcj fun y hm=>(hx y hm).1
        rcases Xa4 k (flat xs0).length with hlt|hge
        ·rw[Xa3 hlt]at hk
         obtain⟨y,h1,h2⟩:=hrow.cell k c hk
         exact⟨y,by rw[hold _ (by omega)];exact h1,h2.keep (by rw[Xaf];exact hadv.keeps)⟩
        ·rw[Xa2 hge,hl]at hk
         obtain⟨y,h1,h2⟩:=hnr _ c hk
         have hlt:=(Xae.1 h1).1
         have:=hnew _ hlt
         rw[show off+xs0.length*ie.size+(k-xs0.length*ie.size)=off+k by omega]at this
         refine⟨_,this, ?_⟩
         have e5:news[k-xs0.length*ie.size]=y:=by
          have:=Xad hlt
          rw[h1]at this;exact(Option.some.inj this).symm
         rw[e5];exact h2.keep (by rw[Xaf];exact hadv.keeps)
      ·intro sz xs' b' off' len cap' sp hv hx'
       simp only[V.sl.injEq,true_and]at hv
       obtain⟨rfl,rfl⟩:=hv
       simp only[Value.slice.injEq,Xac,Addr.mk.injEq]at hx'
       obtain⟨⟨rfl,rfl,rfl⟩,rfl,rfl⟩:=hx'
       refine .inr ⟨hb1,by simp,by simp,cs',ct,lo,hi,hblk,by omega,fun j hj1 hj2=>hfz j ?_ hj2⟩
       simp only[if_true]at hj1;omega
    ·--a new row
     obtain⟨olds,hol,hon⟩:=hrow.list (flat xs0).length (Xag _)
     have hol':olds.length=xs0.length*ie.size:=by rw[hol,Zcj fun y hy=>(hx y hy).1]
     have hcell:∀j u,olds[j]? =some u->W.drew.cell? ((⟨b,off,none⟩:Addr).add j)=some u:=fun j u hj=>by rw[Zb9];simpa using(hon j u hj).1
     have hrun:=run_append_grow_src (P:=P) W t tx ty e ie z ht he hz (some ⟨b,off,none⟩) xs0.length cap olds (run_firstCells_some W.drew _ _ _ _ _ olds hol' hcell) xu ys.length news hsrc (by omega) (by unfold Lim at hlim;omega)
      (growslice_fits (by omega) (by
       have:(xs0.length+ys.length)*ie.bytes<=4294967296*4096:=Xdz (by unfold Lim at hlim;omega) hby
       omega))
     obtain⟨g',hadv,hrep,hown'⟩:=Zpp h (sz:=ie.size) (xs:=xs0) (ys:=ys) (olds:=olds) (news:=news) (z:=z.cells) (e:=e) (grownCap W (xs0.length+ys.length) cap e) q (some p') (grownCap_ge W _ cap e) hzs hx hfit hol' hnl
      (fun j c hj=>by
       have hlt:j<olds.length:=by rw[hol];exact(Xae.1 hj).1
       obtain⟨_,c',hc',hr'⟩:=hon j _ (Xad hlt)
       rw[hj]at hc';cases hc'
       exact⟨_,Xad hlt,hr'⟩) hnr rfl
     exact⟨_,_,g',hrun,hadv,hrep,fun _=>hown'⟩
  ·simp at hv
 ·simp at hv
end Go.Abs
namespace Go.Abs
open Go.RowKit
variable {P:Program}{W:World}{G:Nat->Nat}{φ:Nat->Option Nat}
def setL {α:Type}(cs:List α)(off:Nat)(ys:List α):List α:=cs.take off++ys++cs.drop (off+ys.length)
theorem Zcr {α:Type}(cs:List α)(off:Nat)(ys:List α)(h:off+ys.length<=cs.length)(k:Nat):
  (setL cs off ys)[k]? =if off<=k/\k<off+ys.length then ys[k-off]? else cs[k]? :=by
 unfold setL
 rw[Xaj]
 have hl:(cs.take off).length=off:=by simp;omega
 rcases Xa4 k off with h1|h1
 ·rw[Xa3 (by omega),if_neg (by omega),Xdk,if_pos h1]
 ·rw[Xa2 (by omega),hl]
  rcases Xa4 k (off+ys.length)with h2|h2
  ·rw[Xa3 (by omega),if_pos ⟨h1,h2⟩]
  ·rw[Xa2 (by omega),if_neg (by omega),Xcg]
   congr 1;omega
theorem Zc3 {α:Type}(cs:List α)(off:Nat)(ys:List α)(h:off+ys.length<=cs.length):(setL cs off ys).length=cs.length:=by
 simp[setL];omega
theorem Zgx (cs:List V)(off:Nat)(ys:List V):Zav cs off ys=setL cs off ys:=rfl
theorem Zkf :∀(ys:List Value) (off k:Nat) (cs:Array Value),off+k+ys.length<=cs.size->
  ((ys.zipIdx k).foldl (fun(cs:Array Value) (p:Value×Nat)=>cs.setIfInBounds (off+p.2) p.1) cs).toList=setL cs.toList (off+k) ys
 | [],off,k,cs,_=>by simp[setL]
 |y::r,off,k,cs,h=>by
  simp only[Xax]at h
  rw[List.zipIdx_cons,List.foldl_cons]
  rw[Zkf r off (k+1) _ (by simp;omega)]
  apply Xel
  intro j
  rw[Zcr _ _ _ (by simp;omega),Zcr _ _ _ (by simp;omega)]
  simp only[Xc7,Xem,Xax]
  by_cases h1:off+(k+1)<=j/\j<off+(k+1)+r.length
  ·rw[if_pos h1,if_pos (by omega)]
   rw[show j-(off+k)=(j-(off+(k+1)))+1 by omega]
   simp
  ·rw[if_neg h1]
   by_cases h2:off+k=j
   ·subst h2
    rw[if_pos rfl,if_pos (by simp;omega),if_pos (by omega)]
    simp
   ·rw[if_neg h2,if_neg (by omega)]
theorem Zow {place:Nat->Option (Nat×Nat)}{cells:Array Value}{i off size:Nat}{v:Value}{rest:List (Nat×Value)}(hp:place i=some (off,size))(hs:v.cells.size=size)(hle:off+size<=cells.size):
  Instr.fill place cells ((i,v)::rest)=Instr.fill place (setL cells.toList off v.cells.toList).toArray rest:=by
 simp only[Instr.fill,hp]
 rw[if_neg (by simp[hs];omega)]
 congr 1
 apply Array.ext'
 have:=Zkf v.cells.toList off 0 cells (by simp;omega)
 simp only[Xc5]at this
 rw[<-this]
 rw[<-Array.foldl_toList,Array.toList_zipIdx]
theorem RepL.setL {cs:List V}{xs:Array Value}{ys:List V}{zs:Array Value}{off:Nat}(h:RepL W G φ cs xs)(hy:RepL W G φ ys zs)(hle:off+ys.length<=cs.length):
  RepL W G φ (Zav cs off ys) (Go.Abs.setL xs.toList off zs.toList).toArray:=by
 have hl:=h.1
 have hl2:=hy.1
 refine⟨by rw[Zgx,Zc3 _ _ _ hle];simp;rw[Zc3 _ _ _ (by simp;omega)];simpa using hl,fun i c x hc hx=> ?_⟩
 rw[Zgx,Zcr _ _ _ hle]at hc
 simp only[Xda]at hx
 rw[Zcr _ _ _ (by simp;omega)]at hx
 have:zs.toList.length=ys.length:=by simp[hl2]
 rw[this]at hx
 split at hc
 ·rename_i hcond
  rw[if_pos hcond]at hx
  exact hy.2 _ c x hc (by simpa using hx)
 ·rename_i hcond
  rw[if_neg hcond]at hx
  exact h.2 _ c x hc (by simpa using hx)
theorem Zne {cs ys:List V}{off:Nat}{c:V}(h:c∈Zav cs off ys):c∈cs \/c∈ys:=by
 simp only[Zav,Xay]at h
 rcases h with(h|h)|h
 ·exact .inl (Xbn h)
 ·exact .inr h
 ·exact .inl (Xb2 h)
theorem Zze {place:Nat->Option (Nat×Nat)}:∀{ps:List (Nat×Nat×V)} {qs:List (Nat×Value)} {cs rs:List V} {xs:Array Value},
  ps.length=qs.length->(∀(k:Nat) (p:Nat×Nat×V) (q:Nat×Value),ps[k]? =some p->qs[k]? =some q->place q.1=some (p.1,p.2.1)/\Rep W G φ p.2.2 q.2)->
  RepL W G φ cs xs->(∀c∈cs,c.sc=true)->Zio cs ps=some rs->
  ∃ys,Instr.fill place xs qs=some ys/\RepL W G φ rs ys/\ ∀c∈rs,c.sc=true
 | [],[],cs,rs,xs,_,_,h,hs,hv=>by simp[Zio]at hv;subst hv;exact⟨xs,rfl,h,hs⟩
 |(off,n,v)::ps,(i,x)::qs,cs,rs,xs,hl,hp,h,hs,hv=>by
  simp only[Zio]at hv
  split at hv
  ·rename_i hc
   obtain⟨h1,h2,h3⟩:=hc
   obtain⟨hpl,hr⟩:=hp 0 _ _ rfl rfl
   have hrc:=hr.cells
   have hsz:x.cells.size=n:=by rw[<-hrc.1];exact h1
   rw[Zow hpl hsz (by rw[<-h.1];exact h3)]
   exact Zze (by simpa using hl) (fun k p q hk hq=>hp (k+1) p q (by simpa using hk) (by simpa using hq)) (h.setL hrc (by rw[h1];exact h3))
    (fun c hc=>by
     rcases Zne hc with hc|hc
     ·exact hs c hc
     ·exact Xal.1 h2 c hc) hv
  ·simp at hv
theorem Zrv {sz:Nat}:∀(xs:List Value) (k:Nat) (pre rest:List Value),pre.length=k*sz->rest.length=xs.length*sz->(∀x∈xs,x.cells.size=sz)->
  Instr.fill (fun i=>some (i*sz,sz)) (pre++rest).toArray ((xs.zipIdx k).map fun p=>(p.2,p.1))=some (pre++xs.flatMap fun x=>x.cells.toList).toArray
 | [],k,pre,rest,_,hr,_=>by
  have:rest=[]:=by simpa using hr
  subst this;rfl
 |x::xs,k,pre,rest,hp,hr,hx=>by
  rw[List.zipIdx_cons,Xaq]
  have hs:=hx x (by simp)
  simp only[Xax,Xcx]at hr
  rw[Zow (off:=k*sz) (size:=sz) rfl hs (by simp;omega)]
  have hset:setL ((pre++rest).toArray).toList (k*sz) x.cells.toList=(pre++x.cells.toList)++rest.drop sz:=by
   unfold setL
   simp only[hs,Xcb]
   rw[<-hp]
   simp[Xc6]
  rw[hset]
  rw[Zrv xs (k+1) (pre++x.cells.toList) (rest.drop sz) (by simp[hs,hp,Xcx]) (by simp;omega) (fun y hy=>hx y (by simp[hy]))]
  simp
theorem Zvu {xs:List V}{ys:List Value}(hl:xs.length=ys.length)(h:∀(i:Nat) (c:V) (x:Value),xs[i]? =some c->ys[i]? =some x->Rep W G φ c x):
  RepL W G φ (flat xs) (ys.flatMap fun x=>x.cells.toList).toArray:=by
 induction xs generalizing ys with
 |nil=>
  have:ys=[]:=by simpa using hl.symm
  subst this;exact⟨rfl,fun i c x hc=>by simp[flat]at hc⟩
 |cons a r ih=>
  cases ys with
  |nil=>simp at hl
  |cons y s=>
   have h1:=(h 0 a y rfl rfl).cells
   have h2:=ih (ys:=s) (by simpa using hl) fun i c x hc hx=>h (i+1) c x (by simpa using hc) (by simpa using hx)
   have e1:=h1.1
   have e2:=h2.1
   refine⟨by simp only[flat,Xbp,Xaf,Xdr,Xcb]at*;omega,fun i c x hc hx=> ?_⟩
   simp only[flat,Xbp,Xda]at*
   rcases Xa4 i a.cells.length with hlt|hge
   ·rw[Xa3 hlt]at hc
    rw[Xa3 (by simp;omega)]at hx
    exact h1.2 i c x hc (by simpa using hx)
   ·rw[Xa2 hge]at hc
    rw[Xa2 (by simp;omega)]at hx
    have:y.cells.toList.length=a.cells.length:=by simp;omega
    rw[this]at hx
    exact h2.2 _ c x hc (by simpa using hx)
theorem Z42 {w B GB g st a}(h:SR w B GB g st a W){sz:Nat}{xs:List V}{ys:List Value}{t e:TypeId}{ie:TypeInfo}{z:Value}(ht:P.underlying t=some (.slice e))(he:P.info? e=some ie)(hz:ie.zero=some z)(hsz:ie.size=sz)(hzs:z.cells.size=sz)
  (hbig:xs.length*sz<=16777216) (hl:xs.length=ys.length) (hr:∀(i:Nat) (c:V) (x:Value),xs[i]? =some c->ys[i]? =some x->Rep W g.G g.φ c x) (hf:fits sz xs=true) (q:Pos):
  ∃y W' g',(Instr.buildSlice t xs.length ((ys.zipIdx 0).map fun p=>(p.2,p.1)).toArray).run P W= .ok y W'/\Adv B g g' W W' none/\Rep W' g'.G g'.φ (.sl false sz xs) y/\OwnAt W' B g' q (.sl false sz xs) y:=by
 subst hsz
 have hfit:=Zs9 hf
 have hB:B W.heap.size:=h.hB _ h.below.size
 have hys:∀y∈ys,y.cells.size=ie.size:=by
  intro y hy
  obtain⟨i,hi⟩:=Xd6 hy
  have hlt:i<xs.length:=by rw[hl];exact(Xae.1 hi).1
  have:=(hr i _ y (Xad hlt) hi).cells.1
  rw[<-this];exact(hfit _ (Xau hlt)).1
 have hflat:=Zvu hl hr
 have hfill:∀zz:Array Value,Instr.fill (fun i=>some (i*ie.size,ie.size)) ((Array.range (xs.length*ie.size)).map (fun k=>zz[k % zz.size]!)) ((ys.zipIdx 0).map fun p=>(p.2,p.1))=some (ys.flatMap fun x=>x.cells.toList).toArray:=by
  intro zz
  have:=Zrv (sz:=ie.size) ys 0 [] ((Array.range (xs.length*ie.size)).map (fun k=>zz[k % zz.size]!)).toList (by simp) (by simp[hl]) hys
  have e1:((Array.range (xs.length*ie.size)).map (fun k=>zz[k % zz.size]!))=([]++((Array.range (xs.length*ie.size)).map (fun k=>zz[k % zz.size]!)).toList).toArray:=by simp only[Xba,Array.toArray_toList]
  rw[e1,this];simp
 have hrun:(Instr.buildSlice t xs.length ((ys.zipIdx 0).map fun p=>(p.2,p.1)).toArray).run P W= .ok (.slice (some ⟨W.heap.size,0,none⟩) xs.length xs.length) (W.alloc (.cells (ys.flatMap fun x=>x.cells.toList).toArray e)):=by
  have hb: ¬(xs.length*ie.size>2^24):=by simp;omega
  have hzv:(zeroValue e).run P W= .ok z W:=by simp[zeroValue,Zcn he,hz]
  by_cases h0:xs.length*ie.size=0
  ·have:=hfill #[]
   simp[Instr.buildSlice,Zaa ht,Zah he,h0,newRow]at this⊢
   simp[this]
  ·have:=hfill z.cells
   simp[Instr.buildSlice,Zaa ht,Zah he,hb,h0,hzv,newRow]at this⊢
   simp[this]
 have hadv:=Adv.new h (xs.length*ie.size) (some q) none (Zb6 W (.cells (ys.flatMap fun x=>x.cells.toList).toArray e)) (by simp)
 refine⟨_,_,_,hrun,hadv, ?_,fun sz xs' b off len cap sp hv hx=> ?_⟩
 ·refine Rep.of_row (Xag _) (by simp) hfit ⟨fun c hc=> ?_,fun k c hk=> ?_⟩
  ·obtain⟨y,hm,hc⟩:=Xce.1 hc;exact(hfit y hm).2 c hc
  ·have hlt:k<(ys.flatMap fun x=>x.cells.toList).toArray.size:=by rw[<-hflat.1];exact(Xae.1 hk).1
   refine⟨_, ?_,(hflat.2 k c _ hk (Xar hlt)).keep hadv.keeps⟩
   rw[Xan,cell_of_row _ W.heap.size k _ e (0,0) (heap_alloc_new _ _)]
   exact Xar hlt
 ·simp only[Value.slice.injEq]at hx
  exact .inl (by omega)
theorem Z8n {w B GB g st a}(h:SR w B GB g st a W){sz:Nat}{u v:V}{xl xc:Value}{t e:TypeId}{ie:TypeInfo}{z:Value}{r:Res}(ht:P.underlying t=some (.slice e))(he:P.info? e=some ie)(hz:ie.zero=some z)(hsz:ie.size=sz)(hzs:z.cells.size=sz)(hby:ie.bytes<=4096)
  (hu:Rep W g.G g.φ u xl) (hv':Rep W g.G g.φ v xc) (hv:vMks sz u v=some r) (q:Pos):
  ∃y W' g',(Instr.makeSlice t xl xc).run P W= .ok y W'/\Adv B g g' W W' r.tk/\Rep W' g'.G g'.φ r.v y/\(r.o=true->OwnAt W' B g' q r.v y):=by
 subst hsz
 have hB:B W.heap.size:=h.hB _ h.below.size
 cases hu<;>cases hv'<;>simp only[vMks,reduceCtorEq]at hv
 rename_i kl n kc c
 split at hv
 ·rename_i hc
  obtain⟨rfl,hc0,hcl⟩:=hc
  simp only[Xac]at hv
  subst hv
  obtain⟨m,rfl⟩:∃m:Nat,c=m:=⟨c.toNat,by omega⟩
  have hm:m<=4294967296:=by unfold Lim at hcl;omega
  have hbig:(ie.bytes:Int)*(m:Int)<=281474976710656:=by
   have h1:ie.bytes*m<=4096*4294967296:=Xdz hby hm
   have h2:((ie.bytes*m:Nat):Int)=(ie.bytes:Int)*(m:Int):=Xe3 _ _
   omega
  have hrun:∃cs:Array Value,cs.size=m*ie.size/\(Instr.makeSlice t (.int kl 0) (.int kc m)).run P W= .ok (.slice (some ⟨W.heap.size,0,none⟩) 0 m) (W.alloc (.cells cs e)):=by
   have:=run_make (P:=P) W t e ie z ht he hz kl kc 0 m (by omega) (by omega) hbig (by omega)
   exact⟨_,by rw[size_madeCells];simp,this⟩
  obtain⟨cs,hcs,hrun⟩:=hrun
  have hadv:=Adv.new h 0 (some q) none (Zb6 W (.cells cs e)) (by simp)
  refine⟨_,_,_,hrun,hadv, ?_,fun _=> ?_⟩
  ·exact Rep.of_row (sz:=ie.size) (xs:=[]) (by simp) (by simp) (by simp) ⟨by simp[flat],by simp[flat]⟩
  ·intro sz xs' b off len cap sp hv hx
   simp only[V.sl.injEq,true_and]at hv
   obtain⟨rfl,rfl⟩:=hv
   simp only[Value.slice.injEq,Xac,Addr.mk.injEq]at hx
   obtain⟨⟨rfl,rfl,rfl⟩,rfl,rfl⟩:=hx
   exact .inr ⟨hB,by simp,by simp,_,_,_,_,heap_alloc_new _ _,by omega,fun j _ _=>by omega⟩
 ·simp at hv
theorem Z3r {n sz:Nat}{u v:V}{x:Value}{lo hi mx:Option V}{xl xh xm:Option Value}{t e:TypeId}{ie:TypeInfo}(ht:P.underlying t=some (.array n e))(he:P.info? e=some ie)(hsz:ie.size=sz)
  (h:Rep W G φ u x) (hl:RepO W G φ lo xl) (hh:RepO W G φ hi xh) (hm:RepO W G φ mx xm) {H:Hp} (hH:∀id cs b,Zat H id=some cs->φ id=some b->cs.length<=csz W b) (hv:Zi6 H n sz u lo hi mx=some v):
  ∃y,(Instr.sliceAt t x xl xh xm).run P W= .ok y W/\Rep W G φ v y:=by
 subst hsz
 unfold Zi6 at hv
 split at hv
 ·rename_i l hi' m id o el eh em
  cases h
  rename_i b hφ
  simp only[Xab]at hv
  obtain⟨cs,hcs,hv⟩:=hv
  have hbs:=hH _ _ _ hcs hφ
  split at hv
  rotate_left
  ·cases hv
  rename_i hlen
  obtain⟨hlen,_⟩:=hlen
  simp only[Xaa]at hv
  obtain⟨c,hcut,rfl⟩:=hv
  obtain⟨hr,h1,h2,h3⟩:=Zb7 (P:=P) (W:=W) (isS:=false) (Xag n) (Zbw hl el) (Zbw hh eh) (Zbw hm em) hcut
  refine⟨.slice (if c.2.2=c.1 then some ⟨b,o,none⟩else some ⟨b,o+c.1*ie.size,none⟩) (c.2.1-c.1) (c.2.2-c.1), ?_, ?_⟩
  ·simp only[Instr.sliceAt,Sem.run_bind,Zaa ht,Result.andThen_ok,Instr.sureAddr,Sem.run_pure,hr,Zah he,Zb9]
   split<;>rfl
  ·have hm':(c.2.2-c.1)*ie.size<=n*ie.size:=Xbv _ (by omega)
   split
   ·exact .osl _ _ _ _ _ _ _ hφ (by omega) (Xag _) (by omega)
   ·have:c.1*ie.size+(c.2.2-c.1)*ie.size=c.2.2*ie.size:=by rw[<-Xca];congr 1;omega
    have h5:c.2.2*ie.size<=n*ie.size:=Xbv _ (by omega)
    exact .osl _ _ _ _ _ _ _ hφ (by omega) (Xag _) (by omega)
 ·simp at hv
theorem Z9s {n:Nat}{u v:V}{x:Value}{t e:TypeId}(ht:P.underlying t=some (.array n e))(h:Rep W G φ u x)(hv:vS2a n u=some v):
  ∃y,(Instr.arrayAt t x).run P W= .ok y W/\Rep W G φ v y:=by
 cases u<;>simp only[vS2a,reduceCtorEq]at hv
 rename_i nl sz xs
 split at hv
 ·rename_i heq
  simp only[V.sl.injEq]at heq
  obtain⟨rfl,rfl,rfl⟩:=heq
  split at hv
  ·rename_i hc
   obtain⟨hn,hne,hf⟩:=hc
   simp only[Xac]at hv
   subst hv
   rcases h.row with⟨hh,_⟩|⟨_,rfl,a,rfl⟩|⟨b,off,cap,_,rfl,hcap,hG,hx,hrow⟩
   ·cases hh
   ·exact absurd rfl hne
   ·refine⟨.pointer (some ⟨b,off,none⟩),by simp[Instr.arrayAt,Zaa ht,Xe2.2 hn], ?_⟩
    have hl:=Zcj (sz:=1) fun y hy=>(hx y hy).1
    obtain⟨ys,hyl,hy⟩:=hrow.list (flat xs).length (Xag _)
    refine .el (flat xs) 0 b off (fun k=>ys.getD k undef) (by rw[hl];exact hG) hrow.sc (fun k hk=> ?_) (fun k c hk=> ?_)
    ·have hk':k<ys.length:=by omega
     rw[(hy k _ (Xad hk')).1]
     simp[List.getD,hk']
    ·have hk':k<ys.length:=by rw[hyl];exact(Xae.1 hk).1
     obtain⟨_,c',hc',hr'⟩:=hy k _ (Xad hk')
     rw[hk]at hc';cases hc'
     simpa[List.getD,hk']using hr'
  ·simp at hv
 ·simp at hv
end Go.Abs
namespace Go.Abs
open Go.RowKit
variable {P:Program}{W:World}{G:Nat->Nat}{φ:Nat->Option Nat}
abbrev Kd :=Option IntKind×Bool
def Zcw (F:TypeId->Option (List Kd))(C:TypeId->Nat):Nat->List Field->Option (List Kd)
 |_,[]=>some []
 | off, f :: fs => (F f.type).bind fun ks => if f.name ≠ "_" ∧ f.offset = off ∧ C f.type = ks.length then (Zcw F C (off + ks.length) fs).map (ks ++ ·) else none
def Ze5 (P:Program):Nat->TypeId->Option (List Kd)
 |0,_=>none
 |n+1,t=>
  match P.underlying t with
  |some (.int k)=>some [(some k,true)]
  |some .string=>some [(none,true)]
  |some .bool=>some [(none,false)]
  |some (.struct fs)=>if P.stoodInHeld t=false/\(P.info? t).isSome=true then(Zcw (Ze5 P n) P.cellsOf 0 fs.toList).bind fun ks=>if P.cellsOf t=ks.length then some ks else none else none
  |some (.array m e)=>(Ze5 P n e).bind fun ks=>if P.cellsOf e=ks.length/\(P.info? e).isSome=true/\(P.info? t).isSome=true/\P.cellsOf t=m*ks.length then some (List.replicate m ks).flatten else none
  |_=>none
theorem Zd0 {k:Kd}{ks:List Kd}{xs ys:List V}{r:Bool}(h:Zaw (k::ks) xs ys=some r):
  ∃x xs' y ys' b r',xs=x::xs'/\ys=y::ys'/\kdEq k x y=some b/\Zaw ks xs' ys'=some r'/\r=(b&&r'):=by
 cases xs with
 |nil=>simp[Zaw]at h
 |cons x xs=>
  cases ys with
  |nil=>simp[Zaw]at h
  |cons y ys=>
   simp only[Zaw,Xab,Xaa]at h
   obtain⟨b,h1,r',h2,h3⟩:=h
   exact⟨x,xs,y,ys,b,r',rfl,rfl,h1,h2,h3.symm⟩
theorem Zas :∀{ks:List Kd} {xs ys:List V} {r:Bool},Zaw ks xs ys=some r->xs.length=ks.length/\ys.length=ks.length:=by
 intro ks
 induction ks with
 |nil=>intro xs ys r h;cases xs<;>cases ys<;>simp[Zaw]at h<;>simp
 |cons k ks ih=>
  intro xs ys r h
  obtain⟨x,xs',y,ys',b,r',rfl,rfl,_,h2,_⟩:=Zd0 h
  obtain⟨h3,h4⟩:=ih h2
  simp[h3,h4]
theorem Zdn :∀{ks ls:List Kd} {xs xs' ys ys':List V} {r:Bool},xs.length=ks.length->ys.length=ks.length->Zaw (ks++ls) (xs++xs') (ys++ys')=some r->
  ∃r1 r2,Zaw ks xs ys=some r1/\Zaw ls xs' ys'=some r2/\r=(r1&&r2):=by
 intro ks
 induction ks with
 |nil=>
  intro ls xs xs' ys ys' r hx hy h
  have hx':xs=[]:=by simpa using hx
  have hy':ys=[]:=by simpa using hy
  subst hx';subst hy'
  exact⟨true,r,rfl,by simpa using h,by simp⟩
 |cons k ks ih=>
  intro ls xs xs' ys ys' r hx hy h
  cases xs with
  |nil=>simp at hx
  |cons x xs=>
   cases ys with
   |nil=>simp at hy
   |cons y ys=>
    simp only[Xbq]at h
    obtain⟨x2,xs2,y2,ys2,b,r',e1,e2,h1,h2,rfl⟩:=Zd0 h
    cases e1;cases e2
    obtain⟨r1,r2,h3,h4,rfl⟩:=ih (by simpa using hx) (by simpa using hy) h2
    exact⟨b&&r1,r2,by simp[Zaw,h1,h3],h4,by simp[Bool.and_assoc]⟩
theorem RepL.cut {cs:List V}{X:Array Value}(h:RepL W G φ cs X)(off n:Nat)(hle:off+n<=cs.length):RepL W G φ ((cs.drop off).take n) (X.extract off (off+n)):=by
 have h1:=h.1
 refine⟨by simp;omega,fun i c x hc hx=> ?_⟩
 rw[Za9]at hc
 split at hc
 ·rw[Array.getElem?_extract]at hx
  split at hx
  ·exact h.2 _ c x hc hx
  ·simp at hx
 ·simp at hc
theorem Za6 {t:TypeId}(h:(P.info? t).isSome=true):∃i,P.info? t=some i/\i.size=P.cellsOf t:=by
 obtain⟨i,hi⟩:=Xcy.1 h
 exact⟨i,hi,by simp[Program.cellsOf,hi]⟩
theorem Zuv :∀(n:Nat) (t:TypeId) (ks:List Kd),Ze5 P n t=some ks-> ∀(d:Nat),n<=d-> ∀(cs ds:List V) (X Y:Array Value) (off:Nat) (r:Bool),
  RepL W G φ cs X->RepL W G φ ds Y->Zaw ks ((cs.drop off).take ks.length) ((ds.drop off).take ks.length)=some r->
  ∃a b,(part t X off).run P W= .ok a W/\(part t Y off).run P W= .ok b W/\(Op.equalIn d t a b).run P W= .ok r W:=by
 intro n
 induction n with
 |zero=>intro t ks h;simp[Ze5]at h
 |succ n ih=>
  intro t ks h d hd cs ds X Y off r hX hY hr
  obtain⟨d,rfl⟩:∃m,d=m+1:=⟨d-1,by omega⟩
  have leaf:∀{u:TypeDesc},P.underlying t=some u->(∀fs,u≠ .struct fs)->(∀m e,u≠ .array m e)-> ∀(cs:List V) (X:Array Value) (v:V),RepL W G φ cs X->(cs.drop off).take 1=[v]-> ∃x,(part t X off).run P W= .ok x W/\Rep W G φ v x:=by
   intro u hu h1 h2 cs X v hX hv
   have hv':cs[off]? =some v:=by
    have:=congrArg (·[0]?) hv
    simpa[Za9]using this
   have hlt:off<X.size:=by rw[<-hX.1];exact(Xae.1 hv').1
   refine⟨X[off], ?_,hX.2 off v _ hv' (Xar hlt)⟩
   have ha:(isAgg t).run P W= .ok false W:=by
    simp only[isAgg,Sem.run_bind,Zaa hu,Result.andThen_ok]
    cases u<;>first|rfl|exact(h1 _ rfl).elim|exact(h2 _ _ rfl).elim
   simp[part,ha,hlt]
  have one:∀{u:TypeDesc} {k:Kd},P.underlying t=some u->(∀fs,u≠ .struct fs)->(∀m e,u≠ .array m e)->Zaw [k] ((cs.drop off).take 1) ((ds.drop off).take 1)=some r->
    ∃v w x y,(part t X off).run P W= .ok x W/\(part t Y off).run P W= .ok y W/\Rep W G φ v x/\Rep W G φ w y/\kdEq k v w=some r:=by
   intro u k hu h1 h2 hr
   obtain⟨v,vs,w,ws,b,r',e1,e2,h3,h4,rfl⟩:=Zd0 hr
   have hvs:vs=[]:=by
    have:=congrArg List.length e1;simp at this;exact Xb6.1 (by omega)
   have hws:ws=[]:=by
    have:=congrArg List.length e2;simp at this;exact Xb6.1 (by omega)
   subst hvs;subst hws
   simp only[Zaw,Xac]at h4
   subst h4
   obtain⟨x,p1,q1⟩:=leaf hu h1 h2 cs X v hX e1
   obtain⟨y,p2,q2⟩:=leaf hu h1 h2 ds Y w hY e2
   exact⟨v,w,x,y,p1,p2,q1,q2,by simpa using h3⟩
  unfold Ze5 at h
  split at h
  ·rename_i k hu
   simp only[Xac]at h;subst h
   obtain⟨v,w,x,y,p1,p2,q1,q2,hk⟩:=one hu (by simp) (by simp) hr
   refine⟨x,y,p1,p2, ?_⟩
   cases q1<;>cases q2<;>simp only[kdEq,reduceCtorEq]at hk
   split at hk
   ·rename_i hc
    obtain⟨rfl,rfl⟩:=hc
    simp only[Xac]at hk;subst hk
    rw[run_equalIn_int W d t _ _ _ _ hu];congr 1
   ·simp at hk
  ·rename_i hu
   simp only[Xac]at h;subst h
   obtain⟨v,w,x,y,p1,p2,q1,q2,hk⟩:=one hu (by simp) (by simp) hr
   refine⟨x,y,p1,p2, ?_⟩
   cases q1<;>cases q2<;>simp only[kdEq,reduceCtorEq,Xac]at hk
   subst hk
   rename_i l1 s1 h1 l2 s2 h2
   rw[run_equalIn_string W d t _ _ hu,Zb5,Zb5,h1,h2,Zgu]
  ·rename_i hu
   simp only[Xac]at h;subst h
   obtain⟨v,w,x,y,p1,p2,q1,q2,hk⟩:=one hu (by simp) (by simp) hr
   refine⟨x,y,p1,p2, ?_⟩
   cases q1<;>cases q2<;>simp only[kdEq,reduceCtorEq,Xac]at hk
   subst hk
   exact run_equalIn_bool' W d t _ _ hu
  ·rename_i fs hu
   split at h
   ·rename_i hc
    obtain⟨hst,hinf⟩:=hc
    simp only[Xab]at h
    obtain⟨ks',hks,h⟩:=h
    split at h
    ·rename_i hsz
     simp only[Xac]at h;subst h
     obtain⟨i,hi,his⟩:=Za6 hinf
     obtain⟨hl1,hl2⟩:=Zas hr
     have ha:(isAgg t).run P W= .ok true W:=by simp only[isAgg,Sem.run_bind,Zaa hu,Result.andThen_ok];rfl
     have hle1:off+i.size<=cs.length \/ks'=[]:=by
      by_cases h0:ks'.length=0
      ·exact .inr (Xb6.1 h0)
      ·left;simp at hl1;omega
     have hle2:off+i.size<=ds.length \/ks'=[]:=by
      by_cases h0:ks'.length=0
      ·exact .inr (Xb6.1 h0)
      ·left;simp at hl2;omega
     refine⟨.agg (X.extract off (off+i.size)), .agg (Y.extract off (off+i.size)),by simp[part,ha,Zah hi],by simp[part,ha,Zah hi], ?_⟩
     have hfs:P.fieldsOf t=fs:=by simp[Program.fieldsOf,hu]
     rw[run_equalIn_struct W d t _ _ (by rw[hfs];exact hu) hst,hfs]
     have hcX:RepL W G φ ((cs.drop off).take ks'.length) (X.extract off (off+i.size)):=by
      rcases hle1 with hle|rfl
      ·have:=hX.cut off i.size hle;rwa[his,hsz]at this⊢
      ·have h0:i.size=0:=by rw[his,hsz];rfl
       rw[h0];exact⟨by simp;omega,fun i c x hc=>by simp at hc⟩
     have hcY:RepL W G φ ((ds.drop off).take ks'.length) (Y.extract off (off+i.size)):=by
      rcases hle2 with hle|rfl
      ·have:=hY.cut off i.size hle;rwa[his,hsz]at this⊢
      ·have h0:i.size=0:=by rw[his,hsz];rfl
       rw[h0];exact⟨by simp;omega,fun i c x hc=>by simp at hc⟩
     have key:∀(fl:List Field) (o:Nat) (kl:List Kd) (r:Bool),Zcw (Ze5 P n) P.cellsOf o fl=some kl->Zaw kl (((cs.drop off).take ks'.length).drop o) (((ds.drop off).take ks'.length).drop o)=some r->
       (Op.eqFields d (X.extract off (off+i.size)) (Y.extract off (off+i.size)) fl).run P W= .ok r W:=by
      intro fl
      induction fl with
      |nil=>
       intro o kl r h1 h2
       simp only[Zcw,Xac]at h1;subst h1
       have e1:=(Zas h2).1
       have e2:=(Zas h2).2
       have:r=true:=by
        have z1:=Xb6.1 e1
        have z2:=Xb6.1 e2
        rw[z1,z2]at h2;simpa[Zaw]using h2.symm
       subst this;rfl
      |cons f fl ihf=>
       intro o kl r h1 h2
       simp only[Zcw,Xab]at h1
       obtain⟨k1,hk1,h1⟩:=h1
       split at h1
       ·rename_i hc
        obtain⟨hnm,rfl,hcl⟩:=hc
        simp only[Xaa]at h1
        obtain⟨k2,hk2,rfl⟩:=h1
        obtain⟨hL1,hL2⟩:=Zas h2
        simp only[Xaf]at hL1 hL2
        have sp:∀(l:List V),l=l.take k1.length++l.drop k1.length:=fun l=>(Xbl _ _).symm
        rw[sp (((cs.drop off).take ks'.length).drop f.offset),sp (((ds.drop off).take ks'.length).drop f.offset)]at h2
        obtain⟨r1,r2,h3,h4,rfl⟩:=Zdn (by rw[Xbr,hL1];omega) (by rw[Xbr,hL2];omega) h2
        obtain⟨a,b,p1,p2,p3⟩:=ih f.type k1 hk1 d (by omega) _ _ _ _ f.offset r1 hcX hcY h3
        rw[Xdp,Xdp]at h4
        have h5:=ihf (f.offset+k1.length) k2 r2 hk2 h4
        simp only[Op.eqFields,hnm,ne_eq,not_false_eq_true,if_true,Sem.run_bind,p1,p2,p3,Result.andThen_ok]
        cases r1
        ·simp
        ·simpa using h5
       ·simp at h1
     exact key fs.toList 0 ks' r hks (by simpa using hr)
    ·simp at h
   ·simp at h
  ·rename_i m e hu
   simp only[Xab]at h
   obtain⟨k1,hk1,h⟩:=h
   split at h
   ·rename_i hc
    obtain⟨hce,hie,hit,hct⟩:=hc
    simp only[Xac]at h;subst h
    obtain⟨i,hi,his⟩:=Za6 hit
    obtain⟨ie,hie',hies⟩:=Za6 hie
    have hkl:(List.replicate m k1).flatten.length=m*k1.length:=by simp
    rw[hkl]at hr
    obtain⟨hl1,hl2⟩:=Zas hr
    rw[hkl]at hl1 hl2
    have ha:(isAgg t).run P W= .ok true W:=by simp only[isAgg,Sem.run_bind,Zaa hu,Result.andThen_ok];rfl
    refine⟨.agg (X.extract off (off+i.size)), .agg (Y.extract off (off+i.size)),by simp[part,ha,Zah hi],by simp[part,ha,Zah hi], ?_⟩
    rw[run_equalIn_array W d _ _ hu hie',hce]
    have hs0:i.size=m*k1.length:=by rw[his,hct]
    have hcX:RepL W G φ ((cs.drop off).take (m*k1.length)) (X.extract off (off+i.size)):=by
     rcases Xdl (m*k1.length)with h0|h0
     ·rw[hs0,h0];exact⟨by simp;omega,fun i c x hc=>by simp at hc⟩
     ·have:=hX.cut off i.size (by simp at hl1;omega);rwa[hs0]at this⊢
    have hcY:RepL W G φ ((ds.drop off).take (m*k1.length)) (Y.extract off (off+i.size)):=by
     rcases Xdl (m*k1.length)with h0|h0
     ·rw[hs0,h0];exact⟨by simp;omega,fun i c x hc=>by simp at hc⟩
     ·have:=hY.cut off i.size (by simp at hl2;omega);rwa[hs0]at this⊢
    have key:∀(c j:Nat) (r:Bool),Zaw (List.replicate c k1).flatten (((cs.drop off).take (m*k1.length)).drop (j*k1.length)) (((ds.drop off).take (m*k1.length)).drop (j*k1.length))=some r->
      (Op.eqItems d e k1.length (X.extract off (off+i.size)) (Y.extract off (off+i.size)) (List.range' j c)).run P W= .ok r W:=by
     intro c
     induction c with
     |zero=>
      intro j r h2
      have e1:=(Zas h2).1
      have e2:=(Zas h2).2
      have:r=true:=by
       have z1:=Xb6.1 e1
       have z2:=Xb6.1 e2
       rw[z1,z2]at h2;simpa[Zaw]using h2.symm
      subst this;rfl
     |succ c ihc=>
      intro j r h2
      rw[Xde,Xco]at h2
      obtain⟨hL1,hL2⟩:=Zas h2
      simp only[Xaf]at hL1 hL2
      have sp:∀(l:List V),l=l.take k1.length++l.drop k1.length:=fun l=>(Xbl _ _).symm
      rw[sp (((cs.drop off).take (m*k1.length)).drop (j*k1.length)),sp (((ds.drop off).take (m*k1.length)).drop (j*k1.length))]at h2
      obtain⟨r1,r2,h3,h4,rfl⟩:=Zdn (by rw[Xbr,hL1];omega) (by rw[Xbr,hL2];omega) h2
      obtain⟨a,b,p1,p2,p3⟩:=ih e k1 hk1 d (by omega) _ _ _ _ (j*k1.length) r1 hcX hcY h3
      rw[Xdp,Xdp, <-Xcx]at h4
      have h5:=ihc (j+1) r2 h4
      rw[Xd8]
      simp only[Op.eqItems,Sem.run_bind,p1,p2,p3,Result.andThen_ok]
      cases r1
      ·simp
      ·simpa using h5
    have:=key m 0 r (by simpa using hr)
    rwa[<-List.range_eq_range']at this
   ·simp at h
  ·simp at h
end Go.Abs
namespace Go.Abs
open Go.RowKit
def cV (P:Program)(t:TypeId):Value->Option V
 | .bool b=>some (.bool b)
 | .int k m=>some (.int k m)
 | .string s=>some (.str s.data.toList)
 | .slice none 0 0=>some (.sl true (match P.underlying t with|some (.slice e)=>P.cellsOf e|_=>0) [])
 | .pointer none=>some .nilptr
 | .map none=>some .nilmap
 | .nilFunc=>some .nilfn
 | .nilIface=>some .nilif
 |_=>none
def cOpd (P:Program)(n:Nat)(t:TypeId):Operand->Option Opd
 | .tmp k=>if k<n then some (.tmp k)else none
 | .const v=>(cV P t v).map .const
 | .global g=>some (.const (.gp g 0))
 | .func f=>some (.const (.fn f []))
def Zga (P:Program)(n:Nat):List TypeId->List Operand->Option (List Opd)
 |_,[]=>some []
 |ts,x::r=>(cOpd P n (ts.headD 0) x).bind fun y=>(Zga P n ts.tail r).map (y:: ·)
def Zi3 (P:Program)(n:Nat):Option Operand->Option (Option Opd)
 |none=>some none
 |some x=>(cOpd P n 0 x).map some
def Zub (P:Program):Nat->TypeId->List TypeId
 |0,_=> []
 |m+1,t=>
  match P.underlying t with
  |some (.struct fs)=>fs.toList.flatMap fun f=>Zub P m f.type
  |some (.array k e)=>(List.replicate k (Zub P m e)).flatten
  |_=> [t]
def cVs (P:Program):List TypeId->List Value->Option (List V)
 | [],[]=>some []
 |t::ts,x::xs=>(cV P t x).bind fun v=>(cVs P ts xs).map (v:: ·)
 |_,_=>none
def Zee (P:Program)(t:TypeId):Option (List V):=
 match P.info? t with
 |some i=>match i.zero with
  |some z=>cVs P (Zub P 40 t) z.cells.toList
  |none=>none
 |none=>none
def slE (P:Program)(t:TypeId):Option Nat:=
 match P.underlying t with
 |some (.slice e)=>match P.info? e with
  |some i=>match i.zero with
   |some z=>if z.cells.size=i.size/\i.bytes<=4096 then some i.size else none
   |none=>none
  |none=>none
 |_=>none
def Z5s (d:Option Tmp):Operand->Bool
 | .tmp t=>d==some t
 |_=>false
def Zy9 (ops:Array Oper)(d:Option Tmp):Bool:=
 ops.toList.any fun o=>match o.op with
  | .call {callee:= .builtin .append,args, .. }=>match args[0]? with|some x=>Z5s d x|none=>false
  |_=>false
def Z9w (ops:Array Oper)(d:Option Tmp):Bool:=Zy9 ops d||ops.toList.any fun o=>match o.op with| .assign x=>Z5s d x|_=>false
def isSl (P:Program)(t:TypeId):Bool:=match P.underlying t with|some (.slice _)=>true|_=>false
def Zpg (P:Program)(t:TypeId):Bool:=match P.underlying t with|some .string=>true|_=>false
def Zsd (P:Program)(t:TypeId)(x y:Operand):EqK:=
 match P.underlying t with
 |some .bool=> .bool
 |some (.struct _)|some (.array _ _)=>if P.eqGuardType P.depth t=false then(match Ze5 P 60 t with|some ks=> .flat ks|none=> .no)else .no
 |some (.slice _)=> .slice
 |some (.pointer _)=> .ptr
 |some (.interface _)=>match x,y with| .const .nilIface,_=> .iface|_, .const .nilIface=> .iface|_,_=> .no
 |_=> .no
def fieldAt (P:Program)(t:TypeId)(f:Nat):Option Field:=match P.underlying t with|some (.struct fs)=>fs[f]? |_=>none
def Zoa (P:Program)(n:Nat)(place:Nat->Option (Nat×Nat)):List (Nat×Operand)->Option (List (Nat×Nat×Opd))
 | []=>some []
 |(i,x)::r=>(place i).bind fun p=>(cOpd P n 0 x).bind fun y=>(Zoa P n place r).map ((p.1,p.2,y):: ·)
def Zm8 (P:Program)(t:TypeId):Option (Nat->Option (Nat×Nat)):=
 match P.underlying t with
 |some (.struct fs)=>if fs.toList.all (fun f=>(P.info? f.type).isSome)then some fun i=>(fs[i]?).map fun f=>(f.offset,P.cellsOf f.type)else none
 |some (.array _ e)=>if(P.info? e).isSome then some fun i=>some (i*P.cellsOf e,P.cellsOf e)else none
 |_=>none
def Zlq :Nat->List (Nat×Operand)->Bool
 |_,[]=>true
 |k,(i,_)::r=>i==k&&Zlq (k+1) r
def Zzj (P:Program)(t:TypeId):Bool:=match P.underlying t with|some (.pointer _)=>true|some (.map _ _)=>true|_=>false
def keyK (P:Program)(t:TypeId):Option KK:=(Ze5 P 60 t).map fun ks=>(match P.underlying t with|some (.struct _)|some (.array _ _)=>true|_=>false,ks)
def Zir (P:Program)(t:TypeId):Option V:=
 match P.info? t with
 |some i=>match i.zero with
  |some (.agg _)=>(Zee P t).map .agg
  |some _=>match Zee P t with|some [v]=>some v|_=>none
  |none=>none
 |none=>none
def Z58 (P:Program)(f:FuncId):Bool:=match P.funcs[f]? with|some fn=>fn.params.toList.any (Zzj P)||fn.resultTypes.toList.any (Zzj P)|none=>false
def Z8q (P:Program)(t:TypeId):Bool:=match P.underlying t with|some (.func ..)=>true|_=>false
def Z0k (P:Program):List TypeId->List Operand->Bool
 |t::ts, .tmp _::xs=>Z8q P t||Z0k P ts xs
 |_::ts,_::xs=>Z0k P ts xs
 |_,_=>false
def mksZ (P:Program)(t:TypeId)(l:Opd):List V:=match l with
 | .const (.int _ n)=>if 0<n then(match P.underlying t with|some (.slice e)=>(Zee P e).getD []|_=> [])else []
 |_=> []
def cOp (P:Program)(n:Nat)(ops:Array Oper)(o:Oper):Option AOp:=
 match o.op with
 | .move x=>if Z9w ops o.dst&&isSl P o.type then(match x with| .tmp k=>if k<n then some (.mvo k)else none|x=>(cOpd P n o.type x).map .mv)else(cOpd P n o.type x).map .mv
 | .assign x=>if isSl P o.type then(match x with| .tmp k=>if k<n then some (.mvo k)else none|x=>(cOpd P n o.type x).map .mv)else(cOpd P n o.type x).map .mv
 | .pick c a b=>(cOpd P n 0 c).bind fun c=>(cOpd P n o.type a).bind fun a=>(cOpd P n o.type b).map fun b=> .pick c a b
 | .extract x i=>(cOpd P n 0 x).map fun x=> .ext x i
 | .nilCheck x=>(cOpd P n 0 x).map .nilck
 | .binOp op t x y _=>(cOpd P n t x).bind fun x'=>(cOpd P n t y).map fun y'=> .bin op (Zsd P t x y) x' y'
 | .unOp op t x=>(cOpd P n t x).map fun x=> .un op x
 | .load t a=>(ldN P t).bind fun k=>(cOpd P n 0 a).map fun a=>if Zy9 ops o.dst&&isSl P t&&k.isNone then .ldo a else .load k a
 | .store t a x=>
  match P.info? t with
  |some i=>(cOpd P n 0 a).bind fun a=>if isSl P t&&i.size==1 then(match x with| .tmp k=>if k<n then some (.sto a k)else none|x=>(cOpd P n t x).map fun x=> .store i.size a x)else(cOpd P n t x).map fun x=> .store i.size a x
  |none=>none
 | .alloc t=>(Zee P t).map .new
 | .box t x=>(cOpd P n t x).map .box
 | .build t parts=>(Zm8 P t).bind fun pl=>(Zee P t).bind fun z=>(Zoa P n pl parts.toList).map fun ps=> .build z ps
 | .buildSlice t len parts=>(slE P t).bind fun sz=>if parts.size=len/\Zlq 0 parts.toList=true/\len*sz<=16777216 then(Zga P n [] (parts.toList.map (·.2))).map fun xs=> .bsl sz xs else none
 | .makeSlice t l c=>(slE P t).bind fun sz=>(cOpd P n 0 l).bind fun l=>(cOpd P n 0 c).map fun c=> .mks sz (mksZ P t l) l c
 | .slice t x lo hi mx=>
  match P.underlying t with
  |some .string=>if mx.isNone then(cOpd P n 0 x).bind fun x=>(Zi3 P n lo).bind fun lo=>(Zi3 P n hi).map fun hi=> .sls x lo hi else none
  |some (.slice e)=>match P.info? e with
   |some i=>(cOpd P n 0 x).bind fun x=>(Zi3 P n lo).bind fun lo=>(Zi3 P n hi).bind fun hi=>(Zi3 P n mx).map fun mx=> .slc i.size x lo hi mx
   |none=>none
  |some (.array m e)=>match P.info? e with
   |some i=>(cOpd P n 0 x).bind fun x=>(Zi3 P n lo).bind fun lo=>(Zi3 P n hi).bind fun hi=>(Zi3 P n mx).map fun mx=> .slca m i.size x lo hi mx
   |none=>none
  |_=>none
 | .fieldAddr t x f=>(fieldAt P t f).bind fun fd=>match P.info? fd.type with|some i=>if i.size≠0 then(cOpd P n 0 x).map fun x=> .faddr fd.offset x else none|none=>none
 | .field t x f=>(fieldAt P t f).bind fun fd=>(ldN P fd.type).bind fun k=>(cOpd P n 0 x).map fun x=> .fld k fd.offset x
 | .indexAddr t x i=>
  match P.underlying t with
  |some (.slice e)=>match P.info? e with|some ie=>(cOpd P n 0 x).bind fun x=>(cOpd P n 0 i).map fun i=> .iaddr ie.size x i|none=>none
  |some (.array m e)=>match P.info? e with|some ie=>(cOpd P n 0 x).bind fun x=>(cOpd P n 0 i).map fun i=> .iarr m ie.size x i|none=>none
  |_=>none
 | .index t x i=>
  match P.underlying t with
  |some .string=>(cOpd P n 0 x).bind fun x=>(cOpd P n 0 i).map fun i=> .idx x i
  |some (.array m e)=>match P.info? e with|some ie=>(ldN P e).bind fun k=>(cOpd P n 0 x).bind fun x=>(cOpd P n 0 i).map fun i=> .idxa m ie.size k x i|none=>none
  |_=>none
 | .convert s d x=>
  match P.underlying s,P.underlying d with
  |some .string,some .string=>(cOpd P n 0 x).map .s2s
  |some .string,some (.slice e)=>match P.underlying e with|some (.int .u8)=>(cOpd P n 0 x).map .s2b|_=>none
  |some (.slice e),some .string=>match P.underlying e with|some (.int .u8)=>(cOpd P n 0 x).map .b2s|_=>none
  |some (.int _),some (.int k)=>(cOpd P n 0 x).map (.i2i k)
  |_,_=>none
 | .sliceToArrayPointer d x=>match P.underlying d with|some (.array m _)=>(cOpd P n 0 x).map (.s2a m)|_=>none
 | .makeFunc (.func f) first caps=>if first.isEmpty then(Zga P n [] caps.toList).map (.mkf f)else if caps.isEmpty then(Zga P n [] first.toList).map (.mkm f)else none
 | .call {callee:= .builtin .len,args,argTypes}=>
  match args.toList,argTypes.toList with
  | [x],[t]=>match P.underlying t with|some .string=>(cOpd P n t x).map (.len true)|some (.slice _)=>(cOpd P n t x).map (.len false)|_=>none
  |_,_=>none
 | .call {callee:= .builtin .max,args, .. }=>match args.toList with| [x,y]=>(cOpd P n 0 x).bind fun x=>(cOpd P n 0 y).map fun y=> .mnx true x y|_=>none
 | .call {callee:= .builtin .min,args, .. }=>match args.toList with| [x,y]=>(cOpd P n 0 x).bind fun x=>(cOpd P n 0 y).map fun y=> .mnx false x y|_=>none
 | .call {callee:= .builtin .append,args,argTypes}=>
  match args.toList,argTypes.toList with
  | [s,x],[t,tx]=>(slE P t).bind fun sz=>if(isSl P tx||Zpg P tx)then(cOpd P n t s).bind fun s=>(cOpd P n tx x).map fun x=> .app sz s x else none
  |_,_=>none
 | .call {callee:= .value (.func f),args,argTypes}=>if Z58 P f then(Zga P n argTypes.toList args.toList).map (.callh f)else if Z0k P argTypes.toList args.toList then(Zga P n argTypes.toList args.toList).map (.callvh (.const (.fn f [])))else(Zga P n argTypes.toList args.toList).map (.call f)
 | .call {callee:= .value (.tmp k),args,argTypes}=>if k<n then(Zga P n argTypes.toList args.toList).map (.callvh (.tmp k))else none
 |_=>none
def Zj2 (t:TypeId):Code->Bool
 | .region _ ops _=>ops.toList.any fun o=>match o.op with| .buildSlice u 0 ⟨[]⟩=>Nat.beq u t|_=>false
 | .seq a b=>Zj2 t a||Zj2 t b
 | .cond _ a b=>Zj2 t a||Zj2 t b
 | .block _ b=>Zj2 t b
 | .loop b=>Zj2 t b
 |_=>false
def Zuq (P:Program)(f:FuncId):Option TypeId:=match P.funcs[f]? with
 |some fn=>match fn.params.toList,fn.resultTypes.toList,fn.body with
  | [t],[u],some c=>if Nat.beq t u&&isSl P t&&Zj2 t c then some t else none
  |_,_,_=>none
 |none=>none
def Zew :Code->List (Nat×TypeId)
 | .region _ ops _=>ops.toList.filterMap fun o=>match o.op,o.dst with| .indexAddr t _ _,some d=>some (d,t)|_,_=>none
 | .seq a b=>Zew a++Zew b
 | .cond _ a b=>Zew a++Zew b
 | .block _ b=>Zew b
 | .loop b=>Zew b
 |_=> []
def Zd5 :Code->List Nat
 | .region _ ops _=>ops.toList.filterMap fun o=>match o.op with| .store _ (.tmp k) _=>some k|_=>none
 | .seq a b=>Zd5 a++Zd5 b
 | .cond _ a b=>Zd5 a++Zd5 b
 | .block _ b=>Zd5 b
 | .loop b=>Zd5 b
 |_=> []
def Ze1 :Code->List (Nat×Nat)
 | .region _ ops _=>ops.toList.filterMap fun o=>match o.op,o.dst with| .indexAddr _ (.tmp b) _,some d=>some (d,b)|_,_=>none
 | .seq a b=>Ze1 a++Ze1 b
 | .cond _ a b=>Ze1 a++Ze1 b
 | .block _ b=>Ze1 b
 | .loop b=>Ze1 b
 |_=> []
def Ze3 :Code->List (Nat×Nat)
 | .region _ ops _=>ops.toList.filterMap fun o=>match o.op,o.dst with| .move (.tmp s),some d=>some (d,s)|_,_=>none
 | .seq a b=>Ze3 a++Ze3 b
 | .cond _ a b=>Ze3 a++Ze3 b
 | .block _ b=>Ze3 b
 | .loop b=>Ze3 b
 |_=> []
def Zev :Code->List (Nat×Nat)
 | .region _ ops _=>ops.toList.filterMap fun o=>match o.op,o.dst with| .fieldAddr _ (.tmp b) _,some d=>some (d,b)|_,_=>none
 | .seq a b=>Zev a++Zev b
 | .cond _ a b=>Zev a++Zev b
 | .block _ b=>Zev b
 | .loop b=>Zev b
 |_=> []
def Zkv (c:Code)(d:Nat):Bool:=(Zd5 c).any (Nat.beq d)||(Zev c).any fun p=>Nat.beq p.2 d&&(Zd5 c).any (Nat.beq p.1)
def Zfb :Code->List (FuncId×List Operand×List TypeId)
 | .region _ ops _=>ops.toList.filterMap fun o=>match o.op with| .call {callee:= .value (.func f),args:=xs,argTypes:=ts}=>some (f,xs.toList,ts.toList)|_=>none
 | .seq a b=>Zfb a++Zfb b
 | .cond _ a b=>Zfb a++Zfb b
 | .block _ b=>Zfb b
 | .loop b=>Zfb b
 |_=> []
def Zl1 (P:Program):Nat->FuncId->TypeId->Bool
 |0,_,_=>false
 |n+1,f,t=>match P.funcs[f]? with
  |some fn=>match fn.body with
   |some c=>
    let par:=fun b=>match fn.params[b]? with|some u=>Nat.beq u t|none=>false
    let isPar:=fun b=>par b||(Ze3 c).any fun q=>Nat.beq q.1 b&&par q.2
    isSl P t&&(fn.params.toList.any (Nat.beq t))&&(((Ze1 c).any fun p=>Zkv c p.1&&isPar p.2)||(Zfb c).any fun q=>q.2.2.any (Nat.beq t)&&(q.2.1.any fun x=>match x with| .tmp b=>isPar b|_=>false)&&Zl1 P n q.1 t)
   |none=>false
  |none=>false
def Zyo (P:Program)(t:TypeId)(c:Code):Bool:=(Zfb c).any fun q=>q.2.2.any (Nat.beq t)&&Zl1 P 4 q.1 t
def rowT (P:Program)(c:Code)(t:TypeId):Bool:=isSl P t&&(((Zew c).any fun p=>Nat.beq p.2 t&&Zkv c p.1)||Zyo P t c)
def Z1q (P:Program)(R:TypeId->Bool)(f:FuncId)(ts:List TypeId):Bool:=ts.any fun t=>isSl P t&&(R t&&Zl1 P 4 f t)
def cOpR (P:Program)(R:TypeId->Bool)(n:Nat)(ops:Array Oper)(o:Oper):Option AOp:=
 match o.op with
 | .move x=>match x with
  | .const (.slice none 0 0)=>if R o.type then(slE P o.type).map .nro else cOp P n ops o
  |_=>cOp P n ops o
 | .assign x=>match x with
  | .const (.slice none 0 0)=>if R o.type then(slE P o.type).map .nro else cOp P n ops o
  |_=>cOp P n ops o
 | .call {callee:= .value (.func f),args,argTypes}=>if(Zuq P f).any R||Z1q P R f argTypes.toList then(Zga P n argTypes.toList args.toList).map (.callh f)else cOp P n ops o
 | .buildSlice t 0 ⟨[]⟩=>if R t then(slE P t).map .nro else cOp P n ops o
 | .makeSlice t l c=>if R t then(slE P t).bind fun sz=>match P.underlying t with
  |some (.slice e)=>(Zee P e).bind fun z=>if z.length=sz then(cOpd P n 0 l).bind fun l=>(cOpd P n 0 c).map fun c=> .mko sz z l c else none
  |_=>none else cOp P n ops o
 | .call {callee:= .builtin .append,args,argTypes}=>
  match args.toList,argTypes.toList with
  | [s,x],[t,tx]=>if R t then(slE P t).bind fun sz=>if(isSl P tx||Zpg P tx)then(cOpd P n t s).bind fun s=>(cOpd P n tx x).map fun x=> .appo sz s x else none else cOp P n ops o
  |_,_=>none
 | .call {callee:= .builtin .copy,args,argTypes}=>
  match args.toList,argTypes.toList with
  | [d,s],[t,ts]=>(slE P t).bind fun sz=>if sz=1/\Zpg P ts=true then(cOpd P n t d).bind fun d=>(cOpd P n ts s).map fun s=> .cpy d s else none
  |_,_=>none
 | .call {callee:= .builtin .clear,args,argTypes}=>
  match args.toList,argTypes.toList with
  | [d],[t]=>match P.underlying t with
   |some (.slice e)=>(Zee P e).bind fun z=>if z.length=1 then(cOpd P n t d).map fun d=> .clr z d else none
   |_=>none
  |_,_=>none
 | .makeMap _ none=>some .nmp
 | .lookup t m k ok=>match P.underlying t with
  |some (.map kt et)=>(keyK P kt).bind fun ks=>(Zir P et).bind fun z=>(cOpd P n 0 m).bind fun m=>(cOpd P n kt k).map fun k=> .mlk ks z ok m k
  |_=>none
 | .mapUpdate t m k x=>match P.underlying t with
  |some (.map kt et)=>(keyK P kt).bind fun ks=>(cOpd P n 0 m).bind fun m=>(cOpd P n kt k).bind fun k=>(cOpd P n et x).map fun x=> .mup ks m k x
  |_=>none
 | .insert t m k x=>match P.underlying t with
  |some (.map kt et)=>(keyK P kt).bind fun ks=>(cOpd P n 0 m).bind fun m=>(cOpd P n kt k).bind fun k=>(cOpd P n et x).map fun x=> .mup ks m k x
  |_=>none
 | .call {callee:= .builtin .len,args,argTypes}=>
  match args.toList,argTypes.toList with
  | [x],[t]=>match P.underlying t with
   |some (.map _ _)=>(cOpd P n t x).map .mln
   |_=>cOp P n ops o
  |_,_=>none
 |_=>cOp P n ops o
structure Cx where
 P:Program
 w0:World
 gl:Nat->Option (List V)
def G0 (w0:World)(b:Nat):Nat:=match w0.heap[b]? with|some (.cells c _ _)=>c.size|_=>0
structure OKW (cx:Cx)(W:World)(G:Nat->Nat):Prop where
 below:Below cx.w0.heap.size cx.w0 W
 Glo:∀b,b<cx.w0.heap.size->G b=G0 cx.w0 b
 Gz:∀b,W.heap.size<=b->G b=0
def GlOK (cx:Cx):Prop:=∀g cs,cx.gl g=some cs->Row cx.w0 (G0 cx.w0) (fun _=>none) cs g 0/\cs.length<=G0 cx.w0 g
def Zf8 (P : Program) (f : FuncId) : Prop := ∃ fn, P.funcs[f]? = some fn ∧ fn.name ≠ "runtime.NumGoroutine" ∧ fn.body.isNone = false
def PC (cx:Cx)(f:FuncId)(args:List V)(r:V×Bool):Prop:=
 Zf8 cx.P f/\ ∀W G φ xs,OKW cx W G->RepL W G φ args xs->Calls cx.P f xs W fun e W'=> ∃G' y,e= .returned y/\Below W.heap.size W W'/\(∀b,b<W.heap.size->G' b=G b)/\(∀b,W'.heap.size<=b->G' b=0)/\
  Rep W' G' φ r.1 y/\(r.2=true-> ∀ow q,(∀b,W.heap.size<=b->ow b=some q)->OwnAt W' (fun b=>W.heap.size<=b) ⟨G',φ,ow⟩ q r.1 y)
structure HRel (M:Nat->Prop)(g:Gh)(hs:HS)(W:World):Prop where
 ob:∀id o,hs.H id=some o->ObOK W M g (fun j=>hs.co id j) id o
 obn:∀id,hs.nH<=id->hs.H id=none
 φ:∀id b,g.φ id=some b->M b/\b<W.heap.size/\id<hs.nH
 live:∀id b,g.φ id=some b->g.G b=0/\g.ow b=none
 inj:∀id id' b,g.φ id=some b->g.φ id'=some b->hs.H id≠none->hs.H id'≠none->id=id'
 Gz:∀b,W.heap.size<=b->g.G b=0
def PCH (cx:Cx)(f:FuncId)(args:List V)(hs:HS)(r:V×Bool)(hs':HS):Prop:=
 Zf8 cx.P f/\ ∀W M g xs,OKW cx W g.G->(∀b,M b->cx.w0.heap.size<=b)->HRel M g hs W->(∀b t,g.ow b≠some (.slot t))->RepL W g.G g.φ args xs->
  Calls cx.P f xs W fun e W'=> ∃g' y,e= .returned y/\Bel (fun b=>W.heap.size<=b \/M b) W W'/\(∀b,b<W.heap.size-> ¬M b->g'.G b=g.G b)/\Keeps W g.G g.φ W' g'.G g'.φ/\
   HRel (fun b=>W.heap.size<=b \/M b) g' hs' W'/\Rep W' g'.G g'.φ r.1 y/\(r.2=true->OwnAt W' (fun b=>W.heap.size<=b \/M b) g' (.slot 0) r.1 y)
structure Sound (cx:Cx)(Γ:Spec):Prop where
 p:∀f args r,Γ.p f args=some r->PC cx f args r
 h:∀f args hs r,Γ.h f args hs=some r->PCH cx f args hs (r.1,r.2.1) r.2.2
structure Scope (cx:Cx)(w:World)(B:Nat->Prop)(GB:Gh):Prop where
 below:Below cx.w0.heap.size cx.w0 w
 hB:∀b,B b->cx.w0.heap.size<=b
 Glo:∀b,b<cx.w0.heap.size->GB.G b=G0 cx.w0 b
 gl:GlOK cx
theorem SR.okw {cx w B GB g st a W}(hs:Scope cx w B GB)(h:SR w B GB g st a W):OKW cx W g.G:=
 ⟨hs.below.trans (h.below.low hs.hB),fun b hb=>(h.Glo b (fun e=>by have:=hs.hB b e;omega)).trans (hs.Glo b hb),h.Gz⟩
theorem GlOK.row {cx W G φ}(hg:GlOK cx)(hW:OKW cx W G){g:Nat}{cs:List V}(h:cx.gl g=some cs):Row W G φ cs g 0:=by
 obtain⟨h1,h2⟩:=hg g cs h
 have hlt:∀b,0<G0 cx.w0 b->b<cx.w0.heap.size:=by
  intro b hb
  rcases Xa4 b cx.w0.heap.size with h'|h'
  ·exact h'
  ·simp[G0,Xd0 h']at hb
 have hk:Keeps cx.w0 (G0 cx.w0) (fun _=>none) W G φ:=⟨fun b i hi=>hW.below.cell (p:=⟨b,i,none⟩) (hlt b (by omega)),fun b=>by
  rcases Xdl (G0 cx.w0 b)with h0|h0
  ·omega
  ·rw[hW.Glo b (hlt b h0)];exact Xag _,(fun _ _ h=>by cases h),fun _ _ h=>by cases h⟩
 refine⟨h1.sc,fun k c hc=> ?_⟩
 obtain⟨y,h3,h4⟩:=h1.cell k c hc
 have hkl:=(Xae.1 hc).1
 exact⟨y,by rw[hk.cell g (0+k) (by omega)];exact h3,h4.keep hk⟩
theorem Zzm {P:Program}{t:TypeId}{x:Value}{v:V}{W G φ}(h:cV P t x=some v):Rep W G φ v x:=by
 unfold cV at h
 split at h<;>simp only[Xac,reduceCtorEq]at h<;>subst h
 ·exact .bool _
 ·exact .int _ _
 ·exact .str _ _ rfl
 ·exact .slnil _
 ·exact .nilptr
 ·exact .nilmap
 ·exact .nilfn
 ·exact .nilif
theorem Z76 {P:Program}{t:TypeId}{x:Value}{v:V}(h:cV P t x=some v):v.sc=true:=by
 unfold cV at h
 split at h<;>simp only[Xac,reduceCtorEq]at h<;>subst h<;>rfl
theorem Zpc {P:Program}{W G φ}:∀{ts:List TypeId} {xs:List Value} {vs:List V},cVs P ts xs=some vs->RepL W G φ vs xs.toArray/\ ∀c∈vs,c.sc=true
 | [],[],vs,h=>by simp[cVs]at h;subst h;exact⟨⟨rfl,fun i c x hc=>by simp at hc⟩,by simp⟩
 |t::ts,x::xs,vs,h=>by
  simp only[cVs,Xab,Xaa]at h
  obtain⟨v,h1,vs',h2,rfl⟩:=h
  obtain⟨h3,h4⟩:=Zpc (W:=W) (G:=G) (φ:=φ) h2
  refine⟨⟨by simpa using h3.1,fun i c y hc hy=> ?_⟩,fun c hc=> ?_⟩
  ·cases i with
   |zero=>simp at hc hy;subst hc;subst hy;exact Zzm h1
   |succ i=>exact h3.2 i c y (by simpa using hc) (by simpa using hy)
  ·rcases Xa0.1 hc with rfl|hc
   ·exact Z76 h1
   ·exact h4 c hc
theorem Zfm {P:Program}{t:TypeId}{vs:List V}{W G φ}(h:Zee P t=some vs):∃z,(∀W,(zeroValue t).run P W= .ok z W)/\RepL W G φ vs z.cells/\ ∀c∈vs,c.sc=true:=by
 unfold Zee at h
 split at h
 ·rename_i i hi
  split at h
  ·rename_i z hz
   obtain⟨h1,h2⟩:=Zpc (W:=W) (G:=G) (φ:=φ) h
   exact⟨z,fun W=>by simp[zeroValue,Zcn hi,hz],by simpa using h1,h2⟩
  ·simp at h
 ·simp at h
theorem Zez {P:Program}{t:TypeId}{sz:Nat}(h:slE P t=some sz):∃e i z,P.underlying t=some (.slice e)/\P.info? e=some i/\i.zero=some z/\z.cells.size=i.size/\i.bytes<=4096/\i.size=sz:=by
 unfold slE at h
 split at h
 ·rename_i e he
  split at h
  ·rename_i i hi
   split at h
   ·rename_i z hz
    split at h
    ·rename_i hc
     simp only[Xac]at h
     exact⟨e,i,z,he,hi,hz,hc.1,hc.2,h⟩
    ·simp at h
   ·simp at h
  ·simp at h
 ·simp at h
section
variable {cx:Cx}{w:World}{B:Nat->Prop}{GB:Gh}{g:Gh}{st:St}{a:Act}{W:World}
theorem Zaf {n:Nat}{P:Program}{t:TypeId}{x:Operand}{y:Opd}(h:SR w B GB g st a W)(hn:a.tmps.size=n)(hc:cOpd P n t x=some y):Rep W g.G g.φ (evO st.tm y) (a.eval x):=by
 unfold cOpd at hc
 split at hc
 ·split at hc
  ·rename_i k hk
   simp only[Xac]at hc;subst hc
   exact h.get (by rw[hn];exact hk)
  ·simp at hc
 ·simp only[Xaa]at hc
  obtain⟨v,hv,rfl⟩:=hc
  exact Zzm hv
 ·simp only[Xac]at hc;subst hc;exact .gp _ _
 ·simp only[Xac]at hc;subst hc;exact .fn _ [] #[] rfl (fun i c x hc=>by simp at hc)
theorem Zcs {n:Nat}{P:Program}(h:SR w B GB g st a W)(hn:a.tmps.size=n):∀{ts:List TypeId} {xs:List Operand} {ys:List Opd},Zga P n ts xs=some ys->
  ys.length=xs.length/\ ∀(i:Nat) (c:V) (x:Value),(ys.map (evO st.tm))[i]? =some c->(xs.map a.eval)[i]? =some x->Rep W g.G g.φ c x
 |ts,[],ys,hc=>by simp[Zga]at hc;subst hc;exact⟨rfl,fun i c x hc=>by simp at hc⟩
 |ts,x::xs,ys,hc=>by
  simp only[Zga,Xab,Xaa]at hc
  obtain⟨y,h1,ys',h2,rfl⟩:=hc
  obtain⟨h3,h4⟩:=Zcs h hn h2
  refine⟨by simp[h3],fun i c z hc hz=> ?_⟩
  cases i with
  |zero=>simp at hc hz;subst hc;subst hz;exact Zaf h hn h1
  |succ i=>exact h4 i c z (by simpa using hc) (by simpa using hz)
theorem Zdb {n:Nat}{P:Program}{x:Option Operand}{y:Option Opd}(h:SR w B GB g st a W)(hn:a.tmps.size=n)(hc:Zi3 P n x=some y):RepO W g.G g.φ (y.map (evO st.tm)) (x.map a.eval):=by
 cases x with
 |none=>simp[Zi3]at hc;subst hc;trivial
 |some x=>
  simp only[Zi3,Xaa]at hc
  obtain⟨y',h1,rfl⟩:=hc
  exact Zaf h hn h1
def After (B:Nat->Prop)(g:Gh)(W:World)(r:Res)(d:Option Nat)(y:Value)(W':World):Prop:=
 ∃g',Adv B g g' W W' r.tk/\Rep W' g'.G g'.φ r.v y/\ ∀t,d=some t->r.o=true->OwnAt W' B g' (.slot t) r.v y
theorem After.same (h:SR w B GB g st a W){v:V}{d:Option Nat}{y:Value}(hr:Rep W g.G g.φ v y):After B g W ⟨v,false,none⟩ d y W:=
 ⟨g,Adv.refl h _,hr,fun _ _ h=>by cases h⟩
theorem Zay {P:Program}{o:Oper}{next:Act->World->Prop}{Q:Exit->Act->World->Prop}{s:Sem Value}{y:Value}{W':World}(he:execOp a.eval o=(do pure (.value (<-s))))(hr:s.run P W= .ok y W')
  (h:next (a.put o.dst y) W'):o.wp P a W next Q:=by
 unfold Oper.wp
 rw[he]
 simp only[Sem.run_bind,hr,Result.andThen_ok,Sem.run_pure]
 exact h
end
end Go.Abs
namespace Go.Abs
open Go.RowKit
variable {cx:Cx}{w:World}{B:Nat->Prop}{GB:Gh}{g:Gh}{st:St}{a:Act}{W:World}{Γ:Spec}
theorem Zao {v:Option V}{r:Res}(h:resV v=some r):∃u,v=some u/\r=⟨u,false,none⟩:=by
 simp only[resV,Xaa]at h
 obtain⟨u,h1,h2⟩:=h
 exact⟨u,h1,h2.symm⟩
theorem SR.row (h:SR w B GB g st a W){id b:Nat}{cs:List V}(hc:Zat st.H id=some cs)(hφ:g.φ id=some b):Row W g.G g.φ cs b 0:=by
 obtain⟨xs,t,h2,h3,h4,_⟩:=(h.ob id _ (Zbk hc)).cells hφ
 refine⟨h4,fun k c hk=> ?_⟩
 have hlt:k<xs.size:=Xb0 (Xae.1 hk).1 h3.1
 exact⟨xs[k],by simp[World.cell?,h2,hlt],h3.2 k c _ hk (Xar hlt)⟩
theorem Zy4 (hs:Scope cx w B GB)(h:SR w B GB g st a W){n:Option Nat}{t:TypeId}{u v:V}{x:Value}(hn:ldN cx.P t=some n)(hr:Rep W g.G g.φ u x)(hv:Zfr cx.gl st.H n u=some v):
  ∃y,(Instr.loadAt t x).run cx.P W= .ok y W/\Rep W g.G g.φ v y:=by
 cases hr<;>simp only[Zfr,reduceCtorEq]at hv
 ·rename_i cs off b base rd hG hsc hrd hh
  have hrow:Row W g.G g.φ cs b base:=⟨hsc,fun k c hk=>⟨rd k,hrd k (Xae.1 hk).1,hh k c hk⟩⟩
  obtain⟨y,h1,h2⟩:=hrow.load (P:=cx.P) hn hv
  exact⟨y,by simp only[Instr.loadAt,Instr.sureAddr,Sem.run_bind,Sem.run_pure,Result.andThen_ok];exact h1,h2⟩
 ·rename_i gn off
  simp only[Xab]at hv
  obtain⟨cs,hcs,hv⟩:=hv
  obtain⟨y,h1,h2⟩:=(hs.gl.row (φ:=g.φ) (h.okw hs) hcs).load (P:=cx.P) hn hv
  rw[Xan]at h1
  exact⟨y,by simp only[Instr.loadAt,Instr.sureAddr,Sem.run_bind,Sem.run_pure,Result.andThen_ok];exact h1,h2⟩
 ·rename_i id off b hφ
  simp only[Xab]at hv
  obtain⟨cs,hcs,hv⟩:=hv
  have hrow:=h.row hcs hφ
  obtain⟨y,h1,h2⟩:=hrow.load (P:=cx.P) hn hv
  rw[Xan]at h1
  exact⟨y,by simp only[Instr.loadAt,Instr.sureAddr,Sem.run_bind,Sem.run_pure,Result.andThen_ok];exact h1,h2⟩
section
variable {P:Program}
theorem Zqd (d:Nat){t e:TypeId}(ht:P.underlying t=some (.slice e))(b:Option Addr)(l c l2 c2:Nat):(Op.equalIn (d+1) t (.slice none l c) (.slice b l2 c2)).run P W= .ok b.isNone W:=by
 simp only[Op.equalIn,Sem.run_bind,Zaa ht,Result.andThen_ok];rfl
theorem Zjf (d:Nat){t e:TypeId}(ht:P.underlying t=some (.slice e))(a:Addr)(l c l2 c2:Nat):(Op.equalIn (d+1) t (.slice (some a) l c) (.slice none l2 c2)).run P W= .ok false W:=by
 simp only[Op.equalIn,Sem.run_bind,Zaa ht,Result.andThen_ok];rfl
theorem Zuo (d:Nat){t e:TypeId}(ht:P.underlying t=some (.pointer e))(b:Option Addr):(Op.equalIn (d+1) t (.pointer none) (.pointer b)).run P W= .ok b.isNone W:=by
 simp only[Op.equalIn,Sem.run_bind,Zaa ht,Result.andThen_ok];rfl
theorem Zt1 (d:Nat){t e:TypeId}(ht:P.underlying t=some (.pointer e))(a:Addr):(Op.equalIn (d+1) t (.pointer (some a)) (.pointer none)).run P W= .ok false W:=by
 simp only[Op.equalIn,Sem.run_bind,Zaa ht,Result.andThen_ok];rfl
theorem Zym (d:Nat){t:TypeId}{ms}(ht:P.underlying t=some (.interface ms)):(Op.equalIn (d+1) t .nilIface .nilIface).run P W= .ok true W:=by
 simp only[Op.equalIn,Sem.run_bind,Zaa ht,Result.andThen_ok];rfl
theorem Zxd (d:Nat){t u:TypeId}{ms}{v:Value}(ht:P.underlying t=some (.interface ms)):(Op.equalIn (d+1) t .nilIface (.iface u v)).run P W= .ok false W:=by
 simp only[Op.equalIn,Sem.run_bind,Zaa ht,Result.andThen_ok];rfl
theorem Zxg (d:Nat){t u:TypeId}{ms}{v:Value}(ht:P.underlying t=some (.interface ms)):(Op.equalIn (d+1) t (.iface u v) .nilIface).run P W= .ok false W:=by
 simp only[Op.equalIn,Sem.run_bind,Zaa ht,Result.andThen_ok];rfl
end
theorem Zhy {P:Program}{t:TypeId}{x y:Operand}{xu xv:Value}{r:Bool}(hg:∀op,(eqGuard op t x y xu xv).run P W= .ok () W)(he:(Op.equal t xu xv).run P W= .ok r W)
  (h1:binOp .eql t xu xv=(Op.equal t xu xv>>=fun b=>pure (.bool b))) (h2:binOp .neq t xu xv=(Op.equal t xu xv>>=fun b=>pure (.bool !b))):
  ((do eqGuard .eql t x y xu xv;binOp .eql t xu xv:Sem Value).run P W= .ok (.bool r) W)/\((do eqGuard .neq t x y xu xv;binOp .neq t xu xv:Sem Value).run P W= .ok (.bool !r) W):=by
 constructor
 ·simp only[Sem.run_bind,hg,Result.andThen_ok,h1,he,Sem.run_pure]
 ·simp only[Sem.run_bind,hg,Result.andThen_ok,h2,he,Sem.run_pure]
theorem Z3m {P:Program}{t:TypeId}{x y:Operand}{u v:V}{xu xv:Value}{G φ}{r:Bool}(hu:Rep W G φ u xu)(hv:Rep W G φ v xv)(hr:aeq (Zsd P t x y) u v=some r):
  ((do eqGuard .eql t x y xu xv;binOp .eql t xu xv:Sem Value).run P W= .ok (.bool r) W)/\((do eqGuard .neq t x y xu xv;binOp .neq t xu xv:Sem Value).run P W= .ok (.bool !r) W):=by
 have agg:∀(ks:List Kd) (ht:(∃fs,P.underlying t=some (.struct fs)) \/ ∃m e,P.underlying t=some (.array m e)),P.eqGuardType P.depth t=false->Ze5 P 60 t=some ks-> ∀cs ds X Y,u= .agg cs->v= .agg ds->xu= .agg X->xv= .agg Y->
   Zaw ks cs ds=some r->((do eqGuard .eql t x y xu xv;binOp .eql t xu xv:Sem Value).run P W= .ok (.bool r) W)/\((do eqGuard .neq t x y xu xv;binOp .neq t xu xv:Sem Value).run P W= .ok (.bool !r) W):=by
  intro ks ht hgt hk cs ds X Y e1 e2 e3 e4 hf
  subst e1;subst e2;subst e3;subst e4
  have hX:RepL W G φ cs X:=by cases hu;exact⟨by assumption,by assumption⟩
  have hY:RepL W G φ ds Y:=by cases hv;exact⟨by assumption,by assumption⟩
  obtain⟨hl1,hl2⟩:=Zas hf
  have hcs:(cs.drop 0).take ks.length=cs:=by simp[<-hl1]
  have hds:(ds.drop 0).take ks.length=ds:=by simp[<-hl2]
  obtain⟨p,q,h1,h2,h3⟩:=Zuv (P:=P) 60 t ks hk 10000 (by omega) cs ds X Y 0 r hX hY (by rw[hcs,hds];exact hf)
  have hsz:∃i,P.info? t=some i/\i.size=ks.length:=by
   have hk':=hk
   unfold Ze5 at hk'
   rcases ht with⟨fs,ht⟩|⟨m,e,ht⟩
   ·rw[ht]at hk'
    simp only[]at hk'
    split at hk'
    ·rename_i hc
     simp only[Xab]at hk'
     obtain⟨k',_,hk'⟩:=hk'
     split at hk'
     ·rename_i hc2
      simp only[Xac]at hk';subst hk'
      obtain⟨i,hi,his⟩:=Za6 hc.2
      exact⟨i,hi,by rw[his,hc2]⟩
     ·simp at hk'
    ·simp at hk'
   ·rw[ht]at hk'
    simp only[Xab]at hk'
    obtain⟨k',_,hk'⟩:=hk'
    split at hk'
    ·rename_i hc
     simp only[Xac]at hk';subst hk'
     obtain⟨i,hi,his⟩:=Za6 hc.2.2.1
     exact⟨i,hi,by rw[his,hc.2.2.2];simp⟩
    ·simp at hk'
  obtain⟨i,hi,his⟩:=hsz
  have hagg:(isAgg t).run P W= .ok true W:=by
   rcases ht with⟨fs,ht⟩|⟨m,e,ht⟩<;>(simp only[isAgg,Sem.run_bind,Zaa ht,Result.andThen_ok];rfl)
  have e1:p= .agg X:=by
   have:(part t X 0).run P W= .ok (.agg X) W:=by
    simp only[part,Sem.run_bind,hagg,Result.andThen_ok,if_true,Zah hi,Xan,Sem.run_pure]
    congr 2
    have:X.size=i.size:=by rw[<-hX.1,hl1,his]
    rw[<-this];simp
   rw[this]at h1;cases h1;rfl
  have e2:q= .agg Y:=by
   have:(part t Y 0).run P W= .ok (.agg Y) W:=by
    simp only[part,Sem.run_bind,hagg,Result.andThen_ok,if_true,Zah hi,Xan,Sem.run_pure]
    congr 2
    have:Y.size=i.size:=by rw[<-hY.1,hl2,his]
    rw[<-this];simp
   rw[this]at h2;cases h2;rfl
  subst e1;subst e2
  exact Zhy (fun op=>run_eqGuard_agg W op t x y X Y hgt) h3 rfl rfl
 unfold Zsd at hr
 split at hr
 ·rename_i ht
  cases hu<;>simp only[aeq,reduceCtorEq]at hr
  cases hv<;>simp only[reduceCtorEq,Xac]at hr
  subst hr
  exact Zhy (fun op=>by unfold eqGuard;split<;>simp) (run_equalIn_bool' W 9999 t _ _ ht) rfl rfl
 ·rename_i fs ht
  split at hr
  ·rename_i hgt
   split at hr
   ·rename_i ks hk
    cases hu<;>simp only[aeq,reduceCtorEq]at hr
    cases hv<;>simp only[reduceCtorEq]at hr
    exact agg ks (.inl ⟨fs,ht⟩) hgt hk _ _ _ _ rfl rfl rfl rfl hr
   ·simp[aeq]at hr
  ·simp[aeq]at hr
 ·rename_i m e ht
  split at hr
  ·rename_i hgt
   split at hr
   ·rename_i ks hk
    cases hu<;>simp only[aeq,reduceCtorEq]at hr
    cases hv<;>simp only[reduceCtorEq]at hr
    exact agg ks (.inr ⟨m,e,ht⟩) hgt hk _ _ _ _ rfl rfl rfl rfl hr
   ·simp[aeq]at hr
  ·simp[aeq]at hr
 ·rename_i e ht
  have hguard:∀(a1 a2:Option Addr) (l1 c1 l2 c2:Nat) op,(eqGuard op t x y (.slice a1 l1 c1) (.slice a2 l2 c2)).run P W= .ok () W:=by intro a1 a2 l1 c1 l2 c2 op;unfold eqGuard;split<;>simp
  cases hu<;>cases hv<;>simp only[aeq,reduceCtorEq]at hr
  all_goals (first|(split at hr<;>simp only[Xac,reduceCtorEq]at hr)|(simp only[Xac]at hr))
  all_goals (subst hr;refine Zhy (hguard _ _ _ _ _ _) ?_ rfl rfl;first|exact Zqd 9999 ht _ _ _ _ _|exact Zjf 9999 ht _ _ _ _ _)
 ·rename_i e ht
  have hguard:∀(a1 a2:Option Addr) op,(eqGuard op t x y (.pointer a1) (.pointer a2)).run P W= .ok () W:=by intro a1 a2 op;unfold eqGuard;split<;>simp
  cases hu<;>cases hv<;>simp only[aeq,reduceCtorEq,Xac]at hr
  all_goals (subst hr;refine Zhy (hguard _ _) ?_ rfl rfl;first|exact Zuo 9999 ht _|exact Zt1 9999 ht _)
 ·rename_i ms ht
  have hg1:∀(t1:TypeId) (y1:Value) op,(eqGuard op t x y (.iface t1 y1) .nilIface).run P W= .ok () W:=by intro t1 y1 op;unfold eqGuard;split<;>simp
  have hg2:∀(t1:TypeId) (y1:Value) op,(eqGuard op t x y .nilIface (.iface t1 y1)).run P W= .ok () W:=by intro t1 y1 op;unfold eqGuard;split<;>simp
  have main:aeq .iface u v=some r->(∃c,x= .const c \/y= .const c)->((do eqGuard .eql t x y xu xv;binOp .eql t xu xv:Sem Value).run P W= .ok (.bool r) W)/\((do eqGuard .neq t x y xu xv;binOp .neq t xu xv:Sem Value).run P W= .ok (.bool !r) W):=by
   intro hr hc
   cases hu<;>cases hv<;>simp only[aeq,reduceCtorEq,Xac]at hr
   ·subst hr;exact Zhy (hg1 _ _) (Zxg 9999 ht) rfl rfl
   ·subst hr;exact Zhy (hg2 _ _) (Zxd 9999 ht) rfl rfl
   ·subst hr
    refine Zhy (fun op=> ?_) ?_ rfl rfl
    ·unfold eqGuard
     rcases hc with⟨c,rfl|rfl⟩<;>(split<;>simp)
    ·exact Zym 9999 ht
  split at hr
  ·exact main hr ⟨_, .inl rfl⟩
  ·exact main hr ⟨_, .inr rfl⟩
  ·simp[aeq]at hr
 ·simp[aeq]at hr
theorem Z7s {P:Program}{t:TypeId}{x y:Operand}{op:BinOp}{u v r:V}{xu xv:Value}{G φ}(hu:Rep W G φ u xu)(hv:Rep W G φ v xv)(hr:abin op (Zsd P t x y) u v=some r):
  ∃z,(do eqGuard op t x y xu xv;binOp op t xu xv:Sem Value).run P W= .ok z W/\Rep W G φ r z:=by
 by_cases h1:∃k a k' b,u= .int k a/\v= .int k' b
 ·obtain⟨k,a,k',b,rfl,rfl⟩:=h1
  cases hu;cases hv
  obtain⟨z,h2,h3⟩:=Zvj (P:=P) (W:=W) (G:=G) (φ:=φ) (t:=t) hr
  have hg:(eqGuard op t x y (.int k a) (.int k' b)).run P W= .ok () W:=by unfold eqGuard;split<;>simp
  exact⟨z,by simp only[Sem.run_bind,hg,Result.andThen_ok,h2],h3⟩
 by_cases h2:∃a b,u= .str a/\v= .str b
 ·obtain⟨a,b,rfl,rfl⟩:=h2
  cases hu with
  |str _ s hs=>
   cases hv with
   |str _ s' hs'=>
    subst hs;subst hs'
    obtain⟨z,h2,h3⟩:=Ztr (P:=P) (W:=W) (G:=G) (φ:=φ) (t:=t) hr
    have hg:(eqGuard op t x y (.string s) (.string s')).run P W= .ok () W:=by unfold eqGuard;split<;>simp
    exact⟨z,by simp only[Sem.run_bind,hg,Result.andThen_ok,h2],h3⟩
 by_cases h3:∃id o n c z s,u= .osl id o n c z/\v= .sl true s []
 ·obtain⟨id,o,n,c,z,s,rfl,rfl⟩:=h3
  simp only[abin]at hr
  split at hr
  rotate_left
  ·cases hr
  rename_i hk
  split at hr
  ·cases hr
  rename_i h0
  cases hv
  have hsl:∃a l c',xu= .slice (some a) l c':=by
   cases hu with
   |osl=>exact⟨_,_,_,rfl⟩
   |osln=>exact absurd rfl h0
  obtain⟨a,l,c',rfl⟩:=hsl
  have hu':∃e,P.underlying t=some (.slice e):=by
   unfold Zsd at hk
   repeat (first|(split at hk)|(exact⟨_,by assumption⟩)|(cases hk))
  obtain⟨e,ht⟩:=hu'
  have hguard:∀op,(eqGuard op t x y (.slice (some a) l c') (.slice none 0 0)).run P W= .ok () W:=by intro op;unfold eqGuard;split<;>simp
  have hfin:=Zhy (x:=x) (y:=y) hguard (Zjf 9999 ht a l c' 0 0) rfl rfl
  unfold vEq at hr
  split at hr
  ·simp only[Xas,Xac]at hr;subst hr;exact⟨_,hfin.1, .bool _⟩
  ·simp only[Xas,Xac]at hr;subst hr;exact⟨_,hfin.2, .bool _⟩
  ·cases hr
 have hr':vEq op (aeq (Zsd P t x y) u v)=some r:=by
  unfold abin at hr
  split at hr
  ·exact absurd ⟨_,_,_,_,rfl,rfl⟩ h1
  ·exact absurd ⟨_,_,rfl,rfl⟩ h2
  ·exact absurd ⟨_,_,_,_,_,_,rfl,rfl⟩ h3
  ·exact hr
 unfold vEq at hr'
 split at hr'
 ·simp only[Xaa]at hr'
  obtain⟨b,hb,rfl⟩:=hr'
  exact⟨_,(Z3m hu hv hb).1, .bool _⟩
 ·simp only[Xaa]at hr'
  obtain⟨b,hb,rfl⟩:=hr'
  exact⟨_,(Z3m hu hv hb).2, .bool _⟩
 ·simp at hr'
end Go.Abs
namespace Go.Abs
open Go.RowKit
variable {cx:Cx}{w:World}{B:Nat->Prop}{GB:Gh}{g:Gh}{st:St}{a:Act}{W:World}{Γ:Spec}
theorem Zkm {n:Nat}{P:Program}{pl:Nat->Option (Nat×Nat)}(h:SR w B GB g st a W)(hn:a.tmps.size=n):∀{ps:List (Nat×Operand)} {qs:List (Nat×Nat×Opd)},Zoa P n pl ps=some qs->
  qs.length=ps.length/\ ∀(k:Nat) (p:Nat×Nat×V) (q:Nat×Value),(qs.map fun p=>(p.1,p.2.1,evO st.tm p.2.2))[k]? =some p->(ps.map fun q=>(q.1,a.eval q.2))[k]? =some q->pl q.1=some (p.1,p.2.1)/\Rep W g.G g.φ p.2.2 q.2
 | [],qs,hc=>by simp[Zoa]at hc;subst hc;exact⟨rfl,fun k p q hp=>by simp at hp⟩
 |(i,x)::ps,qs,hc=>by
  simp only[Zoa,Xab,Xaa]at hc
  obtain⟨p0,h1,y,h2,qs',h3,rfl⟩:=hc
  obtain⟨h4,h5⟩:=Zkm h hn h3
  refine⟨by simp[h4],fun k p q hp hq=> ?_⟩
  cases k with
  |zero=>simp at hp hq;subst hp;subst hq;exact⟨h1,Zaf h hn h2⟩
  |succ k=>exact h5 k p q (by simpa using hp) (by simpa using hq)
noncomputable def Zd7 (st:St)(g:Gh)(W:World)(b:Nat):Nat:=by
 classical exact if ∃id,g.φ id=some b then csz W b else g.G b
theorem Zrl {st:St}{g:Gh}{W:World}{b id:Nat}(hb:g.φ id=some b):Zd7 st g W b=csz W b:=by
 unfold Zd7;rw[if_pos ⟨id,hb⟩]
theorem Zxs (h:SR w B GB g st a W)(b:Nat):g.G b<=Zd7 st g W b:=by
 unfold Zd7
 split
 ·rename_i hex
  obtain⟨id,h2⟩:=hex
  rw[(h.live id b h2).1];exact Xbw _
 ·exact Xag _
def Zou :Value->Bool
 | .slice none _ _=>true
 |_=>false
theorem Zxu (h:SR w B GB g st a W){v u:V}{x:Value}{nl:Bool}(hr:Rep W g.G g.φ v x)(hs:Zgc nl st.H v=some u)(hnl:v.isOsl0=true->nl=Zou x):Rep W (Zd7 st g W) g.φ u x:=by
 have hk:Keeps W g.G g.φ W (Zd7 st g W) g.φ:=⟨fun _ _ _=>rfl,Zxs h,fun _ _ h=>h,fun _ _ _=>rfl⟩
 unfold Zgc at hs
 split at hs
 ·rename_i id off len cap sz
  split at hs
  ·rename_i h0
   subst h0
   cases hs
   have hn:=hnl rfl
   cases hr with
   |osln _ _ _ p=>
    cases p with
    |none=>rw[hn];exact .slnil sz
    |some a=>rw[hn];exact .sl0 sz a
   |osl _ _ _ _ _ b cap' hφ hlc hc' hz=>
    rw[hn]
    exact Rep.sl (W:=W) (G:=Zd7 st g W) (φ:=g.φ) sz [] b off cap' (fun _=>default) (Xbw _) (by
     rw[Zrl hφ];simp;omega) (fun x hx=>by cases hx) (fun k hk=>by simp at hk) (fun i x j c hx=>by simp at hx)
  rename_i hn0
  simp only[Xab]at hs
  obtain⟨cs,hcs,hs⟩:=hs
  split at hs
  ·rename_i hle
   cases hs
   cases hr with
   |osln _ _ _ _=>exact absurd rfl hn0
   |osl _ _ _ _ _ b cap' hφ hlc hc' hz=>
    obtain⟨ys,t,h2,h3,h4,_⟩:=(h.ob id _ (Zbk hcs)).cells hφ
    have hcz:csz W b=ys.size:=by unfold csz;rw[h2]
    have hsc:∀c∈cs.drop off,c.sc=true:=fun c hc=>h4 c (Xb2 hc)
    have hle':len*sz<=(cs.drop off).length:=by rw[Xct];omega
    have hll:(vRow sz len (cs.drop off)).length=len:=Zjm hle'
    have hys:off+len*sz<=ys.size:=Xbs hle h3.1
    have:=Rep.sl (W:=W) (G:=Zd7 st g W) (φ:=g.φ) sz (vRow sz len (cs.drop off)) b off cap' (fun k=>(ys[off+k]?).getD default) (by rw[hll];omega) (by
     rw[hll,Zrl hφ,hcz];exact hys) (Zr5 hle' hsc) (fun k hk=>by
     rw[hll]at hk
     have hlt:off+k<ys.size:=by omega
     simp[World.cell?,h2,hlt]) (fun i x j c hx hc=>by
     obtain⟨hi,hj,hcc⟩:=Zxl hle' hsc hx hc
     rw[Xcg]at hcc
     have hlt:off+(i*sz+j)<ys.size:=Xb0 (Xae.1 hcc).1 h3.1
     show Rep W (Zd7 st g W) g.φ c ((ys[off+(i*sz+j)]?).getD default)
     rw[Xar hlt]
     exact(h3.2 _ _ _ hcc (Xar hlt)).keep hk)
    rw[hll]at this
    exact this
  ·cases hs
 ·cases hs;exact hr.keep hk
theorem Znl (h:SR w B GB g st a W){nl:Bool}:∀{vs us:List V} {xs:List Value},Zg8 nl st.H vs=some us->vs.length=xs.length->(∀(i:Nat) (c:V) (x:Value),vs[i]? =some c->xs[i]? =some x->Rep W g.G g.φ c x)->
  (∀(i:Nat) (c:V) (x:Value),vs[i]? =some c->xs[i]? =some x->c.isOsl0=true->nl=Zou x)->
  us.length=xs.length/\ ∀(i:Nat) (c:V) (x:Value),us[i]? =some c->xs[i]? =some x->Rep W (Zd7 st g W) g.φ c x
 | [],us,xs,hs,hl,_,_=>by
  simp only[Zg8,Xac]at hs;subst hs
  exact⟨hl,fun i c x hc=>by simp at hc⟩
 |v::vs,us,[],hs,hl,_,_=>by simp at hl
 |v::vs,us,x::xs,hs,hl,hr,hq=>by
  simp only[Zg8,Xab,Xaa]at hs
  obtain⟨u,h1,us',h2,rfl⟩:=hs
  obtain⟨h3,h4⟩:=Znl h (xs:=xs) h2 (by simpa using hl) (fun i c y hc hy=>hr (i+1) c y (by simpa using hc) (by simpa using hy)) fun i c y hc hy=>hq (i+1) c y (by simpa using hc) (by simpa using hy)
  refine⟨by simp[h3],fun i c y hc hy=> ?_⟩
  cases i with
  |zero=>simp at hc hy;subst hc;subst hy;exact Zxu h (hr 0 v _ rfl rfl) h1 (hq 0 v _ rfl rfl)
  |succ i=>exact h4 i c y (by simpa using hc) (by simpa using hy)
theorem Zqm :∀{vs:List V} {xs:List Value},fewE vs=true-> ∃nl:Bool, ∀(i:Nat) (c:V) (x:Value),vs[i]? =some c->xs[i]? =some x->c.isOsl0=true->nl=Zou x
 | [],xs,_=>⟨true,fun i c x hc=>by simp at hc⟩
 |v::vs,[],_=>⟨true,fun i c x _ hx=>by simp at hx⟩
 |v::vs,y::xs,h=>by
  unfold fewE at h
  split at h
  ·rename_i hv
   refine⟨Zou y,fun i c x hc hx h0=> ?_⟩
   cases i with
   |zero=>simp at hx;subst hx;rfl
   |succ i=>
    simp only[Xbh]at h
    have:=Xcz.1 h c (Xam (by simpa using hc))
    rw[h0]at this;exact absurd rfl this
  ·rename_i hv
   obtain⟨nl,hnl⟩:=Zqm (xs:=xs) h
   refine⟨nl,fun i c x hc hx h0=> ?_⟩
   cases i with
   |zero=>simp at hc;subst hc;rw[hv]at h0;cases h0
   |succ i=>exact hnl i c x (by simpa using hc) (by simpa using hx) h0
theorem Zoj (hs:Scope cx w B GB)(h:SR w B GB g st a W){f:FuncId}{args l:List V}{xs:Array Value}{r:V×Bool}{nl:Bool}(hsn:Zg8 nl st.H args=some l)(hway:∀(i:Nat) (c:V) (x:Value),args[i]? =some c->xs.toList[i]? =some x->c.isOsl0=true->nl=Zou x)(hpc:PC cx f l r)(hfl:r.1.flatT=true)(hr:RepL W g.G g.φ args xs)(d:Option Nat):
  (callFunc f xs).run cx.P W= .ok (.enter f xs) W/\Calls cx.P f xs W fun e W'=> ∃y,e= .returned y/\After B g W ⟨r.1,false,none⟩ d y W':=by
 obtain⟨⟨fn,hf,hname,hbody⟩,hcalls⟩:=hpc
 have hnm : (fn.name == "runtime.NumGoroutine") = false := by simpa using hname
 have hr2:=Znl h (xs:=xs.toList) hsn (by simpa using hr.1) (fun i c x hc hx=>hr.2 i c x hc (by simpa using hx)) hway
 have hout:∀b,¬B b->Zd7 st g W b=g.G b:=fun b hb=>by
  unfold Zd7
  rw[if_neg]
  rintro⟨id,h2⟩
  exact hb (h.φ id b h2).1
 have hok:=h.okw hs
 have hok2:OKW cx W (Zd7 st g W):=⟨hok.below,fun b hb=>by rw[hout b (fun e=>by have:=hs.hB b e;omega)];exact hok.Glo b hb,fun b hb=>by
  unfold Zd7
  rw[if_neg]
  ·exact h.Gz b hb
  ·rintro⟨id,h2⟩
   have:=(h.φ id b h2).2.1;omega⟩
 refine⟨by simp only[callFunc,Sem.run_bind,run_program,Result.andThen_ok,hf,hnm,hbody,Xat,if_false,Sem.run_pure],(hcalls W _ g.φ xs hok2 ⟨by simpa using hr2.1,fun i c x hc hx=>hr2.2 i c x hc (by simpa using hx)⟩).mono fun e W'=> ?_⟩
 rintro⟨G',y,rfl,hb,hG,hGz,hrep,hown⟩
 refine⟨y,rfl,⟨fun b=>if b<W.heap.size then g.G b else 0,g.φ,fun b=>if b<W.heap.size then g.ow b else none⟩, ?_, ?_,fun t ht ho=>by cases ho⟩
 ·refine⟨⟨fun b i hi=> ?_,fun b=> ?_,fun _ _ h=>h,fun id b' hb'=>Zhb (hb.block _ (h.φ id b' hb').2.1)⟩,rfl, .of hb (fun b hb=>h.hB b (Xbs h.below.size hb)),fun b hb'=> ?_,fun b id h1 h2 h3 h4=> ?_,fun b q h1 h2 _=> ?_,fun b hb'=> ?_⟩
  ·have:b<W.heap.size:=by
    rcases Xa4 b W.heap.size with h'|h'
    ·exact h'
    ·have:=h.Gz b h';omega
   exact hb.cell (p:=⟨b,i,none⟩) this
  ·dsimp only;split
   ·exact Xag _
   ·rw[h.Gz b (by omega)];exact Xbw _
  ·have hlt:b<W.heap.size:=Xd7 fun e=>hb' (h.hB b (Xbs h.below.size e))
   dsimp only;rw[if_pos hlt]
  ·dsimp only;rw[if_pos h2,if_pos h2];exact⟨hb.block _ h2,h3,h4⟩
  ·dsimp only;rw[if_pos h1,if_pos h1];exact⟨hb.block _ h1,rfl,h2⟩
  ·have:=hb.size
   dsimp only;rw[if_neg (by omega)]
 ·generalize r.1=u at hfl hrep
  have flat:∀{u:V} {y:Value} {G2:Nat->Nat} {φ2:Nat->Option Nat},Rep W' G' g.φ u y->u.flatR=true->Rep W' G2 φ2 u y:=by
   intro u y G2 φ2 hrep hfl
   cases hrep<;>first|(simp[V.flatR]at hfl;done)|skip
   ·exact .bool _
   ·exact .int _ _
   ·rename_i l s hl;exact .str _ _ hl
  cases u<;>first|exact flat hrep hfl|skip
  rename_i us
  simp only[V.flatT]at hfl
  cases hrep with
  |tup _ zs hl hz=>exact .tup _ zs hl fun i c x hc hx=>flat (hz i c x hc hx) (Xal.1 hfl c (Xam hc))
theorem Zhj (hs:Scope cx w B GB)(h:SR w B GB g st a W){f:FuncId}{args:List V}{xs:Array Value}{r:V×Bool}(hpc:PC cx f args r)(hr:RepL W g.G g.φ args xs)(d:Option Nat):
  (callFunc f xs).run cx.P W= .ok (.enter f xs) W/\Calls cx.P f xs W fun e W'=> ∃y,e= .returned y/\After B g W ⟨r.1,r.2,none⟩ d y W':=by
 obtain⟨⟨fn,hf,hname,hbody⟩,hcalls⟩:=hpc
 have hnm : (fn.name == "runtime.NumGoroutine") = false := by simpa using hname
 refine⟨by simp only[callFunc,Sem.run_bind,run_program,Result.andThen_ok,hf,hnm,hbody,Xat,if_false,Sem.run_pure],(hcalls W g.G g.φ xs (h.okw hs) hr).mono fun e W'=> ?_⟩
 rintro⟨G',y,rfl,hb,hG,hGz,hrep,hown⟩
 have hB:B W.heap.size:=h.hB _ h.below.size
 refine⟨y,rfl,⟨G',g.φ,fun b=>if b<W.heap.size then g.ow b else some (.slot (d.getD 0))⟩, ?_,hrep,fun t ht ho=> ?_⟩
 ·refine⟨⟨fun b i hi=> ?_,fun b=> ?_,fun _ _ h=>h,fun id b' hb'=>Zhb (hb.block _ (h.φ id b' hb').2.1)⟩,rfl, .of hb (fun b hb=>h.hB b (Xbs h.below.size hb)),fun b hb'=>hG b (Xd7 fun e=>hb' (h.hB b (Xbs h.below.size e))),fun b id h1 h2 h3 h4=> ?_,fun b q h1 h2 _=> ?_,hGz⟩
  ·have:b<W.heap.size:=by
    rcases Xa4 b W.heap.size with h'|h'
    ·exact h'
    ·have:=h.Gz b h';omega
   exact hb.cell (p:=⟨b,i,none⟩) this
  ·rcases Xa4 b W.heap.size with h'|h'
   ·show g.G b<=G' b
    rw[hG b h'];exact Xag _
   ·show g.G b<=G' b
    rw[h.Gz b h'];exact Xbw _
  ·dsimp only;rw[if_pos h2];exact⟨hb.block _ h2,by rw[hG b h2];exact h3,h4⟩
  ·dsimp only;rw[if_pos h1];exact⟨hb.block _ h1,hG b h1,h2⟩
 ·subst ht
  have:=hown ho (fun b=>if b<W.heap.size then g.ow b else some (.slot t)) (.slot t) (fun b hb=>by show(if b<W.heap.size then g.ow b else some (Pos.slot t))=_;rw[if_neg (by omega)])
  intro sz xs b off len cap sp hv hx
  rcases this sz xs b off len cap sp hv hx with h1|⟨h1,h2,h3,h4⟩
  ·exact .inl h1
  ·exact .inr ⟨h.hB b (Xbs h.below.size h1),h2,h3,h4⟩
theorem After.of {r:Res}{d:Option Nat}{y:Value}{W':World}{g':Gh}(h1:Adv B g g' W W' r.tk)(h2:Rep W' g'.G g'.φ r.v y)(h3:r.o=true->OwnAt W' B g' (.slot (d.getD 0)) r.v y):After B g W r d y W':=
 ⟨g',h1,h2,fun t ht ho=>by subst ht;exact h3 ho⟩
theorem Zex {P:Program}{o:Oper}{next:Act->World->Prop}{Q:Exit->Act->World->Prop}{f:FuncId}{xs:Array Value}(he:(execOp a.eval o).run P W= .ok (.enter f xs) W){R:Value->World->Prop}
  (hc:Calls P f xs W fun e W'=> ∃y,e= .returned y/\R y W') (h:∀y W',R y W'->next (a.put o.dst y) W'):o.wp P a W next Q:=by
 unfold Oper.wp
 rw[he]
 refine hc.mono fun e W'=> ?_
 rintro⟨y,rfl,hR⟩
 exact h y W' hR
theorem Za7 {P:Program}{o:Oper}{next:Act->World->Prop}{Q:Exit->Act->World->Prop}{y:Value}{W':World}(he:(execOp a.eval o).run P W= .ok (.value y) W')
  (h:next (a.put o.dst y) W'):o.wp P a W next Q:=by
 unfold Oper.wp
 rw[he]
 exact h
theorem RepO.map {x:Option Operand}{y:Option Opd}(h:RepO W g.G g.φ (y.map (evO st.tm)) (x.map a.eval)):RepO W g.G g.φ (y.map (evO st.tm)) (x.map a.eval):=h
theorem Zyw {n:Nat}{P:Program}{t:TypeId}{x:Operand}{k:Nat}(hc:cOpd P n t x=some (.tmp k)):x= .tmp k/\k<n:=by
 unfold cOpd at hc
 split at hc
 ·split at hc
  ·rename_i j hj
   simp only[Xac,Opd.tmp.injEq]at hc
   subst hc;exact⟨rfl,hj⟩
  ·simp at hc
 ·simp at hc
 ·simp at hc
 ·simp at hc
theorem Zgo (h:SR w B GB g st a W){k:Nat}(hk:k<a.tmps.size)(ho:st.own (.slot k)=true):OwnAt W B g (.slot k) (st.tm k) (a.eval (.tmp k)):=by
 have:=h.own k a.tmps[k] (Xar hk) ho
 simpa[Act.eval,Array.getD,hk]using this
theorem Zm9 (h:SR w B GB g st a W){n:Nat}(hn:a.tmps.size=n){k:Nat}(hk:k<n)(d:Option Nat):After B g W ⟨st.tm k,st.own (.slot k),some (.slot k)⟩ d (a.eval (.tmp k)) W:=
 .of (Adv.move h _ (.slot (d.getD 0))) (h.get (by rw[hn];exact hk)) fun ho=>(Zgo h (by rw[hn];exact hk) ho).move
theorem Zkc :∀(k:Nat) (ps:List (Nat×Operand)),Zlq k ps=true->(ps.map fun p=>(p.1,a.eval p.2))=((ps.map fun p=>a.eval p.2).zipIdx k).map fun p=>(p.2,p.1)
 |_,[],_=>rfl
 |k,(i,x)::r,h=>by
  simp only[Zlq,Xai,beq_iff_eq]at h
  obtain⟨rfl,h⟩:=h
  simp[Zkc _ r h]
set_option maxHeartbeats 1000000 in
theorem Zl2 {P:Program}{e:TypeId}{ie:TypeInfo}{z:Value}{zv:V}{W:World}{G:Nat->Nat}{φ:Nat->Option Nat}(he:P.info? e=some ie)(hz:ie.zero=some z)(h:Zee P e=some [zv]):∃x,z.cells= #[x]/\Rep W G φ zv x/\zv.sc=true:=by
 unfold Zee at h
 rw[he]at h
 simp only[hz]at h
 obtain⟨h1,h2⟩:=Zpc (W:=W) (G:=G) (φ:=φ) h
 have hl:z.cells.size=1:=by have:=h1.1;simpa using this.symm
 refine⟨z.cells[0], ?_,h1.2 0 zv _ rfl (by simp),h2 zv (by simp)⟩
 apply Array.ext'
 apply Xel
 intro j
 cases j with
 |zero=>simp
 |succ j=>simp;omega
theorem Z7z {P:Program}(h:SR w B GB g st a W){sz:Nat}{zero:List V}{u v:V}{xl xc:Value}{t e:TypeId}{ie:TypeInfo}{z:Value}{r:Res}(ht:P.underlying t=some (.slice e))(he:P.info? e=some ie)(hz:ie.zero=some z)(hsz:ie.size=sz)(hby:ie.bytes<=4096)(hzv:zero=[] \/Zee P e=some zero)
  (hu:Rep W g.G g.φ u xl) (hv':Rep W g.G g.φ v xc) (hv:vMkz sz zero u v=some r) (q:Pos):
  ∃y W' g',(Instr.makeSlice t xl xc).run P W= .ok y W'/\Adv B g g' W W' r.tk/\Rep W' g'.G g'.φ r.v y/\(r.o=true->OwnAt W' B g' q r.v y):=by
 subst hsz
 cases hu<;>cases hv'<;>simp only[vMkz,reduceCtorEq]at hv
 rename_i kl n kc m
 split at hv
 rotate_left
 ·cases hv
 rename_i zv
 split at hv
 rotate_left
 ·cases hv
 rename_i hcond
 obtain⟨h0,hnm,hlim,hs1,hsc⟩:=hcond
 simp only[Xac]at hv
 subst hv
 have hzv':Zee P e=some [zv]:=hzv.resolve_left (by simp)
 obtain⟨x,hzc,hrz,_⟩:=Zl2 (W:=W) (G:=g.G) (φ:=g.φ) he hz hzv'
 obtain⟨k,rfl⟩:∃k:Nat,n=k:=⟨n.toNat,by omega⟩
 obtain⟨j,rfl⟩:∃j:Nat,m=j:=⟨m.toNat,by omega⟩
 have hbig:(ie.bytes:Int)*(j:Int)<=281474976710656:=by
  unfold Lim at hlim
  have h1:ie.bytes*j<=4096*4294967296:=Xdz hby (by omega)
  have h2:((ie.bytes*j:Nat):Int)=(ie.bytes:Int)*(j:Int):=Xe3 _ _
  omega
 have hrun:=run_make (P:=P) W t e ie z ht he hz kl kc k j h0 hnm hbig (by unfold Lim at hlim;omega)
 simp only[Xbu]at hrun⊢
 have hcs:(madeCells z.cells (j*ie.size)).size=j:=by rw[size_madeCells,hs1,Xcw]
 have hadv:=Adv.new h k none none (Zb6 W (.cells (madeCells z.cells (j*ie.size)) e)) (by simp)
 refine⟨_,_,_,hrun,hadv, ?_,fun h=>by cases h⟩
 have hzc1:zv.cells=[zv]:=by cases zv<;>first|rfl|cases hsc
 have hfl:∀k,flat (List.replicate k zv)=List.replicate k zv:=by
  intro k
  induction k with
  |zero=>rfl
  |succ k ih=>
   show(List.replicate (k+1) zv).flatMap V.cells=_
   rw[Xde,Xbp,hzc1]
   exact congrArg (zv:: ·) ih
 have hr:=Rep.of_row (W:=W.alloc (.cells (madeCells z.cells (j*ie.size)) e)) (G:=fun b=>if b=W.heap.size then k else g.G b) (φ:=g.φ) (sz:=1) (xs:=List.replicate k zv) (b:=W.heap.size) (off:=0) (cap:=j) (by simp;omega) (by simp) (fun y hy=>by
  rw[(Xcq.1 hy).2,hzc1]
  exact⟨rfl,fun c hc=>by rw[Xa1.1 hc];exact hsc⟩) ⟨fun c hc=>by rw[hfl]at hc;rw[(Xcq.1 hc).2];exact hsc,fun i c hi=>by
   rw[hfl]at hi
   have hik:i<k:=by simpa using(Xae.1 hi).1
   have hce:c=zv:=(Xcq.1 (Xam hi)).2
   subst hce
   refine⟨x, ?_,hrz.keep hadv.keeps⟩
   rw[Xan,cell_of_row _ W.heap.size i _ e (0,0) (heap_alloc_new _ _),Xar (by rw[hcs];omega)]
   simp[madeCells,hzc,Nat.mod_one]⟩
 rw[Xes]at hr
 exact hr
theorem Zpm (hs:Scope cx w B GB)(hΓ:Sound cx Γ)(h:SR w B GB g st a W){n:Nat}(hn:a.tmps.size=n){ops:Array Oper}{o:Oper}{ao:AOp}(hc:cOp cx.P n ops o=some ao){r:Res}
  (hv:Zbr Γ cx.gl st.H st.own st.tm ao=some r) {next:Act->World->Prop} {Q:Exit->Act->World->Prop} (hnext:∀y W',After B g W r o.dst y W'->next (a.put o.dst y) W'):o.wp cx.P a W next Q:=by
 obtain⟨dst,op,ty,pos,after,guard⟩:=o
 simp only[]at hnext
 have mvc:∀{x:Operand} {y:Opd} {t:TypeId},cOpd cx.P n t x=some y-> ∀{v},r=⟨v,false,none⟩->v=evO st.tm y->After B g W r dst (a.eval x) W:=fun hx _ hr he=>by
  rw[hr,he];exact .same h (Zaf h hn hx)
 cases op with
 |move x=>
  have fin:∀{y:Opd},cOpd cx.P n ty x=some y->ao= .mv y->(⟨dst, .move x,ty,pos,after,guard⟩:Oper).wp cx.P a W next Q:=fun hx he=>by
   subst he
   simp only[Zbr,Xac]at hv
   exact Za7 rfl (hnext _ _ (mvc hx hv.symm rfl))
  simp only[cOp]at hc
  split at hc
  ·split at hc
   ·split at hc
    ·rename_i k hk
     simp only[Xac]at hc;subst hc
     simp only[Zbr,Xac]at hv;subst hv
     exact Za7 rfl (hnext _ _ (Zm9 h hn hk dst))
    ·simp at hc
   ·simp only[Xaa]at hc
    obtain⟨y,hy,rfl⟩:=hc
    exact fin hy rfl
  ·simp only[Xaa]at hc
   obtain⟨y,hy,rfl⟩:=hc
   exact fin hy rfl
 |assign x=>
  have fin:∀{y:Opd},cOpd cx.P n ty x=some y->ao= .mv y->(⟨dst, .assign x,ty,pos,after,guard⟩:Oper).wp cx.P a W next Q:=fun hx he=>by
   subst he
   simp only[Zbr,Xac]at hv
   exact Za7 rfl (hnext _ _ (mvc hx hv.symm rfl))
  simp only[cOp]at hc
  split at hc
  ·split at hc
   ·split at hc
    ·rename_i k hk
     simp only[Xac]at hc;subst hc
     simp only[Zbr,Xac]at hv;subst hv
     exact Za7 rfl (hnext _ _ (Zm9 h hn hk dst))
    ·simp at hc
   ·simp only[Xaa]at hc
    obtain⟨y,hy,rfl⟩:=hc
    exact fin hy rfl
  ·simp only[Xaa]at hc
   obtain⟨y,hy,rfl⟩:=hc
   exact fin hy rfl
 |pick c x y=>
  simp only[cOp,Xab,Xaa]at hc
  obtain⟨c',h1,x',h2,y',h3,rfl⟩:=hc
  replace hv:=Zao hv;obtain⟨v,hv,rfl⟩:=hv
  obtain⟨t,e,hr⟩:=Z59 (Zaf h hn h1) (Zaf h hn h2) (Zaf h hn h3) hv
  refine Za7 (y:=if t then a.eval x else a.eval y) ?_ (hnext _ _ (.same h hr))
  simp[execOp,e,asBool]
 |extract x i=>
  simp only[cOp,Xaa]at hc
  obtain⟨x',h1,rfl⟩:=hc
  replace hv:=Zao hv;obtain⟨v,hv,rfl⟩:=hv
  obtain⟨y,h2,hr⟩:=Z8u (P:=cx.P) (Zaf h hn h1) hv
  exact Zay rfl h2 (hnext _ _ (.same h hr))
 |nilCheck x=>
  simp only[cOp,Xaa]at hc
  obtain⟨x',h1,rfl⟩:=hc
  replace hv:=Zao hv;obtain⟨v,hv,rfl⟩:=hv
  have hr:=Zaf h hn h1
  obtain⟨rfl,h2⟩:=Z2s hr hv
  refine Za7 (y:=a.eval x) ?_ (hnext _ _ (.same h hr))
  rcases h2 with⟨p,h2⟩|⟨f,p,c,h2⟩<;>simp[execOp,h2]
 |binOp bop t x y yt=>
  simp only[cOp,Xab,Xaa]at hc
  obtain⟨x',h1,y',h2,rfl⟩:=hc
  replace hv:=Zao hv;obtain⟨v,hv,rfl⟩:=hv
  obtain⟨z,h3,hr⟩:=Z7s (x:=x) (y:=y) (Zaf h hn h1) (Zaf h hn h2) hv
  exact Zay rfl h3 (hnext _ _ (.same h hr))
 |unOp uop t x=>
  simp only[cOp,Xaa]at hc
  obtain⟨x',h1,rfl⟩:=hc
  replace hv:=Zao hv;obtain⟨v,hv,rfl⟩:=hv
  obtain⟨y,h2,hr⟩:=d_un (P:=cx.P) (W:=W) (Zaf h hn h1) hv
  exact Zay rfl h2 (hnext _ _ (.same h hr))
 |load t x=>
  simp only[cOp,Xab,Xaa]at hc
  obtain⟨k,hk,x',h1,rfl⟩:=hc
  split at hv
  ·rename_i hcond
   simp only[Xai,Xfe]at hcond
   obtain⟨_,rfl⟩:=hcond
   simp only[Zbr]at hv
   have hr:=Zaf h hn h1
   generalize evO st.tm x'=u at hv hr
   generalize hxe:a.eval x=xv at hr
   cases hr<;>simp only[vLdo,reduceCtorEq,Xab,Xaa]at hv
   rename_i id off b hφ
   obtain⟨cs,hcs,v,hv,rfl⟩:=hv
   obtain⟨xs,t',e2,e3,e4,e5⟩:=(h.ob id _ (Zbk hcs)).cells hφ
   have hlt:off<xs.size:=Xb0 (Xae.1 hv).1 e3.1
   have hrun:(Instr.loadAt t (.pointer (some ⟨b,off,none⟩))).run cx.P W= .ok xs[off] W:=by
    have hcell:W.cell? ⟨b,off,none⟩=some xs[off]:=by rw[cell_of_row _ b off xs t' (0,0) e2];exact Xar hlt
    simp[Instr.loadAt,Instr.sureAddr,loadVar,Zlw hk,hcell]
   refine Zay (by simp only[execOp,hxe]) hrun (hnext _ _ ?_)
   exact .of (Adv.move h _ (.slot (dst.getD 0))) (e3.2 off v _ hv (Xar hlt)) fun ho=>(e5 off v _ hv (Xar hlt) ho).move
  ·replace hv:=Zao hv;obtain⟨v,hv,rfl⟩:=hv
   obtain⟨y,h2,hr⟩:=Zy4 hs h hk (Zaf h hn h1) hv
   exact Zay rfl h2 (hnext _ _ (.same h hr))
 |build t parts=>
  simp only[cOp,Xab,Xaa]at hc
  obtain⟨pl,hpl,z,hz,ps,hps,rfl⟩:=hc
  replace hv:=Zao hv;obtain⟨v,hv,rfl⟩:=hv
  simp only[Xaa]at hv
  obtain⟨rs,hrs,rfl⟩:=hv
  obtain⟨zv,hzv,hzr,hzs⟩:=Zfm (W:=W) (G:=g.G) (φ:=g.φ) hz
  obtain⟨hl,hp⟩:=Zkm h hn hps
  obtain⟨ys,hfill,hrep,hsc⟩:=Zze (by simpa using hl) hp hzr hzs hrs
  refine Zay (s:=Instr.build t (parts.map fun(i,x)=>(i,a.eval x))) rfl (y:= .agg ys) ?_ (hnext _ _ (.same h (.agg _ _ hrep.1 hsc hrep.2)))
  have hlist:(parts.map fun(i,x)=>(i,a.eval x)).toList=parts.toList.map fun q=>(q.1,a.eval q.2):=by simp
  unfold Zm8 at hpl
  split at hpl
  ·rename_i fs hu
   split at hpl
   ·rename_i hall
    simp only[Xac]at hpl;subst hpl
    have hmap:(fs.mapM fun f=>(do pure (f.offset, <-sizeOf f.type):Sem (Nat×Nat))).run cx.P W= .ok (fs.map fun f=>(f.offset,cx.P.cellsOf f.type)) W:=by
     have key:∀(l:List Field),(∀f∈l,(cx.P.info? f.type).isSome=true)->(l.mapM fun f=>(do pure (f.offset, <-sizeOf f.type):Sem (Nat×Nat))).run cx.P W= .ok (l.map fun f=>(f.offset,cx.P.cellsOf f.type)) W:=by
      intro l
      induction l with
      |nil=>intro _;rfl
      |cons f l ih=>
       intro hl
       obtain⟨i,hi,his⟩:=Za6 (hl f (by simp))
       have:=ih fun f hf=>hl f (by simp[hf])
       simp only[List.mapM_cons,Sem.run_bind,Zah hi,Result.andThen_ok,Sem.run_pure,this,Xaq,his]
     have:=key fs.toList (fun f hf=>Xal.1 hall f hf)
     rw[Array.mapM_eq_mapM_toList]
     simp only[Functor.map,Sem.run_bind',this,Result.andThen_ok]
     show Result.ok _ W=_
     congr 1
     apply Array.ext';simp
    have hfill':Instr.fill (fun i=>(fs.map fun f=>(f.offset,cx.P.cellsOf f.type))[i]?) zv.cells (parts.map fun(i,x)=>(i,a.eval x)).toList=some ys:=by
     rw[hlist, <-hfill];congr 1;funext i;simp
    simp only[Instr.build,Sem.run_bind,hzv,Result.andThen_ok,Zaa hu,hmap,hfill',Sem.run_pure]
   ·simp at hpl
  ·rename_i m e hu
   split at hpl
   ·rename_i hie
    simp only[Xac]at hpl;subst hpl
    obtain⟨i,hi,his⟩:=Za6 hie
    simp only[Instr.build,Sem.run_bind,hzv,Result.andThen_ok,Zaa hu,Zah hi,hlist,his,hfill,Sem.run_pure]
   ·simp at hpl
  ·simp at hpl
 |buildSlice t len parts=>
  simp only[cOp,Xab]at hc
  obtain⟨sz,hsz,hc⟩:=hc
  split at hc
  ·rename_i hcond
   obtain⟨hlen,hord,hbig⟩:=hcond
   simp only[Xaa]at hc
   obtain⟨xs,hxs,rfl⟩:=hc
   simp only[Zbr]at hv
   split at hv
   ·rename_i hf
    simp only[Xac]at hv;subst hv
    obtain⟨e,ie,z,hu,hi,hz,hzs,hby,his⟩:=Zez hsz
    obtain⟨hl,hr⟩:=Zcs h hn hxs
    have hlen':(xs.map (evO st.tm)).length=len:=by simp[hl,hlen]
    obtain⟨y,W',g',hrun,hadv,hrep,hown⟩:=Z42 h (sz:=sz) (xs:=xs.map (evO st.tm)) (ys:=(parts.toList.map (·.2)).map a.eval) hu hi hz his (by rw[hzs];exact his) (by rw[hlen'];exact hbig) (by simp[hl]) hr hf (.slot (dst.getD 0))
    rw[hlen']at hrun
    have he:(parts.map fun(i,x)=>(i,a.eval x))=((((parts.toList.map (·.2)).map a.eval).zipIdx 0).map fun p=>(p.2,p.1)).toArray:=by
     apply Array.ext'
     have:=Zkc (a:=a) 0 parts.toList hord
     simp only[Array.toList_map,Xdm]at this⊢
     exact this
    exact Zay (by simp only[execOp,he]) hrun (hnext _ _ (.of hadv hrep fun _=>hown))
   ·simp at hv
  ·simp at hc
 |makeSlice t l c=>
  simp only[cOp,Xab,Xaa]at hc
  obtain⟨sz,hsz,l',h1,c',h2,rfl⟩:=hc
  obtain⟨e,ie,z,hu,hi,hz,hzs,hby,his⟩:=Zez hsz
  have hv0:vMk sz (mksZ cx.P t l') (evO st.tm l') (evO st.tm c')=some r:=hv
  unfold vMk at hv0
  split at hv0
  ·obtain⟨y,W',g',hrun,hadv,hrep,hown⟩:=Z8n h hu hi hz his (by rw[hzs];exact his) hby (Zaf h hn h1) (Zaf h hn h2) hv0 (.slot (dst.getD 0))
   exact Zay rfl hrun (hnext _ _ (.of hadv hrep hown))
  ·have hzz:mksZ cx.P t l'=[] \/Zee cx.P e=some (mksZ cx.P t l'):=by
    unfold mksZ
    split
    ·split
     ·rw[hu]
      simp only
      cases hq:Zee cx.P e with
      |none=>exact .inl rfl
      |some v=>exact .inr rfl
     ·exact .inl rfl
    ·exact .inl rfl
   obtain⟨y,W',g',hrun,hadv,hrep,hown⟩:=Z7z h hu hi hz his hby hzz (Zaf h hn h1) (Zaf h hn h2) hv0 (.slot (dst.getD 0))
   exact Zay rfl hrun (hnext _ _ (.of hadv hrep hown))
 |slice t x lo hi mx=>
  simp only[cOp]at hc
  split at hc
  ·rename_i hu
   split at hc
   ·rename_i hm
    simp only[Xab,Xaa]at hc
    obtain⟨x',h1,lo',h2,hi',h3,rfl⟩:=hc
    replace hv:=Zao hv;obtain⟨v,hv,rfl⟩:=hv
    obtain⟨y,hrun,hr⟩:=Z9c (P:=cx.P) hu (Zaf h hn h1) (Zdb h hn h2) (Zdb h hn h3) hv
    have:mx=none:=by simpa using hm
    subst this
    exact Zay rfl hrun (hnext _ _ (.same h hr))
   ·simp at hc
  ·rename_i e hu
   split at hc
   ·rename_i i hi'
    simp only[Xab,Xaa]at hc
    obtain⟨x',h1,lo',h2,hi2,h3,mx',h4,rfl⟩:=hc
    obtain⟨y,hrun,hr,htk,hown⟩:=Z9t hu hi' rfl (Zaf h hn h1) (Zdb h hn h2) (Zdb h hn h3) (Zdb h hn h4) hv
    refine Zay rfl hrun (hnext _ _ ⟨g,by rw[htk];exact Adv.refl h _,hr,fun t _ ho=>hown ho _ _ _⟩)
   ·simp at hc
  ·rename_i m e hu
   split at hc
   ·rename_i i hi'
    simp only[Xab,Xaa]at hc
    obtain⟨x',h1,lo',h2,hi2,h3,mx',h4,rfl⟩:=hc
    replace hv:=Zao hv;obtain⟨v,hv,rfl⟩:=hv
    obtain⟨y,hrun,hr⟩:=Z3r hu hi' rfl (Zaf h hn h1) (Zdb h hn h2) (Zdb h hn h3) (Zdb h hn h4) h.csz hv
    exact Zay rfl hrun (hnext _ _ (.same h hr))
   ·simp at hc
  ·simp at hc
 |fieldAddr t x f=>
  simp only[cOp,Xab]at hc
  obtain⟨fd,hfd,hc⟩:=hc
  split at hc
  ·rename_i i hi
   split at hc
   ·rename_i hz
    simp only[Xaa]at hc
    obtain⟨x',h1,rfl⟩:=hc
    replace hv:=Zao hv;obtain⟨v,hv,rfl⟩:=hv
    unfold fieldAt at hfd
    split at hfd
    ·rename_i fs hu
     obtain⟨y,hrun,hr⟩:=Z1l hu hfd hi hz (Zaf h hn h1) hv
     exact Zay rfl hrun (hnext _ _ (.same h hr))
    ·simp at hfd
   ·simp at hc
  ·simp at hc
 |field t x f=>
  simp only[cOp,Xab,Xaa]at hc
  obtain⟨fd,hfd,k,hk,x',h1,rfl⟩:=hc
  replace hv:=Zao hv;obtain⟨v,hv,rfl⟩:=hv
  unfold fieldAt at hfd
  split at hfd
  ·rename_i fs hu
   obtain⟨y,hrun,hr⟩:=Qac hu hfd hk (Zaf h hn h1) hv
   exact Zay rfl hrun (hnext _ _ (.same h hr))
  ·simp at hfd
 |indexAddr t x i=>
  simp only[cOp]at hc
  split at hc
  ·rename_i e hu
   split at hc
   ·rename_i ie hie
    simp only[Xab,Xaa]at hc
    obtain⟨x',h1,i',h2,rfl⟩:=hc
    replace hv:=Zao hv;obtain⟨v,hv,rfl⟩:=hv
    obtain⟨y,hrun,hr⟩:=Z2c hu hie (Zaf h hn h1) (Zaf h hn h2) hv
    exact Zay rfl hrun (hnext _ _ (.same h hr))
   ·simp at hc
  ·rename_i m e hu
   split at hc
   ·rename_i ie hie
    simp only[Xab,Xaa]at hc
    obtain⟨x',h1,i',h2,rfl⟩:=hc
    replace hv:=Zao hv;obtain⟨v,hv,rfl⟩:=hv
    obtain⟨y,hrun,hr⟩:=Z3d hu hie (Zaf h hn h1) (Zaf h hn h2) hv
    exact Zay rfl hrun (hnext _ _ (.same h hr))
   ·simp at hc
  ·simp at hc
 |index t x i=>
  simp only[cOp]at hc
  split at hc
  ·rename_i hu
   simp only[Xab,Xaa]at hc
   obtain⟨x',h1,i',h2,rfl⟩:=hc
   replace hv:=Zao hv;obtain⟨v,hv,rfl⟩:=hv
   obtain⟨y,hrun,hr⟩:=Z8g hu (Zaf h hn h1) (Zaf h hn h2) hv
   exact Zay rfl hrun (hnext _ _ (.same h hr))
  ·rename_i m e hu
   split at hc
   ·rename_i ie hie
    simp only[Xab,Xaa]at hc
    obtain⟨k,hk,x',h1,i',h2,rfl⟩:=hc
    replace hv:=Zao hv;obtain⟨v,hv,rfl⟩:=hv
    obtain⟨y,hrun,hr⟩:=Z4k hu hie hk (Zaf h hn h1) (Zaf h hn h2) hv
    exact Zay rfl hrun (hnext _ _ (.same h hr))
   ·simp at hc
  ·simp at hc
 |convert s d x=>
  simp only[cOp]at hc
  split at hc
  ·rename_i hs' hd
   simp only[Xaa]at hc
   obtain⟨x',h1,rfl⟩:=hc
   replace hv:=Zao hv;obtain⟨v,hv,rfl⟩:=hv
   obtain⟨y,hrun,hr⟩:=Z8i hs' hd (Zaf h hn h1) hv
   exact Zay rfl hrun (hnext _ _ (.same h hr))
  ·rename_i e hs' hd
   split at hc
   ·rename_i he
    simp only[Xaa]at hc
    obtain⟨x',h1,rfl⟩:=hc
    obtain⟨y,W',g',hrun,hadv,hrep,hown⟩:=Z9l h hs' hd he (Zaf h hn h1) hv (.slot (dst.getD 0))
    exact Zay rfl hrun (hnext _ _ (.of hadv hrep hown))
   ·simp at hc
  ·rename_i e hs' hd
   split at hc
   ·rename_i he
    simp only[Xaa]at hc
    obtain⟨x',h1,rfl⟩:=hc
    replace hv:=Zao hv;obtain⟨v,hv,rfl⟩:=hv
    have hr0:=Zaf h hn h1
    generalize evO st.tm x'=u at hv hr0
    generalize hxe:a.eval x=xv at hr0
    have goal:∃y,(convert s d xv).run cx.P W= .ok y W/\Rep W g.G g.φ v y:=by
     unfold vB2s at hv
     split at hv
     ·exact Zld (H:=st.H) hs' he hd hr0 (by simpa[vB2s]using hv)
     ·rename_i id off len cap
      split at hv
      ·rename_i h0
       cases hv;subst h0
       cases hr0 with
       |osl _ _ _ _ _ b cap' hφ hlc hc' hs=>
        have:=Zpw (W:=W) (G:=g.G) (φ:=g.φ) (ns:=[]) (off:=off) (cap:=cap') (b:=b) hs' he hd ⟨fun c hc=>(by cases hc),fun k c hk=>(by simp at hk)⟩
        exact⟨_,this, .str _ _ (strOfNums_data [])⟩
       |osln _ _ _ p=>cases p with
        |none=>exact Zld (H:=st.H) hs' he hd (.slnil 1) rfl
        |some a=>exact Zld (H:=st.H) hs' he hd (.sl0 1 a) rfl
      rename_i hn0
      simp only[Xab]at hv
      obtain⟨cs,hcs,hv⟩:=hv
      split at hv
      ·rename_i hle
       simp only[Xaa]at hv
       obtain⟨l,hl,rfl⟩:=hv
       cases hr0 with
       |osl _ _ _ _ _ b cap' hφ hlc hc' hs=>exact Ztt hs' he hd (h.row hcs hφ) hle hl
       |osln _ _ _ _=>exact absurd rfl hn0
      ·simp at hv
     ·simp at hv
    obtain⟨y,hrun,hr⟩:=goal
    exact Zay (by simp only[execOp,hxe]) hrun (hnext _ _ (.same h hr))
   ·simp at hc
  ·rename_i hs' hd
   simp only[Xaa]at hc
   obtain⟨x',h1,rfl⟩:=hc
   replace hv:=Zao hv;obtain⟨v,hv,rfl⟩:=hv
   obtain⟨y,hrun,hr⟩:=Z8z hs' hd (Zaf h hn h1) hv
   exact Zay rfl hrun (hnext _ _ (.same h hr))
  ·simp at hc
 |sliceToArrayPointer d x=>
  simp only[cOp]at hc
  split at hc
  ·rename_i m e hu
   simp only[Xaa]at hc
   obtain⟨x',h1,rfl⟩:=hc
   replace hv:=Zao hv;obtain⟨v,hv,rfl⟩:=hv
   obtain⟨y,hrun,hr⟩:=Z9s hu (Zaf h hn h1) hv
   exact Zay rfl hrun (hnext _ _ (.same h hr))
  ·simp at hc
 |makeFunc fn first caps=>
  cases fn with
  |func f=>
   simp only[cOp]at hc
   split at hc
   ·rename_i hf
    simp only[Xaa]at hc
    obtain⟨xs,hxs,rfl⟩:=hc
    simp only[Zbr,Xac]at hv;subst hv
    obtain⟨hl,hr⟩:=Zcs h hn hxs
    have hfe:first= #[]:=by simpa using hf
    subst hfe
    refine Za7 (y:= .func (.func f) #[] (caps.map a.eval)) (by simp[execOp,Instr.makeFunc]) (hnext _ _ (.same h (.fn f _ _ (by simp[hl]) fun i c x hc hx=>hr i c x hc (by simpa using hx))))
   ·split at hc
    ·rename_i hf
     simp only[Xaa]at hc
     obtain⟨xs,hxs,rfl⟩:=hc
     simp only[Zbr,Xac]at hv;subst hv
     obtain⟨hl,hr⟩:=Zcs h hn hxs
     have hfe:caps= #[]:=by simpa using hf
     subst hfe
     refine Za7 (y:= .func (.func f) (first.map a.eval) #[]) (by simp[execOp,Instr.makeFunc]) (hnext _ _ (.same h (.mfn f _ _ (by simp[hl]) fun i c x hc hx=>hr i c x hc (by simpa using hx))))
    ·simp at hc
  |_=>simp[cOp]at hc
 |call c=>
  obtain⟨callee,args,argTypes⟩:=c
  cases callee with
  |value fo=>
   cases fo with
   |func f=>
    simp only[cOp]at hc
    split at hc
    ·simp only[Xaa]at hc
     obtain⟨xs,hxs,rfl⟩:=hc
     simp only[Zbr,reduceCtorEq]at hv
    split at hc
    ·simp only[Xaa]at hc
     obtain⟨xs,hxs,rfl⟩:=hc
     simp only[Zbr,reduceCtorEq]at hv
    ·simp only[Xaa]at hc
     obtain⟨xs,hxs,rfl⟩:=hc
     obtain⟨hl,hr⟩:=Zcs h hn hxs
     have hL:RepL W g.G g.φ (xs.map (evO st.tm)) (args.map a.eval):=⟨by simp[hl],fun i c x hc hx=>hr i c x hc (by simpa using hx)⟩
     simp only[Zbr,Zj4]at hv
     split at hv
     ·cases hv
     split at hv
     ·simp only[Xab]at hv
      obtain⟨l,hsn,l',hsn',r0,hr0,r1,hr1,hv⟩:=hv
      split at hv
      ·rename_i hfl
       simp only[Xac]at hv
       subst hv
       simp only[Xai]at hfl
       obtain⟨heq,hflat⟩:=Z4f hfl.1
       obtain⟨nl,hway⟩:=Zqm (xs:=(args.map a.eval).toList) hfl.2
       cases nl with
       |true=>
        obtain⟨e1,e2⟩:=Zoj hs h hsn hway (hΓ.p _ _ _ hr0) hflat hL dst
        refine Zex (f:=f) (xs:=args.map a.eval) ?_ e2 hnext
        simpa[execOp,resolve,Deferred.ofValue,invoke,Act.eval]using e1
       |false=>
        obtain⟨e1,e2⟩:=Zoj hs h hsn' hway (hΓ.p _ _ _ hr1) (by rw[<-heq];exact hflat) hL dst
        rw[<-heq]at e2
        refine Zex (f:=f) (xs:=args.map a.eval) ?_ e2 hnext
        simpa[execOp,resolve,Deferred.ofValue,invoke,Act.eval]using e1
      ·cases hv
     ·simp only[Xaa]at hv
      obtain⟨r0,hr0,rfl⟩:=hv
      obtain⟨e1,e2⟩:=Zhj hs h (hΓ.p _ _ _ hr0) hL dst
      refine Zex (f:=f) (xs:=args.map a.eval) ?_ e2 hnext
      simpa[execOp,resolve,Deferred.ofValue,invoke,Act.eval]using e1
   |tmp k=>
    simp only[cOp]at hc
    split at hc
    ·simp only[Xaa]at hc
     obtain⟨xs,hxs,rfl⟩:=hc
     simp only[Zbr,reduceCtorEq]at hv
    ·simp at hc
   |const v=>simp[cOp]at hc
   |global v=>simp[cOp]at hc
  |invoke rc m=>simp[cOp]at hc
  |builtin b=>
   cases b with
   |len=>
    simp only[cOp]at hc
    split at hc
    ·rename_i x t ha ht
     have ha':args= #[x]:=Array.ext' (by simpa using ha)
     have ht':argTypes= #[t]:=Array.ext' (by simpa using ht)
     subst ha';subst ht'
     split at hc
     ·rename_i hu
      simp only[Xaa]at hc
      obtain⟨x',h1,rfl⟩:=hc
      replace hv:=Zao hv;obtain⟨v,hv,rfl⟩:=hv
      obtain⟨y,hrun,hr⟩:=Z5e (ty:=ty) (str:=true) (by simpa using hu) (Zaf h hn h1) hv
      refine Za7 ?_ (hnext _ _ (.same h hr))
      simp only[execOp,resolve,invoke,builtin,Sem.run_bind,Sem.run_pure,Result.andThen_ok]
      simp[hrun]
     ·rename_i e hu
      simp only[Xaa]at hc
      obtain⟨x',h1,rfl⟩:=hc
      replace hv:=Zao hv;obtain⟨v,hv,rfl⟩:=hv
      obtain⟨y,hrun,hr⟩:=Z5e (ty:=ty) (str:=false) (by simpa using⟨e,hu⟩) (Zaf h hn h1) hv
      refine Za7 ?_ (hnext _ _ (.same h hr))
      simp only[execOp,resolve,invoke,builtin,Sem.run_bind,Sem.run_pure,Result.andThen_ok]
      simp[hrun]
     ·simp at hc
    ·simp at hc
   |max=>
    simp only[cOp]at hc
    split at hc
    ·rename_i x y ha
     have ha':args= #[x,y]:=Array.ext' (by simpa using ha)
     subst ha'
     simp only[Xab,Xaa]at hc
     obtain⟨x',h1,y',h2,rfl⟩:=hc
     replace hv:=Zao hv;obtain⟨v,hv,rfl⟩:=hv
     have hx:=Zaf h hn h1
     have hy:=Zaf h hn h2
     generalize evO st.tm x'=u1 at hv hx
     generalize evO st.tm y'=u2 at hv hy
     generalize hxe:a.eval x=xv at hx
     generalize hye:a.eval y=yv at hy
     cases hx<;>try (simp[vMnx]at hv;done)
     cases hy<;>try (simp[vMnx]at hv;done)
     rename_i k n k' n'
     simp only[vMnx]at hv
     split at hv
     ·rename_i hk
      subst hk
      simp only[Xac]at hv
      subst hv
      refine Za7 (y:= .int k (if n'>n then n' else n)) ?_ (hnext _ _ (.same h (.int _ _)))
      simp[execOp,resolve,invoke,builtin,Builtin.max_,Builtin.max2,hxe,hye]
     ·cases hv
    ·simp at hc
   |min=>
    simp only[cOp]at hc
    split at hc
    ·rename_i x y ha
     have ha':args= #[x,y]:=Array.ext' (by simpa using ha)
     subst ha'
     simp only[Xab,Xaa]at hc
     obtain⟨x',h1,y',h2,rfl⟩:=hc
     replace hv:=Zao hv;obtain⟨v,hv,rfl⟩:=hv
     have hx:=Zaf h hn h1
     have hy:=Zaf h hn h2
     generalize evO st.tm x'=u1 at hv hx
     generalize evO st.tm y'=u2 at hv hy
     generalize hxe:a.eval x=xv at hx
     generalize hye:a.eval y=yv at hy
     cases hx<;>try (simp[vMnx]at hv;done)
     cases hy<;>try (simp[vMnx]at hv;done)
     rename_i k n k' n'
     simp only[vMnx]at hv
     split at hv
     ·rename_i hk
      subst hk
      simp only[Xac]at hv
      subst hv
      refine Za7 (y:= .int k (if n'<n then n' else n)) ?_ (hnext _ _ (.same h (.int _ _)))
      simp[execOp,resolve,invoke,builtin,Builtin.min_,Builtin.min2,hxe,hye]
     ·cases hv
    ·simp at hc
   |append=>
    simp only[cOp]at hc
    split at hc
    ·rename_i s x t tx ha ht
     have ha':args= #[s,x]:=Array.ext' (by simpa using ha)
     have ht':argTypes= #[t,tx]:=Array.ext' (by simpa using ht)
     subst ha';subst ht'
     simp only[Xab]at hc
     obtain⟨sz,hsz,hc⟩:=hc
     split at hc
     ·rename_i hk
      simp only[Xab,Xaa]at hc
      obtain⟨s',h1,x',h2,rfl⟩:=hc
      obtain⟨e,ie,z,hu,hi,hz,hzs,hby,his⟩:=Zez hsz
      have hk':(∃e',cx.P.underlying tx=some (.slice e')) \/cx.P.underlying tx=some .string:=by
       simp only[Xa5]at hk
       rcases hk with hk|hk
       ·left;unfold isSl at hk;split at hk
        ·rename_i e' he';exact⟨e',he'⟩
        ·simp at hk
       ·right;unfold Zpg at hk;split at hk
        ·assumption
        ·simp at hk
      simp only[Zbr]at hv
      obtain⟨y,W',g',hrun,hadv,hrep,hown⟩:=Z83 (ty:=ty) (e:=e) h (.slot (dst.getD 0)) hu hi hz his (by rw[hzs];exact his) hby hk' (Zaf h hn h1) (Zaf h hn h2) (fun ho=>by
       cases s' with
       |const v=>simp[ownO]at ho
       |tmp k=>
        obtain⟨rfl,hkn⟩:=Zyw h1
        exact⟨_,rfl,Zgo h (by rw[hn];exact hkn) ho⟩) hv
      refine Za7 ?_ (hnext _ _ (.of hadv hrep hown))
      simp only[execOp,resolve,invoke,builtin,Sem.run_bind,Sem.run_pure,Result.andThen_ok]
      simp[hrun]
     ·simp at hc
    ·simp at hc
   |_=>simp[cOp]at hc
 |store t x y=>
  simp only[cOp]at hc
  split at hc
  ·simp only[Xab]at hc
   obtain⟨a',h1,hc⟩:=hc
   split at hc
   ·split at hc
    ·split at hc
     ·simp only[Xac]at hc;subst hc;simp[Zbr]at hv
     ·simp at hc
    ·simp only[Xaa]at hc
     obtain⟨_,_,rfl⟩:=hc;simp[Zbr]at hv
   ·simp only[Xaa]at hc
    obtain⟨_,_,rfl⟩:=hc;simp[Zbr]at hv
  ·simp at hc
 |alloc t=>
  simp only[cOp,Xaa]at hc
  obtain⟨_,_,rfl⟩:=hc;simp[Zbr]at hv
 |box t x=>
  simp only[cOp,Xaa]at hc
  obtain⟨_,_,rfl⟩:=hc;simp[Zbr]at hv
 |_=>simp[cOp]at hc
end Go.Abs
namespace Go.Abs
open Go.RowKit
variable {cx:Cx}{w:World}{B:Nat->Prop}{GB:Gh}{g:Gh}{st:St}{a:Act}{W:World}{Γ:Spec}
theorem RepP.setL {cs:List V}{xs:Array Value}{ys:List V}{zs:Array Value}{off:Nat}{G:Nat->Nat}{φ:Nat->Option Nat}(h:RepP W G φ cs xs)(hy:RepL W G φ ys zs)(hle:off+ys.length<=cs.length):
  RepP W G φ (Zav cs off ys) (Go.Abs.setL xs.toList off zs.toList).toArray:=by
 have hl:=h.1
 have hl2:=hy.1
 refine⟨by rw[Zgx,Zc3 _ _ _ hle];simp;rw[Zc3 _ _ _ (by simp;omega)];simpa using hl,fun i c x hc hx=> ?_⟩
 rw[Zgx,Zcr _ _ _ hle]at hc
 simp only[Xda]at hx
 rw[Zcr _ _ _ (by simp;omega)]at hx
 have:zs.toList.length=ys.length:=by simp[hl2]
 rw[this]at hx
 split at hc
 ·rename_i hcond
  rw[if_pos hcond]at hx
  exact hy.2 _ c x hc (by simpa using hx)
 ·rename_i hcond
  rw[if_neg hcond]at hx
  exact h.2 _ c x hc (by simpa using hx)
theorem SR.newObW (h:SR w B GB g st a W){cs:List V}{xs:Array Value}{t:TypeId}{W':World}(hb:Below W.heap.size W W')(hsz:W'.heap.size=W.heap.size+1)(hblk:W'.heap[W.heap.size]? =some (.cells xs t (0,0)))
  (hr:RepP W g.G g.φ cs xs) (hsc:∀c∈cs,c.sc=true):∃g',SR w B GB g' (st.new cs) a W'/\g'.φ st.nH=some W.heap.size:=by
 have hB:B W.heap.size:=h.hB _ h.below.size
 have hfr:∀id,st.nH<=id->g.φ id=none:=by
  intro id hid
  cases hφ:g.φ id with
  |none=>rfl
  |some b=>have:=(h.φ id b hφ).2.2;omega
 have hadv:=Adv.new h 0 none none hb hsz
 have hG:(fun b=>if b=W.heap.size then 0 else g.G b)=g.G:=by
  funext b;split
  ·rename_i e;rw[e];exact(h.Gz _ (Xag _)).symm
  ·rfl
 rw[hG]at hadv
 have h1:=h.adv hadv
 simp only[St.take]at h1
 have hk:Keeps W g.G g.φ W' g.G (upd g.φ st.nH (some W.heap.size)):=⟨hadv.keeps.cell,fun _=>Xag _,fun id b hφ=>by
  have:id≠st.nH:=fun e=>by rw[hfr id (by omega)]at hφ;cases hφ
  simp[upd,this,hφ],fun id b' hb'=>Zhb (hb.block _ (h.φ id b' hb').2.1)⟩
 have hk2:Keeps W' g.G g.φ W' g.G (upd g.φ st.nH (some W.heap.size)):=⟨fun _ _ _=>rfl,fun _=>Xag _,hk.φ,fun _ _ _=>rfl⟩
 have hlt:∀id b,g.φ id=some b->b≠W.heap.size:=fun id b hφ e=>by have:=(h.φ id b hφ).2.1;omega
 refine⟨⟨g.G,upd g.φ st.nH (some W.heap.size),fun b=>if b=W.heap.size then none else g.ow b⟩,⟨h1.defers,fun t x hx=>(h1.tm t x hx).keep hk2,fun t x hx ho=>h1.own t x hx ho,fun id o hH=> ?_,fun id hid=> ?_,fun id b hφ=> ?_,fun id b hφ=> ?_,fun id id' b e1 e2 l1 l2=> ?_,h1.Gz,h1.Glo,h1.kp,h1.kG,fun id b e=>hk.φ id b (h.kφ id b e),h1.ksz,h1.below,h1.hB⟩,by simp[upd]⟩
 ·by_cases hid:id=st.nH
  ·subst hid
   simp only[St.new,upd,if_true,Xac]at hH
   subst hH
   exact .inr ⟨W.heap.size,xs,t,by simp[upd],hblk,hr.keep hk,hsc,fun j v x _ _ ho=>by simp[St.new]at ho⟩
  ·simp only[St.new,upd,hid,if_false]at hH
   refine ObOK.keep (h1.ob id o hH) hk2 (by simp[upd,hid]) (fun _ _=>rfl) (fun j v x hw=>⟨?_,fun hq=>hq⟩)
   simpa[St.new,hid]using hw
 ·simp only[St.new]at hid⊢
  have:id≠st.nH:=by omega
  simp only[upd,this,if_false]
  exact h.obn id (by omega)
 ·simp only[St.new]
  by_cases hid:id=st.nH
  ·subst hid
   simp only[upd,if_true,Xac]at hφ
   subst hφ
   exact⟨hB,by omega,by omega⟩
  ·simp only[upd,hid,if_false]at hφ
   obtain⟨q1,q2,q5⟩:=h1.φ id b hφ
   exact⟨q1,q2,by omega⟩
 ·by_cases hid:id=st.nH
  ·subst hid
   simp only[upd,if_true,Xac]at hφ
   subst hφ
   exact⟨h.Gz _ (Xag _),by simp⟩
  ·simp only[upd,hid,if_false]at hφ
   exact h1.live id b hφ
 ·by_cases hid:id=st.nH<;>by_cases hid':id'=st.nH
  ·rw[hid,hid']
  ·simp only[upd,hid,if_true,Xac]at e1
   simp only[upd,hid',if_false]at e2
   exact absurd e1.symm (hlt _ _ e2)
  ·simp only[upd,hid',if_true,Xac]at e2
   simp only[upd,hid,if_false]at e1
   exact absurd e2.symm (hlt _ _ e1)
  ·simp only[upd,hid,hid',if_false]at e1 e2
   simp only[St.new,upd,hid,hid',if_false]at l1 l2
   exact h.inj id id' b e1 e2 l1 l2
theorem SR.newOb (h:SR w B GB g st a W){cs:List V}{xs:Array Value}{t:TypeId}(hr:RepL W g.G g.φ cs xs)(hsc:∀c∈cs,c.sc=true):
  ∃g',SR w B GB g' (st.new cs) a (W.alloc (.cells xs t))/\g'.φ st.nH=some W.heap.size:=
 h.newObW (Zb6 W _) (by simp) (heap_alloc_new _ _) hr.pre hsc
theorem SR.newNil (h:SR w B GB g st a W):SR w B GB g (st.new []) a W where
 defers:=h.defers
 tm:=h.tm
 own t x hx ho:=h.own t x hx ho
 ob id o hH:=by
  by_cases hid:id=st.nH
  ·subst hid
   simp only[St.new,upd,if_true,Xac]at hH
   subst hH
   refine .inl ⟨rfl, ?_⟩
   cases hφ:g.φ st.nH with
   |none=>rfl
   |some b=>have:=(h.φ _ b hφ).2.2;omega
  ·simp only[St.new,upd,hid,if_false]at hH
   refine ObOK.keep (h.ob id o hH) (.refl _ _ _) rfl (fun _ _=>rfl) (fun j v x hw=>⟨?_,fun hq=>hq⟩)
   simpa[St.new,hid]using hw
 obn id hid:=by
  simp only[St.new]at hid⊢
  have:id≠st.nH:=by omega
  simp only[upd,this,if_false]
  exact h.obn id (by omega)
 φ id b hφ:=by
  obtain⟨q1,q2,q5⟩:=h.φ id b hφ
  exact⟨q1,q2,by simp only[St.new];omega⟩
 live:=h.live
 inj id id' b e1 e2 l1 l2:=by
  have hne:id≠st.nH:=fun e=>by have:=(h.φ id b e1).2.2;omega
  have hne':id'≠st.nH:=fun e=>by have:=(h.φ id' b e2).2.2;omega
  simp only[St.new,upd,hne,hne',if_false]at l1 l2
  exact h.inj id id' b e1 e2 l1 l2
 Gz:=h.Gz
 Glo:=h.Glo
 kp:=h.kp
 kG:=h.kG
 kφ:=h.kφ
 ksz:=h.ksz
 below:=h.below
 hB:=h.hB
theorem SR.kill (h:SR w B GB g st a W)(id0:Nat):SR w B GB g (st.kill id0) a W where
 defers:=h.defers
 tm:=h.tm
 own t x hx ho:=h.own t x hx ho
 ob id o hH:=by
  by_cases hid:id=id0
  ·simp[St.kill,upd,hid]at hH
  ·simp only[St.kill,upd,hid,if_false]at hH
   refine ObOK.keep (h.ob id o hH) (.refl _ _ _) rfl (fun _ _=>rfl) (fun j v x hw=>⟨?_,fun hq=>hq⟩)
   simpa[St.kill,hid]using hw
 obn id hid:=by
  simp only[St.kill,upd]
  split
  ·rfl
  ·exact h.obn id hid
 φ:=h.φ
 live:=h.live
 inj id id' b e1 e2 l1 l2:=by
  simp only[St.kill,upd]at l1 l2
  split at l1
  ·exact absurd rfl l1
  ·split at l2
   ·exact absurd rfl l2
   ·exact h.inj id id' b e1 e2 l1 l2
 Gz:=h.Gz
 Glo:=h.Glo
 kp:=h.kp
 kG:=h.kG
 kφ:=h.kφ
 ksz:=h.ksz
 below:=h.below
 hB:=h.hB
theorem SR.rebind (h:SR w B GB g st a W){id b:Nat}(hid:g.φ id=some b)(hdead:∀id',g.φ id'=some b->st.H id'=none)(hG:g.G b=0)(how:g.ow b=none){cs:List V}{xs xs0:Array Value}{t t0:TypeId}{W':World}
  (hblk0:W.heap[b]? =some (.cells xs0 t0 (0,0))) (hblk:W'.heap[b]? =some (.cells xs t (0,0))) (hxs:xs.size=xs0.size) (hfar:∀k,k≠b->W'.heap[k]? =W.heap[k]?) (hs:W'.os=W.os/\W'.tape=W.tape/\W'.output=W.output/\W'.heap.size=W.heap.size)
  (hr:RepP W g.G g.φ cs xs) (hsc:∀c∈cs,c.sc=true):∃g',SR w B GB g' (st.new cs) a W'/\g'.φ st.nH=some b:=by
 obtain⟨q1,q2,q5⟩:=h.φ id b hid
 have hfr:g.φ st.nH=none:=by
  cases hφ:g.φ st.nH with
  |none=>rfl
  |some b=>have:=(h.φ _ b hφ).2.2;omega
 have hcz:∀k,Abs.csz W' k=Abs.csz W k:=fun k=>by
  by_cases hk:k=b
  ·subst hk;unfold Abs.csz;rw[hblk,hblk0];exact hxs
  ·exact Zhb (hfar k hk)
 have hcell:∀k i,i<g.G k->W'.cell? ⟨k,i,none⟩=W.cell? ⟨k,i,none⟩:=fun k i hi=>World.cell?_of_block (w:=W) (hfar k fun e=>by subst e;omega)
 have hk:Keeps W g.G g.φ W' g.G (upd g.φ st.nH (some b)):=⟨hcell,fun _=>Xag _,fun i c hφ=>by
  have:i≠st.nH:=fun e=>by rw[e,hfr]at hφ;cases hφ
  simp[upd,this,hφ],fun _ k _=>hcz k⟩
 have hown:∀p v x,OwnAt W B g p v x->OwnAt W' B ⟨g.G,upd g.φ st.nH (some b),g.ow⟩ p v x:=by
  intro p v x hp sz xs' b' off' len cap sp hv hx
  rcases hp sz xs' b' off' len cap sp hv hx with h1|⟨h1,h2,h3,cs',t',lo,hi,h4,h5,h6⟩
  ·exact .inl h1
  ·exact .inr ⟨h1,h2,h3,cs',t',lo,hi,by rw[hfar b' (fun e=>by subst e;rw[how]at h2;cases h2)];exact h4,h5,h6⟩
 have hnew:∀i c,upd g.φ st.nH (some b) i=some c->(i=st.nH/\c=b) \/(i≠st.nH/\g.φ i=some c):=fun i c hi=>by
  by_cases e:i=st.nH
  ·left;simp only[upd,e,if_true,Xac]at hi;exact⟨e,hi.symm⟩
  ·right;simp only[upd,e,if_false]at hi;exact⟨e,hi⟩
 refine⟨⟨g.G,upd g.φ st.nH (some b),g.ow⟩,⟨h.defers,fun t x hx=>(h.tm t x hx).keep hk,fun t x hx ho=>hown _ _ _ (h.own t x hx ho),fun i o hH=> ?_,fun i hi=> ?_,fun i c hφ=> ?_,fun i c hφ=> ?_,fun i i' c e1 e2 l1 l2=> ?_,fun k hk'=>h.Gz k (by omega),h.Glo,fun k i hi=>(hcell k i (Xb0 hi (h.kG k))).trans (h.kp k i hi),h.kG,fun i c e=>hk.φ i c (h.kφ i c e),fun i c e=>(hcz c).trans (h.ksz i c e),h.below.trans ⟨hs.1,hs.2.1,hs.2.2.1,by omega,fun k hk'=>hfar k (fun e=>hk' (by rw[e];exact q1))⟩,h.hB⟩,by simp[upd]⟩
 ·by_cases hi:i=st.nH
  ·subst hi
   simp only[St.new,upd,if_true,Xac]at hH
   subst hH
   exact .inr ⟨b,xs,t,by simp[upd],hblk,hr.keep hk,hsc,fun j v x _ _ ho=>by simp[St.new]at ho⟩
  ·simp only[St.new,upd,hi,if_false]at hH
   refine ObOK.keep (h.ob i o hH) hk (by simp[upd,hi]) (fun c hc=>hfar c fun e=> ?_) (fun j v x hw=>⟨?_,fun hq=>hown _ _ _ hq⟩)
   ·subst e
    have:=hdead i hc
    rw[this]at hH;cases hH
   ·simpa[St.new,hi]using hw
 ·simp only[St.new]at hi⊢
  have:i≠st.nH:=by omega
  simp only[upd,this,if_false]
  exact h.obn i (by omega)
 ·simp only[St.new]
  rcases hnew i c hφ with⟨rfl,rfl⟩|⟨h1,h2⟩
  ·exact⟨q1,by omega,by omega⟩
  ·obtain⟨r1,r2,r5⟩:=h.φ i c h2
   exact⟨r1,by omega,by omega⟩
 ·rcases hnew i c hφ with⟨rfl,rfl⟩|⟨h1,h2⟩
  ·exact⟨hG,how⟩
  ·exact h.live i c h2
 ·rcases hnew i c e1 with⟨h1,rfl⟩|⟨h1,h2⟩<;>rcases hnew i' _ e2 with⟨h3,h4⟩|⟨h3,h4⟩
  ·rw[h1,h3]
  ·simp only[St.new,upd,h3,if_false]at l2
   exact absurd (hdead i' h4) l2
  ·subst h4
   simp only[St.new,upd,h1,if_false]at l1
   exact absurd (hdead i h2) l1
  ·simp only[St.new,upd,h1,h3,if_false]at l1 l2
   exact h.inj i i' c h2 h4 l1 l2
theorem Zh0 {b o:Nat}{vs:List Value}{W:World}{c:Array Value}{t:TypeId}(h:W.heap[b]? =some (.cells c t (0,0)))(hle:o+vs.length<=c.size):(W.setCells b o vs).heap[b]? =some (.cells (setL c.toList o vs).toArray t (0,0)):=by
 have key:∀(vs:List Value) (o:Nat) (u:World) (c:Array Value),u.heap[b]? =some (.cells c t (0,0))->o+vs.length<=c.size->(u.setCells b o vs).heap[b]? =some (.cells (setL c.toList o vs).toArray t (0,0)):=by
  intro vs
  induction vs with
  |nil=>intro o u c hu _;simp[World.setCells,setL,hu]
  |cons v vs ih=>
   intro o u c hu hlen
   simp only[Xax]at hlen
   have h1:(u.setCell ⟨b,o,none⟩ v).heap[b]? =some (.cells (c.setIfInBounds o v) t (0,0)):=by simp[World.setCell,Xer,hu]
   simp only[World.setCells]
   rw[ih (o+1) _ _ h1 (by simp;omega)]
   congr 2
   apply Array.ext'
   apply Xel
   intro j
   rw[Zcr _ _ _ (by simp;omega),Zcr _ _ _ (by simp;omega)]
   simp only[Xc7,Xem,Xax,Xcb]
   by_cases c1:o+1<=j/\j<o+1+vs.length
   ·rw[if_pos c1,if_pos (by omega),show j-o=(j-(o+1))+1 by omega];simp
   ·rw[if_neg c1]
    by_cases c2:o=j
    ·subst c2;rw[if_pos rfl,if_pos (by omega),if_pos (by omega)];simp
    ·rw[if_neg c2,if_neg (by omega)]
 exact key vs o W c h hle
theorem SR.setObj (h:SR w B GB g st a W){id b off:Nat}{cs ys:List V}{zs:Array Value}{own':Pos->Bool}(hH:st.H id=some (.cells cs))(hφ:g.φ id=some b)(hle:off+ys.length<=cs.length)
  (hr:RepL W g.G g.φ ys zs) (hsc:∀c∈ys,c.sc=true)
  (ho:∀p,own' p=true->(∃j v x,p= .cell id j/\off<=j/\ys[j-off]? =some v/\zs[j-off]? =some x/\OwnAt W B g p v x) \/(st.own p=true/\ ∀j,p= .cell id j->j<off \/off+ys.length<=j)):
  SR w B GB g {st with H:=upd st.H id (some (.cells (Zav cs off ys))),own:=own'} a (W.setCells b off zs.toList):=by
 obtain⟨xs,t,e2,e3,e4,e5⟩:=(h.ob id _ hH).cells hφ
 obtain⟨q1,q2,q5⟩:=h.φ id b hφ
 obtain⟨q3,q4⟩:=h.live id b hφ
 obtain⟨s1,s2,s3,s4⟩:=Zdq b zs.toList off W
 have hfar:∀k,k≠b->(W.setCells b off zs.toList).heap[k]? =W.heap[k]? :=fun k hk=>Zbs b _ _ _ _ hk
 have hk:Keeps W g.G g.φ (W.setCells b off zs.toList) g.G g.φ:=⟨fun k i hi=>World.cell?_of_block (w:=W) (hfar k fun e=>by subst e;omega),fun _=>Xag _,fun _ _ h=>h,fun _ k _=>Zfk e2 k⟩
 have hown:∀p v x,OwnAt W B g p v x->OwnAt (W.setCells b off zs.toList) B g p v x:=by
  intro p v x hp sz xs' b' off' len cap sp hv hx
  rcases hp sz xs' b' off' len cap sp hv hx with h1|⟨h1,h2,h3,cs',t',lo,hi,h4,h5,h6⟩
  ·exact .inl h1
  ·exact .inr ⟨h1,h2,h3,cs',t',lo,hi,by rw[hfar b' (fun e=>by subst e;rw[q4]at h2;cases h2)];exact h4,h5,h6⟩
 have hsz:=e3.1
 have hzl:zs.size=ys.length:=hr.1.symm
 have hrow:(W.setCells b off zs.toList).heap[b]? =some (.cells (setL xs.toList off zs.toList).toArray t (0,0)):=Zh0 e2 (by simp;omega)
 have hrep:RepP (W.setCells b off zs.toList) g.G g.φ (Zav cs off ys) (setL xs.toList off zs.toList).toArray:=(e3.setL hr hle).keep hk
 refine⟨h.defers,fun t x hx=>(h.tm t x hx).keep hk,fun t x hx hp=> ?_,fun id' o hH'=> ?_,fun id' hid=> ?_,fun id' b' hφ'=> ?_,h.live,fun i i' c e1 e2 l1 l2=> ?_,fun k hk'=>h.Gz k (by omega),h.Glo,fun k i hi=>(hk.cell k i (Xb0 hi (h.kG k))).trans (h.kp k i hi),h.kG,h.kφ,fun i c e=>(hk.sz i c (h.kφ i c e)).trans (h.ksz i c e),h.below.trans ⟨s1,s2,s3,by omega,fun k hk'=>hfar k (fun e=>hk' (by rw[e];exact q1))⟩,h.hB⟩
 ·rcases ho _ hp with⟨j,_,_,e,_⟩|⟨h1,_⟩
  ·cases e
  ·exact hown _ _ _ (h.own t x hx h1)
 ·by_cases hid:id'=id
  ·subst hid
   simp only[upd,if_true,Xac]at hH'
   subst hH'
   refine .inr ⟨b,_,t,hφ,hrow,hrep,fun c hc=> ?_,fun j v x hv hx hp=> ?_⟩
   ·rcases Zne hc with hc|hc
    ·exact e4 c hc
    ·exact hsc c hc
   ·rw[Zgx,Zcr _ _ _ hle]at hv
    simp only[Xda]at hx
    rw[Zcr _ _ _ (by simp;omega)]at hx
    have hl:zs.toList.length=ys.length:=by simp;omega
    rw[hl]at hx
    rcases ho _ hp with⟨j',v',x',e,hoff,hv',hx',how⟩|⟨h1,h2⟩
    ·simp only[Pos.cell.injEq,true_and]at e
     subst e
     have hj:=(Xae.1 hv').1
     rw[if_pos (by omega)]at hv hx
     rw[hv']at hv;cases hv
     have:x=x':=by rw[<-Xd2]at hx';rw[hx']at hx;exact(Option.some.inj hx).symm
     subst this
     exact hown _ _ _ how
    ·have:=h2 j rfl
     rw[if_neg (by omega)]at hv hx
     exact hown _ _ _ (e5 j v x hv (by simpa using hx) h1)
  ·simp only[upd,hid,if_false]at hH'
   refine ObOK.keep (h.ob id' o hH') hk rfl (fun c hc=>hfar c fun e=> ?_) (fun j v x hw=> ?_)
   ·subst e
    exact hid (h.inj id' id _ hc hφ (by rw[hH'];simp) (by rw[hH];simp))
   ·rcases ho _ hw with⟨j',_,_,e,_⟩|⟨h1,_⟩
    ·simp only[Pos.cell.injEq]at e;exact absurd e.1 hid
    ·exact⟨h1,hown _ _ _⟩
 ·have hid2:st.nH<=id':=hid
  have:id'≠id:=fun e=>by subst e;omega
  simp only[upd,this,if_false]
  exact h.obn id' hid2
 ·obtain⟨r1,r2,r5⟩:=h.φ id' b' hφ'
  exact⟨r1,by omega,r5⟩
 ·have lv:∀i,upd st.H id (some (Ob.cells (Zav cs off ys))) i≠none->st.H i≠none:=fun i hi=>by
   by_cases e:i=id
   ·rw[e,hH];simp
   ·simp only[upd,e,if_false]at hi;exact hi
  exact h.inj i i' c e1 e2 (lv i l1) (lv i' l2)
theorem Zpt {P:Program}{t:TypeId}{i:TypeInfo}{b off:Nat}{v:Value}(hi:P.info? t=some i)(hsz:v.cells.size=i.size)
  (hc:∀j,j<v.cells.size->(W.cell? ⟨b,off+j,none⟩).isSome=true) (hf:∀j,j<v.cells.size->W.frozen? ⟨b,off+j,none⟩=false) (h1:∀x∈v.cells.toList,x.oneCell'=true):
  (Instr.storeAt t (.pointer (some ⟨b,off,none⟩)) v).run P W= .ok () (W.setCells b off v.cells.toList):=by
 have:=run_storeCells_cells (P:=P) b off v.cells.toList 0 W (by simpa using hc) (by simpa using hf) h1
 simp[Instr.storeAt,Instr.sureAddr,storeVar,Zah hi,hsz,this]
theorem Za4 (a:Act)(d:Option Nat)(x:Value):(a.put d x).tmps.size=a.tmps.size:=by cases d<;>simp[Act.put]
theorem Zr8 {P:Program}{o:Oper}{next:Act->World->Prop}{Q:Exit->Act->World->Prop}{W':World}(he:(execOp a.eval o).run P W= .ok .skip W')
  (h:next (a.put o.dst undef) W'):o.wp P a W next Q:=by
 unfold Oper.wp
 rw[he]
 exact h
theorem Z1c {G:Nat->Nat}{φ:Nat->Option Nat}:Rep W G φ Nil undef:= .tup [] #[] rfl (fun i c x hc=>by simp at hc)
theorem SR.putNil (h:SR w B GB g st a W)(d:Option Nat):SR w B GB g (st.put d Nil false) (a.put d undef) W:=
 h.put d Nil false undef Z1c (fun _ _ h=>by cases h)
theorem Zjy (h:SR w B GB g st a W){n:Nat}(hn:a.tmps.size=n){o:Oper}{t:TypeId}{p x:Operand}{i:TypeInfo}(ho:o.op= .store t p x)(hi:cx.P.info? t=some i){p':Opd}{u:V}(h1:cOpd cx.P n 0 p=some p')
  (hu:Rep W g.G g.φ u (a.eval x)) {id off:Nat} {cs:List V} (hp:evO st.tm p'= .ptr id off) (hcs:Zat st.H id=some cs) (hlen:u.cells.length=i.size) (hsc:∀c∈u.cells,c.sc=true) (hle:off+i.size<=cs.length)
  {own':Pos->Bool} {g2:Gh} (h2:∃st2,SR w B GB g2 st2 a W/\st2.tm=st.tm/\st2.H=st.H/\st2.nH=st.nH/\
   ∀q,own' q=true->(∃j v x',q= .cell id j/\off<=j/\u.cells[j-off]? =some v/\(a.eval x).cells[j-off]? =some x'/\OwnAt W B g2 q v x') \/(st2.own q=true/\ ∀j,q= .cell id j->j<off \/off+u.cells.length<=j))
  (hg2:g2.G=g.G/\g2.φ=g.φ) {next:Act->World->Prop} {Q:Exit->Act->World->Prop}
  (hnext:∀W',SR w B GB g2 ({st with H:=upd st.H id (some (.cells (Zav cs off u.cells))),own:=own'}.put o.dst Nil false) (a.put o.dst undef) W'->next (a.put o.dst undef) W'):o.wp cx.P a W next Q:=by
 obtain⟨st2,hs2,e1,e2,e3,hown⟩:=h2
 have hpr:=Zaf h hn h1
 rw[hp]at hpr
 generalize hpe:a.eval p=pv at hpr
 cases hpr with
 |ptr _ _ b hφ=>
 obtain⟨xs,t',f2,f3,f4,f5⟩:=(h.ob id _ (Zbk hcs)).cells hφ
 have huc:=hu.cells
 have hsz:(a.eval x).cells.size=i.size:=by rw[<-huc.1];exact hlen
 have hxs:cs.length<=xs.size:=f3.1
 have hrun:=Zpt (W:=W) (b:=b) (off:=off) (v:=a.eval x) hi hsz
  (fun j hj=>by rw[cell_of_row _ b _ xs t' (0,0) f2];simp;omega)
  (fun j hj=>by simp[World.frozen?,f2])
  (fun y hy=>by
   obtain⟨k,hk⟩:=Xd6 hy
   have hk':(a.eval x).cells[k]? =some y:=by simpa using hk
   have hlt:k<u.cells.length:=by rw[huc.1];exact(Xa8.1 hk').1
   exact(huc.2 k _ y (Xad hlt) hk').one (hsc _ (Xau hlt)))
 have hset:=SR.setObj (own':=own') hs2 (by rw[e2];exact Zbk hcs) (by rw[hg2.2];exact hφ) (by rw[hlen];exact hle) (zs:=(a.eval x).cells) (by rw[hg2.1,hg2.2];exact huc) hsc hown
 rw[e2]at hset
 refine Zr8 (W':=W.setCells b off (a.eval x).cells.toList) ?_ (hnext _ ?_)
 ·simp only[execOp,ho,hpe,Sem.run_bind,hrun,Result.andThen_ok,Sem.run_pure]
 ·have:({st2 with H:=upd st.H id (some (.cells (Zav cs off u.cells))),own:=own'}:St)= {st with H:=upd st.H id (some (.cells (Zav cs off u.cells))),own:=own'}:=by
   cases st2;cases st;simp at e1 e2 e3⊢;exact⟨e1,e3⟩
  rw[this]at hset
  exact hset.putNil o.dst
def AOp.isRow :AOp->Bool
 | .nro _| .mko _ _ _ _| .appo _ _ _| .cpy _ _| .clr _ _| .nmp| .mup _ _ _ _| .mlk _ _ _ _ _| .mln _=>true
 |_=>false
theorem Zsv {gl:Nat->Option (List V)}{o:AOper}{st':St}(hrow:o.op.isRow=false)(he:exec1 Γ gl o st=some st')(h:∀r,Zbr Γ gl st.H st.own st.tm o.op=some r->st'=(st.take r.tk).put o.dst r.v r.o->False):
  (∃cs,o.op= .new cs) \/(∃x,o.op= .box x) \/(∃n p x,o.op= .store n p x) \/(∃p t,o.op= .sto p t) \/(∃f xs,o.op= .callh f xs) \/ ∃f xs,o.op= .callvh f xs:=by
 obtain⟨d,op,gd,af⟩:=o
 cases op<;>try (simp[AOp.isRow]at hrow;done)
 case new cs=>exact .inl ⟨_,rfl⟩
 case box x=>exact .inr (.inl ⟨_,rfl⟩)
 case store n p x=>exact .inr (.inr (.inl ⟨_,_,_,rfl⟩))
 case sto p t=>exact .inr (.inr (.inr (.inl ⟨_,_,rfl⟩)))
 case callh f xs=>exact .inr (.inr (.inr (.inr (.inl ⟨_,_,rfl⟩))))
 case callvh f xs=>exact .inr (.inr (.inr (.inr (.inr ⟨_,_,rfl⟩))))
 all_goals
  exfalso
  simp only[exec1,Xaa]at he
  obtain⟨r,hr,rfl⟩:=he
  exact h r hr rfl
theorem Zto {P:Program}{n:Nat}{ops:Array Oper}{o:Oper}{x:AOp}(h:cOp P n ops o=some x):x.isRow=false:=by
 unfold cOp at h
 repeat' split at h
 all_goals first
  |(simp only[reduceCtorEq]at h;done)
  |(simp only[Xac]at h;subst h;rfl)
  |(simp only[Xaa]at h;obtain⟨_,_,rfl⟩:=h;rfl)
  |(simp only[Xab,Xaa]at h
    first
     |(obtain⟨_,_,_,_,rfl⟩:=h;rfl)
     |(obtain⟨_,_,_,_,_,_,rfl⟩:=h;rfl)
     |(obtain⟨_,_,_,_,_,_,_,_,rfl⟩:=h;rfl)
     |(obtain⟨_,_,h⟩:=h
       repeat' split at h
       all_goals first
        |(simp only[reduceCtorEq]at h;done)
        |(obtain⟨_,_,rfl⟩:=h;rfl)
        |(simp only[Xaa]at h;obtain⟨_,_,rfl⟩:=h;rfl)
        |(simp only[Xab,Xaa]at h;obtain⟨_,_,_,_,rfl⟩:=h;rfl)))
theorem Ztl {P:Program}{n:Nat}{ops:Array Oper}{o:Oper}{cs:List V}(h:cOp P n ops o=some (.new cs)):∃t,o.op= .alloc t/\Zee P t=some cs:=by
 unfold cOp at h
 repeat' split at h
 all_goals try (simp only[Xab,Xaa,Xac,reduceCtorEq,and_false,exists_false]at h;done)
 all_goals first
  |(rename_i t heq
    simp only[Xaa,AOp.new.injEq]at h
    obtain⟨z,h1,rfl⟩:=h
    exact⟨t,heq,h1⟩)
  |(simp only[Xab,Xaa]at h
    obtain⟨_,_,h⟩:=h
    exfalso
    first
     |(obtain⟨_,_,h⟩:=h;split at h<;>(simp only[reduceCtorEq]at h;done))
     |(repeat' split at h
       all_goals (simp only[Xaa,reduceCtorEq,and_false,exists_false]at h;done)))
theorem Z2p {P:Program}{n:Nat}{ops:Array Oper}{o:Oper}{x:Opd}(h:cOp P n ops o=some (.box x)):∃t y,o.op= .box t y/\cOpd P n t y=some x:=by
 unfold cOp at h
 repeat' split at h
 all_goals try (simp only[Xab,Xaa,Xac,reduceCtorEq,and_false,exists_false]at h;done)
 all_goals first
  |(rename_i t y heq
    simp only[Xaa,AOp.box.injEq]at h
    obtain⟨z,h1,rfl⟩:=h
    exact⟨t,y,heq,h1⟩)
  |(simp only[Xab,Xaa]at h
    obtain⟨_,_,h⟩:=h
    exfalso
    first
     |(obtain⟨_,_,h⟩:=h;split at h<;>(simp only[reduceCtorEq]at h;done))
     |(repeat' split at h
       all_goals (simp only[Xaa,reduceCtorEq,and_false,exists_false]at h;done)))
theorem Zuy {P:Program}{n:Nat}{ops:Array Oper}{o:Oper}{k:Nat}{p x:Opd}(h:cOp P n ops o=some (.store k p x)):∃t q y i,o.op= .store t q y/\P.info? t=some i/\i.size=k/\cOpd P n 0 q=some p/\cOpd P n t y=some x:=by
 unfold cOp at h
 repeat' split at h
 all_goals try (simp only[Xab,Xaa,Xac,reduceCtorEq,and_false,exists_false]at h;done)
 all_goals first
  |(skip
    simp only[Xab,Xaa,AOp.store.injEq]at h
    obtain⟨q',h1,z,h2,rfl,rfl,rfl⟩:=h
    exact⟨_,_,_,_,(by assumption),(by assumption),rfl,h1,h2⟩)
  |(simp only[Xab,Xaa]at h
    obtain⟨_,_,h⟩:=h
    exfalso
    first
     |(obtain⟨_,_,h⟩:=h;split at h<;>(simp only[reduceCtorEq]at h;done))
     |(repeat' split at h
       all_goals (simp only[Xaa,reduceCtorEq,and_false,exists_false]at h;done)))
theorem Z04 {P:Program}{n:Nat}{ops:Array Oper}{o:Oper}{p:Opd}{k:Nat}(h:cOp P n ops o=some (.sto p k)):∃t q i,o.op= .store t q (.tmp k)/\P.info? t=some i/\i.size=1/\cOpd P n 0 q=some p/\k<n:=by
 unfold cOp at h
 repeat' split at h
 all_goals try (simp only[Xab,Xaa,Xac,reduceCtorEq,and_false,exists_false]at h;done)
 all_goals first
  |(rename_i hi hc _ _ heq hk
    simp only[Xab,Xac,AOp.sto.injEq]at h
    obtain⟨q',h1,rfl,rfl⟩:=h
    simp only[Xai,beq_iff_eq]at hc
    exact⟨_,_,_,heq,hi,hc.2,h1,hk⟩)
  |(simp only[Xab,Xaa]at h
    obtain⟨_,_,h⟩:=h
    exfalso
    first
     |(obtain⟨_,_,h⟩:=h;split at h<;>(simp only[reduceCtorEq]at h;done))
     |(repeat' split at h
       all_goals (simp only[Xaa,reduceCtorEq,and_false,exists_false]at h;done)))
theorem Zuh {P:Program}{n:Nat}{ops:Array Oper}{o:Oper}{f:Nat}{xs:List Opd}(h:cOp P n ops o=some (.callh f xs)):∃args ts,o.op= .call {callee:= .value (.func f),args:=args,argTypes:=ts}/\Zga P n ts.toList args.toList=some xs:=by
 unfold cOp at h
 repeat' split at h
 all_goals try (simp only[Xab,Xaa,Xac,reduceCtorEq,and_false,exists_false]at h;done)
 all_goals first
  |(simp only[Xaa,AOp.callh.injEq]at h
    obtain⟨z,h1,rfl,rfl⟩:=h
    exact⟨_,_,(by assumption),h1⟩)
  |(simp only[Xab,Xaa]at h
    obtain⟨_,_,h⟩:=h
    exfalso
    first
     |(obtain⟨_,_,h⟩:=h;split at h<;>(simp only[reduceCtorEq]at h;done))
     |(repeat' split at h
       all_goals (simp only[Xaa,reduceCtorEq,and_false,exists_false]at h;done)))
theorem Zsj {P:Program}{n:Nat}{ops:Array Oper}{o:Oper}{f:Opd}{xs:List Opd}(h:cOp P n ops o=some (.callvh f xs)):
  (∃k args ts,o.op= .call {callee:= .value (.tmp k),args:=args,argTypes:=ts}/\k<n/\f= .tmp k/\Zga P n ts.toList args.toList=some xs) \/
  ∃g args ts,o.op= .call {callee:= .value (.func g),args:=args,argTypes:=ts}/\f= .const (.fn g [])/\Zga P n ts.toList args.toList=some xs:=by
 unfold cOp at h
 repeat' split at h
 all_goals try (simp only[Xab,Xaa,Xac,reduceCtorEq,and_false,exists_false]at h;done)
 all_goals first
  |(simp only[Xaa,AOp.callvh.injEq]at h
    obtain⟨z,h1,rfl,rfl⟩:=h
    first
     |exact .inl ⟨_,_,_,(by assumption),(by assumption),rfl,h1⟩
     |exact .inr ⟨_,_,_,(by assumption),rfl,h1⟩)
  |(simp only[Xab,Xaa]at h
    obtain⟨_,_,h⟩:=h
    exfalso
    first
     |(obtain⟨_,_,h⟩:=h;split at h<;>(simp only[reduceCtorEq]at h;done))
     |(repeat' split at h
       all_goals (simp only[Xaa,reduceCtorEq,and_false,exists_false]at h;done)))
def Giv (B:Nat->Prop)(g:Gh)(b:Nat):Prop:=B b/\((∃id,g.φ id=some b) \/ ∃id j,g.ow b=some (.cell id j))
def Gh.strip (g:Gh):Gh:=⟨g.G,g.φ,fun b=>match g.ow b with|some (.cell i j)=>some (.cell i j)|_=>none⟩
theorem Zs7 {g:Gh}{b i j:Nat}(h:g.ow b=some (.cell i j)):g.strip.ow b=some (.cell i j):=by simp only[Gh.strip,h]
def Gh.back (g g':Gh)(n d:Nat):Gh:=⟨g'.G,g'.φ,fun b=>match g.ow b with
 |some (.slot t)=>if b<n then some (.slot t)else(match g'.ow b with|some (.slot _)=>some (.slot d)|q=>q)
 |_=>(match g'.ow b with|some (.slot _)=>some (.slot d)|q=>q)⟩
theorem SR.hrel (h:SR w B GB g st a W):HRel (Giv B g) g.strip st.hs W where
 ob id o hH:=by
  refine ObOK.keep (h.ob id o hH) (.refl _ _ _) rfl (fun _ _=>rfl) (fun j v x hw=>⟨hw,fun hq=> ?_⟩)
  intro sz ys b' off len cap sp e1 e2
  rcases hq sz ys b' off len cap sp e1 e2 with h6|⟨h6,h7,h8⟩
  ·exact .inl h6
  ·exact .inr ⟨⟨h6, .inr ⟨id,j,h7⟩⟩,Zs7 h7,h8⟩
 obn:=h.obn
 φ id b hb:=by
  obtain⟨h1,h2,h5⟩:=h.φ id b hb
  exact⟨⟨h1, .inl ⟨id,hb⟩⟩,h2,h5⟩
 live id b hb:=by
  obtain⟨h3,h4⟩:=h.live id b hb
  exact⟨h3,by simp only[Gh.strip,h4]⟩
 inj:=h.inj
 Gz:=h.Gz
theorem Ze4 (hs:Scope cx w B GB)(h:SR w B GB g st a W){f:FuncId}{args:List V}{xs:Array Value}{r:V×Bool}{hs':HS}(hpc:PCH cx f args st.hs r hs')(hr:RepL W g.G g.φ args xs)(d:Option Nat):
  (callFunc f xs).run cx.P W= .ok (.enter f xs) W/\Calls cx.P f xs W fun e W'=> ∃y,e= .returned y/\ ∃g',SR w B GB g' ((st.setHS hs').put d r.1 r.2) (a.put d y) W':=by
 obtain⟨⟨fn,hf,hname,hbody⟩,hcalls⟩:=hpc
 have hnm : (fn.name == "runtime.NumGoroutine") = false := by simpa using hname
 have hokw:OKW cx W g.G:=h.okw hs
 have hr':RepL W g.strip.G g.strip.φ args xs:=hr
 refine⟨by simp only[callFunc,Sem.run_bind,run_program,Result.andThen_ok,hf,hnm,hbody,Xat,if_false,Sem.run_pure],(hcalls W (Giv B g) g.strip xs hokw (fun b hb=>hs.hB b hb.1) h.hrel (fun b t e=>by
  simp only[Gh.strip]at e;split at e<;>cases e) hr').mono fun e W'=> ?_⟩
 rintro⟨g',y,rfl,hb,hG,hkeep,hrel,hrep,hown⟩
 have hle:∀b,(W.heap.size<=b \/Giv B g b)->B b:=fun b hb=>hb.elim (fun h'=>h.hB b (Xbs h.below.size h')) (·.1)
 have hkeep':Keeps W g.G g.φ W' g'.G g'.φ:=hkeep
 --a slot's row is not the call's
 have hslot:∀b t,b<W.heap.size->g.ow b=some (.slot t)-> ¬(W.heap.size<=b \/Giv B g b):=by
  rintro b t h1 h2 (h3|⟨_,⟨id,h3⟩|⟨id,j,h3⟩⟩)
  ·omega
  ·have:=(h.live id b h3).2;rw[h2]at this;cases this
  ·rw[h2]at h3;cases h3
 have hcell:∀b,(W.heap.size<=b \/Giv B g b)-> ∀q,g'.ow b=some q->(∀t,q≠ .slot t)->(g.back g' W.heap.size (d.getD 0)).ow b=some q:=by
  intro b h1 q h2 h3
  have e:(match g'.ow b with|some (.slot _)=>some (Pos.slot (d.getD 0))|q=>q)=some q:=by
   rw[h2];cases q with
   |slot t=>exact absurd rfl (h3 t)
   |cell i j=>rfl
  simp only[Gh.back]
  split
  ·rename_i t ht
   rw[if_neg (fun h4=>hslot b t h4 ht h1)];exact e
  ·exact e
 refine⟨y,rfl,g.back g' W.heap.size (d.getD 0), ?_⟩
 have key:SR w B GB (g.back g' W.heap.size (d.getD 0)) (st.setHS hs') a W':=
  {defers:=h.defers
   tm:=fun t x hx=>(h.tm t x hx).keep hkeep'
   own:=fun t x hx ho=>by
    intro sz ys b off len cap sp e1 e2
    rcases h.own t x hx ho sz ys b off len cap sp e1 e2 with h6|⟨h6,h7,h8,cs,ty,lo,hi,h9,h10,h11⟩
    ·exact .inl h6
    ·have hlt:b<W.heap.size:=(Xa8.1 h9).1
     have hno:=hslot b t hlt h7
     have hGb:g'.G b=g.G b:=hG b hlt fun h=>hno (.inr h)
     refine .inr ⟨h6, ?_, ?_,cs,ty,lo,hi, ?_,h10, ?_⟩
     ·simp only[Gh.back,h7,hlt,if_true]
     ·show _=g'.G b;rw[hGb];exact h8
     ·rw[hb.block b hno];exact h9
     ·show ∀j,g'.G b<=j->_;rw[hGb];exact h11
   ob:=fun id o hH=>by
    refine ObOK.keep (hrel.ob id o hH) (.refl _ _ _) rfl (fun _ _=>rfl) (fun j v x hw=>⟨hw,fun hq=> ?_⟩)
    intro sz ys b' off len cap sp e1 e2
    rcases hq sz ys b' off len cap sp e1 e2 with h6|⟨h6,h7,h8⟩
    ·exact .inl h6
    ·exact .inr ⟨hle b' h6,hcell b' h6 _ h7 (fun t e=>by cases e),h8⟩
   obn:=hrel.obn
   φ:=fun id b hb'=>by
    obtain⟨h1,h2,h5⟩:=hrel.φ id b hb'
    exact⟨hle b h1,h2,h5⟩
   live:=fun id b hb'=>by
    obtain⟨h1,_,_⟩:=hrel.φ id b hb'
    obtain⟨h3,h4⟩:=hrel.live id b hb'
    refine⟨h3, ?_⟩
    simp only[Gh.back,h4]
    split
    ·rename_i t ht
     rw[if_neg (fun h6=>hslot b t h6 ht h1)]
    ·rfl
   inj:=hrel.inj
   Gz:=hrel.Gz
   Glo:=fun b hb'=>by
    have hlt:b<W.heap.size:=Xd7 fun e=>hb' (h.hB b (Xbs h.below.size e))
    exact(hG b hlt fun e=>hb' e.1).trans (h.Glo b hb')
   kp:=fun b i hi=>(hkeep'.cell b i (Xb0 hi (h.kG b))).trans (h.kp b i hi)
   kG:=fun b=>Xbs (h.kG b) (hkeep'.G b)
   kφ:=fun id b e=>hkeep'.φ id b (h.kφ id b e)
   ksz:=fun id b e=>(hkeep'.sz id b (h.kφ id b e)).trans (h.ksz id b e)
   below:=h.below.trans (hb.mono hle)
   hB:=h.hB}
 refine key.put d r.1 r.2 y hrep fun t ht ho=> ?_
 subst ht
 intro sz ys b off len cap sp e1 e2
 rcases hown ho sz ys b off len cap sp e1 e2 with h6|⟨h6,h7,h8⟩
 ·exact .inl h6
 ·refine .inr ⟨hle b h6, ?_,h8⟩
  simp only[Gh.back,h7,Xb1]
  split
  ·rename_i t' ht'
   rw[if_neg (fun h4=>hslot b t' h4 ht' h6)]
  ·rfl
theorem Zpe (hs:Scope cx w B GB)(hΓ:Sound cx Γ)(h:SR w B GB g st a W){n:Nat}(hn:a.tmps.size=n){ops:Array Oper}{o:Oper}{ao:AOper}(hc:cOp cx.P n ops o=some ao.op)(hd:ao.dst=o.dst){st':St}
  (he:exec1 Γ cx.gl ao st=some st') {next:Act->World->Prop} {Q:Exit->Act->World->Prop} (hnext:∀g' a' W',SR w B GB g' st' a' W'->a'.tmps.size=n->next a' W'):o.wp cx.P a W next Q:=by
 by_cases hp:∃r,Zbr Γ cx.gl st.H st.own st.tm ao.op=some r/\st'=(st.take r.tk).put ao.dst r.v r.o
 ·obtain⟨r,hr,rfl⟩:=hp
  refine Zpm hs hΓ h hn hc hr fun y W' ⟨g',h1,h2,h3⟩=>hnext g' _ _ ?_ (by rw[Za4];exact hn)
  rw[hd]
  exact(h.adv h1).put o.dst r.v r.o y h2 h3
 ·obtain⟨d,op,gd,af⟩:=ao
  simp only at hd hc;subst hd
  rcases Zsv (Zto hc) he (fun r h1 h2=>hp ⟨r,h1,h2⟩)with⟨cs,e⟩|⟨x,e⟩|⟨k,p,x,e⟩|⟨p,t,e⟩|⟨f,xs,e⟩|⟨f,xs,e⟩<;>simp only at e<;>subst e
  ·obtain⟨t,ho,hz⟩:=Ztl hc
   obtain⟨z,hzr,hzrep,hzs⟩:=Zfm (W:=W) (G:=g.G) (φ:=g.φ) hz
   obtain⟨g',h1,h2⟩:=h.newOb (t:=t) hzrep hzs
   simp only[exec1,Xac]at he
   subst he
   have hrun:(Instr.alloc t true (.tuple #[])).run cx.P W= .ok (.pointer (some ⟨W.heap.size,0,none⟩)) (W.alloc (.cells z.cells t)):=by
    simp only[Instr.alloc,Sem.run_bind,hzr,Result.andThen_ok,newVar,newRow]
    rfl
   refine Zay (by simp only[execOp,ho]) hrun (hnext g' _ _ (h1.put o.dst (.ptr st.nH 0) false _ (.ptr _ _ _ h2) (fun _ _ h=>by cases h)) (by rw[Za4];exact hn))
  ·obtain⟨t,y,ho,hy⟩:=Z2p hc
   have hr:=(Zaf h hn hy).cells
   simp only[exec1]at he
   split at he
   ·rename_i hall
    simp only[Xac]at he
    subst he
    obtain⟨g',h1,h2⟩:=h.newOb (t:=t) hr (fun c hc=>Xal.1 hall c hc)
    have hrun:(Instr.box t (a.eval y)).run cx.P W= .ok (.pointer (some ⟨W.heap.size,0,none⟩)) (W.alloc (.cells (a.eval y).cells t)):=by
     simp only[Instr.box,Sem.run_bind,newVar,newRow]
     rfl
    refine Zay (by simp only[execOp,ho]) hrun (hnext g' _ _ (h1.put o.dst (.ptr st.nH 0) false _ (.ptr _ _ _ h2) (fun _ _ h=>by cases h)) (by rw[Za4];exact hn))
   ·simp at he
  ·obtain⟨t,q,y,i,ho,hi,rfl,hq,hy⟩:=Zuy hc
   simp only[exec1,St.ev]at he
   split at he
   ·rename_i id off hp'
    split at he
    ·rename_i cs hcs
     simp only[Xaa,St.storeOb]at he
     obtain⟨s',he,rfl⟩:=he
     split at he
     ·rename_i hcond
      obtain⟨c1,c2,c3⟩:=hcond
      simp only[Xac]at he
      subst he
      refine Zjy h hn ho hi hq (Zaf h hn hy) hp' hcs c1 (fun c hc=>Xal.1 c2 c hc) c3 (own':=(st.setOb id cs off (evO st.tm x).cells).own) (g2:=g) ⟨st,h,rfl,rfl,rfl,fun p hp2=> .inr ?_⟩ ⟨rfl,rfl⟩ (fun W' hsr=>hnext g _ _ hsr (by rw[Za4];exact hn))
      cases p with
      |slot t=>exact⟨hp2,fun j e=>by cases e⟩
      |cell i' j=>
       simp only[St.setOb]at hp2
       split at hp2
       ·cases hp2
       ·rename_i hne
        refine⟨hp2,fun j' e=> ?_⟩
        simp only[Pos.cell.injEq]at e
        obtain⟨rfl,rfl⟩:=e
        omega
     ·simp at he
    ·simp at he
   ·simp at he
  ·obtain⟨ty,q,i,ho,hi,hsz,hq,hk⟩:=Z04 hc
   simp only[exec1,St.ev]at he
   split at he
   ·rename_i id off hp'
    split at he
    ·rename_i cs hcs
     split at he
     ·rename_i hcond
      obtain⟨c1,c2⟩:=hcond
      simp only[Xac]at he
      subst he
      have hrep:Rep W g.G g.φ (st.tm t) (a.eval (.tmp t)):=h.get (by rw[hn];exact hk)
      have hcl:=Zhc c1
      refine Zjy h hn ho hi hq hrep hp' hcs (by rw[hcl,hsz];rfl) (by rw[hcl];intro c hc;simp at hc;subst hc;exact c1) (by omega) (own':=(st.stoOb id cs off t).own) (g2:=g.move (some (.slot t)) (.cell id off))
       ⟨st.take (some (.slot t)),h.adv (Adv.move h _ _),rfl,rfl,rfl,fun p hp2=> ?_⟩ ⟨rfl,rfl⟩ (fun W' hsr=>hnext _ _ _ (by rw[hcl]at hsr;exact hsr) (by rw[Za4];exact hn))
      simp only[St.stoOb,updP]at hp2
      split at hp2
      ·cases hp2
      ·rename_i hne
       split at hp2
       ·rename_i heq
        subst heq
        left
        have hxc:=hrep.cells
        rw[hcl]at hxc
        have hx1:(a.eval (.tmp t)).cells= #[a.eval (.tmp t)]:=by
         have:=hrep.one c1
         generalize a.eval (.tmp t)=z at this
         cases z<;>first|rfl|(simp[Value.oneCell']at this)
        refine⟨off,st.tm t,a.eval (.tmp t),rfl,Xag _,by rw[hcl];simp,by rw[hx1];simp, ?_⟩
        exact(Zgo h (by rw[hn];exact hk) hp2).move
       ·rename_i hne2
        right
        refine⟨by simp only[St.take,updP,hne,if_false];exact hp2,fun j e=> ?_⟩
        subst e
        rw[hcl]
        have:j≠off:=fun e=>hne2 (by rw[e])
        simp only[Xax,Xa7];omega
     ·simp at he
    ·simp at he
   ·simp at he
  ·obtain⟨args,ts,ho,hxs⟩:=Zuh hc
   simp only[exec1,St.doCall,Xaa]at he
   obtain⟨r0,hr0,rfl⟩:=he
   obtain⟨hl,hr⟩:=Zcs h hn hxs
   have hL:RepL W g.G g.φ (xs.map (evO st.tm)) (args.map a.eval):=⟨by simp[hl],fun i c x hc hx=>hr i c x hc (by simpa using hx)⟩
   obtain⟨e1,e2⟩:=Ze4 hs h (hΓ.h _ _ _ _ hr0) hL o.dst
   refine Zex (f:=f) (xs:=args.map a.eval) ?_ e2 fun y W' ⟨g',hsr⟩=>hnext g' _ _ hsr (by rw[Za4];exact hn)
   simpa[execOp,ho,resolve,Deferred.ofValue,invoke,Act.eval]using e1
  ·rcases Zsj hc with⟨k,args,ts,ho,hk,rfl,hxs⟩|⟨f,args,ts,ho,rfl,hxs⟩
   rotate_left
   ·obtain⟨hl,hr⟩:=Zcs h hn hxs
    have hL:RepL W g.G g.φ (xs.map (evO st.tm)) (args.map a.eval):=⟨by simp[hl],fun i c x hc hx=>hr i c x hc (by simpa using hx)⟩
    have hfa:Zgz (st.ev (.const (.fn f []))) (xs.map st.ev)=some (f,xs.map (evO st.tm)):=by
     show some (f,xs.map (evO st.tm)++ [])=_
     rw[Xao]
    simp only[exec1,hfa]at he
    split at he
    ·rename_i r0 hr0
     simp only[Xac]at he
     subst he
     obtain⟨e1,e2⟩:=Zhj hs h (hΓ.p _ _ _ hr0) hL o.dst
     refine Zex (f:=f) (xs:=args.map a.eval) ?_ e2 fun y W' ⟨g',h1,h2,h3⟩=>hnext g' _ _ ?_ (by rw[Za4];exact hn)
     ·simpa[execOp,ho,resolve,Deferred.ofValue,invoke,Act.eval]using e1
     ·exact(h.adv h1).put o.dst r0.1 r0.2 y h2 h3
    ·simp only[St.doCall,Xaa]at he
     obtain⟨r0,hr0,rfl⟩:=he
     obtain⟨e1,e2⟩:=Ze4 hs h (hΓ.h _ _ _ _ hr0) hL o.dst
     refine Zex (f:=f) (xs:=args.map a.eval) ?_ e2 fun y W' ⟨g',hsr⟩=>hnext g' _ _ hsr (by rw[Za4];exact hn)
     simpa[execOp,ho,resolve,Deferred.ofValue,invoke,Act.eval]using e1
   obtain⟨hl,hr⟩:=Zcs h hn hxs
   have hf:Rep W g.G g.φ (evO st.tm (.tmp k)) (a.eval (.tmp k)):=h.get (by rw[hn];exact hk)
   simp only[exec1,St.ev]at he
   generalize evO st.tm (.tmp k)=u at he hf
   generalize hxe:a.eval (.tmp k)=xv at hf
   have happ:∀{us vs:List V} {ys zs:Array Value},RepL W g.G g.φ us ys->RepL W g.G g.φ vs zs->RepL W g.G g.φ (us++vs) (ys++zs):=fun{us vs ys zs} h1 h2=>⟨by simp[h1.1,h2.1],fun i c x hc hx=>by
    rw[Xcp]at hc
    rw[Array.getElem?_append]at hx
    rw[h1.1]at hc
    split at hc
    ·rename_i hlt
     rw[if_pos hlt]at hx
     exact h1.2 i c x hc hx
    ·rename_i hlt
     rw[if_neg hlt]at hx
     exact h2.2 _ c x hc hx⟩
   have hA:RepL W g.G g.φ (xs.map (evO st.tm)) (args.map a.eval):=⟨by simp[hl],fun i c x hc hx=>hr i c x hc (by simpa using hx)⟩
   have hev:(xs.map fun x=>evO st.tm x)=xs.map (evO st.tm):=rfl
   rw[hev]at he
   obtain⟨f,l,ys,hfa,hres,hL⟩:∃f l ys,Zgz u (xs.map (evO st.tm))=some (f,l)/\(∃first caps,xv= .func (.func f) first caps/\ys=first++args.map a.eval++caps)/\RepL W g.G g.φ l ys:=by
    cases hf<;>simp only[Zgz,reduceCtorEq]at he⊢
    ·rename_i f cs ys hcl hcr
     exact⟨f,_,args.map a.eval++ys,rfl,⟨#[],ys,rfl,by simp⟩,happ hA ⟨hcl,hcr⟩⟩
    ·rename_i f cs ys hcl hcr
     exact⟨f,_,ys++args.map a.eval,rfl,⟨ys, #[],rfl,by simp⟩,happ ⟨hcl,hcr⟩ hA⟩
   obtain⟨first,caps,rfl,rfl⟩:=hres
   rw[hfa]at he
   simp only at he
   split at he
   ·rename_i r0 hr0
    simp only[Xac]at he
    subst he
    obtain⟨e1,e2⟩:=Zhj hs h (hΓ.p _ _ _ hr0) hL o.dst
    refine Zex (f:=f) (xs:=first++args.map a.eval++caps) ?_ e2 fun y W' ⟨g',h1,h2,h3⟩=>hnext g' _ _ ?_ (by rw[Za4];exact hn)
    ·simpa[execOp,ho,resolve,Deferred.ofValue,invoke,hxe]using e1
    ·exact(h.adv h1).put o.dst r0.1 r0.2 y h2 h3
   ·simp only[St.doCall,Xaa]at he
    obtain⟨r0,hr0,rfl⟩:=he
    obtain⟨e1,e2⟩:=Ze4 hs h (hΓ.h _ _ _ _ hr0) hL o.dst
    refine Zex (f:=f) (xs:=first++args.map a.eval++caps) ?_ e2 fun y W' ⟨g',hsr⟩=>hnext g' _ _ hsr (by rw[Za4];exact hn)
    simpa[execOp,ho,resolve,Deferred.ofValue,invoke,hxe]using e1
end Go.Abs
namespace Go.Abs
open Go.RowKit
section
variable {P:Program}{W:World}{G:Nat->Nat}{φ:Nat->Option Nat}
theorem Zw3 (em:Bool):∀(n:Nat) (t:TypeId) (ks:List Kd),Ze5 P n t=some ks-> ∀(d:Nat),n<=d-> ∀(cs:List V) (X:Array Value) (off:Nat) (r:Bool),
  RepL W G φ cs X->Zaw ks ((cs.drop off).take ks.length) ((cs.drop off).take ks.length)=some r->
  ∃a,(part t X off).run P W= .ok a W/\(Instr.checkKey em d t a).run P W= .ok () W:=by
 intro n
 induction n with
 |zero=>intro t ks h;simp[Ze5]at h
 |succ n ih=>
  intro t ks h d hd cs X off r hX hr
  obtain⟨d,rfl⟩:∃m,d=m+1:=⟨d-1,by omega⟩
  have leaf:∀{u:TypeDesc} {k:Kd},P.underlying t=some u->(∀fs,u≠ .struct fs)->(∀m e,u≠ .array m e)->Zaw [k] ((cs.drop off).take 1) ((cs.drop off).take 1)=some r->
    ∃v x,(part t X off).run P W= .ok x W/\Rep W G φ v x:=by
   intro u k hu h1 h2 hr
   obtain⟨v,vs,w,ws,b,r',e1,e2,h3,h4,rfl⟩:=Zd0 hr
   have hv':cs[off]? =some v:=by
    have:=congrArg (·[0]?) e1
    simpa[Za9]using this
   have hlt:off<X.size:=by rw[<-hX.1];exact(Xae.1 hv').1
   refine⟨v,X[off], ?_,hX.2 off v _ hv' (Xar hlt)⟩
   have ha:(isAgg t).run P W= .ok false W:=by
    simp only[isAgg,Sem.run_bind,Zaa hu,Result.andThen_ok]
    cases u<;>first|rfl|exact(h1 _ rfl).elim|exact(h2 _ _ rfl).elim
   simp[part,ha,hlt]
  unfold Ze5 at h
  split at h
  ·rename_i k hu
   simp only[Xac]at h;subst h
   obtain⟨v,x,p1,_⟩:=leaf hu (by simp) (by simp) hr
   exact⟨x,p1,by simp[Instr.checkKey,Zaa hu]⟩
  ·rename_i hu
   simp only[Xac]at h;subst h
   obtain⟨v,x,p1,_⟩:=leaf hu (by simp) (by simp) hr
   exact⟨x,p1,by simp[Instr.checkKey,Zaa hu]⟩
  ·rename_i hu
   simp only[Xac]at h;subst h
   obtain⟨v,x,p1,_⟩:=leaf hu (by simp) (by simp) hr
   exact⟨x,p1,by simp[Instr.checkKey,Zaa hu]⟩
  ·rename_i fs hu
   split at h
   ·rename_i hc
    obtain⟨hst,hit⟩:=hc
    simp only[Xab]at h
    obtain⟨ks',hks',h⟩:=h
    split at h
    ·rename_i hct
     simp only[Xac]at h;subst h
     obtain⟨i,hi,his⟩:=Za6 hit
     obtain⟨hl1,_⟩:=Zas hr
     have ha:(isAgg t).run P W= .ok true W:=by simp only[isAgg,Sem.run_bind,Zaa hu,Result.andThen_ok];rfl
     refine⟨.agg (X.extract off (off+i.size)),by simp[part,ha,Zah hi], ?_⟩
     have hs0:i.size=ks'.length:=by rw[his,hct]
     have hcX:RepL W G φ ((cs.drop off).take ks'.length) (X.extract off (off+i.size)):=by
      rcases Xdl ks'.length with h0|h0
      ·rw[hs0,h0];exact⟨by simp;omega,fun i c x hc=>by simp at hc⟩
      ·have:=hX.cut off i.size (by simp at hl1;omega);rwa[hs0]at this⊢
     simp only[Instr.checkKey,Sem.run_bind,Zaa hu,Result.andThen_ok]
     rw[<-Array.forIn_toList]
     have key:∀(fl:List Field) (o:Nat) (kl:List Kd) (r:Bool),Zcw (Ze5 P n) P.cellsOf o fl=some kl->Zaw kl (((cs.drop off).take ks'.length).drop o) (((cs.drop off).take ks'.length).drop o)=some r->
       (forIn (m:=Sem) fl PUnit.unit fun(f:Field) _=>do
        if f.name ≠ "_" then
         Instr.checkKey em d f.type (<-part f.type (X.extract off (off+i.size)) f.offset)
         pure (ForInStep.yield PUnit.unit)
        else pure (ForInStep.yield PUnit.unit)).run P W= .ok PUnit.unit W:=by
      intro fl
      induction fl with
      |nil=>intro o kl r _ _;simp
      |cons f fl ihf=>
       intro o kl r h1 h2
       simp only[Zcw,Xab]at h1
       obtain⟨k0,hk0,h1⟩:=h1
       split at h1
       ·rename_i hcf
        obtain⟨hn,ho,hcl⟩:=hcf
        simp only[Xaa]at h1
        obtain⟨k1,hk1,rfl⟩:=h1
        obtain⟨hL1,_⟩:=Zas h2
        simp only[Xaf]at hL1
        have sp:∀(l:List V),l=l.take k0.length++l.drop k0.length:=fun l=>(Xbl _ _).symm
        rw[sp (((cs.drop off).take ks'.length).drop o)]at h2
        obtain⟨r1,r2,h3,h4,rfl⟩:=Zdn (by rw[Xbr,hL1];omega) (by rw[Xbr,hL1];omega) h2
        obtain⟨a,p1,p2⟩:=ih f.type k0 hk0 d (by omega) _ _ o r1 hcX h3
        rw[Xdp]at h4
        have h5:=ihf (o+k0.length) k1 r2 hk1 h4
        subst ho
        simp only[List.forIn_cons,Sem.run_bind,hn,ne_eq,not_false_eq_true,if_true,Result.andThen_ok,p1,p2,Sem.run_pure]
        exact h5
       ·simp at h1
     exact(congrArg (fun z=>Result.andThen z fun a w'=>Sem.run P (pure ()) w') (key fs.toList 0 ks' r hks' (by simpa using hr))).trans rfl
    ·simp at h
   ·simp at h
  ·rename_i m e hu
   simp only[Xab]at h
   obtain⟨k1,hk1,h⟩:=h
   split at h
   ·rename_i hc
    obtain⟨hce,hie,hit,hct⟩:=hc
    simp only[Xac]at h;subst h
    obtain⟨i,hi,his⟩:=Za6 hit
    obtain⟨ie,hie',hies⟩:=Za6 hie
    have hkl:(List.replicate m k1).flatten.length=m*k1.length:=by simp
    rw[hkl]at hr
    obtain⟨hl1,_⟩:=Zas hr
    rw[hkl]at hl1
    have ha:(isAgg t).run P W= .ok true W:=by simp only[isAgg,Sem.run_bind,Zaa hu,Result.andThen_ok];rfl
    refine⟨.agg (X.extract off (off+i.size)),by simp[part,ha,Zah hi], ?_⟩
    have hs0:i.size=m*k1.length:=by rw[his,hct]
    have hcX:RepL W G φ ((cs.drop off).take (m*k1.length)) (X.extract off (off+i.size)):=by
     rcases Xdl (m*k1.length)with h0|h0
     ·rw[hs0,h0];exact⟨by simp;omega,fun i c x hc=>by simp at hc⟩
     ·have:=hX.cut off i.size (by simp at hl1;omega);rwa[hs0]at this⊢
    simp only[Instr.checkKey,Sem.run_bind,Zaa hu,Result.andThen_ok]
    simp only[Std.Legacy.Range.forIn_eq_forIn_range',Std.Legacy.Range.size,Nat.sub_zero,Nat.add_one_sub_one,Nat.div_one]
    have key:∀(c j:Nat) (r:Bool),Zaw (List.replicate c k1).flatten (((cs.drop off).take (m*k1.length)).drop (j*k1.length)) (((cs.drop off).take (m*k1.length)).drop (j*k1.length))=some r->
      (forIn (m:=Sem) (List.range' j c) PUnit.unit fun(i':Nat) _=>do
       Instr.checkKey em d e (<-part e (X.extract off (off+i.size)) (i'*(<-sizeOf e)))
       pure (ForInStep.yield PUnit.unit)).run P W= .ok PUnit.unit W:=by
     intro c
     induction c with
     |zero=>intro j r _;simp
     |succ c ihc=>
      intro j r h2
      rw[Xde,Xco]at h2
      obtain⟨hL1,_⟩:=Zas h2
      simp only[Xaf]at hL1
      have sp:∀(l:List V),l=l.take k1.length++l.drop k1.length:=fun l=>(Xbl _ _).symm
      rw[sp (((cs.drop off).take (m*k1.length)).drop (j*k1.length))]at h2
      obtain⟨r1,r2,h3,h4,rfl⟩:=Zdn (by rw[Xbr,hL1];omega) (by rw[Xbr,hL1];omega) h2
      obtain⟨a,p1,p2⟩:=ih e k1 hk1 d (by omega) _ _ (j*k1.length) r1 hcX h3
      rw[Xdp, <-Xcx]at h4
      have h5:=ihc (j+1) r2 h4
      rw[Xd8]
      simp only[List.forIn_cons,Sem.run_bind,Zah hie',hies,hce,Result.andThen_ok,p1,p2,Sem.run_pure]
      exact h5
    exact(congrArg (fun z=>Result.andThen z fun a w'=>Sem.run P (pure ()) w') (key m 0 r (by simpa using hr))).trans rfl
   ·simp at h
  ·simp at h
theorem Ziv {t:TypeId}{q:KK}(h:keyK P t=some q):∃ks,Ze5 P 60 t=some ks/\((q=(true,ks)/\((∃fs,P.underlying t=some (.struct fs)) \/(∃m e,P.underlying t=some (.array m e)))) \/
  (q=(false,ks)/\ ∃u,P.underlying t=some u/\(∀fs,u≠ .struct fs)/\(∀m e,u≠ .array m e))):=by
 unfold keyK at h
 simp only[Xaa]at h
 obtain⟨ks,hks,rfl⟩:=h
 refine⟨ks,hks, ?_⟩
 cases hu:P.underlying t with
 |none=>unfold Ze5 at hks;rw[hu]at hks;simp at hks
 |some u=>
  cases u with
  |struct fs=>exact .inl ⟨rfl, .inl ⟨_,rfl⟩⟩
  |array m e=>exact .inl ⟨rfl, .inr ⟨_,_,rfl⟩⟩
  |_=>exact .inr ⟨rfl,_,rfl,fun _ e=>(by cases e),fun _ _ e=>(by cases e)⟩
theorem Zul {ks:List Kd}{k k':V}{r:Bool}(h:Zd4 (true,ks) k k'=some r):∃x y,k= .agg x/\k'= .agg y/\Zaw ks x y=some r:=by
 cases k<;>cases k'<;>simp only[Zd4,reduceCtorEq]at h
 exact⟨_,_,rfl,rfl,h⟩
theorem Zpa {ks:List Kd}{k k':V}{r:Bool}(h:Zd4 (false,ks) k k'=some r):k.sc=true/\k'.sc=true/\Zaw ks [k] [k']=some r:=by
 simp only[Zd4]at h
 split at h
 ·rename_i hc;exact⟨hc.1,hc.2,h⟩
 ·cases h
theorem Zlg {t:TypeId}{q:KK}{k:V}{x:Value}{r:Bool}(hq:keyK P t=some q)(hk:Rep W G φ k x){k':V}(he:Zd4 q k k'=some r):
  ∃ks,Ze5 P 60 t=some ks/\q.2=ks/\RepL W G φ k.cells x.cells/\k.cells.length=ks.length/\(part t x.cells 0).run P W= .ok x W/\Zaw ks k.cells k'.cells=some r/\k'.cells.length=ks.length/\(∀x':Value,Rep W G φ k' x'->(part t x'.cells 0).run P W= .ok x' W):=by
 obtain⟨ks,hks,hcase⟩:=Ziv hq
 rcases hcase with⟨rfl,ht⟩|⟨rfl,u,hu,hn1,hn2⟩
 ·have ha:(isAgg t).run P W= .ok true W:=by rcases ht with⟨fs,ht⟩|⟨m,e,ht⟩<;>(simp only[isAgg,Sem.run_bind,Zaa ht,Result.andThen_ok];rfl)
  have hi:∃i,P.info? t=some i/\i.size=ks.length:=by
   have hk':=hks
   unfold Ze5 at hk'
   rcases ht with⟨fs,ht⟩|⟨m,e,ht⟩
   ·rw[ht]at hk'
    simp only[]at hk'
    split at hk'
    ·rename_i hc
     simp only[Xab]at hk'
     obtain⟨k',_,hk'⟩:=hk'
     split at hk'
     ·rename_i hc2
      simp only[Xac]at hk';subst hk'
      obtain⟨i,hi,his⟩:=Za6 hc.2
      exact⟨i,hi,by rw[his,hc2]⟩
     ·simp at hk'
    ·simp at hk'
   ·rw[ht]at hk'
    simp only[Xab]at hk'
    obtain⟨k',_,hk'⟩:=hk'
    split at hk'
    ·rename_i hc
     simp only[Xac]at hk';subst hk'
     obtain⟨i,hi,his⟩:=Za6 hc.2.2.1
     exact⟨i,hi,by rw[his,hc.2.2.2];simp⟩
    ·simp at hk'
  obtain⟨i,hi,his⟩:=hi
  have wagg:∀{ds:List V} {y:Value},ds.length=ks.length->Rep W G φ (.agg ds) y->(part t y.cells 0).run P W= .ok y W:=by
   intro ds y hl hr
   cases hr with
   |agg _ Y hlY _ _=>
    simp only[part,Sem.run_bind,ha,Result.andThen_ok,if_true,Zah hi,Xan,Sem.run_pure,Value.cells]
    congr 2
    have:Y.size=i.size:=by rw[<-hlY,hl,his]
    rw[<-this];simp
  obtain⟨a,b,rfl,rfl,he⟩:=Zul he
  obtain⟨l1,l2⟩:=Zas he
  exact⟨ks,hks,rfl,hk.cells,l1,wagg l1 hk,he,l2,fun x' hx'=>wagg l2 hx'⟩
 ·have ha:(isAgg t).run P W= .ok false W:=by
   simp only[isAgg,Sem.run_bind,Zaa hu,Result.andThen_ok]
   cases u<;>first|rfl|exact(hn1 _ rfl).elim|exact(hn2 _ _ rfl).elim
  have wone:∀{v:V} {y:Value},v.sc=true->Rep W G φ v y->(part t y.cells 0).run P W= .ok y W:=by
   intro v y hs hr
   have hc:y.cells= #[y]:=by
    have:=hr.one hs
    cases y<;>first|rfl|(simp[Value.oneCell']at this)
   simp[part,ha,hc]
  obtain⟨h1,h2,he⟩:=Zpa he
  obtain⟨l1,l2⟩:=Zas he
  have hc1:k.cells=[k]:=Zhc h1
  have hc2:k'.cells=[k']:=Zhc h2
  exact⟨ks,hks,rfl,hk.cells,by rw[hc1];exact l1,wone h1 hk,by rw[hc1,hc2];exact he,by rw[hc2];exact l2,fun x' hx'=>wone h2 hx'⟩
theorem Zop {t:TypeId}{q:KK}{k:V}{x:Value}{r:Bool}(em:Bool)(hq:keyK P t=some q)(hk:Rep W G φ k x)(he:Zd4 q k k=some r):(Instr.checkKey em 10000 t x).run P W= .ok () W:=by
 obtain⟨ks,hks,_,hL,hl,hp,hf,_,_⟩:=Zlg hq hk he
 obtain⟨a,p1,p2⟩:=Zw3 (P:=P) em 60 t ks hks 10000 (by omega) k.cells x.cells 0 r hL (by rw[Xbc, <-hl,Xev];exact hf)
 rw[hp]at p1;cases p1;exact p2
theorem Z06 {t:TypeId}{q:KK}{k k':V}{x x':Value}{r:Bool}(hq:keyK P t=some q)(hk:Rep W G φ k x)(hk':Rep W G φ k' x')(he:Zd4 q k k'=some r):(Op.equal t x x').run P W= .ok r W:=by
 obtain⟨ks,hks,_,hL,hl,hp,hf,hl',hp'⟩:=Zlg hq hk he
 obtain⟨a,b,p1,p2,p3⟩:=Zuv (P:=P) 60 t ks hks 10000 (by omega) k.cells k'.cells x.cells x'.cells 0 r hL hk'.cells (by rw[Xbc,Xbc, <-hl,Xev,hl, <-hl',Xev];exact hf)
 rw[hp]at p1;cases p1
 rw[hp' x' hk']at p2;cases p2
 exact p3
def mIdx (q:KK)(k:V):List (V×V)->Option (Option Nat)
 | []=>some none
 |p::r=>(Zd4 q k p.1).bind fun b=>if b then some (some 0)else(mIdx q k r).map fun o=>o.map (· +1)
theorem Zn9 {q:KK}{k:V}:∀{l:List (V×V)} {r:Option V},Zfv q k l=some r-> ∃o,mIdx q k l=some o/\((o=none/\r=none) \/ ∃j p,o=some j/\l[j]? =some p/\r=some p.2)
 | [],r,h=>by simp only[Zfv,Xac]at h;exact⟨none,rfl, .inl ⟨rfl,h.symm⟩⟩
 |p::l,r,h=>by
  simp only[Zfv,Xab]at h
  obtain⟨b,hb,h⟩:=h
  cases b with
  |true=>
   simp only[if_true,Xac]at h
   exact⟨some 0,by simp[mIdx,hb], .inr ⟨0,p,rfl,rfl,h.symm⟩⟩
  |false=>
   simp only[Xat,if_false]at h
   obtain⟨o,h1,h2⟩:=Zn9 h
   refine⟨o.map (· +1),by simp[mIdx,hb,h1], ?_⟩
   rcases h2 with⟨rfl,h2⟩|⟨j,p',rfl,h2,h3⟩
   ·exact .inl ⟨rfl,h2⟩
   ·exact .inr ⟨j+1,p',rfl,by simpa using h2,h3⟩
theorem Zqn {q:KK}{k x:V}:∀{l l':List (V×V)},mPut q k x l=some l'-> ∃o,mIdx q k l=some o/\((o=none/\l'=l++ [(k,x)]) \/ ∃j p,o=some j/\l[j]? =some p/\Zd4 q k p.1=some true/\l'=l.set j (k,x))
 | [],l',h=>by simp only[mPut,Xac]at h;exact⟨none,rfl, .inl ⟨rfl,h.symm⟩⟩
 |p::l,l',h=>by
  simp only[mPut,Xab]at h
  obtain⟨b,hb,h⟩:=h
  cases b with
  |true=>
   simp only[if_true,Xac]at h
   exact⟨some 0,by simp[mIdx,hb], .inr ⟨0,p,rfl,rfl,hb,h.symm⟩⟩
  |false=>
   simp only[Xat,if_false,Xaa]at h
   obtain⟨l1,h,rfl⟩:=h
   obtain⟨o,h1,h2⟩:=Zqn h
   refine⟨o.map (· +1),by simp[mIdx,hb,h1], ?_⟩
   rcases h2 with⟨rfl,h2⟩|⟨j,p',rfl,h2,h3,h4⟩
   ·exact .inl ⟨rfl,by rw[h2];rfl⟩
   ·exact .inr ⟨j+1,p',rfl,by simpa using h2,h3,by rw[h4];rfl⟩
def RepM (W:World)(G:Nat->Nat)(φ:Nat->Option Nat)(l:List (V×V))(es:List MapEntry):Prop:=
 l.length=es.length/\ ∀(i:Nat) (p:V×V) (e:MapEntry),l[i]? =some p->es[i]? =some e->Rep W G φ p.1 e.key/\Rep W G φ p.2 e.val
theorem RepM.cons {p:V×V}{l:List (V×V)}{e:MapEntry}{es:List MapEntry}(h:RepM W G φ (p::l) (e::es)):(Rep W G φ p.1 e.key/\Rep W G φ p.2 e.val)/\RepM W G φ l es:=
 ⟨h.2 0 p e rfl rfl,by have:=h.1;simpa using this,fun i p' e' hp he=>h.2 (i+1) p' e' (by simpa using hp) (by simpa using he)⟩
theorem Zv6 {t:TypeId}{q:KK}{k:V}{x:Value}(hq:keyK P t=some q)(hk:Rep W G φ k x):∀{l:List (V×V)} {es:List MapEntry} {o:Option Nat} (i:Nat),RepM W G φ l es->mIdx q k l=some o->
  (Instr.findAsking t x es i).run P W= .ok (o.bind fun j=>(es[j]?).map fun e=>(i+j,e.val)) W
 | [],[],o,i,_,h=>by simp only[mIdx,Xac]at h;subst h;rfl
 | [],e::es,o,i,hM,_=>by have:=hM.1;simp at this
 |p::l,[],o,i,hM,_=>by have:=hM.1;simp at this
 |p::l,e::es,o,i,hM,h=>by
  obtain⟨⟨h1,h2⟩,hM'⟩:=hM.cons
  simp only[mIdx,Xab]at h
  obtain⟨b,hb,h⟩:=h
  have heq:=Z06 hq hk h1 hb
  cases b with
  |true=>
   simp only[if_true,Xac]at h
   subst h
   simp[Instr.findAsking,heq]
  |false=>
   simp only[Xat,if_false,Xaa]at h
   obtain⟨o',ho,rfl⟩:=h
   have ih:=Zv6 hq hk (i+1) hM' ho
   simp only[Instr.findAsking,Sem.run_bind,heq,Result.andThen_ok,Xat,if_false,ih]
   cases o' with
   |none=>rfl
   |some j=>simp[Xc8,Xfc 1 j]
theorem Ztv {t:TypeId}{q:KK}{k:V}{x:Value}{u:TypeDesc}(hu:P.underlying t=some u)(hq:keyK P t=some q)(h1:∀fs,u≠ .struct fs)(h2:∀m e,u≠ .array m e)(hk:Rep W G φ k x):∀{l:List (V×V)} {es:List MapEntry} {o:Option Nat} (i:Nat),RepM W G φ l es->mIdx q k l=some o->
  Instr.findNow u x es i=some (o.bind fun j=>(es[j]?).map fun e=>(i+j,e.val))
 | [],[],o,i,_,h=>by simp only[mIdx,Xac]at h;subst h;rfl
 | [],e::es,o,i,hM,_=>by have:=hM.1;simp at this
 |p::l,[],o,i,hM,_=>by have:=hM.1;simp at this
 |p::l,e::es,o,i,hM,h=>by
  obtain⟨⟨g1,g2⟩,hM'⟩:=hM.cons
  simp only[mIdx,Xab]at h
  obtain⟨b,hb,h⟩:=h
  have hsame:Instr.sameNow u x e.key=some b:=by
   obtain⟨ks,hks,hcase⟩:=Ziv hq
   rcases hcase with⟨_,ht⟩|⟨rfl,_⟩
   ·rw[hu]at ht
    rcases ht with⟨fs,ht⟩|⟨m,e',ht⟩
    ·exact(h1 fs (Option.some.inj ht)).elim
    ·exact(h2 m e' (Option.some.inj ht)).elim
   obtain⟨_,_,hb'⟩:=Zpa hb
   clear hb h
   unfold Ze5 at hks
   rw[hu]at hks
   have fin:∀kd:Kd,ks=[kd]->kdEq kd k p.1=some b:=by
    rintro kd rfl
    simp only[Zaw,Xab,Xaa]at hb'
    obtain⟨b',hb',c,hc,rfl⟩:=hb'
    simp only[Xac]at hc;subst hc
    simpa using hb'
   cases u with
   |bool=>
    simp only[Xac]at hks
    have hkd:=fin _ hks.symm
    generalize p.1=pk at hkd g1
    generalize e.key=ek at g1⊢
    cases hk<;>simp only[kdEq,reduceCtorEq]at hkd
    cases g1<;>simp only[kdEq,reduceCtorEq]at hkd
    simp only[Instr.sameNow]
    exact hkd
   |int kk=>
    simp only[Xac]at hks
    have hkd:=fin _ hks.symm
    generalize p.1=pk at hkd g1
    generalize e.key=ek at g1⊢
    cases hk<;>simp only[kdEq,reduceCtorEq]at hkd
    cases g1<;>simp only[kdEq,reduceCtorEq]at hkd
    split at hkd
    ·rename_i hc
     obtain⟨rfl,rfl⟩:=hc
     simp only[Instr.sameNow,if_true]
     simp only[Xac]at hkd⊢
     rw[<-hkd];rfl
    ·cases hkd
   |string=>
    simp only[Xac]at hks
    have hkd:=fin _ hks.symm
    generalize p.1=pk at hkd g1
    generalize e.key=ek at g1⊢
    obtain⟨c1,c2,rfl,rfl,rfl⟩:∃c1 c2,k= .str c1/\pk= .str c2/\b=decide (c1=c2):=by
     cases k<;>cases pk<;>simp only[kdEq,reduceCtorEq,Xac]at hkd
     exact⟨_,_,rfl,rfl,hkd.symm⟩
    cases hk with
    |str _ s1 e1=>
    cases g1 with
    |str _ s2 e2=>
    simp only[Instr.sameNow,Xac]
    have hiff:(s1=s2)<->s1.data.toList=s2.data.toList:=by
     constructor
     ·intro e;rw[e]
     ·intro e
      obtain⟨⟨a⟩⟩:=s1;obtain⟨⟨b⟩⟩:=s2
      simp at e;rw[e]
    rw[e1,e2]at hiff
    cases hbb:s1==s2 with
    |true=>exact(decide_eq_true (hiff.1 ((MapKept.bytes_beq _ _).1 hbb))).symm
    |false=>exact(decide_eq_false fun e=>by rw[(MapKept.bytes_beq _ _).2 (hiff.2 e)]at hbb;cases hbb).symm
   |struct fs=>exact(h1 _ rfl).elim
   |array m e'=>exact(h2 _ _ rfl).elim
   |_=>simp at hks
  cases b with
  |true=>
   simp only[if_true,Xac]at h
   subst h
   simp[Instr.findNow,hsame]
  |false=>
   simp only[Xat,if_false,Xaa]at h
   obtain⟨o',ho,rfl⟩:=h
   have ih:=Ztv hu hq h1 h2 hk (i+1) hM' ho
   simp only[Instr.findNow,hsame,ih]
   cases o' with
   |none=>rfl
   |some j=>simp[Xc8,Xfc 1 j]
theorem Zrz {t:TypeId}{q:KK}{k:V}{x:Value}(hq:keyK P t=some q)(hk:Rep W G φ k x){l:List (V×V)}{es:List MapEntry}{o:Option Nat}(hM:RepM W G φ l es)(h:mIdx q k l=some o):
  (Instr.findKey t x es).run P W= .ok (o.bind fun j=>(es[j]?).map fun e=>(j,e.val)) W:=by
 obtain⟨ks,hks,hcase⟩:=Ziv hq
 rcases hcase with⟨_,ht⟩|⟨_,u,hu,h1,h2⟩
 ·have hw:(match P.underlying t with|some (.array _ _)|some (.struct _)=>true|_=>false)=true:=by rcases ht with⟨fs,ht⟩|⟨m,e,ht⟩<;>rw[ht]
  rw[run_findKey_eq W hw,Zv6 hq hk 0 hM h];simp
 ·have:=Ztv hu hq h1 h2 hk 0 hM h
  simp only[Xan]at this
  exact MapKept.run_findKey hu this
theorem Zud {kd:Kd}{v w:V}{x y:Value}(hv:Rep W G φ v x)(hw:Rep W G φ w y)(h:kdEq kd v w=some true)(n:Nat):Instr.sameBits n y x=true:=by
 unfold kdEq at h
 split at h
 ·cases hv;cases hw
  split at h
  ·rename_i hc
   obtain⟨rfl,rfl⟩:=hc
   simp only[Xac,decide_eq_true_eq]at h;subst h
   cases n<;>simp[Instr.sameBits]
  ·cases h
 ·cases hv;cases hw
  rename_i s1 e1 s2 e2
  simp only[Xac,decide_eq_true_eq]at h
  have:s2=s1:=by
   rw[<-e1, <-e2]at h
   obtain⟨⟨a⟩⟩:=s1;obtain⟨⟨b⟩⟩:=s2
   simp at h;rw[h]
  subst this
  cases n<;>(simp only[Instr.sameBits];exact(MapKept.bytes_beq _ _).2 rfl)
 ·cases hv;cases hw
  simp only[Xac,beq_iff_eq]at h;subst h
  cases n<;>simp[Instr.sameBits]
 ·cases h
theorem Zob (n:Nat):∀{ks:List Kd} {cs ds:List V} {X Y:List Value},Zaw ks cs ds=some true->cs.length=X.length->ds.length=Y.length->(∀(i:Nat) (c:V) (x:Value),cs[i]? =some c->X[i]? =some x->Rep W G φ c x)->(∀(i:Nat) (c:V) (x:Value),ds[i]? =some c->Y[i]? =some x->Rep W G φ c x)->
  ((Y.zip X).all fun(x,y)=>Instr.sameBits n x y)=true
 | [],cs,ds,X,Y,h,l1,l2,_,_=>by
  obtain⟨e1,e2⟩:=Zas h
  have:Y=[]:=Xb6.1 (by rw[<-l2,e2];rfl)
  subst this;rfl
 |kd::ks,cs,ds,X,Y,h,l1,l2,hX,hY=>by
  obtain⟨c,cs',d,ds',b,r',rfl,rfl,h1,h2,h3⟩:=Zd0 h
  have hb:b=true/\r'=true:=by cases b<;>cases r'<;>simp at h3<;>simp
  obtain⟨rfl,rfl⟩:=hb
  cases X with
  |nil=>simp at l1
  |cons x X=>
   cases Y with
   |nil=>simp at l2
   |cons y Y=>
    have ih:=Zob n h2 (by simpa using l1) (by simpa using l2) (fun i c x hc hx=>hX (i+1) c x (by simpa using hc) (by simpa using hx)) (fun i c x hc hx=>hY (i+1) c x (by simpa using hc) (by simpa using hx))
    simp only[List.zip_cons_cons,Xcu,ih,Xch]
    exact Zud (hX 0 c x rfl rfl) (hY 0 d y rfl rfl) h1 n
theorem Zwl {t:TypeId}{q:KK}{k k':V}{x x':Value}(hq:keyK P t=some q)(hk:Rep W G φ k x)(hk':Rep W G φ k' x')(he:Zd4 q k k'=some true):(Instr.keyThatStays x' x).run P W= .ok x W:=by
 obtain⟨ks,hks,_,hL,hl,hp,hf,hl',hp'⟩:=Zlg hq hk he
 have hb:Instr.sameBits 10000 x' x=true:=by
  obtain⟨b,ks'⟩:=q
  cases b with
  |true=>
   obtain⟨c1,c2,rfl,rfl,he⟩:=Zul he
   cases hk with
   |agg _ X hlX _ hrX=>
    cases hk' with
    |agg _ Y hlY _ hrY=>
     simp only[Instr.sameBits,Xai,beq_iff_eq]
     have hf':=Zas he
     refine⟨by rw[<-hlX, <-hlY,hf'.1,hf'.2], ?_⟩
     exact Zob 9999 he (by simpa using hlX) (by simpa using hlY) (fun i c x hc hx=>hrX i c x hc (by simpa using hx)) (fun i c x hc hx=>hrY i c x hc (by simpa using hx))
  |false=>
   obtain⟨_,_,he⟩:=Zpa he
   cases ks' with
   |nil=>simp[Zaw]at he
   |cons kd r=>
    simp only[Zaw,Xab,Xaa]at he
    obtain⟨b,hb,c,_,h3⟩:=he
    have:b=true:=by cases b<;>simp at h3<;>rfl
    subst this
    exact Zud hk hk' hb 10000
 simp[Instr.keyThatStays,hb]
theorem Zwz {t:TypeId}{zv:V}(h:Zir P t=some zv):∃z,(zeroValue t).run P W= .ok z W/\Rep W G φ zv z:=by
 unfold Zir at h
 split at h
 ·rename_i i hi
  split at h
  ·rename_i xs hz
   simp only[Xaa]at h
   obtain⟨vs,hvs,rfl⟩:=h
   obtain⟨z,h1,h2,h3⟩:=Zfm (W:=W) (G:=G) (φ:=φ) hvs
   have h1W:=h1 W
   have e:z= .agg xs:=by
    simp[zeroValue,Zcn hi,hz]at h1W
    exact h1W.symm
   subst e
   exact⟨_,h1W, .agg vs xs h2.1 h3 h2.2⟩
  ·rename_i x hna hz
   split at h
   ·rename_i v hvs
    simp only[Xac]at h;subst h
    obtain⟨z,h1,h2,h3⟩:=Zfm (W:=W) (G:=G) (φ:=φ) hvs
    have h1W:=h1 W
    have e:z=x:=by
     simp[zeroValue,Zcn hi,hz]at h1W
     exact h1W.symm
    subst e
    refine⟨_,h1W, ?_⟩
    have hc:z.cells= #[z]:=by
     cases z<;>first|rfl|exact(hna _ rfl).elim
    exact h2.2 0 v z rfl (by rw[hc];rfl)
   ·cases h
  ·cases h
 ·cases h
end
variable {cx:Cx}{w:World}{B:Nat->Prop}{GB:Gh}{g:Gh}{st:St}{a:Act}{W:World}{Γ:Spec}
theorem Zux {H:Hp}{id:Nat}{l:List (V×V)}(h:hMap H id=some l):H id=some (.mp l):=by
 unfold hMap at h
 split at h
 ·rename_i e;cases h;exact e
 ·cases h
theorem Zwf (h:SR w B GB g st a W){m:V}{x:Value}{l:List (V×V)}(hm:Rep W g.G g.φ m x)(hl:Zjh st.H m=some l):
  (x= .map none/\l=[]/\m= .nilmap) \/ ∃id b es ck,m= .map id/\x= .map (some b)/\g.φ id=some b/\st.H id=some (.mp l)/\W.heap[b]? =some (.map es ck)/\RepM W g.G g.φ l es.toList:=by
 cases hm<;>simp only[Zjh,reduceCtorEq,Xac]at hl
 ·rename_i id b hφ
  have hH:=Zux hl
  obtain⟨b',es,ck,h1,h2,h3,h4⟩:=h.ob id _ hH
  rw[hφ]at h1;cases h1
  exact .inr ⟨id,b,es,ck,rfl,rfl,hφ,hH,h2,by simpa using h3,fun i p e hp he=>h4 i p e hp (by simpa using he)⟩
 ·exact .inl ⟨rfl,hl.symm,rfl⟩
theorem Z2q (h:SR w B GB g st a W){P:Program}{t kt et:TypeId}{q:KK}{z m k v:V}{ok:Bool}{xm xk:Value}(ht:P.underlying t=some (.map kt et))(hq:keyK P kt=some q)(hz:Zir P et=some z)
  (hm:Rep W g.G g.φ m xm) (hk:Rep W g.G g.φ k xk) (hv:vMlk st.H q z ok m k=some v):∃y,(Instr.lookup t xm xk ok).run P W= .ok y W/\Rep W g.G g.φ v y:=by
 unfold vMlk at hv
 simp only[Xab]at hv
 obtain⟨l,hl,hv⟩:=hv
 split at hv
 ·rename_i hkk
  simp only[Xaa]at hv
  obtain⟨r,hr,rfl⟩:=hv
  obtain⟨o,ho,hor⟩:=Zn9 hr
  obtain⟨zx,hz1,hz2⟩:=Zwz (W:=W) (G:=g.G) (φ:=g.φ) hz
  have pair:∀(v:V) (b:Bool) (y:Value),Rep W g.G g.φ v y->Rep W g.G g.φ (.tup [v, .bool b]) (.tuple #[y, .bool b]):=fun v b y hv=> .tup _ _ rfl fun i c x hc hx=>by
   rcases i with _|_|i
   ·simp at hc hx;subst hc;subst hx;exact hv
   ·simp at hc hx;subst hc;subst hx;exact .bool _
   ·simp at hc
  have core:∀{es:Array MapEntry},RepM W g.G g.φ l es.toList-> ∃y,(do
    Instr.checkKey es.isEmpty 10000 kt xk
    let (v,ok')<-match<-Instr.findKey kt xk es.toList with
     |some (_,v)=>pure (v,true)
     |none=>pure (<-zeroValue et,false)
    pure (if ok then .tuple #[v, .bool ok']else v):Sem Value).run P W= .ok y W/\Rep W g.G g.φ (if ok then .tup [r.getD z, .bool r.isSome]else r.getD z) y:=by
   intro es hM
   have hfk:=Zrz hq hk hM ho
   have hck:=Zop (P:=P) es.isEmpty hq hk hkk
   rcases hor with⟨rfl,rfl⟩|⟨j,p,rfl,hp,rfl⟩
   ·refine⟨if ok then .tuple #[zx, .bool false]else zx,by simp[hck,hfk,hz1], ?_⟩
    cases ok with
    |true=>exact pair _ _ _ hz2
    |false=>exact hz2
   ·have hlt:=(Xae.1 hp).1
    have hlt':j<es.toList.length:=by rw[<-hM.1];exact hlt
    obtain⟨_,hv2⟩:=hM.2 j p _ hp (Xad hlt')
    simp only[Xak,Xad hlt',Xas]at hfk
    refine⟨if ok then .tuple #[(es.toList[j]).val, .bool true]else(es.toList[j]).val,by simp[hck,hfk], ?_⟩
    cases ok with
    |true=>exact pair _ _ _ hv2
    |false=>exact hv2
  unfold Instr.lookup
  rcases Zwf h hm hl with⟨rfl,rfl,_⟩|⟨id,b,es,ck,_,rfl,_,_,hb,hM⟩
  ·obtain⟨y,h1,h2⟩:=core (es:= #[]) ⟨rfl,fun i p e hp=>by simp at hp⟩
   refine⟨y, ?_,h2⟩
   simp only[Sem.run_bind,Zaa ht,Result.andThen_ok,Sem.run_pure]at h1⊢
   exact h1
  ·obtain⟨y,h1,h2⟩:=core hM
   refine⟨y, ?_,h2⟩
   simp only[Sem.run_bind,Zaa ht,Result.andThen_ok,Sem.run_pure,MapKept.run_getObj_map hb]at h1⊢
   exact h1
 ·cases hv
theorem SR.newMpW (h:SR w B GB g st a W):∃g',SR w B GB g' st.newMp a (W.alloc (.map #[] 0))/\g'.φ st.nH=some W.heap.size:=by
 obtain⟨W',hW'⟩:∃W',W'=W.alloc (.map #[] 0):=⟨_,rfl⟩
 have hb:Below W.heap.size W W':=by rw[hW'];exact Zb6 W _
 have hsz:W'.heap.size=W.heap.size+1:=by rw[hW'];simp
 have hblk:W'.heap[W.heap.size]? =some (.map #[] 0):=by rw[hW'];exact heap_alloc_new _ _
 rw[<-hW']
 have hB:B W.heap.size:=h.hB _ h.below.size
 have hfr:∀id,st.nH<=id->g.φ id=none:=by
  intro id hid
  cases hφ:g.φ id with
  |none=>rfl
  |some b=>have:=(h.φ id b hφ).2.2;omega
 have hadv:=Adv.new h 0 none none hb hsz
 have hG:(fun b=>if b=W.heap.size then 0 else g.G b)=g.G:=by
  funext b;split
  ·rename_i e;rw[e];exact(h.Gz _ (Xag _)).symm
  ·rfl
 rw[hG]at hadv
 have h1:=h.adv hadv
 simp only[St.take]at h1
 have hk:Keeps W g.G g.φ W' g.G (upd g.φ st.nH (some W.heap.size)):=⟨hadv.keeps.cell,fun _=>Xag _,fun id b hφ=>by
  have:id≠st.nH:=fun e=>by rw[hfr id (by omega)]at hφ;cases hφ
  simp[upd,this,hφ],fun id b' hb'=>Zhb (hb.block _ (h.φ id b' hb').2.1)⟩
 have hk2:Keeps W' g.G g.φ W' g.G (upd g.φ st.nH (some W.heap.size)):=⟨fun _ _ _=>rfl,fun _=>Xag _,hk.φ,fun _ _ _=>rfl⟩
 have hlt:∀id b,g.φ id=some b->b≠W.heap.size:=fun id b hφ e=>by have:=(h.φ id b hφ).2.1;omega
 refine⟨⟨g.G,upd g.φ st.nH (some W.heap.size),fun b=>if b=W.heap.size then none else g.ow b⟩,⟨h1.defers,fun t x hx=>(h1.tm t x hx).keep hk2,fun t x hx ho=>h1.own t x hx ho,fun id o hH=> ?_,fun id hid=> ?_,fun id b hφ=> ?_,fun id b hφ=> ?_,fun id id' b e1 e2 l1 l2=> ?_,h1.Gz,h1.Glo,h1.kp,h1.kG,fun id b e=>hk.φ id b (h.kφ id b e),h1.ksz,h1.below,h1.hB⟩,by simp[upd]⟩
 ·by_cases hid:id=st.nH
  ·subst hid
   simp only[St.newMp,upd,if_true,Xac]at hH
   subst hH
   exact⟨W.heap.size, #[],0,by simp[upd],hblk,rfl,fun i p e hp=>by simp at hp⟩
  ·simp only[St.newMp,upd,hid,if_false]at hH
   refine ObOK.keep (h1.ob id o hH) hk2 (by simp[upd,hid]) (fun _ _=>rfl) (fun j v x hw=>⟨?_,fun hq=>hq⟩)
   simpa[St.newMp,hid]using hw
 ·simp only[St.newMp]at hid⊢
  have:id≠st.nH:=by omega
  simp only[upd,this,if_false]
  exact h.obn id (by omega)
 ·simp only[St.newMp]
  by_cases hid:id=st.nH
  ·subst hid
   simp only[upd,if_true,Xac]at hφ
   subst hφ
   exact⟨hB,by omega,by omega⟩
  ·simp only[upd,hid,if_false]at hφ
   obtain⟨q1,q2,q5⟩:=h1.φ id b hφ
   exact⟨q1,q2,by omega⟩
 ·by_cases hid:id=st.nH
  ·subst hid
   simp only[upd,if_true,Xac]at hφ
   subst hφ
   exact⟨h.Gz _ (Xag _),by simp⟩
  ·simp only[upd,hid,if_false]at hφ
   exact h1.live id b hφ
 ·by_cases hid:id=st.nH<;>by_cases hid':id'=st.nH
  ·rw[hid,hid']
  ·simp only[upd,hid,if_true,Xac]at e1
   simp only[upd,hid',if_false]at e2
   exact absurd e1.symm (hlt _ _ e2)
  ·simp only[upd,hid',if_true,Xac]at e2
   simp only[upd,hid,if_false]at e1
   exact absurd e2.symm (hlt _ _ e1)
  ·simp only[upd,hid,hid',if_false]at e1 e2
   simp only[St.newMp,upd,hid,hid',if_false]at l1 l2
   exact h.inj id id' b e1 e2 l1 l2
theorem SR.setMp (h:SR w B GB g st a W){id b:Nat}{l l':List (V×V)}{es es':Array MapEntry}{ck ck':Nat}(hH:st.H id=some (.mp l))(hφ:g.φ id=some b)(hblk:W.heap[b]? =some (.map es ck))(hM:RepM W g.G g.φ l' es'.toList):
  SR w B GB g (st.setMp id l') a {W with heap:=W.heap.setIfInBounds b (.map es' ck')}:=by
 obtain⟨W',hW'⟩:∃W':World,W'= {W with heap:=W.heap.setIfInBounds b (.map es' ck')}:=⟨_,rfl⟩
 have hset:=MapKept.heap_set (o':= .map es' ck') hblk
 have hb2:W'.heap[b]? =some (.map es' ck'):=by rw[hW'];exact hset.1
 have hfar:∀k,k≠b->W'.heap[k]? =W.heap[k]? :=fun k hk=>by rw[hW'];exact hset.2 k hk
 have hsz:W'.heap.size=W.heap.size:=by rw[hW'];simp
 have hos:W'.os=W.os/\W'.tape=W.tape/\W'.output=W.output:=by rw[hW'];exact⟨rfl,rfl,rfl⟩
 rw[<-hW']
 obtain⟨q1,q2,q5⟩:=h.φ id b hφ
 obtain⟨q3,q4⟩:=h.live id b hφ
 have hcz:∀k,Abs.csz W' k=Abs.csz W k:=fun k=>by
  by_cases hk:k=b
  ·subst hk;unfold Abs.csz;rw[hb2,hblk]
  ·exact Zhb (hfar k hk)
 have hk:Keeps W g.G g.φ W' g.G g.φ:=⟨fun k i hi=>World.cell?_of_block (w:=W) (hfar k fun e=>by subst e;omega),fun _=>Xag _,fun _ _ h=>h,fun _ k _=>hcz k⟩
 have hown:∀p v x,OwnAt W B g p v x->OwnAt W' B g p v x:=by
  intro p v x hp sz xs' b' off' len cap sp hv hx
  rcases hp sz xs' b' off' len cap sp hv hx with h1|⟨h1,h2,h3,cs',t',lo,hi,h4,h5,h6⟩
  ·exact .inl h1
  ·exact .inr ⟨h1,h2,h3,cs',t',lo,hi,by rw[hfar b' (fun e=>by subst e;rw[q4]at h2;cases h2)];exact h4,h5,h6⟩
 refine⟨h.defers,fun t x hx=>(h.tm t x hx).keep hk,fun t x hx hp=>hown _ _ _ (h.own t x hx hp),fun id' o hH'=> ?_,fun id' hid=> ?_,fun id' b' hφ'=> ?_,h.live,fun i i' c e1 e2 l1 l2=> ?_,fun k hk'=>h.Gz k (by omega),h.Glo,fun k i hi=>(hk.cell k i (Xb0 hi (h.kG k))).trans (h.kp k i hi),h.kG,h.kφ,fun i c e=>(hk.sz i c (h.kφ i c e)).trans (h.ksz i c e),h.below.trans ⟨hos.1,hos.2.1,hos.2.2,by omega,fun k hk'=>hfar k (fun e=>hk' (by rw[e];exact q1))⟩,h.hB⟩
 ·by_cases hid:id'=id
  ·subst hid
   simp only[St.setMp,upd,if_true,Xac]at hH'
   subst hH'
   exact⟨b,es',ck',hφ,hb2,by simpa using hM.1,fun i p e hp he=>⟨((hM.2 i p e hp (by simpa using he)).1).keep hk,((hM.2 i p e hp (by simpa using he)).2).keep hk⟩⟩
  ·simp only[St.setMp,upd,hid,if_false]at hH'
   refine ObOK.keep (h.ob id' o hH') hk rfl (fun c hc=>hfar c fun e=> ?_) (fun j v x hw=>⟨?_,fun hq=>hown _ _ _ hq⟩)
   ·subst e
    exact hid (h.inj id' id c hc hφ (by rw[hH'];simp) (by rw[hH];simp))
   ·simpa[St.setMp,hid]using hw
 ·simp only[St.setMp]at hid⊢
  have:id'≠id:=fun e=>by rw[e]at hid;omega
  simp only[upd,this,if_false]
  exact h.obn id' hid
 ·obtain⟨r1,r2,r5⟩:=h.φ id' b' hφ'
  exact⟨r1,by omega,r5⟩
 ·have key:∀j,(st.setMp id l').H j≠none->st.H j≠none:=fun j hj=>by
   by_cases e:j=id
   ·rw[e,hH];simp
   ·simpa[St.setMp,upd,e]using hj
  exact h.inj i i' c e1 e2 (key i l1) (key i' l2)
theorem Z0v (h:SR w B GB g st a W){P:Program}{t kt et:TypeId}{q:KK}{m k x:V}{xm xk xx:Value}{st':St}(ht:P.underlying t=some (.map kt et))(hq:keyK P kt=some q)
  (hm:Rep W g.G g.φ m xm) (hk:Rep W g.G g.φ k xk) (hx:Rep W g.G g.φ x xx) (hv:st.upMp q m k x=some st'):∃W',(Instr.mapUpdate t xm xk xx).run P W= .ok () W'/\SR w B GB g st' a W':=by
 unfold St.upMp at hv
 split at hv
 rotate_left
 ·cases hv
 rename_i id
 simp only[Xab]at hv
 obtain⟨l,hl,hv⟩:=hv
 split at hv
 rotate_left
 ·cases hv
 rename_i hkk
 simp only[Xaa]at hv
 obtain⟨l',hl',rfl⟩:=hv
 obtain⟨o,ho,hor⟩:=Zqn hl'
 rcases Zwf h hm (m:= .map id) (show Zjh st.H (.map id)=some l from hl)with⟨_,_,e⟩|⟨id',b,es,ck,e,rfl,hφ,hH,hblk,hM⟩
 ·cases e
 cases e
 have hfk:=Zrz hq hk hM ho
 have hck:=Zop (P:=P) false hq hk hkk
 rcases hor with⟨rfl,rfl⟩|⟨j,p,rfl,hp,hke,rfl⟩
 ·refine⟨_, ?_,h.setMp (es':=es.push {key:=xk,val:=xx,born:=ck}) (ck':=ck+1) hH hφ hblk ?_⟩
  ·simp only[Option.bind_none]at hfk
   simp[Instr.mapUpdate,Zaa ht,MapKept.run_getObj_map hblk,hck,hfk,MapKept.run_setObj_map _ hblk]
  ·have hl0:l.length=es.size:=by simpa using hM.1
   refine⟨by simp[hl0],fun i p e hp he=> ?_⟩
   simp only[Array.toList_push]at he
   rcases Xa4 i l.length with hlt|hge
   ·rw[Xa3 hlt]at hp
    rw[Xa3 (by simpa[hl0]using hlt)]at he
    exact hM.2 i p e hp he
   ·rw[Xa2 hge]at hp
    rw[Xa2 (by simpa[hl0]using hge)]at he
    have hi:i-l.length=0:=by
     have:=(Xae.1 hp).1;simp at this;omega
    rw[hi]at hp
    rw[show i-es.toList.length=0 by simpa[hl0]using hi]at he
    simp only[Xed,Xac]at hp he
    subst hp;subst he
    exact⟨hk,hx⟩
 ·have hlt:=(Xae.1 hp).1
  have hlt':j<es.toList.length:=by rw[<-hM.1];exact hlt
  have hlt2:j<es.size:=by simpa using hlt'
  obtain⟨hr1,_⟩:=hM.2 j p _ hp (Xad hlt')
  have hst:=Zwl (P:=P) hq hk hr1 hke
  simp only[Xak,Xad hlt',Xas]at hfk
  refine⟨_, ?_,h.setMp (es':=es.modify j fun e=> {e with key:=xk,val:=xx}) (ck':=ck) hH hφ hblk ?_⟩
  ·have hkey:((es[j]?).map (·.key)).getD xk=(es.toList[j]).key:=by rw[Xar hlt2];simp
   simp[Instr.mapUpdate,Zaa ht,MapKept.run_getObj_map hblk,hck,hfk,MapKept.run_setObj_map _ hblk]
   simp only[Array.getElem_toList]at hst
   simp[hst,hlt2,MapKept.run_setObj_map _ hblk]
  ·have hl0:l.length=es.size:=by simpa using hM.1
   refine⟨by simp[hl0],fun i p' e hp' he=> ?_⟩
   have he':(es.modify j fun e=> {e with key:=xk,val:=xx})[i]? =some e:=by rw[<-Xd2];exact he
   rw[Xer]at he'
   by_cases hij:j=i
   ·subst hij
    rw[if_pos rfl,Xar hlt2]at he'
    rw[List.getElem?_set_self hlt]at hp'
    simp only[Xas,Xac]at hp' he'
    subst hp';subst he'
    exact⟨hk,hx⟩
   ·rw[if_neg hij]at he'
    rw[List.getElem?_set_ne hij]at hp'
    exact hM.2 i p' e hp' (by rw[Xd2];exact he')
theorem Z2m (h:SR w B GB g st a W){P:Program}{t kt et ty:TypeId}{m v:V}{xm:Value}(ht:P.underlying t=some (.map kt et))(hm:Rep W g.G g.φ m xm)(hv:vMln st.H m=some v):
  ∃y,(Builtin.len_ #[t] ty #[xm]).run P W= .ok y W/\Rep W g.G g.φ v y:=by
 unfold vMln at hv
 simp only[Xaa]at hv
 obtain⟨l,hl,rfl⟩:=hv
 rcases Zwf h hm hl with⟨rfl,rfl,_⟩|⟨id,b,es,ck,_,rfl,_,_,hb,hM⟩
 ·exact⟨.int .i64 0,by simp[Builtin.len_,Zaa ht,goInt], .int _ _⟩
 ·refine⟨.int .i64 (es.size:Int),by simp[Builtin.len_,Zaa ht,goInt,MapKept.run_getObj_map hb], ?_⟩
  have:l.length=es.size:=by simpa using hM.1
  rw[this];exact .int _ _
end Go.Abs
