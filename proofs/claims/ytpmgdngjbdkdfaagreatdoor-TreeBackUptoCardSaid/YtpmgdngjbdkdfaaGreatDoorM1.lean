/-
  Parts of the proof, one behind the other. Own work of this seat; some printed by its programs.
-/
import Derived.Test.YtpmgdngjbdkdfaaGreatDoorM0
import Derived.IntWalk
import Derived.Test.YtpmgdngjbdkdfaaGreatDoorRows
import Derived.Deep.Slices
import Derived.ReadAgain
import Derived.Carry
import Derived.OpenShut
namespace Go.Abs
open Go.RowKit
variable {cx:Cx}{w:World}{B:Nat->Prop}{GB:Gh}{g:Gh}{st:St}{a:Act}{W:World}{Γ:Spec}
inductive RowOp (P:Program)(n:Nat)(op:Op):AOp->Prop
 |nro (sz:Nat) (h:op= .move (.const (.slice none 0 0)) \/op= .assign (.const (.slice none 0 0))):RowOp P n op (.nro sz)
 |clo (f:Nat) (args:Array Operand) (ts:Array TypeId) (xs:List Opd) (h:op= .call {callee:= .value (.func f),args:=args,argTypes:=ts}) (hx:Zga P n ts.toList args.toList=some xs):RowOp P n op (.callh f xs)
 |nrb (sz:Nat) (t:TypeId) (hs:slE P t=some sz) (h:op= .buildSlice t 0 #[]):RowOp P n op (.nro sz)
 |mko (t e:TypeId) (l c:Operand) (sz:Nat) (z:List V) (l' c':Opd) (h:op= .makeSlice t l c) (hs:slE P t=some sz) (hu:P.underlying t=some (.slice e)) (hz:Zee P e=some z) (h1:cOpd P n 0 l=some l') (h2:cOpd P n 0 c=some c'):RowOp P n op (.mko sz z l' c')
 |appo (s x:Operand) (t tx:TypeId) (sz:Nat) (s' x':Opd) (cl:Call) (h:op= .call cl) (hcl:cl.callee= .builtin .append) (ha:cl.args= #[s,x]) (ht:cl.argTypes= #[t,tx]) (hs:slE P t=some sz)
   (hk:(isSl P tx||Zpg P tx)=true) (h1:cOpd P n t s=some s') (h2:cOpd P n tx x=some x'):RowOp P n op (.appo sz s' x')
 |cpy (d s:Operand) (t ts:TypeId) (d' s':Opd) (cl:Call) (h:op= .call cl) (hcl:cl.callee= .builtin .copy) (ha:cl.args= #[d,s]) (ht:cl.argTypes= #[t,ts]) (hs:slE P t=some 1) (hk:Zpg P ts=true) (h1:cOpd P n t d=some d') (h2:cOpd P n ts s=some s'):RowOp P n op (.cpy d' s')
 |clr (d:Operand) (t e:TypeId) (z:List V) (d':Opd) (cl:Call) (h:op= .call cl) (hcl:cl.callee= .builtin .clear) (ha:cl.args= #[d]) (ht:cl.argTypes= #[t]) (hu:P.underlying t=some (.slice e)) (hz:Zee P e=some z) (hl:z.length=1) (h1:cOpd P n t d=some d'):RowOp P n op (.clr z d')
 |nmp (t:TypeId) (h:op= .makeMap t none):RowOp P n op .nmp
 |mlk (t kt et:TypeId) (m k:Operand) (ok:Bool) (q:KK) (z:V) (m' k':Opd) (h:op= .lookup t m k ok) (hu:P.underlying t=some (.map kt et)) (hq:keyK P kt=some q) (hz:Zir P et=some z) (h1:cOpd P n 0 m=some m') (h2:cOpd P n kt k=some k'):RowOp P n op (.mlk q z ok m' k')
 |mup (t kt et:TypeId) (m k x:Operand) (q:KK) (m' k' x':Opd) (h:op= .mapUpdate t m k x \/op= .insert t m k x) (hu:P.underlying t=some (.map kt et)) (hq:keyK P kt=some q) (h1:cOpd P n 0 m=some m') (h2:cOpd P n kt k=some k') (h3:cOpd P n et x=some x'):RowOp P n op (.mup q m' k' x')
 |mln (t kt et:TypeId) (m:Operand) (m':Opd) (cl:Call) (h:op= .call cl) (hcl:cl.callee= .builtin .len) (ha:cl.args= #[m]) (ht:cl.argTypes= #[t]) (hu:P.underlying t=some (.map kt et)) (h1:cOpd P n t m=some m'):RowOp P n op (.mln m')
theorem Zw6 {α:Type}{xs:Array α}{a b:α}(h:xs.toList=[a,b]):xs= #[a,b]:=by cases xs;simp at h;rw[h]
theorem Zw1 {α:Type}{xs:Array α}{a:α}(h:xs.toList=[a]):xs= #[a]:=by cases xs;simp at h;rw[h]
theorem Zkr {P:Program}{R:TypeId->Bool}{n:Nat}{ops:Array Oper}{o:Oper}{x:AOp}(h:cOpR P R n ops o=some x):cOp P n ops o=some x \/RowOp P n o.op x:=by
 unfold cOpR at h
 split at h
 ·rename_i y hop
  split at h
  ·split at h
   ·simp only[Xaa]at h
    obtain⟨sz,_,rfl⟩:=h
    exact .inr (.nro sz (.inl hop))
   ·exact .inl h
  ·exact .inl h
 ·rename_i y hop
  split at h
  ·split at h
   ·simp only[Xaa]at h
    obtain⟨sz,_,rfl⟩:=h
    exact .inr (.nro sz (.inr hop))
   ·exact .inl h
  ·exact .inl h
 ·rename_i f args ts hop
  split at h
  ·simp only[Xaa]at h
   obtain⟨xs,hxs,rfl⟩:=h
   exact .inr (.clo f args ts xs hop hxs)
  ·exact .inl h
 ·rename_i t hop
  split at h
  ·simp only[Xaa]at h
   obtain⟨sz,hsz,rfl⟩:=h
   exact .inr (.nrb sz t hsz hop)
  ·exact .inl h
 ·rename_i t l c hop
  split at h
  ·simp only[Xab]at h
   obtain⟨sz,hsz,h⟩:=h
   split at h
   ·rename_i e hu
    simp only[Xab]at h
    obtain⟨z,hz,h⟩:=h
    split at h
    ·simp only[Xab,Xaa]at h
     obtain⟨l',h1,c',h2,rfl⟩:=h
     exact .inr (.mko t e l c sz z l' c' hop hsz hu hz h1 h2)
    ·cases h
   ·cases h
  ·exact .inl h
 ·rename_i args ts hop
  split at h
  ·rename_i s x t tx ha ht
   split at h
   ·simp only[Xab]at h
    obtain⟨sz,hsz,h⟩:=h
    split at h
    ·rename_i hk
     simp only[Xab,Xaa]at h
     obtain⟨s',h1,x',h2,rfl⟩:=h
     exact .inr (.appo s x t tx sz s' x' _ hop rfl (Zw6 ha) (Zw6 ht) hsz hk h1 h2)
    ·cases h
   ·exact .inl h
  ·cases h
 ·rename_i args ts hop
  split at h
  ·rename_i d s t tx ha ht
   simp only[Xab]at h
   obtain⟨sz,hsz,h⟩:=h
   split at h
   ·rename_i hk
    obtain⟨rfl,hk⟩:=hk
    simp only[Xab,Xaa]at h
    obtain⟨d',h1,s',h2,rfl⟩:=h
    exact .inr (.cpy d s t tx d' s' _ hop rfl (Zw6 ha) (Zw6 ht) hsz hk h1 h2)
   ·cases h
  ·cases h
 ·rename_i args ts hop
  split at h
  ·rename_i d t ha ht
   split at h
   ·rename_i e hu
    simp only[Xab]at h
    obtain⟨z,hz,h⟩:=h
    split at h
    ·rename_i hl
     simp only[Xaa]at h
     obtain⟨d',h1,rfl⟩:=h
     exact .inr (.clr d t e z d' _ hop rfl (Zw1 ha) (Zw1 ht) hu hz hl h1)
    ·cases h
   ·cases h
  ·cases h
 ·rename_i t hop
  simp only[Xac]at h;subst h
  exact .inr (.nmp t hop)
 ·rename_i t m k ok hop
  split at h
  ·rename_i kt et hu
   simp only[Xab,Xaa]at h
   obtain⟨q,hq,z,hz,m',h1,k',h2,rfl⟩:=h
   exact .inr (.mlk t kt et m k ok q z m' k' hop hu hq hz h1 h2)
  ·cases h
 ·rename_i t m k x hop
  split at h
  ·rename_i kt et hu
   simp only[Xab,Xaa]at h
   obtain⟨q,hq,m',h1,k',h2,x',h3,rfl⟩:=h
   exact .inr (.mup t kt et m k x q m' k' x' (.inl hop) hu hq h1 h2 h3)
  ·cases h
 ·rename_i t m k x hop
  split at h
  ·rename_i kt et hu
   simp only[Xab,Xaa]at h
   obtain⟨q,hq,m',h1,k',h2,x',h3,rfl⟩:=h
   exact .inr (.mup t kt et m k x q m' k' x' (.inr hop) hu hq h1 h2 h3)
  ·cases h
 ·rename_i args ts hop
  split at h
  ·rename_i x t ha ht
   split at h
   ·rename_i kt et hu
    simp only[Xaa]at h
    obtain⟨m',h1,rfl⟩:=h
    exact .inr (.mln t kt et x m' _ hop rfl (Zw1 ha) (Zw1 ht) hu h1)
   ·exact .inl h
  ·cases h
 ·exact .inl h
theorem Z1x {sz:Nat}{ys fs:List V}(h:Zj6 sz ys=some fs):(∀y∈ys,y.cells.length=sz/\ ∀c∈y.cells,c.sc=true)/\fs=flat ys:=by
 unfold Zj6 at h
 split at h
 ·rename_i hf
  cases h
  refine⟨fun y hy=> ?_,rfl⟩
  have:=Xal.1 hf y hy
  simp only[Xai,beq_iff_eq]at this
  exact⟨this.1,fun c hc=>Xal.1 this.2 c hc⟩
 ·cases h
theorem Zw8 {sz:Nat}{ys:List V}(h:∀y∈ys,y.cells.length=sz/\ ∀c∈y.cells,c.sc=true):∀c∈flat ys,c.sc=true:=by
 intro c hc
 obtain⟨y,hy,hc⟩:=Xce.1 hc
 exact(h y hy).2 c hc
theorem Zr1 {W:World}{G:Nat->Nat}{φ:Nat->Option Nat}{cs fs:List V}{olds news:List Value}{more:Array Value}(ho:olds.length=cs.length)(hn:news.length=fs.length)(h1:∀(j:Nat) (c:V),cs[j]? =some c-> ∃y,olds[j]? =some y/\Rep W G φ c y)
  (h2:∀(j:Nat) (c:V),fs[j]? =some c-> ∃y,news[j]? =some y/\Rep W G φ c y):RepP W G φ (cs++fs) ((olds++news).toArray++more):=by
 refine⟨by simp;omega,fun i c x hc hx=> ?_⟩
 have hx':(olds++news++more.toList)[i]? =some x:=by rw[<-Xd2]at hx;simpa using hx
 rw[Xaj]at hx'
 rcases Xa4 i cs.length with hlt|hge
 ·rw[Xa3 hlt]at hc
  rw[Xa3 (by omega)]at hx'
  obtain⟨y,h3,h4⟩:=h1 i c hc
  rw[h3]at hx';cases hx';exact h4
 ·rw[Xa2 hge]at hc
  rw[Xa2 (by omega),ho]at hx'
  obtain⟨y,h3,h4⟩:=h2 _ c hc
  have hlt:=(Xae.1 hc).1
  rw[Xa3 (by omega)]at hx'
  rw[h3]at hx';cases hx';exact h4
theorem Zsx (h:SR w B GB g st a W){P:Program}{sz:Nat}{s u v:V}{xs xu:Value}{t tx ty e:TypeId}{ie:TypeInfo}{z:Value}{st':St}
  (ht:P.underlying t=some (.slice e)) (he:P.info? e=some ie) (hz:ie.zero=some z) (hsz:ie.size=sz) (hzs:z.cells.size=sz) (hby:ie.bytes<=4096) (hk:(∃e',P.underlying tx=some (.slice e')) \/P.underlying tx=some .string)
  (hs:Rep W g.G g.φ s xs) (hu:Rep W g.G g.φ u xu) (hv:st.appOb sz s u=some (st',v)):
  ∃y W' g',(Builtin.append_ #[t,tx] ty #[xs,xu]).run P W= .ok y W'/\SR w B GB g' st' a W'/\Rep W' g'.G g'.φ v y:=by
 subst hsz
 unfold St.appOb at hv
 split at hv
 rotate_left
 ·cases hv
 rename_i id len cap s' ys htail
 split at hv
 rotate_left
 ·cases hv
 rename_i cs fs hcs hfs
 split at hv
 rotate_left
 ·cases hv
 rename_i hcond
 obtain⟨rfl,hpos,hlen,hlim⟩:=hcond
 simp only[Xac,Xc3]at hv
 obtain⟨rfl,rfl⟩:=hv
 obtain⟨news,hsrc,hfit,hnl,hnr⟩:=Zt9 (P:=P) h hk hu htail
 obtain⟨_,rfl⟩:=Z1x hfs
 have hfl:(flat ys).length=ys.length*ie.size:=Zcj fun y hy=>(hfit y hy).1
 have hH:st.H id=some (.cells cs):=Zbk hcs
 have hk0:=h.kill id
 have hscs:∀c∈cs.take (len*ie.size)++flat ys,c.sc=true:=fun c hc=>by
  rcases Xay.1 hc with hc|hc
  ·exact(h.ob id _ hH).sc c (Xbn hc)
  ·exact Zw8 hfit c hc
 have htl:(cs.take (len*ie.size)).length=len*ie.size:=by simp;omega
 have hfitsB:∀(l c:Nat),c<l+ys.length->l=len->Builtin.nextslicecap (l+ys.length) c*ie.bytes<=281474976710656:=fun l c h1 h2=>growslice_fits h1 (by
  subst h2
  have:(l+ys.length)*ie.bytes<=4294967296*4096:=Xdz (by unfold Lim at hlim;omega) hby
  omega)
 cases hs with
 |osln _ _ _ p=>
  by_cases hy:ys=[]
  ·subst hy
   have hn0:news=[]:=by simpa using hnl
   subst hn0
   refine⟨.slice p 0 0,W,g, ?_, ?_, ?_⟩
   ·simp only[Xa7]at hsrc
    have h1:=hsrc.len
    have h2:=hsrc.cells
    cases p<;>rcases hk with⟨e',hk⟩|hk<;>simp[Builtin.append_,Zaa ht,Zaa hk,Zah he,h1,h2,storeCells]
   ·have e:cs.take (0*ie.size)++flat []=[]:=by simp[flat]
    rw[e];exact hk0.newNil
   ·exact .osln _ _ _ _
  ·have hpos:0<ys.length:=Xaz.2 hy
   have hrun:=run_append_grow_src (P:=P) W t tx ty e ie z ht he hz p 0 0 [] (by cases p with|none=>exact run_firstCells_none W.drew _ _ _ _|some a0=>exact Zba W.drew _ a0) xu ys.length news hsrc (by omega) (by unfold Lim at hlim;omega) (hfitsB 0 0 (by omega) rfl)
   obtain⟨g',h1,h2⟩:=hk0.newObW (cs:=cs.take (0*ie.size)++flat ys) (Zdg W _) (by simp) (Zf3 W _) (by
    rw[Xfm,Xcn,Xba]
    exact Zr1 (W:=W) (G:=g.G) (φ:=g.φ) (cs:=[]) (fs:=flat ys) (olds:=[]) (news:=news) (more:=Builtin.zeroCells z.cells (grownCap W (0+ys.length) 0 e-(0+ys.length))) rfl (by rw[hnl,hfl]) (fun j c hj=>by simp at hj) hnr) hscs
   have hcapG:=grownCap_ge W (0+ys.length) 0 e
   refine⟨_,_,g',hrun,h1, .osl _ _ _ _ _ _ _ h2 (Xag _) (by omega) ?_⟩
   rw[Xan]
   unfold csz;rw[Zf3]
   simp only[Xff,Xdr,Xba,hnl,size_zeroCells,hzs]
   rw[<-Xca]
   exact Xbv _ (by omega)
 |osl _ _ _ _ _ b cap' hφ hlc hc' hcz=>
  obtain⟨ys0,t0,hblk,hrep,hsc0,_⟩:=(h.ob id _ hH).cells hφ
  have hcb:csz W b=ys0.size:=by unfold csz;rw[hblk]
  have hdead:∀id',g.φ id'=some b->(st.kill id).H id'=none:=fun id' h'=>by
   simp only[St.kill,upd]
   split
   ·rfl
   ·rename_i hne
    cases hH':st.H id' with
    |none=>rfl
    |some o=>exact absurd (h.inj id' id b h' hφ (by rw[hH'];simp) (by rw[hH];simp)) hne
  obtain⟨hG0,how0⟩:=h.live id b hφ
  have hoverall:len*ie.size<=ys0.size:=Xbs hlen hrep.1
  by_cases hroom:len+ys.length<=cap'
  ·have hm1:(len+ys.length)*ie.size<=cap'*ie.size:=Xbv _ hroom
   have hm2:(len+ys.length)*ie.size=len*ie.size+ys.length*ie.size:=Xca _ _ _
   have hrun:=run_append_room_src (P:=P) W t tx ty e ie ht he b 0 len cap' xu ys.length news hsrc hroom
    (fun j hj=>by rw[cell_of_row _ b _ ys0 t0 (0,0) hblk];simp;omega) (fun j hj=>by simp[World.frozen?,hblk])
   obtain⟨s1,s2,s3,s4⟩:=Zdq b news (0+len*ie.size) W
   have hrow:=Zh0 (o:=0+len*ie.size) (vs:=news) hblk (by omega)
   obtain⟨g',h1,h2⟩:=hk0.rebind hφ hdead hG0 how0 hblk hrow (by simp;rw[Zc3 _ _ _ (by simp;omega)];simp) (fun k hk=>Zbs b _ _ _ _ hk) ⟨s1,s2,s3,s4⟩ (cs:=cs.take (len*ie.size)++flat ys) (by
    refine⟨by simp;rw[Zc3 _ _ _ (by simp;omega)];simp;omega,fun i c x hc hx=> ?_⟩
    simp only[Xda]at hx
    rw[Zcr _ _ _ (by simp;omega),Xan]at hx
    rcases Xa4 i (len*ie.size)with hlt|hge
    ·rw[Xa3 (by omega),Xds hlt]at hc
     rw[if_neg (by omega)]at hx
     exact hrep.2 i c x hc (by simpa using hx)
    ·rw[Xa2 (by omega),htl]at hc
     have hli:=(Xae.1 hc).1
     rw[if_pos (by omega)]at hx
     obtain⟨y,h3,h4⟩:=hnr _ c hc
     rw[h3]at hx;cases hx;exact h4) hscs
   refine⟨_,_,g',hrun,h1, .osl _ _ _ _ _ _ _ h2 (Xag _) hroom ?_⟩
   rw[Zfk hblk];exact hcz
  ·have holds:∃olds:List Value,olds.length=len*ie.size/\(∀j u,olds[j]? =some u->W.cell? ((⟨b,0,none⟩:Addr).add j)=some u)/\ ∀(j:Nat) (c:V),(cs.take (len*ie.size))[j]? =some c-> ∃y,olds[j]? =some y/\Rep W g.G g.φ c y:=by
    refine⟨ys0.toList.take (len*ie.size),by simp;omega,fun j u hu=> ?_,fun j c hc=> ?_⟩
    ·have hj:=(Xae.1 hu).1
     simp only[Xbr,Xcb]at hj
     rw[Xds (by omega)]at hu
     rw[Zb9,Xan,cell_of_row _ b _ ys0 t0 (0,0) hblk];simpa using hu
    ·have hj:=(Xae.1 hc).1
     rw[htl]at hj
     rw[Xds hj]at hc
     exact⟨ys0[j]'(by omega),by rw[Xds hj];simp,hrep.2 j c _ hc (Xar (by omega))⟩
   obtain⟨olds,hol,holc,hor⟩:=holds
   have hrun:=run_append_grow_src (P:=P) W t tx ty e ie z ht he hz (some ⟨b,0,none⟩) len cap' olds (run_firstCells_some W.drew ie.size _ _ _ _ olds hol (by simpa using holc)) xu ys.length news hsrc (by omega) (by unfold Lim at hlim;omega) (hfitsB len cap' (by omega) rfl)
   obtain⟨g',h1,h2⟩:=hk0.newObW (cs:=cs.take (len*ie.size)++flat ys) (Zdg W _) (by simp) (Zf3 W _) (by
    exact Zr1 (W:=W) (G:=g.G) (φ:=g.φ) (more:=Builtin.zeroCells z.cells (grownCap W (len+ys.length) cap' e-(len+ys.length))) (by rw[hol,htl]) (by rw[hnl,hfl]) hor hnr) hscs
   have hcapG:=grownCap_ge W (len+ys.length) cap' e
   refine⟨_,_,g',hrun,h1, .osl _ _ _ _ _ _ _ h2 (Xag _) (by omega) ?_⟩
   rw[Xan]
   unfold csz;rw[Zf3]
   simp only[Xff,Xdr,Xaf,hol,hnl,size_zeroCells,hzs]
   rw[<-Xca, <-Xca]
   exact Xbv _ (by omega)
theorem SR.setOb' (h:SR w B GB g st a W){id b off:Nat}{cs ys:List V}{zs:Array Value}(hH:st.H id=some (.cells cs))(hφ:g.φ id=some b)(hle:off+ys.length<=cs.length)
  (hr:RepL W g.G g.φ ys zs) (hsc:∀c∈ys,c.sc=true):SR w B GB g (st.setOb id cs off ys) a (W.setCells b off zs.toList):=by
 refine SR.setObj (own':=(st.setOb id cs off ys).own) h hH hφ hle hr hsc fun p hp2=> .inr ?_
 cases p with
 |slot t=>exact⟨hp2,fun j e=>by cases e⟩
 |cell i' j=>
  simp only[St.setOb]at hp2
  split at hp2
  ·cases hp2
  ·rename_i hne
   refine⟨hp2,fun j' e=> ?_⟩
   simp only[Pos.cell.injEq]at e
   obtain⟨rfl,rfl⟩:=e
   omega
theorem Zq8 {W:World}{G:Nat->Nat}{φ:Nat->Option Nat}{v:V}{x:Value}(h:Rep W G φ v x){n:Nat}{xs:Array Value}(hn:n<=xs.size)(hx:∀(i:Nat) (y:Value),xs[i]? =some y->y=x):RepP W G φ (List.replicate n v) xs:=by
 refine⟨by simpa using hn,fun i c y hc hy=> ?_⟩
 rw[hx i y hy,(Xcq.1 (Xam hc)).2];exact h
theorem Zv4 (h:SR w B GB g st a W){P:Program}{sz:Nat}{zero:List V}{l c v:V}{xl xc:Value}{t e:TypeId}{ie:TypeInfo}{z:Value}{st':St}
  (ht:P.underlying t=some (.slice e)) (he:P.info? e=some ie) (hz:ie.zero=some z) (hsz:ie.size=sz) (hby:ie.bytes<=4096) (hzv:Zee P e=some zero)
  (hl:Rep W g.G g.φ l xl) (hc:Rep W g.G g.φ c xc) (hv:st.mkOb sz zero l c=some (st',v)):
  ∃y W' g',(Instr.makeSlice t xl xc).run P W= .ok y W'/\SR w B GB g' st' a W'/\Rep W' g'.G g'.φ v y:=by
 subst hsz
 unfold St.mkOb at hv
 split at hv
 rotate_left
 ·cases hv
 rename_i kl n kc m
 split at hv
 rotate_left
 ·cases hv
 rename_i zv
 split at hv
 rotate_left
 ·cases hv
 rename_i hcond
 obtain⟨h0,hnm,hlim,hs1,hsc⟩:=hcond
 simp only[Xac,Xc3]at hv
 obtain⟨rfl,rfl⟩:=hv
 cases hl;cases hc
 obtain⟨x,hzc,hrz,_⟩:=Zl2 (W:=W) (G:=g.G) (φ:=g.φ) he hz hzv
 have hbig:(ie.bytes:Int)*m<=281474976710656:=by
  unfold Lim at hlim
  obtain⟨k,rfl⟩:∃k:Nat,m=k:=⟨m.toNat,by omega⟩
  have h1:ie.bytes*k<=4096*4294967296:=Xdz hby (by omega)
  have h2:((ie.bytes*k:Nat):Int)=(ie.bytes:Int)*(k:Int):=Xe3 _ _
  omega
 have hrun:=run_make (P:=P) W t e ie z ht he hz kl kc n m h0 hnm hbig (by unfold Lim at hlim;omega)
 obtain⟨g',h1,h2⟩:=h.newObW (cs:=List.replicate n.toNat zv) (Zb6 W (.cells (madeCells z.cells (m.toNat*ie.size)) e)) (by simp) (heap_alloc_new _ _) (Zq8 hrz (by rw[size_madeCells,hs1];omega) (fun i y hy=>by
  have hi:=(Xa8.1 hy).1
  rw[size_madeCells]at hi
  simp only[madeCells,hzc,Xdr,Xax,Xa7,Xan,Nat.mod_one]at hy
  simp[hi]at hy
  exact hy.symm)) (fun c hc=>by rw[(Xcq.1 hc).2];exact hsc)
 refine⟨_,_,g',hrun,h1, .osl _ _ _ _ _ _ _ h2 (Xag _) (by omega) ?_⟩
 unfold csz;rw[heap_alloc_new]
 simp only[size_madeCells,hs1];omega
theorem Zuu (h:SR w B GB g st a W){P:Program}{d s v:V}{xd xs:Value}{t ts ty e:TypeId}{ie:TypeInfo}{st':St}
  (ht:P.underlying t=some (.slice e)) (he:P.info? e=some ie) (hsz:ie.size=1) (hd:Rep W g.G g.φ d xd) (hs:Rep W g.G g.φ s xs) (hv:st.cpyOb d s=some (st',v)):
  ∃y W',(Builtin.copy_ #[t,ts] ty #[xd,xs]).run P W= .ok y W'/\SR w B GB g st' a W'/\Rep W' g.G g.φ v y:=by
 unfold St.cpyOb at hv
 split at hv
 rotate_left
 ·cases hv
 rename_i id off len cap ys hsrc
 split at hv
 rotate_left
 ·cases hv
 rename_i cs hcs
 split at hv
 rotate_left
 ·cases hv
 rename_i hcond
 obtain⟨hle,hpos⟩:=hcond
 simp only[Xac,Xc3]at hv
 obtain⟨rfl,rfl⟩:=hv
 cases hs<;>simp only[vSrc,reduceCtorEq,Xac]at hsrc
 subst hsrc
 rename_i bs s' hb
 cases hd with
 |osln _ _ _ _=>omega
 |osl _ _ _ _ _ b cap' hφ hlc hc' hcz=>
  have hH:st.H id=some (.cells cs):=Zbk hcs
  obtain⟨ys0,t0,hblk,hrep,hsc0,_⟩:=(h.ob id _ hH).cells hφ
  have hs':s'.size=bs.length:=by rw[<-hb];rfl
  have hel:(encB bs).length=bs.length:=by simp[encB]
  obtain⟨k,hk⟩:∃k,k=Nat.min s'.size len:=⟨_,rfl⟩
  have hk2:k<=bs.length/\k<=len/\(k=bs.length \/k=len):=by
   rw[hk,hs']
   have:=Nat.min_def (m:=len) (n:=bs.length)
   show min bs.length len<=_/\min bs.length len<=_/\(min bs.length len=_ \/min bs.length len=_)
   omega
  have htk:(encB bs).take len=encB (bs.take k):=by
   simp only[encB, <-Xdw]
   congr 1
   rcases hk2.2.2 with e|e
   ·rw[e,Xaw (by omega:bs.length<=len),Xaw (Xag _)]
   ·rw[e]
  have hnews:((s'.extract 0 k).data.map fun b=>Value.int .u8 b.toNat)=((bs.take k).map fun b=>Value.int .u8 (b.toNat:Int)).toArray:=by
   rw[<-hb]
   apply Array.ext'
   simp
  have hrl:RepL W g.G g.φ (encB (bs.take k)) ((bs.take k).map fun b=>Value.int .u8 (b.toNat:Int)).toArray:=by
   refine⟨by simp[encB],fun i c x hc hx=> ?_⟩
   simp only[encB,Xbt,Xaa]at hc
   simp only[Xda,Xbt,Xaa]at hx
   obtain⟨u,hu,rfl⟩:=hc
   obtain⟨u',hu',rfl⟩:=hx
   rw[hu]at hu';cases hu'
   exact .int _ _
  have hle2:off+(encB (bs.take k)).length<=cs.length:=by simp[encB];omega
  have hstore:=run_storeCells_cells (P:=P) b off ((bs.take k).map fun b=>Value.int .u8 (b.toNat:Int)) 0 W (fun j hj=>by
    simp only[Xcf,Xbr]at hj
    rw[cell_of_row _ b _ ys0 t0 (0,0) hblk]
    have:=hrep.1
    simp;omega) (fun j hj=>by simp[World.frozen?,hblk]) (fun y hy=>by
    obtain⟨_,_,rfl⟩:=Xa9.1 hy;rfl)
  rw[Xc5]at hstore
  rw[htk]
  refine⟨.int .i64 (k:Int),_, ?_,h.setOb' hH hφ hle2 hrl (fun c hc=> ?_), ?_⟩
  ·subst hb
   rw[Xdw]at hstore
   simp[Builtin.copy_,Zaa ht,Builtin.lenOf,Zah he,hsz,Builtin.firstCells, <-hk,hstore,goInt]
  ·obtain⟨_,_,rfl⟩:=Xa9.1 hc;rfl
  ·have:(min ((encB bs).length:Int) (len:Int))=(k:Int):=by rw[hel];omega
   rw[this];exact .int _ _
theorem Zuw (h:SR w B GB g st a W){P:Program}{d zv:V}{xd:Value}{t ty e:TypeId}{ie:TypeInfo}{z:Value}{st':St}
  (ht:P.underlying t=some (.slice e)) (he:P.info? e=some ie) (hz:ie.zero=some z) (hzv:Zee P e=some [zv]) (hd:Rep W g.G g.φ d xd) (hv:st.clrOb [zv] d=some st'):
  ∃W',(Builtin.clear_ #[t] ty #[xd]).run P W= .ok undef W'/\SR w B GB g st' a W':=by
 unfold St.clrOb at hv
 split at hv
 rotate_left
 ·cases hv
 rename_i id off len cap z1 hz1
 cases hz1
 split at hv
 rotate_left
 ·cases hv
 rename_i cs hcs
 split at hv
 rotate_left
 ·cases hv
 rename_i hcond
 obtain⟨hle,hpos,hsc⟩:=hcond
 simp only[Xac]at hv
 subst hv
 cases hd with
 |osln _ _ _ _=>omega
 |osl _ _ _ _ _ b cap' hφ hlc hc' hcz=>
  have hH:st.H id=some (.cells cs):=Zbk hcs
  obtain⟨ys0,t0,hblk,hrep,hsc0,_⟩:=(h.ob id _ hH).cells hφ
  obtain⟨x,hzc,hrz,hzs⟩:=Zl2 (W:=W) (G:=g.G) (φ:=g.φ) he hz hzv
  obtain⟨news,hn⟩:∃news,news=Builtin.zeroCells z.cells len:=⟨_,rfl⟩
  have hns:news.size=len:=by rw[hn,size_zeroCells,hzc];simp
  have hnx:∀(i:Nat) (y:Value),news[i]? =some y->y=x:=fun i y hy=>by
   have hi:=(Xa8.1 hy).1
   rw[hns]at hi
   rw[hn]at hy
   simp only[Builtin.zeroCells,hzc,Xdr,Xax,Xa7,Xan,Nat.mod_one,Xcw]at hy
   simp[hi]at hy
   exact hy.symm
  have hrl:RepL W g.G g.φ (List.replicate len zv) news:=⟨by simp[hns],(Zq8 hrz (by omega) hnx).2⟩
  have hstore:=run_storeCells_cells (P:=P) b off news.toList 0 W (fun j hj=>by
    simp only[Xcb]at hj
    rw[cell_of_row _ b _ ys0 t0 (0,0) hblk]
    have:=hrep.1
    simp;omega) (fun j hj=>by simp[World.frozen?,hblk]) (fun y hy=>by
    obtain⟨i,hi⟩:=Xd6 hy
    rw[hnx i y (by simpa using hi)]
    exact hrz.one hzs)
  rw[Xc5]at hstore
  obtain⟨n,rfl⟩:∃n,len=n+1:=⟨len-1,by omega⟩
  refine⟨_, ?_,h.setOb' hH hφ (by simpa using hle) hrl (fun c hc=>by rw[(Xcq.1 hc).2];exact hsc)⟩
  simp[Builtin.clear_,Zaa ht,zeroValue,Zcn he,hz, <-hn,hstore]
  rfl
theorem Znv (hs:Scope cx w B GB)(hΓ:Sound cx Γ)(h:SR w B GB g st a W){n:Nat}(hn:a.tmps.size=n){R:TypeId->Bool}{ops:Array Oper}{o:Oper}{ao:AOper}(hc:cOpR cx.P R n ops o=some ao.op)(hd:ao.dst=o.dst){st':St}
  (he:exec1 Γ cx.gl ao st=some st') {next:Act->World->Prop} {Q:Exit->Act->World->Prop} (hnext:∀g' a' W',SR w B GB g' st' a' W'->a'.tmps.size=n->next a' W'):o.wp cx.P a W next Q:=by
 rcases Zkr hc with hc|hrow
 ·exact Zpe hs hΓ h hn hc hd he hnext
 ·obtain⟨d,op,gd,af⟩:=ao
  simp only at hd hrow;subst hd
  obtain⟨dst,oop,ty,pos,after,guard⟩:=o
  simp only at hrow he hnext⊢
  cases hrow with
  |nro sz hop=>
   simp only[exec1,Xac]at he
   subst he
   refine Za7 (y:= .slice none 0 0) (by rcases hop with rfl|rfl<;>rfl) (hnext g _ _ ((h.newNil).put dst _ false _ (.osln _ _ _ _) (fun _ _ h=>by cases h)) (by rw[Za4];exact hn))
  |clo f args ts xs ho hxs=>
   simp only[exec1,St.doCall,Xaa]at he
   obtain⟨r0,hr0,rfl⟩:=he
   obtain⟨hl,hr⟩:=Zcs h hn hxs
   have hL:RepL W g.G g.φ (xs.map (evO st.tm)) (args.map a.eval):=⟨by simp[hl],fun i c x hc hx=>hr i c x hc (by simpa using hx)⟩
   obtain⟨e1,e2⟩:=Ze4 hs h (hΓ.h _ _ _ _ hr0) hL dst
   refine Zex (f:=f) (xs:=args.map a.eval) ?_ e2 fun y W' ⟨g',hsr⟩=>hnext g' _ _ hsr (by rw[Za4];exact hn)
   simpa[execOp,ho,resolve,Deferred.ofValue,invoke,Act.eval]using e1
  |nrb sz t hsz hop=>
   subst hop
   simp only[exec1,Xac]at he
   subst he
   obtain⟨e',ie,zz,hu',hi,hzz,hzs,hby,his⟩:=Zez hsz
   obtain⟨y,W',g',hrun,hadv,_,_⟩:=Z42 h (P:=cx.P) (sz:=sz) (xs:=[]) (ys:=[]) (q:= .slot 0) hu' hi hzz his (by rw[hzs];exact his) (by simp) rfl (fun i c x hc=>by simp at hc) rfl
   have hrun2:(Instr.buildSlice t 0 #[]).run cx.P W= .ok (.slice (some ⟨W.heap.size,0,none⟩) 0 0) (W.alloc (.cells #[] e')):=by
    simp[Instr.buildSlice,Zaa hu',Zah hi,newRow,Instr.fill]
    congr 2
    apply Array.ext';simp
   have hrun3:(Instr.buildSlice t 0 #[]).run cx.P W= .ok y W':=by simpa using hrun
   rw[hrun2]at hrun3
   simp only[Result.ok.injEq]at hrun3
   obtain⟨rfl,rfl⟩:=hrun3
   have hsr:SR w B GB g' st a (W.alloc (.cells #[] e')):=by have:=h.adv hadv;simpa[St.take]using this
   exact Zay rfl (show(Instr.buildSlice t 0 _).run cx.P W=_ by simpa using hrun2) (hnext g' _ _ ((hsr.newNil).put dst _ false _ (.osln _ _ _ _) (fun _ _ h=>by cases h)) (by rw[Za4];exact hn))
  |mko t e l c sz z l' c' hop hsz hu hz h1 h2=>
   subst hop
   simp only[exec1,Xaa]at he
   obtain⟨⟨s1,v⟩,he,rfl⟩:=he
   obtain⟨e',ie,zz,hu',hi,hzz,hzs,hby,his⟩:=Zez hsz
   rw[hu]at hu';cases hu'
   obtain⟨y,W',g',hrun,hsr,hrep⟩:=Zv4 h hu hi hzz his hby hz (Zaf h hn h1) (Zaf h hn h2) he
   exact Zay rfl hrun (hnext g' _ _ (hsr.put dst v false y hrep (fun _ _ h=>by cases h)) (by rw[Za4];exact hn))
  |appo s x t tx sz s' x' cl hop hcl ha hts hsz hk h1 h2=>
   subst hop
   obtain⟨callee,args,argTypes⟩:=cl
   simp only at hcl ha hts;subst hcl;subst ha;subst hts
   simp only[exec1,Xaa]at he
   obtain⟨⟨s1,v⟩,he,rfl⟩:=he
   obtain⟨e,ie,z,hu,hi,hz,hzs,hby,his⟩:=Zez hsz
   have hk':(∃e',cx.P.underlying tx=some (.slice e')) \/cx.P.underlying tx=some .string:=by
    simp only[Xa5]at hk
    rcases hk with hk|hk
    ·left;unfold isSl at hk;split at hk
     ·rename_i e' he';exact⟨e',he'⟩
     ·simp at hk
    ·right;unfold Zpg at hk;split at hk
     ·assumption
     ·simp at hk
   obtain⟨y,W',g',hrun,hsr,hrep⟩:=Zsx (ty:=ty) h hu hi hz his (by rw[hzs];exact his) hby hk' (Zaf h hn h1) (Zaf h hn h2) he
   refine Za7 ?_ (hnext g' _ _ (hsr.put dst v false y hrep (fun _ _ h=>by cases h)) (by rw[Za4];exact hn))
   simp only[execOp,resolve,invoke,builtin,Sem.run_bind,Sem.run_pure,Result.andThen_ok]
   simp[hrun]
  |cpy dd s t ts d' s' cl hop hcl ha hts hsz hk h1 h2=>
   subst hop
   obtain⟨callee,args,argTypes⟩:=cl
   simp only at hcl ha hts;subst hcl;subst ha;subst hts
   simp only[exec1,Xaa]at he
   obtain⟨⟨s1,v⟩,he,rfl⟩:=he
   obtain⟨e,ie,z,hu,hi,hz,hzs,hby,his⟩:=Zez hsz
   obtain⟨y,W',hrun,hsr,hrep⟩:=Zuu (ts:=ts) (ty:=ty) h hu hi his (Zaf h hn h1) (Zaf h hn h2) he
   refine Za7 ?_ (hnext g _ _ (hsr.put dst v false y hrep (fun _ _ h=>by cases h)) (by rw[Za4];exact hn))
   simp only[execOp,resolve,invoke,builtin,Sem.run_bind,Sem.run_pure,Result.andThen_ok]
   simp[hrun]
  |clr dd t e z d' cl hop hcl ha hts hu hz hl h1=>
   subst hop
   obtain⟨callee,args,argTypes⟩:=cl
   simp only at hcl ha hts;subst hcl;subst ha;subst hts
   simp only[exec1,Xaa]at he
   obtain⟨s1,he,rfl⟩:=he
   match z,hl with
   | [zv],_=>
   have hz0:=hz
   unfold Zee at hz0
   split at hz0
   ·rename_i ie hi
    split at hz0
    ·rename_i zz hzz
     obtain⟨W',hrun,hsr⟩:=Zuw (ty:=ty) h hu hi hzz hz (Zaf h hn h1) he
     refine Za7 ?_ (hnext g _ _ (hsr.putNil dst) (by rw[Za4];exact hn))
     simp only[execOp,resolve,invoke,builtin,Sem.run_bind,Sem.run_pure,Result.andThen_ok]
     simp[hrun]
    ·cases hz0
   ·cases hz0
  |nmp t hop=>
   subst hop
   simp only[exec1,Xac]at he
   subst he
   obtain⟨g',h1,h2⟩:=h.newMpW
   have hrun:(Instr.makeMap t none).run cx.P W= .ok (.map (some W.heap.size)) (W.alloc (.map #[] 0)):=by
    simp[Instr.makeMap]
   exact Zay rfl hrun (hnext g' _ _ (h1.put dst (.map st.nH) false _ (.map _ _ h2) (fun _ _ h=>by cases h)) (by rw[Za4];exact hn))
  |mlk t kt et m k ok q z m' k' hop hu hq hz h1 h2=>
   subst hop
   simp only[exec1,Xaa,Zbr]at he
   obtain⟨r,hr,rfl⟩:=he
   obtain⟨v,hv,rfl⟩:=Zao hr
   obtain⟨y,hrun,hrep⟩:=Z2q h hu hq hz (Zaf h hn h1) (Zaf h hn h2) hv
   exact Zay rfl hrun (hnext g _ _ ((by simpa[St.take]using h:SR w B GB g (st.take none) a W).put dst v false y hrep (fun _ _ h=>by cases h)) (by rw[Za4];exact hn))
  |mup t kt et m k x q m' k' x' hop hu hq h1 h2 h3=>
   simp only[exec1,Xaa]at he
   obtain⟨s1,he,rfl⟩:=he
   obtain⟨W',hrun,hsr⟩:=Z0v h hu hq (Zaf h hn h1) (Zaf h hn h2) (Zaf h hn h3) he
   refine Zr8 (W':=W') ?_ (hnext g _ _ (hsr.putNil dst) (by rw[Za4];exact hn))
   rcases hop with rfl|rfl<;>simp[execOp,hrun]
  |mln t kt et m m' cl hop hcl ha hts hu h1=>
   subst hop
   obtain⟨callee,args,argTypes⟩:=cl
   simp only at hcl ha hts;subst hcl;subst ha;subst hts
   simp only[exec1,Xaa,Zbr]at he
   obtain⟨r,hr,rfl⟩:=he
   obtain⟨v,hv,rfl⟩:=Zao hr
   obtain⟨y,hrun,hrep⟩:=Z2m (ty:=ty) h hu (Zaf h hn h1) hv
   refine Za7 ?_ (hnext g _ _ ((by simpa[St.take]using h:SR w B GB g (st.take none) a W).put dst v false y hrep (fun _ _ h=>by cases h)) (by rw[Za4];exact hn))
   simp only[execOp,resolve,invoke,builtin,Sem.run_bind,Sem.run_pure,Result.andThen_ok]
   simp[hrun]
end Go.Abs
namespace Go.Abs
open Go.RowKit
def Zz1 (n:Nat)(ops:Array Oper):Option (Nat×Bool)->Option (Option (Nat×Bool))
 |none=>some none
 |some (j,wt)=>match(ops[j]?).bind (·.dst)with
  |some s=>if s<n then some (some (s,wt))else none
  |none=>none
def Zgy (o:Oper):List Nat:=(o.after.toList.filter (Region.binds .any)).map (·.on)
def Zgb (P:Program)(R:TypeId->Bool)(n:Nat)(ops:Array Oper)(o:Oper):Option AOper:=
 (cOpR P R n ops o).bind fun ao=>(Zz1 n ops o.guard).map fun gd=>⟨o.dst,ao,gd,Zgy o⟩
def Zfe (P:Program)(R:TypeId->Bool)(n:Nat)(ops:Array Oper):List Oper->Option (List AOper)
 | []=>some []
 |o::r=>(Zgb P R n ops o).bind fun a=>(Zfe P R n ops r).map (a:: ·)
variable {cx:Cx}{w:World}{B:Nat->Prop}{GB:Gh}{g:Gh}{st:St}{a:Act}{W:World}{Γ:Spec}{R:TypeId->Bool}
theorem Zcx {P:Program}{R:TypeId->Bool}{n:Nat}{ops:Array Oper}:∀{os:List Oper} {aos:List AOper},Zfe P R n ops os=some aos->aos.length=os.length/\ ∀(i:Nat) (o:Oper),os[i]? =some o-> ∃x,aos[i]? =some x/\Zgb P R n ops o=some x
 | [],aos,h=>by simp[Zfe]at h;subst h;exact⟨rfl,fun i o hi=>by simp at hi⟩
 |o::r,aos,h=>by
  simp only[Zfe,Xab,Xaa]at h
  obtain⟨x,h1,xs,h2,rfl⟩:=h
  obtain⟨h3,h4⟩:=Zcx h2
  refine⟨by simp[h3],fun i o' hi=> ?_⟩
  cases i with
  |zero=>simp at hi;subst hi;exact⟨x,rfl,h1⟩
  |succ i=>simpa using h4 i o' (by simpa using hi)
theorem Zre (h:SR w B GB g st a W){n:Nat}(hn:a.tmps.size=n){ops:Array Oper}{o:Oper}{x:AOper}(hc:Zgb cx.P R n ops o=some x):Region.wanted o (yielded ops a.tmps)=st.wants x:=by
 simp only[Zgb,Xab,Xaa]at hc
 obtain⟨ao,_,gd,hg,rfl⟩:=hc
 unfold Zz1 at hg
 unfold Region.wanted St.wants
 split at hg
 ·rename_i he
  simp only[Xac]at hg;subst hg
  rw[he]
 ·rename_i j wt he
  rw[he]
  split at hg
  ·rename_i s hs
   split at hg
   ·rename_i hlt
    simp only[Xac]at hg;subst hg
    simp only[yielded,hs,Xak]
    obtain⟨y,hx⟩:∃y,a.tmps[s]? =some y:=⟨_,Xar (show s<a.tmps.size by rw[hn];exact hlt)⟩
    have hr:=h.tm s _ hx
    rw[hx]
    generalize st.tm s=v at hr
    cases hr<;>simp
   ·simp at hg
  ·simp at hg
theorem Zel (hs:Scope cx w B GB)(hΓ:Sound cx Γ)(h:SR w B GB g st a W){n:Nat}(hn:a.tmps.size=n){ops:Array Oper}{i:Nat}{o:Oper}{x:AOper}(ho:ops[i]? =some o)(hc:Zgb cx.P R n ops o=some x){st':St}
  (he:exec Γ cx.gl x st=some st') {K:Act->World->Prop} {Q:Exit->Act->World->Prop} (hnext:∀g' a' W',SR w B GB g' st' a' W'->a'.tmps.size=n->K a' W'):wpOp cx.P ops Q i K a W:=by
 unfold wpOp
 simp only[ho]
 have hw:=Zre h hn hc
 have hc':=hc
 simp only[Zgb,Xab,Xaa]at hc'
 obtain⟨ao,h1,gd,_,rfl⟩:=hc'
 rw[hw]
 unfold exec at he
 split at he
 ·rename_i hwt
  rw[if_pos hwt]
  exact .inl (Znv hs hΓ h hn (ao:=⟨o.dst,ao,gd,Zgy o⟩) h1 rfl he hnext)
 ·rename_i hwt
  rw[if_neg hwt]
  simp only[Xac]at he
  subst he
  exact hnext g _ _ (h.putNil o.dst) (by rw[Za4];exact hn)
theorem Zph (hs:Scope cx w B GB)(hΓ:Sound cx Γ){n:Nat}{ops:Array Oper}{aos:List AOper}(hc:Zfe cx.P R n ops ops.toList=some aos){Q:Exit->Act->World->Prop}{st':St}
  (hnext:∀g' a' W',SR w B GB g' st' a' W'->a'.tmps.size=n->Q .normal a' W'):∀(m k:Nat) (g:Gh) (st:St) (a:Act) (W:World),k+m=ops.size->SR w B GB g st a W->a.tmps.size=n->execs Γ cx.gl (aos.drop k) st=some st'->
  wpOps cx.P ops Q (List.range' k m) a W:=by
 obtain⟨hl,hget⟩:=Zcx hc
 intro m
 induction m with
 |zero=>
  intro k g st a W hk h hn he
  have:aos.drop k=[]:=Xav (by rw[hl];simp;omega)
  rw[this]at he
  simp only[execs,Xac]at he
  subst he
  exact hnext g a W h hn
 |succ m ih=>
  intro k g st a W hk h hn he
  have hlt:k<ops.size:=by omega
  obtain⟨x,hx,hcx⟩:=hget k ops[k] (by simp[hlt])
  have hxl:k<aos.length:=(Xae.1 hx).1
  have hd:aos.drop k=x::aos.drop (k+1):=by
   rw[Xap hxl]
   congr 1
   have:=Xad hxl
   rw[hx]at this;exact(Option.some.inj this).symm
  rw[hd]at he
  simp only[execs]at he
  split at he
  ·rename_i st1 he1
   rw[Xd8,wpOps_cons]
   exact Zel hs hΓ h hn (Xar hlt) hcx he1 fun g' a' W' h' hn'=>ih (k+1) g' st1 a' W' (by omega) h' hn' he
  ·simp at he
def opdR :Opd->List Nat
 | .tmp t=> [t]
 | .const _=> []
def Z2f (xs:List Opd):List Nat:=xs.flatMap opdR
def optR :Option Opd->List Nat
 |some x=>opdR x
 |none=> []
def AOp.reads :AOp->List Nat
 | .mv x| .ext x _| .un _ x| .len _ x| .faddr _ x| .load _ x| .ldp _ x| .ldo x| .fld _ _ x| .s2b x| .b2s x| .i2i _ x| .s2s x| .s2a _ x| .nilck x| .box x=>opdR x
 | .mvo t=> [t]
 | .pick c x y=>opdR c++opdR x++opdR y
 | .bin _ _ x y| .mnx _ x y| .iaddr _ x y| .iarr _ _ x y| .idx x y| .idxa _ _ _ x y| .app _ x y| .mks _ _ x y=>opdR x++opdR y
 | .sls x lo hi=>opdR x++optR lo++optR hi
 | .slc _ x lo hi mx| .slca _ _ x lo hi mx=>opdR x++optR lo++optR hi++optR mx
 | .build _ ps=>ps.flatMap fun p=>opdR p.2.2
 | .bsl _ xs| .call _ xs| .mkf _ xs| .mkm _ xs| .callh _ xs=>Z2f xs
 | .callv f xs| .callvh f xs=>opdR f++Z2f xs
 | .new _| .nro _| .nmp=> []
 | .mlk _ _ _ x y=>opdR x++opdR y
 | .mup _ x y z=>opdR x++opdR y++opdR z
 | .mln x=>opdR x
 | .mko _ _ x y| .appo _ x y| .cpy x y=>opdR x++opdR y
 | .clr _ x=>opdR x
 | .store _ x y=>opdR x++opdR y
 | .sto x t=>opdR x++ [t]
def AOp.owns :AOp->List Nat
 | .mvo t=> [t]
 | .app _ x _=>opdR x
 |_=> []
def AOp.isLdo :AOp->Bool
 | .ldo _=>true
 |_=>false
def AOp.isNew :AOp->Bool
 | .new _| .box _=>true
 |_=>false
def AOp.isStore :AOp->Bool
 | .store _ _ _| .sto _ _| .callh _ _| .callvh _ _| .nro _| .mko _ _ _ _| .appo _ _ _| .cpy _ _| .clr _ _| .nmp| .mup _ _ _ _=>true
 |_=>false
theorem Zax {tm tm':Nat->V}{x:Opd}(h:∀t∈opdR x,tm t=tm' t):evO tm x=evO tm' x:=by
 cases x with
 |tmp t=>exact h t (by simp[opdR])
 |const v=>rfl
theorem Zdt {tm tm':Nat->V}{xs:List Opd}(h:∀t∈Z2f xs,tm t=tm' t):xs.map (evO tm)=xs.map (evO tm'):=by
 apply Xec
 intro x hx
 exact Zax fun t ht=>h t (Xce.2 ⟨x,hx,ht⟩)
theorem Zcm {tm tm':Nat->V}{x:Option Opd}(h:∀t∈optR x,tm t=tm' t):x.map (evO tm)=x.map (evO tm'):=by
 cases x with
 |none=>rfl
 |some x=>simp only[Xas];rw[Zax h]
theorem Zpo {gl:Nat->Option (List V)}{H:Hp}{own own':Pos->Bool}{tm tm':Nat->V}{ao:AOp}(h:∀t∈ao.reads,tm t=tm' t)(ho:∀t∈ao.owns,own (.slot t)=own' (.slot t))(hl:ao.isLdo=true-> ∀id j,own (.cell id j)=own' (.cell id j)):
  Zbr Γ gl H own tm ao=Zbr Γ gl H own' tm' ao:=by
 cases ao<;>simp only[AOp.reads,AOp.owns,AOp.isLdo]at h ho hl<;>simp only[Zbr]
 case mv x=>rw[Zax h]
 case mvo t=>rw[h t (by simp),ho t (by simp)]
 case pick c x y=>
  rw[Zax fun t ht=>h t (by simp[ht]),Zax (x:=x) fun t ht=>h t (by simp[ht]),Zax (x:=y) fun t ht=>h t (by simp[ht])]
 case build z ps=>
  congr 3
  apply Xec
  intro p hp
  rw[Zax fun t ht=>h t (Xce.2 ⟨p,hp,ht⟩)]
 case bsl sz xs=>rw[Zdt h]
 case call f xs=>rw[Zdt h]
 case mkf f xs=>rw[Zdt h]
 case mkm f xs=>rw[Zdt h]
 case callv f xs=>rw[Zax fun t ht=>h t (Xbo _ ht),Zdt fun t ht=>h t (Xbb _ ht)]
 case sls x lo hi=>
  rw[Zax (x:=x) fun t ht=>h t (by simp[ht]),Zcm (x:=lo) fun t ht=>h t (by simp[ht]),Zcm (x:=hi) fun t ht=>h t (by simp[ht])]
 case slc sz x lo hi mx=>
  rw[Zax (x:=x) fun t ht=>h t (by simp[ht]),Zcm (x:=lo) fun t ht=>h t (by simp[ht]),Zcm (x:=hi) fun t ht=>h t (by simp[ht]),Zcm (x:=mx) fun t ht=>h t (by simp[ht])]
 case slca n sz x lo hi mx=>
  rw[Zax (x:=x) fun t ht=>h t (by simp[ht]),Zcm (x:=lo) fun t ht=>h t (by simp[ht]),Zcm (x:=hi) fun t ht=>h t (by simp[ht]),Zcm (x:=mx) fun t ht=>h t (by simp[ht])]
 case ldo x=>
  rw[Zax h]
  cases evO tm' x<;>simp only[vLdo]
  rename_i id o
  rw[hl trivial id o]
 case app sz s x=>
  rw[Zax (x:=s) fun t ht=>h t (by simp[ht]),Zax (x:=x) fun t ht=>h t (by simp[ht])]
  congr 1
  cases s with
  |tmp t=>exact ho t (by simp[opdR])
  |const v=>rfl
 all_goals first
  |rw[Zax h]
  |rw[Zax (fun t ht=>h t (Xbo _ ht)),Zax (fun t ht=>h t (Xbb _ ht))]
  |rfl
end Go.Abs
namespace Go.Abs
open Go.RowKit
variable {cx:Cx}{w:World}{B:Nat->Prop}{GB:Gh}{g:Gh}{st:St}{a:Act}{W:World}{Γ:Spec}
structure Ud where
 d:Option Nat
 v:V
 o:Bool
 tk:Option Pos
 nw:Option (List V)
def Ud.app (u:Ud)(st:St):St:=
 match u.nw with
 |none=>(st.take u.tk).put u.d u.v u.o
 |some cs=>(st.new cs).put u.d (.ptr st.nH 0) false
def udOf (Γ:Spec)(gl:Nat->Option (List V))(x:AOper)(st:St):Option Ud:=
 if st.wants x then
  match x.op with
  | .new cs=>some ⟨x.dst,Nil,false,none,some cs⟩
  | .box y=>if(st.ev y).cells.all V.sc then some ⟨x.dst,Nil,false,none,some (st.ev y).cells⟩else none
  |op=>(Zbr Γ gl st.H st.own st.tm op).map fun r=>⟨x.dst,r.v,r.o,r.tk,none⟩
 else some ⟨x.dst,Nil,false,none,none⟩
theorem Zdv {gl:Nat->Option (List V)}{x:AOper}{st:St}{u:Ud}(hns:x.op.isStore=false)(h:udOf Γ gl x st=some u):exec Γ gl x st=some (u.app st):=by
 unfold udOf at h
 unfold exec
 split at h
 ·rename_i hw
  rw[if_pos hw]
  obtain⟨d,op,gd,af⟩:=x
  cases op<;>simp only[AOp.isStore,Bool.true_eq_false]at hns<;>simp only at h
  case new cs=>simp only[Xac]at h;subst h;rfl
  case box y=>
   split at h
   ·rename_i hall
    simp only[Xac]at h;subst h
    simp only[exec1,hall,if_true];rfl
   ·simp at h
  all_goals
   simp only[Xaa]at h
   obtain⟨r,hr,rfl⟩:=h
   simp only[exec1,hr,Xas]
   rfl
 ·rename_i hw
  rw[if_neg hw]
  simp only[Xac]at h;subst h;rfl
theorem Zf1 {gl:Nat->Option (List V)}{x:AOper}{st st':St}(hns:x.op.isStore=false)(h:exec Γ gl x st=some st'):∃u,udOf Γ gl x st=some u/\st'=u.app st:=by
 unfold exec at h
 unfold udOf
 split at h
 ·rename_i hw
  rw[if_pos hw]
  obtain⟨d,op,gd,af⟩:=x
  cases op<;>simp only[AOp.isStore,Bool.true_eq_false]at hns<;>simp only[exec1]at h
  case new cs=>simp only[Xac]at h;subst h;exact⟨_,rfl,rfl⟩
  case box y=>
   split at h
   ·rename_i hall
    simp only[Xac]at h;subst h
    exact⟨⟨d,Nil,false,none,some (st.ev y).cells⟩,by simp only[hall,if_true],rfl⟩
   ·simp at h
  all_goals
   simp only[Xaa]at h
   obtain⟨r,hr,rfl⟩:=h
   exact⟨⟨d,r.v,r.o,r.tk,none⟩,by simp only[hr,Xas],rfl⟩
 ·rename_i hw
  rw[if_neg hw]
  simp only[Xac]at h;subst h
  exact⟨_,rfl,rfl⟩
theorem ud_d {gl:Nat->Option (List V)}{x:AOper}{st:St}{u:Ud}(h:udOf Γ gl x st=some u):u.d=x.dst:=by
 unfold udOf at h
 split at h
 ·split at h
  ·simp only[Xac]at h;subst h;rfl
  ·split at h
   ·simp only[Xac]at h;subst h;rfl
   ·simp at h
  ·simp only[Xaa]at h;obtain⟨r,_,rfl⟩:=h;rfl
 ·simp only[Xac]at h;subst h;rfl
theorem Zjn {gl:Nat->Option (List V)}{x:AOper}{st:St}{u:Ud}(h:udOf Γ gl x st=some u):u.tk=none \/(∃t,u.tk=some (.slot t)/\t∈x.op.owns) \/(x.op.isLdo=true/\ ∃id j,u.tk=some (.cell id j)):=by
 unfold udOf at h
 split at h
 ·rename_i hw
  obtain⟨d,op,gd,af⟩:=x
  cases op<;>simp only at h
  case new cs=>simp only[Xac]at h;subst h;exact .inl rfl
  case box y=>
   split at h
   ·simp only[Xac]at h;subst h;exact .inl rfl
   ·simp at h
  all_goals
   simp only[Xaa]at h
   obtain⟨r,hr,rfl⟩:=h
   simp only[Zbr]at hr
  case mvo t=>simp only[Xac]at hr;subst hr;exact .inr (.inl ⟨t,rfl,by simp[AOp.owns]⟩)
  case ldo x=>
   unfold vLdo at hr
   split at hr
   ·simp only[Xab,Xaa]at hr
    obtain⟨_,_,_,_,rfl⟩:=hr
    exact .inr (.inr ⟨rfl,_,_,rfl⟩)
   ·simp at hr
  case app sz s x=>
   unfold vApp at hr
   split at hr
   ·split at hr
    ·simp only[Xac]at hr;subst hr;exact .inl rfl
    ·simp at hr
   ·split at hr
    ·simp only[Xac]at hr;subst hr
     cases s with
     |tmp t=>exact .inr (.inl ⟨t,rfl,by simp[AOp.owns,opdR]⟩)
     |const v=>exact .inl rfl
    ·simp at hr
   ·simp at hr
  case slc sz x lo hi mx=>
   unfold vSlc at hr
   split at hr
   ·split at hr
    ·simp only[Xaa]at hr;obtain⟨_,_,rfl⟩:=hr;exact .inl rfl
    ·simp at hr
   ·split at hr
    ·simp only[Xaa]at hr;obtain⟨_,_,rfl⟩:=hr;exact .inl rfl
    ·simp at hr
   ·simp at hr
  case bsl sz xs=>split at hr<;>simp at hr;subst hr;exact .inl rfl
  case s2b x=>unfold vS2b at hr;split at hr<;>simp at hr;subst hr;exact .inl rfl
  case mks sz z x y=>
   unfold vMk at hr
   split at hr
   rotate_left
   ·unfold vMkz at hr
    repeat' (first|(split at hr)|(simp only[Xac]at hr;subst hr;exact .inl rfl)|(cases hr))
   unfold vMks at hr
   split at hr
   ·split at hr
    ·simp only[Xac]at hr;subst hr;exact .inl rfl
    ·simp at hr
   ·simp at hr
  case call f xs=>
   unfold Zj4 at hr
   split at hr
   ·cases hr
   split at hr
   ·simp only[Xab]at hr;obtain⟨_,_,_,_,_,_,_,_,hr⟩:=hr
    split at hr
    ·cases hr;exact .inl rfl
    ·cases hr
   ·simp only[Xaa]at hr;obtain⟨_,_,rfl⟩:=hr;exact .inl rfl
  case callv f xs=>
   unfold Zos at hr
   split at hr
   ·simp only[Xaa]at hr;obtain⟨_,_,rfl⟩:=hr;exact .inl rfl
   ·simp at hr
  case mv x=>simp only[Xac]at hr;subst hr;exact .inl rfl
  case mkf f xs=>simp only[Xac]at hr;subst hr;exact .inl rfl
  case mkm f xs=>simp only[Xac]at hr;subst hr;exact .inl rfl
  all_goals first
   |(obtain⟨_,_,rfl⟩:=Zao hr;exact .inl rfl)
   |simp at hr
 ·simp only[Xac]at h;subst h;exact .inl rfl
theorem St.ext' {s t:St}(h1:s.tm=t.tm)(h2:s.own=t.own)(h3:s.H=t.H)(h4:s.nH=t.nH):s=t:=by cases s;cases t;simp_all
def Ud.val (u:Ud)(st:St):V:=match u.nw with|none=>u.v|some _=> .ptr st.nH 0
def Ud.flag (u:Ud):Bool:=match u.nw with|none=>u.o|some _=>false
def Ud.took (u:Ud):Option Pos:=match u.nw with|none=>u.tk|some _=>none
theorem Zgd (u:Ud)(st:St)(t:Nat):(u.app st).tm t=if u.d=some t then u.val st else st.tm t:=by
 obtain⟨d,v,o,tk,nw⟩:=u
 cases nw<;>cases d<;>simp[Ud.app,Ud.val,St.put,upd,St.new,eq_comm]
def Zeb (id:Nat):Pos->Bool
 | .cell i _=>i==id
 | .slot _=>false
theorem Zd2 (u:Ud)(st:St)(p:Pos):(u.app st).own p=if u.d.map Pos.slot=some p then u.flag else if u.took=some p then false else if u.nw.isSome=true/\Zeb st.nH p=true then false else st.own p:=by
 obtain⟨d,v,o,tk,nw⟩:=u
 have h1:∀d:Nat,(Option.map Pos.slot (some d)=some p)<->p= .slot d:=fun d=>by simp[eq_comm (a:=p)]
 have h2:∀q:Pos,(some q=some p)<->p=q:=fun q=>by simp[eq_comm (a:=p)]
 have h3:(Option.map Pos.slot (none:Option Nat)=some p)<->False:=by simp
 have h4:((none:Option Pos)=some p)<->False:=by simp
 cases nw with
 |none=>
  cases d with
  |none=>
   cases tk with
   |none=>simp[Ud.app,Ud.took,St.put,St.take]
   |some q=>simp only[Ud.app,Ud.took,St.put,St.take,updP,h2,h3,if_false];simp
  |some d=>
   cases tk with
   |none=>simp only[Ud.app,Ud.took,Ud.flag,St.put,St.take,updP,h1,h4,if_false];simp
   |some q=>simp only[Ud.app,Ud.took,Ud.flag,St.put,St.take,updP,h1,h2];simp
 |some cs=>
  cases d with
  |none=>cases p<;>simp[Ud.app,Ud.took,St.put,St.new,Zeb]
  |some d=>
   simp only[Ud.app,Ud.took,Ud.flag,St.put,St.new,updP,h1,h4,if_false]
   cases p<;>simp[Zeb]
theorem Zjj (u:Ud)(st:St):(u.app st).H=(match u.nw with|none=>st.H|some cs=>upd st.H st.nH (some (.cells cs)))/\(u.app st).nH=st.nH+(if u.nw.isSome then 1 else 0):=by
 obtain⟨d,v,o,tk,nw⟩:=u
 cases nw<;>cases d<;>simp[Ud.app,St.put,St.new]
def Zcb :Option Pos->Bool
 |some (.cell _ _)=>true
 |_=>false
structure Apart (u v:Ud):Prop where
 d:∀t,u.d=some t->v.d≠some t
 tu:∀t,u.tk=some (.slot t)->v.d≠some t/\v.tk≠some (.slot t)
 tv:∀t,v.tk=some (.slot t)->u.d≠some t/\u.tk≠some (.slot t)
 c: ¬(Zcb u.tk=true/\Zcb v.tk=true)
 n: ¬(u.nw.isSome=true/\v.nw.isSome=true)
 nu:u.nw.isSome=true->Zcb v.tk=false
 nv:v.nw.isSome=true->Zcb u.tk=false
theorem Ud.took_slot {u:Ud}{t:Nat}(h:u.took=some (.slot t)):u.tk=some (.slot t):=by
 unfold Ud.took at h;split at h
 ·exact h
 ·cases h
theorem Ud.took_cell {u:Ud}{id j:Nat}(h:u.took=some (.cell id j)):Zcb u.tk=true/\u.nw=none:=by
 unfold Ud.took at h;split at h
 ·rename_i e;rw[h];exact⟨rfl,e⟩
 ·cases h
theorem Zlf {u v:Ud}(h:Apart u v)(st:St):u.app (v.app st)=v.app (u.app st):=by
 obtain⟨hu1,hu2⟩:=Zjj u st
 obtain⟨hv1,hv2⟩:=Zjj v st
 obtain⟨huv1,huv2⟩:=Zjj u (v.app st)
 obtain⟨hvu1,hvu2⟩:=Zjj v (u.app st)
 have hn:u.nw=none \/v.nw=none:=by
  cases hu:u.nw with
  |none=>exact .inl rfl
  |some a=>cases hv:v.nw with
   |none=>exact .inr rfl
   |some b=>exact absurd ⟨by simp[hu],by simp[hv]⟩ h.n
 have valu:u.val (v.app st)=u.val st:=by
  unfold Ud.val
  rcases hn with e|e
  ·rw[e]
  ·rw[hv2,e];rfl
 have valv:v.val (u.app st)=v.val st:=by
  unfold Ud.val
  rcases hn with e|e
  ·rw[hu2,e];rfl
  ·rw[e]
 apply St.ext'
 ·funext t
  rw[Zgd,Zgd,Zgd,Zgd,valu,valv]
  by_cases e1:u.d=some t
  ·rw[if_pos e1,if_neg (h.d t e1),if_pos e1]
  ·rw[if_neg e1,if_neg e1]
 ·funext p
  rw[Zd2,Zd2,Zd2,Zd2]
  cases p with
  |slot t=>
   have e:∀x:Option Nat,(x.map Pos.slot=some (.slot t))<->x=some t:=by intro x;cases x<;>simp
   simp only[e,Zeb,Xat,and_false,if_false]
   by_cases c1:u.d=some t
   ·have c2:=h.d t c1
    have c3:v.took≠some (.slot t):=fun e=>(h.tv t (Ud.took_slot e)).1 c1
    simp[c1,c2,c3]
   ·by_cases c2:v.d=some t
    ·have c3:u.took≠some (.slot t):=fun e=>(h.tu t (Ud.took_slot e)).1 c2
     simp[c1,c2,c3]
    ·simp only[c1,c2,if_false]
     by_cases c3:u.took=some (.slot t)<;>by_cases c4:v.took=some (.slot t)<;>simp[c3,c4]
  |cell id j=>
   have e:∀x:Option Nat,(x.map Pos.slot=some (Pos.cell id j))<->False:=by intro x;cases x<;>simp
   simp only[e,if_false]
   have c2:∀(x:Ud) (s s':St),x.nw=none->((x.nw.isSome=true/\Zeb s.nH (.cell id j)=true)<->False):=fun x s s' hx=>by simp[hx]
   rcases hn with hu|hv
   ·have hnH:(u.app st).nH=st.nH:=by rw[hu2,hu];simp
    rw[hnH]
    simp only[hu,Xb5,Xat,false_and,if_false]
    by_cases c3:u.took=some (.cell id j)
    ·by_cases c4:v.took=some (.cell id j)
     ·simp[c3,c4]
     ·simp only[c3,c4,if_true,if_false]
      by_cases c5:v.nw.isSome=true/\Zeb st.nH (.cell id j)=true
      ·exact absurd (Ud.took_cell c3).1 (by rw[h.nv c5.1];simp)
      ·simp[c5]
    ·simp only[c3,if_false]
   ·have hnH:(v.app st).nH=st.nH:=by rw[hv2,hv];simp
    rw[hnH]
    simp only[hv,Xb5,Xat,false_and,if_false]
    by_cases c3:v.took=some (.cell id j)
    ·by_cases c4:u.took=some (.cell id j)
     ·simp[c3,c4]
     ·simp only[c3,c4,if_true,if_false]
      by_cases c5:u.nw.isSome=true/\Zeb st.nH (.cell id j)=true
      ·exact absurd (Ud.took_cell c3).1 (by rw[h.nu c5.1];simp)
      ·simp[c5]
    ·simp only[c3,if_false]
 ·rw[huv1,hvu1]
  rcases hn with hu|hv
  ·rw[hu];simp only;rw[hv1];rw[hu1,hu2,hu];simp
  ·rw[hv];simp only;rw[hu1];rw[hv1,hv2,hv];simp
 ·rw[huv2,hvu2,hu2,hv2];omega
end Go.Abs
namespace Go.Abs
open Go.RowKit
variable {cx:Cx}{w:World}{B:Nat->Prop}{GB:Gh}{g:Gh}{st:St}{a:Act}{W:World}{Γ:Spec}
def Zco :V->Option Nat
 | .ptr id _=>some id
 | .osl id _ len _ _=>if len=0 then none else some id
 | .map id=>some id
 |_=>none
def AOp.hOpds :AOp->List Opd
 | .load _ x| .ldo x| .b2s x| .app _ _ x| .slca _ _ x _ _ _| .mlk _ _ _ x _| .mln x=> [x]
 | .call _ xs=>xs
 |_=> []
def Zip (n:Nat):Opd->Bool
 | .tmp t=>decide (t<n)
 | .const v=>(Zco v).isNone
theorem Zcl {H H':Hp}{id:Nat}(h:H id=H' id):Zat H id=Zat H' id:=by unfold Zat;rw[h]
theorem Zjs {H H':Hp}{m:V}(h:∀id,Zco m=some id->H id=H' id):Zjh H m=Zjh H' m:=by
 cases m<;>simp only[Zjh]
 rename_i id
 unfold hMap
 rw[h id rfl]
theorem Zk9 {H:Hp}{m:V}{l:List (V×V)}(h:Zjh H m=some l):∀id,Zco m=some id->(H id).isSome=true:=by
 intro id hid
 cases m<;>simp only[Zjh,reduceCtorEq]at h
 ·rename_i i
  simp only[Zco,Xac]at hid
  subst hid
  unfold hMap at h
  split at h
  ·rename_i e;rw[e];rfl
  ·cases h
 ·cases hid
theorem Zo7 {nl:Bool}{H H':Hp}{v:V}(h:∀id,Zco v=some id->H id=H' id):Zgc nl H v=Zgc nl H' v:=by
 unfold Zgc
 split
 ·rename_i id off len cap sz
  by_cases h0:len=0
  ·rw[if_pos h0,if_pos h0]
  ·rw[Zcl (h id (by simp[Zco,h0]))]
 ·rfl
theorem Zgj {nl:Bool}{H H':Hp}:∀{vs:List V},(∀v∈vs, ∀id,Zco v=some id->H id=H' id)->Zg8 nl H vs=Zg8 nl H' vs
 | [],_=>rfl
 |v::vs,h=>by
  simp only[Zg8]
  rw[Zo7 (h v (by simp)),Zgj fun x hx=>h x (by simp[hx])]
theorem Z1u {gl:Nat->Option (List V)}{H H':Hp}{own:Pos->Bool}{tm:Nat->V}{ao:AOp}(h:∀x∈ao.hOpds, ∀id,Zco (evO tm x)=some id->H id=H' id):Zbr Γ gl H own tm ao=Zbr Γ gl H' own tm ao:=by
 cases ao<;>simp only[Zbr]<;>simp only[AOp.hOpds,Xa1,forall_eq]at h
 case load n x=>
  cases hx:evO tm x<;>simp only[Zfr]
  rename_i id o
  rw[Zcl (h id (by rw[hx];rfl))]
 case ldo x=>
  cases hx:evO tm x<;>simp only[vLdo]
  rename_i id o
  rw[Zcl (h id (by rw[hx];rfl))]
 case b2s x=>
  have:vB2s H (evO tm x)=vB2s H' (evO tm x):=by
   unfold vB2s
   split
   ·rfl
   ·rename_i i o l c hx
    split
    ·rfl
    ·rename_i h0
     rw[Zcl (h i (by rw[hx];simp[Zco,h0]))]
   ·rfl
  rw[this]
 case mlk ks z ok x y=>
  have:vMlk H ks z ok (evO tm x) (evO tm y)=vMlk H' ks z ok (evO tm x) (evO tm y):=by unfold vMlk;rw[Zjs h]
  rw[this]
 case mln x=>
  have:vMln H (evO tm x)=vMln H' (evO tm x):=by unfold vMln;rw[Zjs h]
  rw[this]
 case slca n sz x lo hi mx=>
  have:Zi6 H n sz (evO tm x) (lo.map (evO tm)) (hi.map (evO tm)) (mx.map (evO tm))=Zi6 H' n sz (evO tm x) (lo.map (evO tm)) (hi.map (evO tm)) (mx.map (evO tm)):=by
   unfold Zi6
   split
   ·rename_i hx
    rw[Zcl (h _ (by rw[hx];rfl))]
   ·rfl
  rw[this]
 case call f xs=>
  unfold Zj4
  rw[Zgj (nl:=true) (H:=H) (H':=H') fun v hv id hid=>by
   obtain⟨x,hx,rfl⟩:=Xa9.1 hv
   exact h x hx id hid,Zgj (nl:=false) (H:=H) (H':=H') fun v hv id hid=>by
   obtain⟨x,hx,rfl⟩:=Xa9.1 hv
   exact h x hx id hid]
 case app sz s x=>
  have:Zb2 H sz (evO tm x)=Zb2 H' sz (evO tm x):=by
   cases hx:evO tm x<;>simp only[Zb2]
   rename_i id o l c s
   by_cases h0:l=0
   ·simp[h0]
   ·rw[Zcl (h id (by rw[hx];simp[Zco,h0]))]
  unfold vApp
  rw[this]
theorem Zsf {nl:Bool}{H:Hp}{v u:V}(h:Zgc nl H v=some u)(hp:v.isPtrV=false):∀id,Zco v=some id->(H id).isSome=true:=by
 have hc:∀{id cs},Zat H id=some cs->(H id).isSome=true:=fun h=>by rw[Zbk h];rfl
 intro id hid
 cases v<;>simp only[Zco,reduceCtorEq,Xac]at hid
 ·split at hid
  ·cases hid
  ·rename_i h0
   simp only[Xac]at hid;subst hid
   simp only[Zgc,if_neg h0,Xab]at h
   obtain⟨cs,hcs,_⟩:=h
   exact hc hcs
 ·simp[V.isPtrV]at hp
 ·simp[V.isPtrV]at hp
theorem Zka {nl:Bool}{H:Hp}:∀{vs us:List V},Zg8 nl H vs=some us->vs.any V.isPtrV=false-> ∀v∈vs, ∀id,Zco v=some id->(H id).isSome=true
 | [],_,_,_,v,hv=>by cases hv
 |v::vs,us,h,hp,x,hx=>by
  simp only[Zg8,Xab,Xaa]at h
  obtain⟨u,h1,us',h2,rfl⟩:=h
  simp only[Xex,Xbj]at hp
  rcases Xa0.1 hx with rfl|hx
  ·exact Zsf h1 hp.1
  ·exact Zka h2 hp.2 x hx
theorem Zsk {gl:Nat->Option (List V)}{H:Hp}{own:Pos->Bool}{tm:Nat->V}{ao:AOp}{r:Res}(h:Zbr Γ gl H own tm ao=some r):∀x∈ao.hOpds, ∀id,Zco (evO tm x)=some id->(H id).isSome=true:=by
 have hc:∀{id cs},Zat H id=some cs->(H id).isSome=true:=fun h=>by rw[Zbk h];rfl
 cases ao<;>simp only[AOp.hOpds,Xa1,forall_eq,Xdi,false_implies,implies_true]<;>intro i hid
 case load n x=>
  replace h:=Zao (show resV (Zfr gl H n (evO tm x))=some r from h);obtain⟨v,h,rfl⟩:=h
  generalize evO tm x=u at h hid
  cases u<;>simp only[Zco,Xac,reduceCtorEq]at hid
  ·simp[Zfr]at h
  ·subst hid;simp only[Zfr,Xab]at h;obtain⟨cs,hcs,_⟩:=h;exact hc hcs
  ·simp[Zfr]at h
 case ldo x=>
  replace h:vLdo H own (evO tm x)=some r:=h
  generalize evO tm x=u at h hid
  cases u<;>simp only[Zco,Xac,reduceCtorEq]at hid
  ·simp[vLdo]at h
  ·subst hid;simp only[vLdo,Xab]at h;obtain⟨cs,hcs,_⟩:=h;exact hc hcs
  ·simp[vLdo]at h
 case b2s x=>
  replace h:=Zao (show resV (vB2s H (evO tm x))=some r from h);obtain⟨v,h,rfl⟩:=h
  generalize evO tm x=u at h hid
  unfold vB2s at h
  split at h
  ·simp[Zco]at hid
  ·simp only[Zco]at hid
   split at hid
   ·cases hid
   ·rename_i h0
    rw[if_neg h0]at h
    simp only[Xac]at hid
    subst hid
    simp only[Xab]at h;obtain⟨cs,hcs,_⟩:=h;exact hc hcs
  ·simp at h
 case app sz s x=>
  replace h:vApp H (ownO own s) sz (posO s) (evO tm s) (evO tm x)=some r:=h
  have ht:∃ys,Zb2 H sz (evO tm x)=some ys:=by
   unfold vApp at h
   split at h
   ·rename_i e;exact⟨_,e⟩
   ·rename_i e;exact⟨_,e⟩
   ·simp at h
  obtain⟨ys,ht⟩:=ht
  generalize evO tm x=u at ht hid
  cases u<;>simp only[Zco,Xac,reduceCtorEq]at hid
  ·split at hid
   ·cases hid
   ·rename_i h0
    simp only[Xac]at hid
    subst hid
    simp only[Zb2,if_neg h0]at ht
    split at ht
    ·simp only[Xab]at ht;obtain⟨cs,hcs,_⟩:=ht;exact hc hcs
    ·simp at ht
  ·simp[Zb2]at ht
  ·simp[Zb2]at ht
 case mlk ks z ok x y=>
  replace h:=Zao (show resV (vMlk H ks z ok (evO tm x) (evO tm y))=some r from h);obtain⟨v,h,rfl⟩:=h
  unfold vMlk at h
  simp only[Xab]at h
  obtain⟨l,hl,_⟩:=h
  exact Zk9 hl i hid
 case mln x=>
  replace h:=Zao (show resV (vMln H (evO tm x))=some r from h);obtain⟨v,h,rfl⟩:=h
  unfold vMln at h
  simp only[Xaa]at h
  obtain⟨l,hl,_⟩:=h
  exact Zk9 hl i hid
 case slca n sz x lo hi mx=>
  replace h:=Zao (show resV (Zi6 H n sz (evO tm x) (lo.map (evO tm)) (hi.map (evO tm)) (mx.map (evO tm)))=some r from h);obtain⟨v,h,rfl⟩:=h
  unfold Zi6 at h
  split at h
  ·rename_i hx
   rw[hx]at hid
   simp only[Zco,Xac]at hid
   subst hid
   simp only[Xab]at h;obtain⟨cs,hcs,_⟩:=h;exact hc hcs
  ·cases h
 case call f xs=>
  replace h:Zj4 Γ H f (xs.map (evO tm))=some r:=h
  intro id hx
  unfold Zj4 at h
  split at h
  ·cases h
  rename_i hp
  have hp':(xs.map (evO tm)).any V.isPtrV=false:=by simpa using hp
  split at h
  ·simp only[Xab]at h
   obtain⟨l,hl,_⟩:=h
   exact Zka hl hp' _ (Xdf hid) id hx
  ·rename_i ho
   exfalso
   have h1:=Xcz.1 hp' _ (Xdf hid)
   have ho':(xs.map (evO tm)).any V.isOsl=false:=by simpa using ho
   have h2:=Xcz.1 ho' _ (Xdf hid)
   generalize evO tm i=u at hx h1 h2
   cases u<;>simp[Zco,V.isPtrV,V.isOsl]at hx h1 h2
theorem SR.ref (h:SR w B GB g st a W){n:Nat}(hn:a.tmps.size=n){x:Opd}(hx:Zip n x=true){id:Nat}(hid:Zco (evO st.tm x)=some id):id<st.nH:=by
 cases x with
 |const v=>simp only[Zip,Xfe]at hx;simp only[evO]at hid;rw[hx]at hid;cases hid
 |tmp t=>
  have hr:=h.get (t:=t) (by rw[hn];simpa[Zip]using hx)
  simp only[evO]at hid
  generalize st.tm t=v at hr hid
  generalize a.eval (.tmp t)=y at hr
  cases hr<;>simp only[Zco,Xac,reduceCtorEq,if_true]at hid
  ·split at hid
   ·cases hid
   ·simp only[Xac]at hid;subst hid;exact(h.φ _ _ (by assumption)).2.2
  ·subst hid;exact(h.φ _ _ (by assumption)).2.2
  ·subst hid;exact(h.φ _ _ (by assumption)).2.2
def Zaj (U:Nat->Ud)(S:Nat->Bool)(s0:St):Nat->St
 |0=>s0
 |n+1=>if S n then(U n).app (Zaj U S s0 n)else Zaj U S s0 n
section
variable {U:Nat->Ud}{S S':Nat->Bool}{s0:St}{m:Nat}
def Zhz (U:Nat->Ud)(m:Nat):Prop:=∀k k',k<m->k'<m->(U k).nw.isSome=true->(U k').nw.isSome=true->k=k'
theorem Zbn :∀{n:Nat},(∀k,k<n->S k=true->(U k).nw=none)->(Zaj U S s0 n).H=s0.H/\(Zaj U S s0 n).nH=s0.nH
 |0,_=>⟨rfl,rfl⟩
 |n+1,h=>by
  obtain⟨h1,h2⟩:=Zbn (n:=n) fun k hk=>h k (by omega)
  simp only[Zaj]
  split
  ·rename_i hs
   obtain⟨e1,e2⟩:=Zjj (U n) (Zaj U S s0 n)
   have:=h n (by omega) hs
   rw[e1,e2,this];exact⟨h1,by simpa using h2⟩
  ·exact⟨h1,h2⟩
theorem Zdm (ho:Zhz U m){k:Nat}{cs:List V}(hk:(U k).nw=some cs)(hs:S k=true):∀{n:Nat},k<n->n<=m->(Zaj U S s0 n).H=upd s0.H s0.nH (some (.cells cs))/\(Zaj U S s0 n).nH=s0.nH+1
 |0,h,_=>by omega
 |n+1,h,hm=>by
  simp only[Zaj]
  by_cases hn:k=n
  ·subst hn
   rw[if_pos hs]
   obtain⟨h1,h2⟩:=Zbn (U:=U) (S:=S) (s0:=s0) (n:=k) fun j hj _=>by
    cases hj':(U j).nw with
    |none=>rfl
    |some x=>have:=ho j k (by omega) (by omega) (by rw[hj'];rfl) (by rw[hk];rfl);omega
   obtain⟨e1,e2⟩:=Zjj (U k) (Zaj U S s0 k)
   rw[e1,e2,hk];simp[h1,h2]
  ·obtain⟨h1,h2⟩:=Zdm ho hk hs (n:=n) (by omega) (by omega)
   split
   ·have hnn:(U n).nw=none:=by
     cases hj':(U n).nw with
     |none=>rfl
     |some x=>exact absurd (ho k n (by omega) (by omega) (by rw[hk];rfl) (by rw[hj'];rfl)) hn
    obtain⟨e1,e2⟩:=Zjj (U n) (Zaj U S s0 n)
    rw[e1,e2,hnn];exact⟨h1,by simpa using h2⟩
   ·exact⟨h1,h2⟩
theorem Zia (ho:Zhz U m){n:Nat}(hn:n<m)(hnw:(U n).nw.isSome=true):(Zaj U S s0 n).nH=s0.nH:=
 (Zbn fun k hk _=>by
  cases hj':(U k).nw with
  |none=>rfl
  |some x=>have:=ho k n (by omega) hn (by rw[hj'];rfl) hnw;omega).2
theorem Zfw (ho:Zhz U m){t:Nat}:∀{n:Nat},n<=m->(∀k,k<n->(U k).d=some t->S k=S' k)->(Zaj U S s0 n).tm t=(Zaj U S' s0 n).tm t
 |0,_,_=>rfl
 |n+1,hm,h=>by
  have ih:=Zfw ho (n:=n) (by omega) fun k hk=>h k (by omega)
  have hval:(U n).val (Zaj U S s0 n)=(U n).val (Zaj U S' s0 n):=by
   unfold Ud.val
   split
   ·rfl
   ·rename_i cs hcs
    rw[Zia ho (by omega) (by rw[hcs];rfl),Zia ho (by omega) (by rw[hcs];rfl)]
  simp only[Zaj]
  by_cases hd:(U n).d=some t
  ·rw[h n (by omega) hd]
   split
   ·rw[Zgd,Zgd,if_pos hd,if_pos hd,hval]
   ·exact ih
  ·have e1:∀s:St,((U n).app s).tm t=s.tm t:=fun s=>by rw[Zgd,if_neg hd]
   split<;>split<;>(try simp only[e1])<;>exact ih
def Zbx (u:Ud):Pos->Bool
 | .slot t=>u.d==some t||u.tk==some (.slot t)
 | .cell _ _=>Zcb u.tk||u.nw.isSome
theorem Ziu {u:Ud}{p:Pos}(h:Zbx u p=false)(s:St):(u.app s).own p=s.own p:=by
 rw[Zd2]
 cases p with
 |slot t=>
  simp only[Zbx,Xbj,beq_eq_false_iff_ne,ne_eq]at h
  have h1: ¬(u.d.map Pos.slot=some (.slot t)):=fun e=>h.1 (by cases hd:u.d<;>rw[hd]at e<;>simp at e;rw[e])
  have h2: ¬(u.took=some (.slot t)):=fun e=>h.2 (Ud.took_slot e)
  simp[h1,h2,Zeb]
 |cell id j=>
  simp only[Zbx,Xbj]at h
  have h1: ¬(u.d.map Pos.slot=some (Pos.cell id j)):=fun e=>by cases hd:u.d<;>rw[hd]at e<;>simp at e
  have h2: ¬(u.took=some (.cell id j)):=fun e=>by have:=(Ud.took_cell e).1;rw[h.1]at this;cases this
  simp[h1,h2,h.2]
theorem Zcq (ho:Zhz U m){p:Pos}:∀{n:Nat},n<=m->(∀k,k<n->Zbx (U k) p=true->S k=S' k)->(Zaj U S s0 n).own p=(Zaj U S' s0 n).own p
 |0,_,_=>rfl
 |n+1,hm,h=>by
  have ih:=Zcq ho (n:=n) (by omega) fun k hk=>h k (by omega)
  simp only[Zaj]
  cases ht:Zbx (U n) p with
  |false=>
   split<;>split<;>(try simp only[Ziu ht])<;>exact ih
  |true=>
   rw[h n (by omega) ht]
   split
   ·rw[Zd2,Zd2,ih]
    by_cases hnw:(U n).nw.isSome=true
    ·rw[Zia ho (by omega) hnw,Zia ho (by omega) hnw]
    ·simp[hnw]
   ·exact ih
theorem Zg4 {i:Nat}:∀{n:Nat},i<=n->Zaj U (fun k=>decide (k<i)) s0 n=Zaj U (fun _=>true) s0 i
 |0,h=>by have:i=0:=by omega
          subst this;rfl
 |n+1,h=>by
  by_cases hi:i=n+1
  ·subst hi
   have:∀j,j<=n+1->Zaj U (fun k=>decide (k<n+1)) s0 j=Zaj U (fun _=>true) s0 j:=by
    intro j
    induction j with
    |zero=>intro _;rfl
    |succ j ih=>intro hj;simp only[Zaj,show decide (j<n+1)=true by simp;omega,if_true,ih (by omega)]
   exact this _ (Xag _)
  ·simp only[Zaj,show decide (n<i)=false by simp;omega,Xat,if_false]
   exact Zg4 (by omega)
theorem Zbg :∀{n:Nat},(∀k,k<n->S k=S' k)->Zaj U S s0 n=Zaj U S' s0 n
 |0,_=>rfl
 |n+1,h=>by simp only[Zaj,h n (by omega),Zbg (n:=n) fun k hk=>h k (by omega)]
theorem Zda {i:Nat}(hi:S i=false)(hS':∀k,S' k=(S k||k==i)):∀{n:Nat},i<n->(∀k,i<k->k<n->S k=true->Apart (U k) (U i))->Zaj U S' s0 n=(U i).app (Zaj U S s0 n)
 |0,h,_=>by omega
 |n+1,h,hap=>by
  by_cases hn:i=n
  ·subst hn
   simp only[Zaj,hS',hi,beq_self_eq_true,Xfn,if_true,Xat,if_false]
   rw[Zbg (S:=S') (S':=S) fun k hk=>by rw[hS'];simp;omega]
  ·have hne:(n==i)=false:=by simp;omega
   have ih:=Zda hi hS' (n:=n) (by omega) fun k h1 h2=>hap k h1 (by omega)
   simp only[Zaj,hS',hne,Xcv]
   split
   ·rename_i hs
    rw[ih,Zlf (hap n (by omega) (by omega) hs)]
   ·exact ih
end
def AOper.rd (x:AOper):List Nat:=x.op.reads++(match x.guard with|some (t,_)=> [t]|none=> [])
def AOper.ws (x:AOper):List Nat:=x.dst.toList
def Zl3 (l m:List Nat):Bool:=l.any fun t=>m.contains t
def Za0 (x y:AOper):Bool:=
 Zl3 x.ws (y.rd++y.ws++y.op.owns)||Zl3 y.ws (x.rd++x.op.owns)||Zl3 x.op.owns y.op.owns||
 (x.op.isLdo&&y.op.isLdo)||(x.op.isNew&&y.op.isNew)||(x.op.isNew&&y.op.isLdo)||(x.op.isLdo&&y.op.isNew)
def dd :List Nat->List Nat
 | []=> []
 |a::r=>match r.any (Nat.beq a)with|true=>dd r|false=>a::dd r
def ancs :List AOper->List (List Nat)->List (List Nat)
 | [],acc=>acc
 |x::r,acc=>ancs r (acc++ [dd (x.after++x.after.flatMap fun e=>acc.getD e [])])
def Zzq (n:Nat)(aos:List AOper)(m:Nat):Bool:=
 let an:=ancs aos []
 let N:=aos.length
 (List.range N).all fun i=>
  let x:=aos.getD i default
  let ai:=an.getD i []
  x.after.all (fun e=>decide (e<i))&&
  ai.all (fun j=>x.after.contains j||x.after.any fun e=>(an.getD e []).contains j)&&
  (if i<m then !x.op.isStore&&x.op.hOpds.all (Zip n)&&
    (List.range i).all fun j=>(ai.contains j|| !Za0 (aos.getD j default) x)&& !(x.op.isNew&&(aos.getD j default).op.isNew)
   else(List.range i).all fun j=>ai.contains j)
end Go.Abs
namespace Go.Abs
open Go.RowKit
variable {cx:Cx}{w:World}{B:Nat->Prop}{GB:Gh}{g:Gh}{st:St}{a:Act}{W:World}{Γ:Spec}{R:TypeId->Bool}
theorem Zau {l m:List Nat}(h:Zl3 l m=false){t:Nat}(hl:t∈l):t∉m:=by
 intro hm
 have:=Xcz.1 h t hl
 simp[hm]at this
theorem Zig {gl:Nat->Option (List V)}{x y:AOper}{s s':St}{u v:Ud}(hu:udOf Γ gl x s=some u)(hv:udOf Γ gl y s'=some v)(hc:Za0 x y=false)(hnu:u.nw.isSome=true->x.op.isNew=true)(hnv:v.nw.isSome=true->y.op.isNew=true):Apart u v:=by
 simp only[Za0,Xbj]at hc
 obtain⟨⟨⟨⟨⟨⟨c1,c2⟩,c3⟩,c4⟩,c5⟩,c6⟩,c7⟩:=hc
 have du:=ud_d hu
 have dv:=ud_d hv
 have tu:=Zjn hu
 have tv:=Zjn hv
 have mem:∀{z:AOper} {t:Nat},z.dst=some t->t∈z.ws:=fun h=>by simp[AOper.ws,h]
 have cellu:Zcb u.tk=true->x.op.isLdo=true:=fun h=>by
  rcases tu with e|⟨t,e,_⟩|⟨e,_⟩
  ·rw[e]at h;cases h
  ·rw[e]at h;cases h
  ·exact e
 have cellv:Zcb v.tk=true->y.op.isLdo=true:=fun h=>by
  rcases tv with e|⟨t,e,_⟩|⟨e,_⟩
  ·rw[e]at h;cases h
  ·rw[e]at h;cases h
  ·exact e
 have slotu:∀t,u.tk=some (.slot t)->t∈x.op.owns:=fun t h=>by
  rcases tu with e|⟨t',e,h'⟩|⟨_,id,j,e⟩
  ·rw[e]at h;cases h
  ·rw[e]at h;cases h;exact h'
  ·rw[e]at h;cases h
 have slotv:∀t,v.tk=some (.slot t)->t∈y.op.owns:=fun t h=>by
  rcases tv with e|⟨t',e,h'⟩|⟨_,id,j,e⟩
  ·rw[e]at h;cases h
  ·rw[e]at h;cases h;exact h'
  ·rw[e]at h;cases h
 refine⟨fun t h1 h2=> ?_,fun t h=>⟨fun h2=> ?_,fun h2=> ?_⟩,fun t h=>⟨fun h2=> ?_,fun h2=> ?_⟩,fun⟨h1,h2⟩=> ?_,fun⟨h1,h2⟩=> ?_,fun h=> ?_,fun h=> ?_⟩
 ·rw[du]at h1;rw[dv]at h2
  exact Zau c1 (mem h1) (by simp[mem h2])
 ·rw[dv]at h2
  exact Zau c2 (mem h2) (by simp[slotu t h])
 ·exact Zau c3 (slotu t h) (slotv t h2)
 ·rw[du]at h2
  exact Zau c1 (mem h2) (by simp[slotv t h])
 ·exact Zau c3 (slotu t h2) (slotv t h)
 ·rw[cellu h1,cellv h2]at c4;cases c4
 ·rw[hnu h1,hnv h2]at c5;cases c5
 ·cases hh:Zcb v.tk with
  |false=>rfl
  |true=>rw[hnu h,cellv hh]at c6;cases c6
 ·cases hh:Zcb u.tk with
  |false=>rfl
  |true=>rw[hnv h,cellu hh]at c7;cases c7
theorem Zds {x y:AOper}(h:Za0 x y=false):Za0 y x=false:=by
 simp only[Za0,Xbj]at h⊢
 obtain⟨⟨⟨⟨⟨⟨c1,c2⟩,c3⟩,c4⟩,c5⟩,c6⟩,c7⟩:=h
 have m1:∀{l m:List Nat},(∀t∈l,t∉m)->Zl3 l m=false:=fun h=>Xcz.2 fun t ht=>by simpa using h t ht
 refine⟨⟨⟨⟨⟨⟨m1 fun t ht hm=> ?_,m1 fun t ht hm=> ?_⟩,m1 fun t ht hm=>Zau c3 hm ht⟩,by rw[Xey];exact c4⟩,by rw[Xey];exact c5⟩,by rw[Xey];exact c7⟩,by rw[Xey];exact c6⟩
 ·simp only[Xaj,Xay]at hm
  rcases hm with hm|hm|hm
  ·exact Zau c2 ht (by simp[hm])
  ·exact Zau c1 hm (by simp[ht])
  ·exact Zau c2 ht (by simp[hm])
 ·simp only[Xay]at hm
  rcases hm with hm|hm
  ·exact Zau c1 ht (by simp[hm])
  ·exact Zau c1 ht (by simp[hm])
theorem Zcf {gl:Nat->Option (List V)}{x:AOper}{s:St}{u:Ud}(h:udOf Γ gl x s=some u)(hn:u.nw.isSome=true):x.op.isNew=true:=by
 unfold udOf at h
 split at h
 ·split at h
  ·rename_i e;simp[AOp.isNew,e]
  ·rename_i e;simp[AOp.isNew,e]
  ·simp only[Xaa]at h;obtain⟨r,_,rfl⟩:=h;simp at hn
 ·simp only[Xac]at h;subst h;simp at hn
theorem Zf7 {gl:Nat->Option (List V)}{x:AOper}{s s':St}{u:Ud}(hns:x.op.isStore=false)(h:udOf Γ gl x s=some u)(htm:∀t∈x.rd,s'.tm t=s.tm t)(how:∀t∈x.op.owns,s'.own (.slot t)=s.own (.slot t))
  (hl:x.op.isLdo=true-> ∀id j,s'.own (.cell id j)=s.own (.cell id j))
  (hH:∀y∈x.op.hOpds, ∀id,Zco (evO s.tm y)=some id->(s.H id).isSome=true->s'.H id=s.H id):udOf Γ gl x s'=some u:=by
 have hr:∀t∈x.op.reads,s'.tm t=s.tm t:=fun t ht=>htm t (by simp[AOper.rd,ht])
 have hw:s'.wants x=s.wants x:=by
  unfold St.wants
  split
  ·rfl
  ·rename_i t wt e
   rw[htm t (by simp[AOper.rd,e])]
 unfold udOf at h⊢
 rw[hw]
 split at h
 ·rename_i hwt
  rw[if_pos hwt]
  split at h
  ·exact h
  ·rename_i y e
   rw[e]at hr
   have:s'.ev y=s.ev y:=Zax fun t ht=>hr t (by simp[AOp.reads,ht])
   rw[this];exact h
  ·rename_i op h1 h2
   simp only[Xaa]at h
   obtain⟨r,hr0,rfl⟩:=h
   have hsome:=Zsk hr0
   have e:Zbr Γ gl s'.H s'.own s'.tm x.op=some r:=by
    rw[<-hr0, <-Zpo (Γ:=Γ) (gl:=gl) (H:=s'.H) (own:=s.own) (own':=s'.own) (tm:=s.tm) (tm':=s'.tm) (ao:=x.op) (fun t ht=>(hr t ht).symm) (fun t ht=>(how t ht).symm) (fun hx id j=>(hl hx id j).symm)]
    exact Z1u fun y hy id hid=>hH y hy id hid (hsome y hy id hid)
   rw[e];rfl
 ·rename_i hwt
  rw[if_neg hwt];exact h
theorem Zb8 {α:Type} [Inhabited α]{l:List α}{i:Nat}{x:α}(h:l[i]? =some x):l.getD i default=x:=by simp[List.getD,h]
theorem Zsm (hs:Scope cx w B GB)(hΓ:Sound cx Γ){n:Nat}{ops:Array Oper}{aos:List AOper}(hc:Zfe cx.P R n ops ops.toList=some aos){m:Nat}(hm:m<=aos.length)(hok:Zzq n aos m=true)(h:SR w B GB g st a W)(hn:a.tmps.size=n)
  {st':St} (he:execs Γ cx.gl aos st=some st') {Q:Exit->Act->World->Prop} (hnext:∀g' a' W',SR w B GB g' st' a' W'->a'.tmps.size=n->Q .normal a' W'):
  wpAny cx.P .any ops Q ops.size (Array.replicate ops.size false) a W:=by
 obtain⟨hl,hget⟩:=Zcx hc
 simp only[Xcb]at hl
 have hget':∀i,i<ops.size-> ∃(o:Oper) (x:AOper),ops[i]? =some o/\aos[i]? =some x/\Zgb cx.P R n ops o=some x:=fun i hi=>by
  obtain⟨x,h1,h2⟩:=hget i ops[i] (by simp[hi])
  exact⟨ops[i],x,Xar hi,h1,h2⟩
 --the states of the text's order
 obtain⟨s,hs0,hsn,hstep⟩:∃s:Nat->St,s 0=st/\s aos.length=st'/\ ∀(i:Nat) (x:AOper),aos[i]? =some x->exec Γ cx.gl x (s i)=some (s (i+1)):=by
  have key:∀(l:List AOper) (s0 s1:St),execs Γ cx.gl l s0=some s1-> ∃s:Nat->St,s 0=s0/\s l.length=s1/\ ∀(i:Nat) (x:AOper),l[i]? =some x->exec Γ cx.gl x (s i)=some (s (i+1)):=by
   intro l
   induction l with
   |nil=>intro s0 s1 h;simp only[execs,Xac]at h;subst h;exact⟨fun _=>s0,rfl,rfl,fun i x h=>by simp at h⟩
   |cons x r ih=>
    intro s0 s1 h
    simp only[execs]at h
    split at h
    ·rename_i s2 h2
     obtain⟨s,h3,h4,h5⟩:=ih s2 s1 h
     refine⟨fun i=>if i=0 then s0 else s (i-1),by simp,by simp[h4],fun i y hy=> ?_⟩
     cases i with
     |zero=>simp at hy;subst hy;simp[h3,h2]
     |succ i=>have:=h5 i y (by simpa using hy);simpa using this
    ·simp at h
  exact key aos st st' he
 --what the check says
 have hchk:∀i,i<aos.length-> ∀x,aos[i]? =some x->(∀e∈x.after,e<i)/\(∀j∈(ancs aos []).getD i [],j∈x.after \/ ∃e∈x.after,j∈(ancs aos []).getD e [])/\
   (i<m->x.op.isStore=false/\(∀y∈x.op.hOpds,Zip n y=true)/\ ∀j,j<i-> ∀y,aos[j]? =some y->(j∈(ancs aos []).getD i [] \/Za0 y x=false)/\ ¬(x.op.isNew=true/\y.op.isNew=true))/\
   (m<=i-> ∀j,j<i->j∈(ancs aos []).getD i []):=by
  intro i hi x hx
  have:=Xal.1 hok i (Xbi.2 hi)
  simp only[Zb8 hx,Xai,Xal,decide_eq_true_eq,Xa5,Xdj,Xbf]at this
  obtain⟨⟨h1,h2⟩,h3⟩:=this
  refine⟨h1,h2,fun hlt=> ?_,fun hge=> ?_⟩
  ·rw[if_pos hlt]at h3
   simp only[Xai,Xal,Xbi,Xa5,Xbf,Xbh,Xdn]at h3
   obtain⟨⟨h3,h4⟩,h5⟩:=h3
   refine⟨h3,h4,fun j hj y hy=> ?_⟩
   obtain⟨h6,h7⟩:=h5 j hj
   rw[Zb8 hy]at h6 h7
   exact⟨h6,fun⟨e1,e2⟩=>by rcases h7 with h7|h7<;>simp_all⟩
  ·rw[if_neg (by omega)]at h3
   simp only[Xal,Xbi,Xbf]at h3
   exact h3
 have hud:∀i, ∃u:Ud,i<m-> ∃x,aos[i]? =some x/\udOf Γ cx.gl x (s i)=some u/\s (i+1)=u.app (s i):=by
  intro i
  by_cases hi:i<m
  ·have hx:=Xad (show i<aos.length by omega)
   obtain⟨u,h1,h2⟩:=Zf1 ((hchk i (by omega) _ hx).2.2.1 hi).1 (hstep i _ hx)
   exact⟨u,fun _=>⟨_,hx,h1,h2⟩⟩
  ·exact⟨⟨none,Nil,false,none,none⟩,fun h=>absurd h hi⟩
 obtain⟨U,hU⟩:=Classical.axiomOfChoice hud
 have hfold:∀i,i<=m->Zaj U (fun _=>true) st i=s i:=by
  intro i
  induction i with
  |zero=>intro _;exact hs0.symm
  |succ i ih=>
   intro hi
   obtain⟨x,_,_,h3⟩:=hU i (by omega)
   simp only[Zaj,if_true,ih (by omega),h3]
 have hone:Zhz U m:=by
  intro k k' hk hk' h1 h2
  obtain⟨x,hx,hux,_⟩:=hU k hk
  obtain⟨y,hy,huy,_⟩:=hU k' hk'
  have n1:=Zcf hux h1
  have n2:=Zcf huy h2
  rcases Xbx k k' with hlt|heq|hgt
  ·exact absurd ⟨n2,n1⟩ (((hchk k' (by omega) y hy).2.2.1 hk').2.2 k hlt x hx).2
  ·exact heq
  ·exact absurd ⟨n1,n2⟩ (((hchk k (by omega) x hx).2.2.1 hk).2.2 k' hgt y hy).2
 --one more operation of the unordered part
 have step1:∀(S:Nat->Bool) (i:Nat),i<m->S i=false->(∀k,S k=true->k<m)->(∀k,S k=true-> ∀j∈(ancs aos []).getD k [],S j=true)->(∀j∈(ancs aos []).getD i [],S j=true)->
   ∀g' a' W',SR w B GB g' (Zaj U S st m) a' W'->a'.tmps.size=n-> ∀x,aos[i]? =some x->exec Γ cx.gl x (Zaj U S st m)=some (Zaj U (fun k=>S k||k==i) st m):=by
  intro S i hi hSi hSm hcl hpre g' a' W' hsr hn' x hx
  obtain⟨x',hx',hux,_⟩:=hU i hi
  rw[hx]at hx';cases hx'
  obtain⟨hst,hop,hpair⟩:=(hchk i (by omega) x hx).2.2.1 hi
  --those that meet i stand on the right side of it
  have side:∀k y,k<m->aos[k]? =some y->k≠i->Za0 y x=true->S k=decide (k<i):=by
   intro k y hk hy hne hcf
   rcases Xa4 k i with hlt|hge
   ·have:=(hpair k hlt y hy).1
    rw[hcf]at this
    rw[hpre k (this.resolve_right (by simp))];simp[hlt]
   ·have hgt:i<k:=by omega
    have:=(((hchk k (by omega) y hy).2.2.1 hk).2.2 i hgt x hx).1
    have hcf':Za0 x y=true:=by
     cases hh:Za0 x y with
     |true=>rfl
     |false=>rw[Zds hh]at hcf;cases hcf
    rw[hcf']at this
    have hin:=this.resolve_right (by simp)
    cases hSk:S k with
    |false=>simp;omega
    |true=>rw[hcl k hSk i hin]at hSi;cases hSi
  have hsi:Zaj U (fun k=>decide (k<i)) st m=s i:=by rw[Zg4 (by omega),hfold i (by omega)]
  have cf:∀{y:AOper},(∃t,t∈y.ws/\(t∈x.rd \/t∈x.ws \/t∈x.op.owns))->Za0 y x=true:=by
   intro y ⟨t,h1,h2⟩
   cases hh:Za0 y x with
   |true=>rfl
   |false=>
    simp only[Za0,Xbj]at hh
    exact absurd (by simp only[Xaj,Xay];exact h2) (Zau hh.1.1.1.1.1.1 h1)
  have cf2:∀{y:AOper} {t:Nat},t∈y.op.owns->t∈x.op.owns->Za0 y x=true:=by
   intro y t h1 h2
   cases hh:Za0 y x with
   |true=>rfl
   |false=>
    simp only[Za0,Xbj]at hh
    exact absurd h2 (Zau hh.1.1.1.1.2 h1)
  have htm:∀t∈x.rd,(Zaj U S st m).tm t=(s i).tm t:=by
   intro t ht
   rw[<-hsi]
   refine Zfw hone (Xag _) fun k hk hd=> ?_
   by_cases hki:k=i
   ·subst hki;rw[hSi];simp
   ·obtain⟨y,hy,huy,_⟩:=hU k hk
    rw[ud_d huy]at hd
    exact side k y hk hy hki (cf ⟨t,by simp[AOper.ws,hd], .inl ht⟩)
  have how:∀t∈x.op.owns,(Zaj U S st m).own (.slot t)=(s i).own (.slot t):=by
   intro t ht
   rw[<-hsi]
   refine Zcq hone (Xag _) fun k hk hd=> ?_
   by_cases hki:k=i
   ·subst hki;rw[hSi];simp
   ·obtain⟨y,hy,huy,_⟩:=hU k hk
    simp only[Zbx,Xa5,beq_iff_eq]at hd
    rcases hd with hd|hd
    ·rw[ud_d huy]at hd
     exact side k y hk hy hki (cf ⟨t,by simp[AOper.ws,hd], .inr (.inr ht)⟩)
    ·rcases Zjn huy with e|⟨t',e,h'⟩|⟨_,id,j,e⟩
     ·rw[e]at hd;cases hd
     ·rw[e]at hd;cases hd;exact side k y hk hy hki (cf2 h' ht)
     ·rw[e]at hd;cases hd
  have hldo:x.op.isLdo=true-> ∀id j,(Zaj U S st m).own (.cell id j)=(s i).own (.cell id j):=by
   intro hx1 id j
   rw[<-hsi]
   refine Zcq hone (Xag _) fun k hk hd=> ?_
   by_cases hki:k=i
   ·subst hki;rw[hSi];simp
   ·obtain⟨y,hy,huy,_⟩:=hU k hk
    simp only[Zbx,Xa5]at hd
    refine side k y hk hy hki ?_
    rcases hd with hd|hd
    ·have hy1:y.op.isLdo=true:=by
      rcases Zjn huy with e|⟨t',e,_⟩|⟨h,_⟩
      ·rw[e]at hd;cases hd
      ·rw[e]at hd;cases hd
      ·exact h
     simp[Za0,hx1,hy1]
    ·have hy1:=Zcf huy hd
     simp[Za0,hx1,hy1]
  have hH:∀y∈x.op.hOpds, ∀id,Zco (evO (s i).tm y)=some id->((s i).H id).isSome=true->(Zaj U S st m).H id=(s i).H id:=by
   intro y hy id hid hsome
   have hid':Zco (evO (Zaj U S st m).tm y)=some id:=by
    rw[<-hid];congr 1
    refine Zax fun t ht=>htm t ?_
    have:t∈x.op.reads:=by
     revert hy;cases x.op<;>simp only[AOp.hOpds,Xa1,Xdi,false_implies]<;>intro hy<;>first|(subst hy;simp[AOp.reads,ht];done)|exact Xce.2 ⟨y,hy,ht⟩
    simp[AOper.rd,this]
   have hlt:=hsr.ref hn' (hop y hy) hid'
   by_cases hex:∃k,k<m/\(U k).nw.isSome=true
   ·obtain⟨k,hk,hnw⟩:=hex
    obtain⟨cs,hcs⟩:=Xcy.1 hnw
    have none_of:∀(T:Nat->Bool),T k=false->(∀j,j<m->T j=true->(U j).nw=none):=by
     intro T hT j hj hTj
     cases hjn:(U j).nw with
     |none=>rfl
     |some z=>have:=hone j k hj hk (by rw[hjn];rfl) hnw;subst this;rw[hT]at hTj;cases hTj
    have hsid:∀(b:Bool),decide (k<i)=b->(s i).H=(if b=true then upd st.H st.nH (some (.cells cs))else st.H):=by
     intro b hb
     rw[<-hsi]
     cases b with
     |true=>rw[(Zdm (S:=fun k=>decide (k<i)) hone hcs (by simpa using hb) hk (Xag _)).1];simp
     |false=>rw[(Zbn (n:=m) (none_of (fun k=>decide (k<i)) hb)).1];simp
    cases hSk:S k with
    |true=>
     rw[(Zdm hone hcs hSk hk (Xag _)).1]
     rw[hsid _ rfl]at hsome⊢
     by_cases hki:k<i
     ·simp[hki]
     ·simp only[hki,decide_false,Xat,if_false]at hsome⊢
      have:id≠st.nH:=fun e=>by subst e;rw[h.obn _ (Xag _)]at hsome;cases hsome
      simp[upd,this]
    |false=>
     obtain⟨e1,e2⟩:=Zbn (s0:=st) (n:=m) (none_of S hSk)
     rw[e2]at hlt
     rw[e1,hsid _ rfl]
     by_cases hki:k<i
     ·simp only[hki,decide_true,if_true]
      have:id≠st.nH:=by omega
      simp[upd,this]
     ·simp[hki]
   ·have hnone:∀(T:Nat->Bool) j,j<m->T j=true->(U j).nw=none:=fun T j hj _=>by
     cases hjn:(U j).nw with
     |none=>rfl
     |some z=>exact absurd ⟨j,hj,by rw[hjn];rfl⟩ hex
    rw[(Zbn (n:=m) (hnone S)).1, <-hsi,(Zbn (n:=m) (hnone _)).1]
  have hu:=Zf7 hst hux htm how hldo hH
  rw[Zdv hst hu]
  congr 1
  symm
  refine Zda hSi (fun k=>rfl) hi fun k h1 h2 h3=> ?_
  obtain⟨y,hy,huy,_⟩:=hU k h2
  refine Zig huy hux ?_ (fun h=>Zcf huy h) (fun h=>Zcf hux h)
  cases hh:Za0 y x with
  |false=>rfl
  |true=>have:=side k y h2 hy (by omega) hh;rw[h3]at this;simp at this;omega
 --the induction
 have hnl:aos.length=ops.size:=hl
 have aft:∀(i:Nat) (o:Oper) (x:AOper),ops[i]? =some o->Zgb cx.P R n ops o=some x->x.after=Zgy o:=fun i o x _ hx=>by
  simp only[Zgb,Xab,Xaa]at hx
  obtain⟨_,_,_,_,rfl⟩:=hx;rfl
 have Zbt:∀(l:Array Bool) (k:Nat),l.size=ops.size->k<ops.size->l.getD k true=l.getD k false:=fun l k h1 h2=>by simp[Array.getD,show k<l.size by omega]
 have nolist:∀(l:Array Bool),l.size=ops.size->Region.ready .any ops l=[]-> ∀k,k<ops.size->l.getD k false=true:=by
  intro l hls hre k
  induction k using Nat.strongRecOn with
  |_ k ih=>
   intro hk
   cases hv:l.getD k false with
   |true=>rfl
   |false=>
    obtain⟨o,x,ho,hx,hcx⟩:=hget' k hk
    have:k∈Region.ready .any ops l:=by
     refine mem_ready.2 ⟨by rw[Zbt l k hls hk];exact hv,o,ho,fun e he hb=> ?_⟩
     have hea:e.on∈x.after:=by rw[aft k o x ho hcx];exact Xa9.2 ⟨e,Xdt.2 ⟨by simpa using he,hb⟩,rfl⟩
     have hlt:=(hchk k (by omega) x hx).1 _ hea
     exact ih e.on hlt (by omega)
    rw[hre]at this;cases this
 have main:∀(fuel:Nat) (l:Array Bool) (g':Gh) (a':Act) (W':World),l.size=ops.size->l.toList.count false<=fuel->
   ((∀k,l.getD k false=true->k<m)/\(∀k,l.getD k false=true-> ∀j∈(ancs aos []).getD k [],l.getD j false=true)/\SR w B GB g' (Zaj U (fun k=>l.getD k false) st m) a' W' \/
     ∃i,m<=i/\i<=ops.size/\(∀k,k<ops.size->l.getD k false=decide (k<i))/\SR w B GB g' (s i) a' W')->a'.tmps.size=n->wpAny cx.P .any ops Q fuel l a' W':=by
  intro fuel
  have fin:∀(l:Array Bool) (g':Gh) (a':Act) (W':World),l.size=ops.size->(∀k,k<ops.size->l.getD k false=true)->
    ((∀k,l.getD k false=true->k<m)/\(∀k,l.getD k false=true-> ∀j∈(ancs aos []).getD k [],l.getD j false=true)/\SR w B GB g' (Zaj U (fun k=>l.getD k false) st m) a' W' \/
      ∃i,m<=i/\i<=ops.size/\(∀k,k<ops.size->l.getD k false=decide (k<i))/\SR w B GB g' (s i) a' W')->a'.tmps.size=n->Q .normal a' W':=by
   intro l g' a' W' hls hall hj hn'
   rcases hj with⟨h1,_,h3⟩|⟨i,h1,h2,h3,h4⟩
   ·have hmn:m=ops.size:=by
     rcases Xa4 m ops.size with hlt|hge
     ·have:=h1 m (hall m hlt);omega
     ·omega
    have e:Zaj U (fun k=>l.getD k false) st m=st':=by
     rw[Zbg (S':=fun _=>true) fun k hk=>hall k (by omega),hfold m (Xag _), <-hsn,hnl,hmn]
    rw[e]at h3
    exact hnext g' a' W' h3 hn'
   ·have:i=ops.size:=by
     rcases Xa4 i ops.size with hlt|hge
     ·have:=h3 i hlt;rw[hall i hlt]at this;simp at this
     ·omega
    subst this
    rw[<-hnl,hsn]at h4
    exact hnext g' a' W' h4 hn'
  induction fuel with
  |zero=>
   intro l g' a' W' hls hcnt hj hn'
   have hall:∀k,k<ops.size->l.getD k false=true:=by
    intro k hk
    cases hv:l.getD k false with
    |true=>rfl
    |false=>
     have hk':k<l.size:=by omega
     have:false∈l.toList:=by
      have e:l[k]=false:=by simpa[Array.getD,hk']using hv
      rw[<-e];simp
     have:=Xdo.2 this
     omega
   refine⟨?_,fin l g' a' W' hls hall hj hn'⟩
   apply Xdv.2
   intro k hk
   obtain⟨h1,o,h2,_⟩:=mem_ready.1 hk
   have hlt:=(Xa8.1 h2).1
   rw[Zbt l k hls hlt,hall k hlt]at h1;cases h1
  |succ fuel ih=>
   intro l g' a' W' hls hcnt hj hn'
   refine⟨fun hre=>fin l g' a' W' hls (nolist l hls hre) hj hn',fun i hi=> ?_⟩
   obtain⟨h1,o,ho,hedges⟩:=mem_ready.1 hi
   have hilt:=(Xa8.1 ho).1
   rw[Zbt l i hls hilt]at h1
   obtain⟨o',x,ho',hx,hcx⟩:=hget' i hilt
   rw[ho]at ho';cases ho'
   have hilt':i<l.size:=by omega
   have hls':(l.setIfInBounds i true).size=ops.size:=by simpa using hls
   have hcnt':(l.setIfInBounds i true).toList.count false<=fuel:=by
    have hi2:i<l.toList.length:=by simpa using hilt'
    have e:l.toList[i]=false:=by simpa[Array.getD,hilt']using h1
    have hpos:0<l.toList.count false:=Xdo.2 (by rw[<-e];exact Xau hi2)
    rw[Xc7,Xfs hi2,e]
    simp only[show(false==false)=true from rfl,show(true==false)=false from rfl,if_true,Xat,if_false]
    omega
   have hS':∀k,(l.setIfInBounds i true).getD k false=(l.getD k false||k==i):=by
    intro k
    by_cases hki:k=i
    ·subst hki;simp[Array.getD,hilt']
    ·rw[getD_set_ne false (fun e=>hki e.symm)];simp[hki]
   have haft:∀e∈x.after,l.getD e false=true:=by
    intro e he
    rw[aft i o x ho hcx]at he
    obtain⟨ed,hed,rfl⟩:=Xa9.1 he
    obtain⟨hed1,hed2⟩:=Xdt.1 hed
    exact hedges ed (by simpa using hed1) hed2
   obtain⟨c1,c2,c3,c4⟩:=hchk i (by omega) x hx
   have hclosed:∀k,l.getD k false=true-> ∀j∈(ancs aos []).getD k [],l.getD j false=true:=by
    rcases hj with⟨_,h,_⟩|⟨i0,_,h2,h3,_⟩
    ·exact h
    ·intro k hk j hj'
     have hk':k<ops.size:=by
      rcases Xa4 k ops.size with h|h
      ·exact h
      ·simp[Array.getD,show ¬k<l.size by omega]at hk
     have hxk:=Xad (show k<aos.length by omega)
     obtain⟨d1,d2,_,_⟩:=hchk k (by omega) _ hxk
     have hki0:k<i0:=by have:=h3 k hk';rw[hk]at this;simpa using this.symm
     have jlt:∀k,k<aos.length-> ∀j∈(ancs aos []).getD k [],j<k:=by
      intro k
      induction k using Nat.strongRecOn with
      |_ k ihk=>
       intro hk2 j hj2
       have hxk:=Xad hk2
       obtain⟨d1,d2,_,_⟩:=hchk k hk2 _ hxk
       rcases d2 j hj2 with h|⟨e,he,h⟩
       ·exact d1 j h
       ·have:=d1 e he
        have:=ihk e this (by omega) j h
        omega
     have:=jlt k (by omega) j hj'
     rw[h3 j (by omega)];simp;omega
   have hpre:∀j∈(ancs aos []).getD i [],l.getD j false=true:=by
    intro j hj'
    rcases c2 j hj' with h|⟨e,he,h⟩
    ·exact haft j h
    ·exact hclosed e (haft e he) j h
   have hst:∀(st2:St),SR w B GB g' st2 a' W'-> ∀st3,exec Γ cx.gl x st2=some st3->(∀g2 a2 W2,SR w B GB g2 st3 a2 W2->((∀k,(l.setIfInBounds i true).getD k false=true->k<m)/\(∀k,(l.setIfInBounds i true).getD k false=true-> ∀j∈(ancs aos []).getD k [],(l.setIfInBounds i true).getD j false=true)/\SR w B GB g2 (Zaj U (fun k=>(l.setIfInBounds i true).getD k false) st m) a2 W2 \/
     ∃i',m<=i'/\i'<=ops.size/\(∀k,k<ops.size->(l.setIfInBounds i true).getD k false=decide (k<i'))/\SR w B GB g2 (s i') a2 W2))->
     wpOp cx.P ops Q i (wpAny cx.P .any ops Q fuel (l.setIfInBounds i true)) a' W':=
    fun st2 hsr st3 hex hnx=>Zel hs hΓ hsr hn' ho hcx hex fun g2 a2 W2 h2 hn2=>ih _ g2 a2 W2 hls' hcnt' (hnx g2 a2 W2 h2) hn2
   by_cases him:i<m
   ·rcases hj with⟨j1,j2,j3⟩|⟨i0,j1,j2,j3,_⟩
    ·refine hst _ j3 _ (step1 (fun k=>l.getD k false) i him h1 j1 j2 hpre g' a' W' j3 hn' x hx) fun g2 a2 W2 h2=> .inl ⟨fun k hk=> ?_,fun k hk j hj'=> ?_, ?_⟩
     ·rw[hS']at hk;simp only[Xa5,beq_iff_eq]at hk
      rcases hk with hk|rfl
      ·exact j1 k hk
      ·exact him
     ·rw[hS']at hk⊢;simp only[Xa5,beq_iff_eq]at hk
      rcases hk with hk|rfl
      ·simp[j2 k hk j hj']
      ·simp[hpre j hj']
     ·rw[Zbg (S':=fun k=>l.getD k false||k==i) fun k _=>hS' k];exact h2
    ·have:=j3 i hilt;rw[h1]at this;simp at this;omega
   ·have hge:m<=i:=by omega
    have hall:=c4 hge
    have hfull:∀j,j<i->l.getD j false=true:=fun j hj'=>hpre j (hall j hj')
    have hsi:SR w B GB g' (s i) a' W':=by
     rcases hj with⟨j1,_,j3⟩|⟨i0,j1,j2,j3,j4⟩
     ·have him':i=m:=by
       rcases Xa4 m i with hlt|hge'
       ·have:=j1 m (hfull m hlt);omega
       ·omega
      rw[Zbg (S':=fun _=>true) fun k hk=>hfull k (by omega),hfold m (Xag _), <-him']at j3
      exact j3
     ·have hii:i=i0:=by
       have h5:=j3 i hilt
       rw[h1]at h5
       have h6: ¬i<i0:=by simpa using h5.symm
       rcases Xa4 i0 i with hlt|hge'
       ·have h7:=j3 i0 (by omega)
        rw[hfull i0 hlt]at h7;simp at h7
       ·omega
      rw[hii];exact j4
    refine hst _ hsi _ (hstep i x hx) fun g2 a2 W2 h2=> .inr ⟨i+1,by omega,by omega,fun k hk=> ?_,h2⟩
    rw[hS']
    rcases Xbx k i with hlt|heq|hgt
    ·rw[hfull k hlt];simp;omega
    ·subst heq;simp
    ·have hkf:l.getD k false=false:=by
      rcases hj with⟨j1,_,_⟩|⟨i0,j1,j2,j3,_⟩
      ·cases hv:l.getD k false with
       |false=>rfl
       |true=>have:=j1 k hv;omega
      ·have h5:=j3 i hilt
       rw[h1]at h5
       rw[j3 k hk]
       have h6: ¬i<i0:=by simpa using h5.symm
       simp;omega
     have q1:(k==i)=false:=by simp;omega
     have q2:decide (k<i+1)=false:=by simp;omega
     rw[hkf,q1,q2];rfl
 refine main ops.size (Array.replicate ops.size false) g a W (by simp) (by simp[Xew]) (.inl ⟨fun k hk=> ?_,fun k hk=> ?_, ?_⟩) hn
 ·exfalso;revert hk;simp[Array.getD]
 ·exfalso;revert hk;simp[Array.getD]
 ·have:∀j,Zaj U (fun k=>(Array.replicate ops.size false).getD k false) st j=st:=by
   intro j
   induction j with
   |zero=>rfl
   |succ j ih=>simp only[Zaj];rw[if_neg (by simp[Array.getD]),ih]
  rw[this];exact h
end Go.Abs
namespace Go.Abs
open Go.RowKit
variable {cx:Cx}{w:World}{B:Nat->Prop}{GB:Gh}{g:Gh}{st:St}{a:Act}{W:World}{Γ:Spec}{R:TypeId->Bool}
def AOper.toP (x:AOper):AOper:=match x.op with
 | .load n a=>⟨x.dst, .ldp n a,x.guard,x.after⟩
 |_=>x
theorem Zte (x:AOper):x.toP.after=x.after:=by unfold AOper.toP;split<;>rfl
theorem Zya {gl:Nat->Option (List V)}{x:AOper}{st st':St}(h:exec Γ gl x.toP st=some st'):exec Γ gl x st=some st':=by
 obtain⟨d,op,gd,af⟩:=x
 unfold AOper.toP at h
 cases op<;>try exact h
 rename_i n a
 simp only at h
 unfold exec at h⊢
 have hw:st.wants ⟨d, .ldp n a,gd,af⟩=st.wants ⟨d, .load n a,gd,af⟩:=rfl
 rw[hw]at h
 split at h
 ·rename_i hwt
  rw[if_pos hwt]
  have h':(Zbr Γ gl st.H st.own st.tm (.ldp n a)).map (fun r=>(st.take r.tk).put d r.v r.o)=some st':=h
  show(Zbr Γ gl st.H st.own st.tm (.load n a)).map (fun r=>(st.take r.tk).put d r.v r.o)=some st'
  have e:∀v,vLdp gl n (evO st.tm a)=some v->Zfr gl st.H n (evO st.tm a)=some v:=by
   intro v hv
   generalize evO st.tm a=u at hv⊢
   cases u<;>first|exact hv|(simp[vLdp]at hv)
  simp only[Xaa]at h'⊢
  obtain⟨r,hr,rfl⟩:=h'
  obtain⟨v,hv,rfl⟩:=Zao (show resV (vLdp gl n (evO st.tm a))=some r from hr)
  exact⟨_,by show resV (Zfr gl st.H n (evO st.tm a))=_;rw[e v hv];rfl,rfl⟩
 ·rename_i hwt
  rw[if_neg hwt];exact h
def AOp.quiet (op:AOp):Bool:=op.hOpds.isEmpty&& !op.isNew&& !op.isLdo&& !op.isStore
def Zpn (n:Nat)(x:AOper):Bool:=match x.op,x.guard,x.dst with
 | .store _ a _,none,none=>Zip n a
 |_,_,_=>false
def Zlp (n:Nat)(aos:List AOper)(m k:Nat):Bool:=
 let an:=ancs aos []
 let N:=aos.length
 Zpn n (aos.getD k default)&&
 (List.range N).all fun i=>
  let x:=aos.getD i default
  let ai:=an.getD i []
  x.after.all (fun e=>decide (e<i))&&
  ai.all (fun j=>x.after.contains j||x.after.any fun e=>(an.getD e []).contains j)&&
  (if i<m then
   (if i=k then(List.range i).all fun j=>ai.contains j||((aos.getD j default).op.quiet&& !Za0 (aos.getD j default) x)
    else !x.op.isStore&&x.op.hOpds.all (Zip n)&&
     (List.range i).all fun j=>if j=k then x.op.quiet&&(ai.contains j|| !Za0 (aos.getD j default) x)
      else(ai.contains j|| !Za0 (aos.getD j default) x)&& !(x.op.isNew&&(aos.getD j default).op.isNew))
   else(List.range i).all fun j=>ai.contains j)
def Zef (b:Bool)(id:Nat)(cs:List V)(off:Nat)(ys:List V)(st:St):St:=if b then st.setOb id cs off ys else st
theorem Zx3 (b:Bool)(id:Nat)(cs:List V)(off:Nat)(ys:List V)(st:St):(Zef b id cs off ys st).tm=st.tm:=by unfold Zef;split<;>rfl
theorem Zk0 (b:Bool)(id:Nat)(cs:List V)(off:Nat)(ys:List V)(st:St)(t:Nat):(Zef b id cs off ys st).own (.slot t)=st.own (.slot t):=by unfold Zef;split<;>rfl
theorem Zn3 {u:Ud}(hn:u.nw=none)(ht:Zcb u.tk=false)(b:Bool)(id:Nat)(cs:List V)(off:Nat)(ys:List V)(st:St):Zef b id cs off ys (u.app st)=u.app (Zef b id cs off ys st):=by
 cases b with
 |false=>rfl
 |true=>
  show(u.app st).setOb id cs off ys=u.app (st.setOb id cs off ys)
  have hk:u.took=u.tk:=by unfold Ud.took;rw[hn]
  have hv:∀s s':St,u.val s=u.val s':=fun s s'=>by unfold Ud.val;rw[hn]
  apply St.ext'
  ·funext t
   show(u.app st).tm t=_
   rw[Zgd,Zgd,hv st (st.setOb id cs off ys)];rfl
  ·funext p
   cases p with
   |slot t=>
    show(u.app st).own (.slot t)=_
    rw[Zd2,Zd2,hn];rfl
   |cell i j=>
    rw[Zd2]
    show(if i=id/\off<=j/\j<off+ys.length then false else(u.app st).own (.cell i j))=_
    rw[Zd2,hn,hk]
    have h1: ¬(u.d.map Pos.slot=some (.cell i j)):=by cases u.d<;>simp
    have h2: ¬(u.tk=some (.cell i j)):=fun h=>by rw[h]at ht;cases ht
    simp only[if_neg h1,if_neg h2]
    rfl
  ·show upd (u.app st).H id _=_
   rw[(Zjj u st).1,(Zjj u _).1,hn];rfl
  ·show(u.app st).nH=_
   rw[(Zjj u st).2,(Zjj u _).2,hn];rfl
theorem Zrd {gl:Nat->Option (List V)}{x:AOper}{s:St}{u:Ud}(hq:x.op.quiet=true)(h:udOf Γ gl x s=some u):u.nw=none/\Zcb u.tk=false:=by
 unfold AOp.quiet at hq
 simp only[Xai,Xbh]at hq
 constructor
 ·cases hn:u.nw with
  |none=>rfl
  |some cs=>have:=Zcf h (by rw[hn];rfl);rw[hq.1.1.2]at this;cases this
 ·rcases Zjn h with e|⟨t,e,_⟩|⟨h',_⟩
  ·rw[e];rfl
  ·rw[e];rfl
  ·rw[hq.1.2]at h';cases h'
theorem Zrf (hs:Scope cx w B GB)(hΓ:Sound cx Γ){n:Nat}{ops:Array Oper}{aos:List AOper}(hc:Zfe cx.P R n ops ops.toList=some aos){m:Nat}(hm:m<=aos.length)(an:List (List Nat))
  (F:(Nat->Bool)->St) (hFc:∀S S':Nat->Bool,(∀k,k<m->S k=S' k)->F S=F S') (hF0:F (fun _=>false)=st) {s:Nat->St} (hFm:F (fun _=>true)=s m) {st':St} (hsn:s ops.size=st')
  (hchk:∀i,i<aos.length-> ∀x,aos[i]? =some x->(∀e∈x.after,e<i)/\(∀j∈an.getD i [],j∈x.after \/ ∃e∈x.after,j∈an.getD e [])/\(m<=i-> ∀j,j<i->j∈an.getD i []))
  (step1:∀(S:Nat->Bool) (i:Nat),i<m->S i=false->(∀k,S k=true->k<m)->(∀k,S k=true-> ∀j∈an.getD k [],S j=true)->(∀j∈an.getD i [],S j=true)->
   ∀g' a' W',SR w B GB g' (F S) a' W'->a'.tmps.size=n-> ∀x,aos[i]? =some x->exec Γ cx.gl x (F S)=some (F (fun k=>S k||k==i)))
  (hstep:∀(i:Nat) (x:AOper),m<=i->aos[i]? =some x->exec Γ cx.gl x (s i)=some (s (i+1)))
  (h:SR w B GB g st a W) (hn:a.tmps.size=n) {Q:Exit->Act->World->Prop} (hnext:∀g' a' W',SR w B GB g' st' a' W'->a'.tmps.size=n->Q .normal a' W'):
  wpAny cx.P .any ops Q ops.size (Array.replicate ops.size false) a W:=by
 obtain⟨hl,hget⟩:=Zcx hc
 simp only[Xcb]at hl
 have hget':∀i,i<ops.size-> ∃(o:Oper) (x:AOper),ops[i]? =some o/\aos[i]? =some x/\Zgb cx.P R n ops o=some x:=fun i hi=>by
  obtain⟨x,h1,h2⟩:=hget i ops[i] (by simp[hi])
  exact⟨ops[i],x,Xar hi,h1,h2⟩
 --the induction
 have hnl:aos.length=ops.size:=hl
 have aft:∀(i:Nat) (o:Oper) (x:AOper),ops[i]? =some o->Zgb cx.P R n ops o=some x->x.after=Zgy o:=fun i o x _ hx=>by
  simp only[Zgb,Xab,Xaa]at hx
  obtain⟨_,_,_,_,rfl⟩:=hx;rfl
 have Zbt:∀(l:Array Bool) (k:Nat),l.size=ops.size->k<ops.size->l.getD k true=l.getD k false:=fun l k h1 h2=>by simp[Array.getD,show k<l.size by omega]
 have nolist:∀(l:Array Bool),l.size=ops.size->Region.ready .any ops l=[]-> ∀k,k<ops.size->l.getD k false=true:=by
  intro l hls hre k
  induction k using Nat.strongRecOn with
  |_ k ih=>
   intro hk
   cases hv:l.getD k false with
   |true=>rfl
   |false=>
    obtain⟨o,x,ho,hx,hcx⟩:=hget' k hk
    have:k∈Region.ready .any ops l:=by
     refine mem_ready.2 ⟨by rw[Zbt l k hls hk];exact hv,o,ho,fun e he hb=> ?_⟩
     have hea:e.on∈x.after:=by rw[aft k o x ho hcx];exact Xa9.2 ⟨e,Xdt.2 ⟨by simpa using he,hb⟩,rfl⟩
     have hlt:=(hchk k (by omega) x hx).1 _ hea
     exact ih e.on hlt (by omega)
    rw[hre]at this;cases this
 have main:∀(fuel:Nat) (l:Array Bool) (g':Gh) (a':Act) (W':World),l.size=ops.size->l.toList.count false<=fuel->
   ((∀k,l.getD k false=true->k<m)/\(∀k,l.getD k false=true-> ∀j∈an.getD k [],l.getD j false=true)/\SR w B GB g' (F (fun k=>l.getD k false)) a' W' \/
     ∃i,m<=i/\i<=ops.size/\(∀k,k<ops.size->l.getD k false=decide (k<i))/\SR w B GB g' (s i) a' W')->a'.tmps.size=n->wpAny cx.P .any ops Q fuel l a' W':=by
  intro fuel
  have fin:∀(l:Array Bool) (g':Gh) (a':Act) (W':World),l.size=ops.size->(∀k,k<ops.size->l.getD k false=true)->
    ((∀k,l.getD k false=true->k<m)/\(∀k,l.getD k false=true-> ∀j∈an.getD k [],l.getD j false=true)/\SR w B GB g' (F (fun k=>l.getD k false)) a' W' \/
      ∃i,m<=i/\i<=ops.size/\(∀k,k<ops.size->l.getD k false=decide (k<i))/\SR w B GB g' (s i) a' W')->a'.tmps.size=n->Q .normal a' W':=by
   intro l g' a' W' hls hall hj hn'
   rcases hj with⟨h1,_,h3⟩|⟨i,h1,h2,h3,h4⟩
   ·have hmn:m=ops.size:=by
     rcases Xa4 m ops.size with hlt|hge
     ·have:=h1 m (hall m hlt);omega
     ·omega
    have e:F (fun k=>l.getD k false)=st':=by
     rw[hFc _ (fun _=>true) fun k hk=>hall k (by omega),hFm, <-hsn,hmn]
    rw[e]at h3
    exact hnext g' a' W' h3 hn'
   ·have:i=ops.size:=by
     rcases Xa4 i ops.size with hlt|hge
     ·have:=h3 i hlt;rw[hall i hlt]at this;simp at this
     ·omega
    subst this
    rw[hsn]at h4
    exact hnext g' a' W' h4 hn'
  induction fuel with
  |zero=>
   intro l g' a' W' hls hcnt hj hn'
   have hall:∀k,k<ops.size->l.getD k false=true:=by
    intro k hk
    cases hv:l.getD k false with
    |true=>rfl
    |false=>
     have hk':k<l.size:=by omega
     have:false∈l.toList:=by
      have e:l[k]=false:=by simpa[Array.getD,hk']using hv
      rw[<-e];simp
     have:=Xdo.2 this
     omega
   refine⟨?_,fin l g' a' W' hls hall hj hn'⟩
   apply Xdv.2
   intro k hk
   obtain⟨h1,o,h2,_⟩:=mem_ready.1 hk
   have hlt:=(Xa8.1 h2).1
   rw[Zbt l k hls hlt,hall k hlt]at h1;cases h1
  |succ fuel ih=>
   intro l g' a' W' hls hcnt hj hn'
   refine⟨fun hre=>fin l g' a' W' hls (nolist l hls hre) hj hn',fun i hi=> ?_⟩
   obtain⟨h1,o,ho,hedges⟩:=mem_ready.1 hi
   have hilt:=(Xa8.1 ho).1
   rw[Zbt l i hls hilt]at h1
   obtain⟨o',x,ho',hx,hcx⟩:=hget' i hilt
   rw[ho]at ho';cases ho'
   have hilt':i<l.size:=by omega
   have hls':(l.setIfInBounds i true).size=ops.size:=by simpa using hls
   have hcnt':(l.setIfInBounds i true).toList.count false<=fuel:=by
    have hi2:i<l.toList.length:=by simpa using hilt'
    have e:l.toList[i]=false:=by simpa[Array.getD,hilt']using h1
    have hpos:0<l.toList.count false:=Xdo.2 (by rw[<-e];exact Xau hi2)
    rw[Xc7,Xfs hi2,e]
    simp only[show(false==false)=true from rfl,show(true==false)=false from rfl,if_true,Xat,if_false]
    omega
   have hS':∀k,(l.setIfInBounds i true).getD k false=(l.getD k false||k==i):=by
    intro k
    by_cases hki:k=i
    ·subst hki;simp[Array.getD,hilt']
    ·rw[getD_set_ne false (fun e=>hki e.symm)];simp[hki]
   have haft:∀e∈x.after,l.getD e false=true:=by
    intro e he
    rw[aft i o x ho hcx]at he
    obtain⟨ed,hed,rfl⟩:=Xa9.1 he
    obtain⟨hed1,hed2⟩:=Xdt.1 hed
    exact hedges ed (by simpa using hed1) hed2
   obtain⟨c1,c2,c4⟩:=hchk i (by omega) x hx
   have hclosed:∀k,l.getD k false=true-> ∀j∈an.getD k [],l.getD j false=true:=by
    rcases hj with⟨_,h,_⟩|⟨i0,_,h2,h3,_⟩
    ·exact h
    ·intro k hk j hj'
     have hk':k<ops.size:=by
      rcases Xa4 k ops.size with h|h
      ·exact h
      ·simp[Array.getD,show ¬k<l.size by omega]at hk
     have hxk:=Xad (show k<aos.length by omega)
     obtain⟨d1,d2,_⟩:=hchk k (by omega) _ hxk
     have hki0:k<i0:=by have:=h3 k hk';rw[hk]at this;simpa using this.symm
     have jlt:∀k,k<aos.length-> ∀j∈an.getD k [],j<k:=by
      intro k
      induction k using Nat.strongRecOn with
      |_ k ihk=>
       intro hk2 j hj2
       have hxk:=Xad hk2
       obtain⟨d1,d2,_⟩:=hchk k hk2 _ hxk
       rcases d2 j hj2 with h|⟨e,he,h⟩
       ·exact d1 j h
       ·have:=d1 e he
        have:=ihk e this (by omega) j h
        omega
     have:=jlt k (by omega) j hj'
     rw[h3 j (by omega)];simp;omega
   have hpre:∀j∈an.getD i [],l.getD j false=true:=by
    intro j hj'
    rcases c2 j hj' with h|⟨e,he,h⟩
    ·exact haft j h
    ·exact hclosed e (haft e he) j h
   have hst:∀(st2:St),SR w B GB g' st2 a' W'-> ∀st3,exec Γ cx.gl x st2=some st3->(∀g2 a2 W2,SR w B GB g2 st3 a2 W2->((∀k,(l.setIfInBounds i true).getD k false=true->k<m)/\(∀k,(l.setIfInBounds i true).getD k false=true-> ∀j∈an.getD k [],(l.setIfInBounds i true).getD j false=true)/\SR w B GB g2 (F (fun k=>(l.setIfInBounds i true).getD k false)) a2 W2 \/
     ∃i',m<=i'/\i'<=ops.size/\(∀k,k<ops.size->(l.setIfInBounds i true).getD k false=decide (k<i'))/\SR w B GB g2 (s i') a2 W2))->
     wpOp cx.P ops Q i (wpAny cx.P .any ops Q fuel (l.setIfInBounds i true)) a' W':=
    fun st2 hsr st3 hex hnx=>Zel hs hΓ hsr hn' ho hcx hex fun g2 a2 W2 h2 hn2=>ih _ g2 a2 W2 hls' hcnt' (hnx g2 a2 W2 h2) hn2
   by_cases him:i<m
   ·rcases hj with⟨j1,j2,j3⟩|⟨i0,j1,j2,j3,_⟩
    ·refine hst _ j3 _ (step1 (fun k=>l.getD k false) i him h1 j1 j2 hpre g' a' W' j3 hn' x hx) fun g2 a2 W2 h2=> .inl ⟨fun k hk=> ?_,fun k hk j hj'=> ?_, ?_⟩
     ·rw[hS']at hk;simp only[Xa5,beq_iff_eq]at hk
      rcases hk with hk|rfl
      ·exact j1 k hk
      ·exact him
     ·rw[hS']at hk⊢;simp only[Xa5,beq_iff_eq]at hk
      rcases hk with hk|rfl
      ·simp[j2 k hk j hj']
      ·simp[hpre j hj']
     ·rw[hFc _ (fun k=>l.getD k false||k==i) fun k _=>hS' k];exact h2
    ·have:=j3 i hilt;rw[h1]at this;simp at this;omega
   ·have hge:m<=i:=by omega
    have hall:=c4 hge
    have hfull:∀j,j<i->l.getD j false=true:=fun j hj'=>hpre j (hall j hj')
    have hsi:SR w B GB g' (s i) a' W':=by
     rcases hj with⟨j1,_,j3⟩|⟨i0,j1,j2,j3,j4⟩
     ·have him':i=m:=by
       rcases Xa4 m i with hlt|hge'
       ·have:=j1 m (hfull m hlt);omega
       ·omega
      rw[hFc _ (fun _=>true) fun k hk=>hfull k (by omega),hFm, <-him']at j3
      exact j3
     ·have hii:i=i0:=by
       have h5:=j3 i hilt
       rw[h1]at h5
       have h6: ¬i<i0:=by simpa using h5.symm
       rcases Xa4 i0 i with hlt|hge'
       ·have h7:=j3 i0 (by omega)
        rw[hfull i0 hlt]at h7;simp at h7
       ·omega
      rw[hii];exact j4
    refine hst _ hsi _ (hstep i x hge hx) fun g2 a2 W2 h2=> .inr ⟨i+1,by omega,by omega,fun k hk=> ?_,h2⟩
    rw[hS']
    rcases Xbx k i with hlt|heq|hgt
    ·rw[hfull k hlt];simp;omega
    ·subst heq;simp
    ·have hkf:l.getD k false=false:=by
      rcases hj with⟨j1,_,_⟩|⟨i0,j1,j2,j3,_⟩
      ·cases hv:l.getD k false with
       |false=>rfl
       |true=>have:=j1 k hv;omega
      ·have h5:=j3 i hilt
       rw[h1]at h5
       rw[j3 k hk]
       have h6: ¬i<i0:=by simpa using h5.symm
       simp;omega
     have q1:(k==i)=false:=by simp;omega
     have q2:decide (k<i+1)=false:=by simp;omega
     rw[hkf,q1,q2];rfl
 refine main ops.size (Array.replicate ops.size false) g a W (by simp) (by simp[Xew]) (.inl ⟨fun k hk=> ?_,fun k hk=> ?_, ?_⟩) hn
 ·exfalso;revert hk;simp[Array.getD]
 ·exfalso;revert hk;simp[Array.getD]
 ·rw[hFc _ (fun _=>false) fun k hk=>by simp[Array.getD],hF0];exact h
def Ud.idle :Ud:=⟨none,Nil,false,none,none⟩
theorem Zq4 (s:St):Ud.idle.app s=s:=rfl
theorem Zs6 (u:Ud):Apart Ud.idle u where
 d t h:=by cases h
 tu t h:=by cases h
 tv t h:=⟨by simp[Ud.idle],by simp[Ud.idle]⟩
 c:=fun h=>by simp[Ud.idle,Zcb]at h
 n:=fun h=>by simp[Ud.idle]at h
 nu:=fun h=>by simp[Ud.idle]at h
 nv:=fun _=>rfl
theorem Zpb (u:Ud):Apart u Ud.idle where
 d t h:=by simp[Ud.idle]
 tu t h:=⟨by simp[Ud.idle],by simp[Ud.idle]⟩
 tv t h:=by cases h
 c:=fun h=>by simp[Ud.idle,Zcb]at h
 n:=fun h=>by simp[Ud.idle]at h
 nu:=fun _=>rfl
 nv:=fun h=>by simp[Ud.idle]at h
theorem Zs5 {gl:Nat->Option (List V)}{n:Nat}{x:AOper}{s s':St}(he:Zpn n x=true)(h:exec Γ gl x s=some s'):∃k a y id cs off,x.op= .store k a y/\x.guard=none/\x.dst=none/\Zip n a=true/\s.ev a= .ptr id off/\Zat s.H id=some cs/\
  s'=s.setOb id cs off (s.ev y).cells/\ ∀s2:St,s2.ev a=s.ev a->s2.ev y=s.ev y->Zat s2.H id=some cs->exec Γ gl x s2=some (s2.setOb id cs off (s.ev y).cells):=by
 obtain⟨d,op,gd,af⟩:=x
 unfold Zpn at he
 split at he
 ·rename_i k a y e1 e2 e3
  simp only at e1 e2 e3
  subst e1;subst e2;subst e3
  have hw:∀st:St,st.wants ⟨none, .store k a y,none,af⟩=true:=fun _=>rfl
  unfold exec at h
  rw[if_pos (hw s)]at h
  simp only[exec1]at h
  split at h
  ·rename_i id off ep
   split at h
   ·rename_i cs ec
    simp only[Xaa,St.storeOb]at h
    obtain⟨s1,h1,rfl⟩:=h
    split at h1
    ·rename_i hcnd
     simp only[Xac]at h1
     subst h1
     refine⟨k,a,y,id,cs,off,rfl,rfl,rfl,he,ep,ec,rfl,fun s2 q1 q2 q3=> ?_⟩
     unfold exec
     rw[if_pos (hw s2)]
     simp only[exec1]
     rw[q1,ep]
     simp only[q3,q2]
     unfold St.storeOb
     rw[if_pos hcnd];rfl
    ·cases h1
   ·cases h
  ·cases h
 ·cases he
theorem Zp8 (hs:Scope cx w B GB)(hΓ:Sound cx Γ){n:Nat}{ops:Array Oper}{aos0 aos:List AOper}(hc:Zfe cx.P R n ops ops.toList=some aos0)(hlen:aos.length=aos0.length)(hturn:∀(i:Nat) (x:AOper),aos[i]? =some x-> ∃x0:AOper,aos0[i]? =some x0/\(x=x0 \/x=x0.toP))
  {m k:Nat} (hm:m<=aos.length) (hkm:k<m) (hok:Zlp n aos m k=true) (h:SR w B GB g st a W) (hn:a.tmps.size=n)
  {st':St} (he:execs Γ cx.gl aos st=some st') {Q:Exit->Act->World->Prop} (hnext:∀g' a' W',SR w B GB g' st' a' W'->a'.tmps.size=n->Q .normal a' W'):
  wpAny cx.P .any ops Q ops.size (Array.replicate ops.size false) a W:=by
 obtain⟨hl,_⟩:=Zcx hc
 simp only[Xcb]at hl
 --the states of the text's order
 obtain⟨s,hs0,hsn,hstep⟩:∃s:Nat->St,s 0=st/\s aos.length=st'/\ ∀(i:Nat) (x:AOper),aos[i]? =some x->exec Γ cx.gl x (s i)=some (s (i+1)):=by
  have key:∀(l:List AOper) (s0 s1:St),execs Γ cx.gl l s0=some s1-> ∃s:Nat->St,s 0=s0/\s l.length=s1/\ ∀(i:Nat) (x:AOper),l[i]? =some x->exec Γ cx.gl x (s i)=some (s (i+1)):=by
   intro l
   induction l with
   |nil=>intro s0 s1 h;simp only[execs,Xac]at h;subst h;exact⟨fun _=>s0,rfl,rfl,fun i x h=>by simp at h⟩
   |cons x r ih=>
    intro s0 s1 h
    simp only[execs]at h
    split at h
    ·rename_i s2 h2
     obtain⟨s,h3,h4,h5⟩:=ih s2 s1 h
     refine⟨fun i=>if i=0 then s0 else s (i-1),by simp,by simp[h4],fun i y hy=> ?_⟩
     cases i with
     |zero=>simp at hy;subst hy;simp[h3,h2]
     |succ i=>have:=h5 i y (by simpa using hy);simpa using this
    ·simp at h
  exact key aos st st' he
 --what the check says
 simp only[Zlp,Xai]at hok
 obtain⟨hearly,hok⟩:=hok
 have hxk:=Xad (show k<aos.length by omega)
 rw[Zb8 hxk]at hearly
 have hchk:∀i,i<aos.length-> ∀x,aos[i]? =some x->(∀e∈x.after,e<i)/\(∀j∈(ancs aos []).getD i [],j∈x.after \/ ∃e∈x.after,j∈(ancs aos []).getD e [])/\
   (i<m->i≠k->x.op.isStore=false/\(k<i->x.op.quiet=true)/\(∀y∈x.op.hOpds,Zip n y=true)/\ ∀j,j<i-> ∀y,aos[j]? =some y->(j∈(ancs aos []).getD i [] \/Za0 y x=false)/\(j≠k-> ¬(x.op.isNew=true/\y.op.isNew=true)))/\
   (i=k-> ∀j,j<i-> ∀y,aos[j]? =some y->j∈(ancs aos []).getD i [] \/(y.op.quiet=true/\Za0 y x=false))/\
   (m<=i-> ∀j,j<i->j∈(ancs aos []).getD i []):=by
  intro i hi x hx
  have:=Xal.1 hok i (Xbi.2 hi)
  simp only[Zb8 hx,Xai]at this
  obtain⟨⟨h1,h2⟩,h3⟩:=this
  simp only[Xal,decide_eq_true_eq,Xa5,Xdj,Xbf]at h1 h2
  refine⟨h1,h2,fun hlt hne=> ?_,fun heq=> ?_,fun hge=> ?_⟩
  ·rw[if_pos hlt,if_neg hne]at h3
   simp only[Xal,Xbi,Xai,Xbh]at h3
   obtain⟨⟨h3,h4⟩,h5⟩:=h3
   refine⟨h3,fun hki=> ?_,h4,fun j hj y hy=> ?_⟩
   ·have:=h5 k hki
    rw[if_pos rfl]at this
    exact(Xai _ _▸this).1
   ·have h6:=h5 j hj
    rw[Zb8 hy]at h6
    by_cases hjk:j=k
    ·rw[if_pos hjk]at h6
     simp only[Xai,Xa5,Xbf,Xbh]at h6
     exact⟨h6.2,fun h=>absurd hjk h⟩
    ·rw[if_neg hjk]at h6
     simp only[Xai,Xa5,Xbf,Xbh,Xdn]at h6
     obtain⟨h6,h7⟩:=h6
     exact⟨h6,fun _ ⟨e1,e2⟩=>by rcases h7 with h7|h7<;>simp_all⟩
  ·rw[if_pos (by omega),if_pos heq]at h3
   simp only[Xal,Xbi,Xai,Xa5,Xbf,Xbh]at h3
   intro j hj y hy
   have:=h3 j hj
   rw[Zb8 hy]at this
   exact this
  ·rw[if_neg (by omega)]at h3
   simp only[Xal,Xbi,Xbf]at h3
   exact h3
 obtain⟨kk,ka,ky,id,cs,off,kop,kgd,kds,kok,kev,kcs,ksn,kex⟩:=Zs5 hearly (hstep k _ hxk)
 generalize hys:((s k).ev ky).cells=ys at ksn kex
 have hud:∀i, ∃u:Ud,(i=k->u= .idle)/\(i<m->i≠k-> ∃x,aos[i]? =some x/\udOf Γ cx.gl x (s i)=some u/\s (i+1)=u.app (s i)):=by
  intro i
  by_cases hik:i=k
  ·exact⟨.idle,fun _=>rfl,fun _ h=>absurd hik h⟩
  by_cases hi:i<m
  ·have hx:=Xad (show i<aos.length by omega)
   obtain⟨u,h1,h2⟩:=Zf1 ((hchk i (by omega) _ hx).2.2.1 hi hik).1 (hstep i _ hx)
   exact⟨u,fun h=>absurd h hik,fun _ _=>⟨_,hx,h1,h2⟩⟩
  ·exact⟨.idle,fun h=>absurd h hik,fun h=>absurd h hi⟩
 obtain⟨U,hU2⟩:=Classical.axiomOfChoice hud
 have hUk:U k= .idle:=(hU2 k).1 rfl
 have hU:=fun i=>(hU2 i).2
 have hfold:∀i,i<=m->Zef (decide (k<i)) id cs off ys (Zaj U (fun _=>true) st i)=s i:=by
  intro i
  induction i with
  |zero=>intro _;exact hs0.symm
  |succ i ih=>
   intro hi
   have ih:=ih (by omega)
   by_cases hik:i=k
   ·subst hik
    simp only[Nat.lt_irrefl,decide_false]at ih
    have e0:Zaj U (fun _=>true) st (i+1)=Zaj U (fun _=>true) st i:=by simp only[Zaj,if_true,hUk,Zq4]
    rw[e0,ksn, <-ih]
    simp[Zef]
   ·obtain⟨x,hx,hu,h3⟩:=hU i (by omega) hik
    simp only[Zaj,if_true]
    rw[h3, <-ih]
    by_cases hki:k<i
    ·have hq:=((hchk i (by omega) x hx).2.2.1 (by omega) hik).2.1 hki
     obtain⟨q1,q2⟩:=Zrd hq hu
     rw[Zn3 q1 q2];simp[hki,Nat.lt_succ_of_lt hki]
    ·have: ¬k<i+1:=by omega
     simp[hki,this,Zef]
 have hone:Zhz U m:=by
  intro j j' hj hj' h1 h2
  have nek:∀{j},(U j).nw.isSome=true->j≠k:=fun h e=>by rw[e,hUk]at h;cases h
  have hjk:=nek h1
  have hjk':=nek h2
  obtain⟨x,hx,hux,_⟩:=hU j hj hjk
  obtain⟨y,hy,huy,_⟩:=hU j' hj' hjk'
  have n1:=Zcf hux h1
  have n2:=Zcf huy h2
  rcases Xbx j j' with hlt|heq|hgt
  ·exact absurd ⟨n2,n1⟩ ((((hchk j' (by omega) y hy).2.2.1 hj' hjk').2.2.2 j hlt x hx).2 hjk)
  ·exact heq
  ·exact absurd ⟨n1,n2⟩ ((((hchk j (by omega) x hx).2.2.1 hj hjk).2.2.2 j' hgt y hy).2 hjk')
 --any two:in order or apart
 have hpair:∀i,i<m-> ∀x,aos[i]? =some x-> ∀j,j<i-> ∀y,aos[j]? =some y->j∈(ancs aos []).getD i [] \/Za0 y x=false:=by
  intro i hi x hx j hj y hy
  by_cases hik:i=k
  ·rcases(hchk i (by omega) x hx).2.2.2.1 hik j hj y hy with h|h
   ·exact .inl h
   ·exact .inr h.2
  ·exact(((hchk i (by omega) x hx).2.2.1 hi hik).2.2.2 j hj y hy).1
 --the side on which those stand that meet i
 have side:∀(S:Nat->Bool) (i:Nat),i<m->S i=false->(∀k,S k=true-> ∀j∈(ancs aos []).getD k [],S j=true)->(∀j∈(ancs aos []).getD i [],S j=true)-> ∀x,aos[i]? =some x->
   ∀k y,k<m->aos[k]? =some y->k≠i->Za0 y x=true->S k=decide (k<i):=by
  intro S i hi hSi hcl hpre x hx k y hk hy hne hcf
  rcases Xa4 k i with hlt|hge
  ·have:=hpair i hi x hx k hlt y hy
   rw[hcf]at this
   rw[hpre k (this.resolve_right (by simp))];simp[hlt]
  ·have hgt:i<k:=by omega
   have:=hpair k hk y hy i hgt x hx
   have hcf':Za0 x y=true:=by
    cases hh:Za0 x y with
    |true=>rfl
    |false=>rw[Zds hh]at hcf;cases hcf
   rw[hcf']at this
   have hin:=this.resolve_right (by simp)
   cases hSk:S k with
   |false=>simp;omega
   |true=>rw[hcl k hSk i hin]at hSi;cases hSi
 have cf:∀{x y:AOper},(∃t,t∈y.ws/\(t∈x.rd \/t∈x.ws \/t∈x.op.owns))->Za0 y x=true:=by
  intro x y ⟨t,h1,h2⟩
  cases hh:Za0 y x with
  |true=>rfl
  |false=>
   simp only[Za0,Xbj]at hh
   exact absurd (by simp only[Xaj,Xay];exact h2) (Zau hh.1.1.1.1.1.1 h1)
 have cf2:∀{x y:AOper} {t:Nat},t∈y.op.owns->t∈x.op.owns->Za0 y x=true:=by
  intro x y t h1 h2
  cases hh:Za0 y x with
  |true=>rfl
  |false=>
   simp only[Za0,Xbj]at hh
   exact absurd h2 (Zau hh.1.1.1.1.2 h1)
 have hbase:∀i,i<=m->Zaj U (fun k=>decide (k<i)) st m=Zaj U (fun _=>true) st i:=fun i hi=>Zg4 hi
 have rdtm:∀(S:Nat->Bool) (i:Nat),i<m->S i=false->(∀k,S k=true-> ∀j∈(ancs aos []).getD k [],S j=true)->(∀j∈(ancs aos []).getD i [],S j=true)-> ∀x,aos[i]? =some x->
   ∀t∈x.rd,(Zaj U S st m).tm t=(Zaj U (fun _=>true) st i).tm t:=by
  intro S i hi hSi hcl hpre x hx t ht
  rw[<-hbase i (by omega)]
  refine Zfw hone (Xag _) fun j hj hd=> ?_
  by_cases hji:j=i
  ·subst hji;rw[hSi];simp
  ·by_cases hjk:j=k
   ·rw[hjk,hUk]at hd;cases hd
   ·obtain⟨y,hy,huy,_⟩:=hU j hj hjk
    rw[ud_d huy]at hd
    exact side S i hi hSi hcl hpre x hx j y hj hy hji (cf ⟨t,by simp[AOper.ws,hd], .inl ht⟩)
 have patchtm:∀(b:Bool) (st:St),(Zef b id cs off ys st).tm=st.tm:=fun b st=>Zx3 b id cs off ys st
 --one more of the unordered part
 have step1:∀(S:Nat->Bool) (i:Nat),i<m->S i=false->(∀k,S k=true->k<m)->(∀k,S k=true-> ∀j∈(ancs aos []).getD k [],S j=true)->(∀j∈(ancs aos []).getD i [],S j=true)->
   ∀g' a' W',SR w B GB g' (Zef (S k) id cs off ys (Zaj U S st m)) a' W'->a'.tmps.size=n-> ∀x,aos[i]? =some x->
   exec Γ cx.gl x (Zef (S k) id cs off ys (Zaj U S st m))=some (Zef (S k||k==i) id cs off ys (Zaj U (fun k=>S k||k==i) st m)):=by
  intro S i hi hSi hSm hcl hpre g' a' W' hsr hn' x hx
  have htm:=rdtm S i hi hSi hcl hpre x hx
  by_cases hik:i=k
  ·--the store
   subst hik
   have hx':x=aos[i]:=by rw[hxk]at hx;exact(Option.some.inj hx).symm
   subst hx'
   have hsk:s i=Zaj U (fun _=>true) st i:=by rw[<-hfold i (by omega)];simp[Zef]
   have hadd:Zaj U (fun j=>S j||j==i) st m=Zaj U S st m:=by
    have:=Zda (U:=U) (s0:=st) (S:=S) (S':=fun j=>S j||j==i) hSi (fun k=>rfl) hi (fun j h1 h2 h3=>by rw[hUk];exact Zpb _)
    rw[this,hUk,Zq4]
   rw[hSi,hadd]
   simp only[Xez,beq_self_eq_true,Zef,if_true,Xat,if_false]
   have hrd:∀t∈(AOp.store kk ka ky).reads,(Zaj U S st m).tm t=(s i).tm t:=fun t ht=>by
    rw[hsk];exact htm t (by simp only[AOper.rd,kop];exact Xbo _ ht)
   have e1:(Zaj U S st m).ev ka=(s i).ev ka:=Zax fun t ht=>hrd t (by simp[AOp.reads,ht])
   have e2:(Zaj U S st m).ev ky=(s i).ev ky:=Zax fun t ht=>hrd t (by simp[AOp.reads,ht])
   --the objects are the same
   have eH:(Zaj U S st m).H=(s i).H:=by
    rw[hsk, <-hbase i (by omega)]
    have inS:∀j,j<m->(U j).nw.isSome=true->S j=true/\j<i:=by
     intro j hj hnw
     have hji:j≠i:=fun e=>by rw[e,hUk]at hnw;cases hnw
     obtain⟨y,hy,huy,_⟩:=hU j hj hji
     have hnq:y.op.quiet=false:=by
      have:=Zcf huy hnw
      simp[AOp.quiet,this]
     have hlt:j<i:=by
      rcases Xa4 j i with h|h
      ·exact h
      ·have:=((hchk j (by omega) y hy).2.2.1 hj hji).2.1 (by omega)
       rw[hnq]at this;cases this
     refine⟨?_,hlt⟩
     rcases(hchk i (by omega) _ hx).2.2.2.1 rfl j hlt y hy with h|h
     ·exact hpre j h
     ·rw[hnq]at h;cases h.1
    by_cases hex:∃j,j<m/\(U j).nw.isSome=true
    ·obtain⟨j,hj,hnw⟩:=hex
     obtain⟨zs,hzs⟩:=Xcy.1 hnw
     obtain⟨q1,q2⟩:=inS j hj hnw
     rw[(Zdm hone hzs q1 hj (Xag _)).1,(Zdm (S:=fun k=>decide (k<i)) hone hzs (by simpa using q2) hj (Xag _)).1]
    ·have hnone:∀(T:Nat->Bool) j,j<m->T j=true->(U j).nw=none:=fun T j hj _=>by
      cases hjn:(U j).nw with
      |none=>rfl
      |some z=>exact absurd ⟨j,hj,by rw[hjn];rfl⟩ hex
     rw[(Zbn (n:=m) (hnone S)).1,(Zbn (n:=m) (hnone _)).1]
   exact kex _ e1 e2 (by rw[eH];exact kcs)
  ·obtain⟨x',hx',hux,_⟩:=hU i hi hik
   rw[hx]at hx';cases hx'
   obtain⟨hst,hquiet,hop,_⟩:=(hchk i (by omega) x hx).2.2.1 hi hik
   have hki':(k==i)=false:=by simp;omega
   rw[hki',Xcv]
   have how:∀t∈x.op.owns,(Zaj U S st m).own (.slot t)=(Zaj U (fun _=>true) st i).own (.slot t):=by
    intro t ht
    rw[<-hbase i (by omega)]
    refine Zcq hone (Xag _) fun j hj hd=> ?_
    by_cases hji:j=i
    ·subst hji;rw[hSi];simp
    ·by_cases hjk:j=k
     ·rw[hjk,hUk]at hd;simp[Zbx,Ud.idle]at hd
     ·obtain⟨y,hy,huy,_⟩:=hU j hj hjk
      simp only[Zbx,Xa5,beq_iff_eq]at hd
      rcases hd with hd|hd
      ·rw[ud_d huy]at hd
       exact side S i hi hSi hcl hpre x hx j y hj hy hji (cf ⟨t,by simp[AOper.ws,hd], .inr (.inr ht)⟩)
      ·rcases Zjn huy with e|⟨t',e,h'⟩|⟨_,id,j,e⟩
       ·rw[e]at hd;cases hd
       ·rw[e]at hd;cases hd;exact side S i hi hSi hcl hpre x hx j y hj hy hji (cf2 h' ht)
       ·rw[e]at hd;cases hd
   have hadd:Zaj U (fun j=>S j||j==i) st m=(U i).app (Zaj U S st m):=by
    refine Zda hSi (fun k=>rfl) hi fun j h1 h2 h3=> ?_
    by_cases hjk:j=k
    ·rw[hjk,hUk];exact Zs6 _
    ·obtain⟨y,hy,huy,_⟩:=hU j h2 hjk
     refine Zig huy hux ?_ (fun h=>Zcf huy h) (fun h=>Zcf hux h)
     cases hh:Za0 y x with
     |false=>rfl
     |true=>have:=side S i hi hSi hcl hpre x hx j y h2 hy (by omega) hh;rw[h3]at this;simp at this;omega
   by_cases hq:x.op.quiet=true
   ·obtain⟨q1,q2⟩:=Zrd hq hux
    have hq':=hq
    unfold AOp.quiet at hq'
    simp only[Xai,Xbh,Xfj]at hq'
    have hu:udOf Γ cx.gl x (Zef (S k) id cs off ys (Zaj U S st m))=some (U i):=by
     refine Zf7 hst hux (fun t ht=> ?_) (fun t ht=> ?_) (fun hx1=> ?_) (fun y hy=> ?_)
     ·rw[patchtm,htm t ht, <-hfold i (by omega),patchtm]
     ·rw[Zk0,how t ht, <-hfold i (by omega),Zk0]
     ·rw[hq'.1.2]at hx1;cases hx1
     ·rw[hq'.1.1.1]at hy;cases hy
    rw[Zdv hst hu,hadd,Zn3 q1 q2]
   ·--what is not quiet comes before the store
    have hik2:i<k:=by
     rcases Xa4 k i with h|h
     ·exact absurd (hquiet h) hq
     ·omega
    have hSk:S k=false:=by
     cases hSk:S k with
     |false=>rfl
     |true=>
      rcases(hchk k (by omega) _ hxk).2.2.2.1 rfl i hik2 x hx with h|h
      ·rw[hcl k hSk i h]at hSi;cases hSi
      ·exact absurd h.1 hq
    have hsi:s i=Zaj U (fun _=>true) st i:=by rw[<-hfold i (by omega)];simp[Zef,show ¬k<i by omega]
    rw[hSk]at hsr⊢
    simp only[Zef,Xat,if_false]at hsr⊢
    have hldo:x.op.isLdo=true-> ∀id j,(Zaj U S st m).own (.cell id j)=(s i).own (.cell id j):=by
     intro hx1 id j
     rw[hsi, <-hbase i (by omega)]
     refine Zcq hone (Xag _) fun j' hj hd=> ?_
     by_cases hji:j'=i
     ·subst hji;rw[hSi];simp
     ·by_cases hjk:j'=k
      ·rw[hjk,hUk]at hd;simp[Zbx,Ud.idle,Zcb]at hd
      ·obtain⟨y,hy,huy,_⟩:=hU j' hj hjk
       simp only[Zbx,Xa5]at hd
       refine side S i hi hSi hcl hpre x hx j' y hj hy hji ?_
       rcases hd with hd|hd
       ·have hy1:y.op.isLdo=true:=by
         rcases Zjn huy with e|⟨t',e,_⟩|⟨h,_⟩
         ·rw[e]at hd;cases hd
         ·rw[e]at hd;cases hd
         ·exact h
        simp[Za0,hx1,hy1]
       ·have hy1:=Zcf huy hd
        simp[Za0,hx1,hy1]
    have hH:∀y∈x.op.hOpds, ∀id,Zco (evO (s i).tm y)=some id->((s i).H id).isSome=true->(Zaj U S st m).H id=(s i).H id:=by
     intro y hy id hid hsome
     have hid':Zco (evO (Zaj U S st m).tm y)=some id:=by
      rw[<-hid];congr 1
      refine Zax fun t ht=> ?_
      have:t∈x.op.reads:=by
       revert hy;cases x.op<;>simp only[AOp.hOpds,Xa1,Xdi,false_implies]<;>intro hy<;>first|(subst hy;simp[AOp.reads,ht];done)|exact Xce.2 ⟨y,hy,ht⟩
      rw[hsi];exact htm t (by simp[AOper.rd,this])
     have hlt:=hsr.ref hn' (hop y hy) hid'
     by_cases hex:∃k,k<m/\(U k).nw.isSome=true
     ·obtain⟨k,hk,hnw⟩:=hex
      obtain⟨cs,hcs⟩:=Xcy.1 hnw
      have none_of:∀(T:Nat->Bool),T k=false->(∀j,j<m->T j=true->(U j).nw=none):=by
       intro T hT j hj hTj
       cases hjn:(U j).nw with
       |none=>rfl
       |some z=>have:=hone j k hj hk (by rw[hjn];rfl) hnw;subst this;rw[hT]at hTj;cases hTj
      have hsid:∀(b:Bool),decide (k<i)=b->(s i).H=(if b=true then upd st.H st.nH (some (.cells cs))else st.H):=by
       intro b hb
       rw[hsi, <-hbase i (by omega)]
       cases b with
       |true=>rw[(Zdm (S:=fun k=>decide (k<i)) hone hcs (by simpa using hb) hk (Xag _)).1];simp
       |false=>rw[(Zbn (n:=m) (none_of (fun k=>decide (k<i)) hb)).1];simp
      cases hSk:S k with
      |true=>
       rw[(Zdm hone hcs hSk hk (Xag _)).1]
       rw[hsid _ rfl]at hsome⊢
       by_cases hki:k<i
       ·simp[hki]
       ·simp only[hki,decide_false,Xat,if_false]at hsome⊢
        have:id≠st.nH:=fun e=>by subst e;rw[h.obn _ (Xag _)]at hsome;cases hsome
        simp[upd,this]
      |false=>
       obtain⟨e1,e2⟩:=Zbn (s0:=st) (n:=m) (none_of S hSk)
       rw[e2]at hlt
       rw[e1,hsid _ rfl]
       by_cases hki:k<i
       ·simp only[hki,decide_true,if_true]
        have:id≠st.nH:=by omega
        simp[upd,this]
       ·simp[hki]
     ·have hnone:∀(T:Nat->Bool) j,j<m->T j=true->(U j).nw=none:=fun T j hj _=>by
       cases hjn:(U j).nw with
       |none=>rfl
       |some z=>exact absurd ⟨j,hj,by rw[hjn];rfl⟩ hex
      rw[(Zbn (n:=m) (hnone S)).1,hsi, <-hbase i (by omega),(Zbn (n:=m) (hnone _)).1]
    have hu:=Zf7 hst hux (fun t ht=>by rw[hsi];exact htm t ht) (fun t ht=>by rw[hsi];exact how t ht) hldo hH
    rw[Zdv hst hu,hadd]
 --the induction
 have back:∀i,i<aos.length-> ∀x0,aos0[i]? =some x0-> ∃x,aos[i]? =some x/\(x=x0 \/x=x0.toP):=by
  intro i hi x0 hx0
  have hx:=Xad hi
  obtain⟨x1,h1,h2⟩:=hturn i _ hx
  rw[hx0]at h1;cases h1
  exact⟨_,hx,h2⟩
 have toE:∀{x x0:AOper} {s1 s2:St},(x=x0 \/x=x0.toP)->exec Γ cx.gl x s1=some s2->exec Γ cx.gl x0 s1=some s2:=by
  intro x x0 s1 s2 h h1
  rcases h with rfl|rfl
  ·exact h1
  ·exact Zya h1
 have toA:∀{x x0:AOper},(x=x0 \/x=x0.toP)->x0.after=x.after:=by
  intro x x0 h
  rcases h with rfl|rfl
  ·rfl
  ·exact(Zte _).symm
 have lt0:∀{i x0},aos0[i]? =some x0->i<aos.length:=fun h=>by rw[hlen];exact(Xae.1 h).1
 refine Zrf hs hΓ hc (m:=m) (by omega) (ancs aos []) (fun S=>Zef (S k) id cs off ys (Zaj U S st m)) (fun S S' hS=> ?_) ?_ (s:=s) ?_ (by rw[<-hl, <-hlen];exact hsn) (fun i hi x0 hx0=> ?_) (fun S i hi hSi hSm hcl hpre g' a' W' hsr hn' x0 hx0=> ?_) (fun i x0 hge hx0=> ?_) h hn hnext
 ·show Zef (S k) id cs off ys (Zaj U S st m)=Zef (S' k) id cs off ys (Zaj U S' st m)
  rw[hS k hkm,Zbg hS]
 ·have:∀j,Zaj U (fun _=>false) st j=st:=by
   intro j
   induction j with
   |zero=>rfl
   |succ j ih=>simp only[Zaj];rw[if_neg (by simp),ih]
  simp only[this];rfl
 ·rw[<-hfold m (Xag _)];simp[hkm]
 ·obtain⟨x,hx,hxx⟩:=back i (by omega) x0 hx0
  obtain⟨c1,c2,_,_,c5⟩:=hchk i (by omega) x hx
  rw[toA hxx]
  exact⟨c1,c2,c5⟩
 ·obtain⟨x,hx,hxx⟩:=back i (lt0 hx0) x0 hx0
  exact toE hxx (step1 S i hi hSi hSm hcl hpre g' a' W' hsr hn' x hx)
 ·obtain⟨x,hx,hxx⟩:=back i (lt0 hx0) x0 hx0
  exact toE hxx (hstep i x hx)
end Go.Abs
namespace Go.Abs
open Go.RowKit
variable {cx:Cx}{w:World}{B:Nat->Prop}{GB:Gh}{g:Gh}{st:St}{a:Act}{W:World}{Γ:Spec}{R:TypeId->Bool}
def Zpv (n:Nat)(aos:List AOper)(k:Nat):Bool:=
 let an:=ancs aos []
 (List.range aos.length).all fun i=>
  let x:=aos.getD i default
  let ai:=an.getD i []
  x.after.all (fun e=>decide (e<i))&&
  ai.all (fun j=>x.after.contains j||x.after.any fun e=>(an.getD e []).contains j)&&
  (if i<k then !x.op.isStore&&x.op.hOpds.all (Zip n)&&
    (List.range i).all fun j=>(ai.contains j|| !Za0 (aos.getD j default) x)&& !(x.op.isNew&&(aos.getD j default).op.isNew)
   else if i=k then(List.range i).all fun j=>ai.contains j
   else x.op.quiet&&(List.range i).all fun j=>ai.contains j||(decide (k<j)&& !Za0 (aos.getD j default) x))
theorem Zqb (hs:Scope cx w B GB)(hΓ:Sound cx Γ){n:Nat}{ops:Array Oper}{aos:List AOper}(hc:Zfe cx.P R n ops ops.toList=some aos){k:Nat}(hkm:k<aos.length)(hok:Zpv n aos k=true)(h:SR w B GB g st a W)(hn:a.tmps.size=n)
  {st':St} (he:execs Γ cx.gl aos st=some st') {Q:Exit->Act->World->Prop} (hnext:∀g' a' W',SR w B GB g' st' a' W'->a'.tmps.size=n->Q .normal a' W'):
  wpAny cx.P .any ops Q ops.size (Array.replicate ops.size false) a W:=by
 obtain⟨hl,_⟩:=Zcx hc
 simp only[Xcb]at hl
 --the states of the text's order
 obtain⟨s,hs0,hsn,hstep⟩:∃s:Nat->St,s 0=st/\s aos.length=st'/\ ∀(i:Nat) (x:AOper),aos[i]? =some x->exec Γ cx.gl x (s i)=some (s (i+1)):=by
  have key:∀(l:List AOper) (s0 s1:St),execs Γ cx.gl l s0=some s1-> ∃s:Nat->St,s 0=s0/\s l.length=s1/\ ∀(i:Nat) (x:AOper),l[i]? =some x->exec Γ cx.gl x (s i)=some (s (i+1)):=by
   intro l
   induction l with
   |nil=>intro s0 s1 h;simp only[execs,Xac]at h;subst h;exact⟨fun _=>s0,rfl,rfl,fun i x h=>by simp at h⟩
   |cons x r ih=>
    intro s0 s1 h
    simp only[execs]at h
    split at h
    ·rename_i s2 h2
     obtain⟨s,h3,h4,h5⟩:=ih s2 s1 h
     refine⟨fun i=>if i=0 then s0 else s (i-1),by simp,by simp[h4],fun i y hy=> ?_⟩
     cases i with
     |zero=>simp at hy;subst hy;simp[h3,h2]
     |succ i=>have:=h5 i y (by simpa using hy);simpa using this
    ·simp at h
  exact key aos st st' he
 --what the check says
 have hchk:∀i,i<aos.length-> ∀x,aos[i]? =some x->(∀e∈x.after,e<i)/\(∀j∈(ancs aos []).getD i [],j∈x.after \/ ∃e∈x.after,j∈(ancs aos []).getD e [])/\
   (i<k->x.op.isStore=false/\(∀y∈x.op.hOpds,Zip n y=true)/\ ∀j,j<i-> ∀y,aos[j]? =some y->(j∈(ancs aos []).getD i [] \/Za0 y x=false)/\ ¬(x.op.isNew=true/\y.op.isNew=true))/\
   (i=k-> ∀j,j<i->j∈(ancs aos []).getD i [])/\
   (k<i->x.op.quiet=true/\ ∀j,j<i-> ∀y,aos[j]? =some y->j∈(ancs aos []).getD i [] \/(k<j/\Za0 y x=false)):=by
  intro i hi x hx
  have:=Xal.1 hok i (Xbi.2 hi)
  simp only[Zb8 hx,Xai]at this
  obtain⟨⟨h1,h2⟩,h3⟩:=this
  simp only[Xal,decide_eq_true_eq,Xa5,Xdj,Xbf]at h1 h2
  refine⟨h1,h2,fun hlt=> ?_,fun heq=> ?_,fun hgt=> ?_⟩
  ·rw[if_pos hlt]at h3
   simp only[Xal,Xbi,Xai,Xbh,Xa5,Xbf,Xdn]at h3
   obtain⟨⟨h3,h4⟩,h5⟩:=h3
   refine⟨h3,h4,fun j hj y hy=> ?_⟩
   obtain⟨h6,h7⟩:=h5 j hj
   rw[Zb8 hy]at h6 h7
   exact⟨h6,fun⟨e1,e2⟩=>by rcases h7 with h7|h7<;>simp_all⟩
  ·rw[if_neg (by omega),if_pos heq]at h3
   simp only[Xal,Xbi,Xbf]at h3
   exact h3
  ·rw[if_neg (by omega),if_neg (by omega)]at h3
   simp only[Xal,Xbi,Xai,Xbh,Xa5,Xbf,decide_eq_true_eq]at h3
   refine⟨h3.1,fun j hj y hy=> ?_⟩
   have h6:=h3.2 j hj
   rw[Zb8 hy]at h6
   exact h6
 have hxk:=Xad hkm
 have hud:∀i, ∃u:Ud,(i=k->u= .idle)/\(i<aos.length->i≠k-> ∃x,aos[i]? =some x/\udOf Γ cx.gl x (s i)=some u/\s (i+1)=u.app (s i)):=by
  intro i
  by_cases hik:i=k
  ·exact⟨.idle,fun _=>rfl,fun _ h=>absurd hik h⟩
  by_cases hi:i<aos.length
  ·have hx:=Xad hi
   have hns:aos[i].op.isStore=false:=by
    obtain⟨_,_,c1,_,c3⟩:=hchk i hi _ hx
    rcases Xfd hik with hlt|hgt
    ·exact(c1 hlt).1
    ·have:=(c3 hgt).1
     unfold AOp.quiet at this
     simp only[Xai,Xbh]at this
     exact this.2
   obtain⟨u,h1,h2⟩:=Zf1 hns (hstep i _ hx)
   exact⟨u,fun h=>absurd h hik,fun _ _=>⟨_,hx,h1,h2⟩⟩
  ·exact⟨.idle,fun h=>absurd h hik,fun h=>absurd h hi⟩
 obtain⟨U,hU2⟩:=Classical.axiomOfChoice hud
 have hUk:U k= .idle:=(hU2 k).1 rfl
 have hU:=fun i=>(hU2 i).2
 have hone:Zhz U aos.length:=by
  have nek:∀{j},j<aos.length->(U j).nw.isSome=true->j<k:=fun{j} hj h=>by
   rcases Xbx j k with hlt|e|hgt
   ·exact hlt
   ·rw[e,hUk]at h;cases h
   ·obtain⟨x,hx,hux,_⟩:=hU j hj (by omega)
    have hq:=((hchk j hj x hx).2.2.2.2 hgt).1
    have:=Zcf hux h
    simp[AOp.quiet,this]at hq
  intro j j' hj hj' h1 h2
  have hjk:=nek hj h1
  have hjk':=nek hj' h2
  obtain⟨x,hx,hux,_⟩:=hU j hj (by omega)
  obtain⟨y,hy,huy,_⟩:=hU j' hj' (by omega)
  have n1:=Zcf hux h1
  have n2:=Zcf huy h2
  rcases Xbx j j' with hlt|heq|hgt
  ·exact absurd ⟨n2,n1⟩ (((hchk j' hj' y hy).2.2.1 hjk').2.2 j hlt x hx).2
  ·exact heq
  ·exact absurd ⟨n1,n2⟩ (((hchk j hj x hx).2.2.1 hjk).2.2 j' hgt y hy).2
 --any two on one side:in order or apart
 have hpair:∀i,i<aos.length->i≠k-> ∀x,aos[i]? =some x-> ∀j,j<i->((j<k/\i<k) \/(k<j/\k<i))-> ∀y,aos[j]? =some y->j∈(ancs aos []).getD i [] \/Za0 y x=false:=by
  intro i hi hik x hx j hj hside y hy
  rcases hside with⟨h1,h2⟩|⟨h1,h2⟩
  ·exact(((hchk i hi x hx).2.2.1 h2).2.2 j hj y hy).1
  ·rcases((hchk i hi x hx).2.2.2.2 h2).2 j hj y hy with h|h
   ·exact .inl h
   ·exact .inr h.2
 have side:∀(S:Nat->Bool) (i:Nat),i<aos.length->i≠k->S i=false->(∀k,S k=true-> ∀j∈(ancs aos []).getD k [],S j=true)->(∀j∈(ancs aos []).getD i [],S j=true)-> ∀x,aos[i]? =some x->
   ∀j y,j<aos.length->((j<k/\i<k) \/(k<j/\k<i))->aos[j]? =some y->j≠i->Za0 y x=true->S j=decide (j<i):=by
  intro S i hi hik hSi hcl hpre x hx j y hj hside hy hne hcf
  rcases Xa4 j i with hlt|hge
  ·have:=hpair i hi hik x hx j hlt hside y hy
   rw[hcf]at this
   rw[hpre j (this.resolve_right (by simp))];simp[hlt]
  ·have hgt:i<j:=by omega
   have:=hpair j hj (by omega) y hy i hgt (by omega) x hx
   have hcf':Za0 x y=true:=by
    cases hh:Za0 x y with
    |true=>rfl
    |false=>rw[Zds hh]at hcf;cases hcf
   rw[hcf']at this
   have hin:=this.resolve_right (by simp)
   cases hSj:S j with
   |false=>simp;omega
   |true=>rw[hcl j hSj i hin]at hSi;cases hSi
 have cf:∀{x y:AOper},(∃t,t∈y.ws/\(t∈x.rd \/t∈x.ws \/t∈x.op.owns))->Za0 y x=true:=by
  intro x y ⟨t,h1,h2⟩
  cases hh:Za0 y x with
  |true=>rfl
  |false=>
   simp only[Za0,Xbj]at hh
   exact absurd (by simp only[Xaj,Xay];exact h2) (Zau hh.1.1.1.1.1.1 h1)
 have cf2:∀{x y:AOper} {t:Nat},t∈y.op.owns->t∈x.op.owns->Za0 y x=true:=by
  intro x y t h1 h2
  cases hh:Za0 y x with
  |true=>rfl
  |false=>
   simp only[Za0,Xbj]at hh
   exact absurd h2 (Zau hh.1.1.1.1.2 h1)
 --the states of the text's order as folds:ahead of k,and behind it
 obtain⟨N,hN⟩:∃N,N=aos.length:=⟨_,rfl⟩
 have hA:∀i,i<=k->Zaj U (fun j=>decide (j<i)) st N=s i:=by
  intro i hi
  rw[Zg4 (by omega)]
  induction i with
  |zero=>exact hs0.symm
  |succ i ih=>
   obtain⟨x,hx,hu,h3⟩:=hU i (by omega) (by omega)
   simp only[Zaj,if_true]
   rw[ih (by omega), <-h3]
 have hB:∀d i,i=k+1+d->i<=N->Zaj U (fun j=>decide (k<j)&&decide (j<i)) (s (k+1)) N=s i:=by
  intro d
  induction d with
  |zero=>
   intro i hi hiN
   subst hi
   have:∀j,Zaj U (fun j=>decide (k<j)&&decide (j<k+1)) (s (k+1)) j=s (k+1):=by
    intro j
    induction j with
    |zero=>rfl
    |succ j ih=>simp only[Zaj];rw[if_neg (by simp;omega),ih]
   exact this N
  |succ d ih=>
   intro i hi hiN
   obtain⟨x,hx,hu,h3⟩:=hU (k+1+d) (by omega) (by omega)
   have:=Zda (U:=U) (s0:=s (k+1)) (i:=k+1+d) (S:=fun j=>decide (k<j)&&decide (j<k+1+d)) (S':=fun j=>decide (k<j)&&decide (j<i)) (by simp) (fun j=>by
    subst hi
    by_cases e:j=k+1+d
    ·subst e;simp;omega
    ·have:(j==k+1+d)=false:=by simpa using e
     rw[this,Xcv]
     congr 1
     simp;omega) (n:=N) (by omega) (fun j h1 h2 h3=>by simp at h3;omega)
   rw[this,ih _ rfl (by omega), <-h3,hi]
   rfl
 obtain⟨F,hF⟩:∃F:(Nat->Bool)->St, ∀S,F S=if S k=true then Zaj U (fun j=>S j&&decide (k<j)) (s (k+1)) N else Zaj U (fun j=>S j&&decide (j<k)) st N:=⟨_,fun _=>rfl⟩
 --one more
 have step1:∀(S:Nat->Bool) (i:Nat),i<N->S i=false->(∀k,S k=true->k<N)->(∀k,S k=true-> ∀j∈(ancs aos []).getD k [],S j=true)->(∀j∈(ancs aos []).getD i [],S j=true)->
   ∀g' a' W',SR w B GB g' (F S) a' W'->a'.tmps.size=n-> ∀x,aos[i]? =some x->exec Γ cx.gl x (F S)=some (F (fun k=>S k||k==i)):=by
  intro S i hi hSi hSm hcl hpre g' a' W' hsr hn' x hx
  rw[hF]at hsr⊢
  rw[hF]
  rcases Xbx i k with hik|hik|hik
  ·--ahead
   have hSk:S k=false:=by
    cases hSk:S k with
    |false=>rfl
    |true=>have:=hcl k hSk i ((hchk k hkm _ hxk).2.2.2.1 rfl i hik);rw[this]at hSi;cases hSi
   have hSk':(S k||k==i)=false:=by rw[hSk];simp;omega
   rw[if_neg (by rw[hSk];simp)]at hsr⊢
   rw[if_neg (by rw[hSk'];simp)]
   obtain⟨x',hx',hux,_⟩:=hU i (by omega) (by omega)
   rw[hx]at hx';cases hx'
   obtain⟨hst,hop,_⟩:=(hchk i (by omega) x hx).2.2.1 hik
   have hsi:s i=Zaj U (fun j=>decide (j<i)) st N:=(hA i (by omega)).symm
   have hsd:∀j y,j<N->j<k->aos[j]? =some y->j≠i->Za0 y x=true->(S j&&decide (j<k))=decide (j<i):=fun j y hj hjk hy hne hcf=>by
    rw[side S i (by omega) (by omega) hSi hcl hpre x hx j y (by omega) (.inl ⟨hjk,hik⟩) hy hne hcf];simp[hjk]
   have htm:∀t∈x.rd,(Zaj U (fun j=>S j&&decide (j<k)) st N).tm t=(s i).tm t:=by
    intro t ht
    rw[hsi]
    refine Zfw hone (by omega) fun j hj hd=> ?_
    by_cases hji:j=i
    ·subst hji;rw[hSi];simp
    ·rcases Xbx j k with hjk|hjk|hjk
     ·obtain⟨y,hy,huy,_⟩:=hU j (by omega) (by omega)
      rw[ud_d huy]at hd
      exact hsd j y hj hjk hy hji (cf ⟨t,by simp[AOper.ws,hd], .inl ht⟩)
     ·rw[hjk,hUk]at hd;cases hd
     ·have h1: ¬j<k:=by omega
      have h2: ¬j<i:=by omega
      simp[h1,h2]
   have how:∀t∈x.op.owns,(Zaj U (fun j=>S j&&decide (j<k)) st N).own (.slot t)=(s i).own (.slot t):=by
    intro t ht
    rw[hsi]
    refine Zcq hone (by omega) fun j hj hd=> ?_
    by_cases hji:j=i
    ·subst hji;rw[hSi];simp
    ·rcases Xbx j k with hjk|hjk|hjk
     ·obtain⟨y,hy,huy,_⟩:=hU j (by omega) (by omega)
      simp only[Zbx,Xa5,beq_iff_eq]at hd
      rcases hd with hd|hd
      ·rw[ud_d huy]at hd
       exact hsd j y hj hjk hy hji (cf ⟨t,by simp[AOper.ws,hd], .inr (.inr ht)⟩)
      ·rcases Zjn huy with e|⟨t',e,h'⟩|⟨_,id,j,e⟩
       ·rw[e]at hd;cases hd
       ·rw[e]at hd;cases hd;exact hsd j y hj hjk hy hji (cf2 h' ht)
       ·rw[e]at hd;cases hd
     ·rw[hjk,hUk]at hd;simp[Zbx,Ud.idle]at hd
     ·have h1: ¬j<k:=by omega
      have h2: ¬j<i:=by omega
      simp[h1,h2]
   have hadd:Zaj U (fun j=>(S j||j==i)&&decide (j<k)) st N=(U i).app (Zaj U (fun j=>S j&&decide (j<k)) st N):=by
    refine Zda (by rw[hSi];rfl) (fun j=> ?_) (by omega) fun j h1 h2 h3=> ?_
    ·by_cases e:j=i
     ·subst e;simp[hik]
     ·have:(j==i)=false:=by simpa using e
      simp[this]
    ·simp only[Xai,decide_eq_true_eq]at h3
     obtain⟨y,hy,huy,_⟩:=hU j (by omega) (by omega)
     refine Zig huy hux ?_ (fun h=>Zcf huy h) (fun h=>Zcf hux h)
     cases hh:Za0 y x with
     |false=>rfl
     |true=>have:=side S i (by omega) (by omega) hSi hcl hpre x hx j y (by omega) (.inl ⟨h3.2,hik⟩) hy (by omega) hh;rw[h3.1]at this;simp at this;omega
   have hldo:x.op.isLdo=true-> ∀id j,(Zaj U (fun j=>S j&&decide (j<k)) st N).own (.cell id j)=(s i).own (.cell id j):=by
    intro hx1 id j
    rw[hsi]
    refine Zcq hone (by omega) fun j' hj hd=> ?_
    by_cases hji:j'=i
    ·subst hji;rw[hSi];simp
    ·rcases Xbx j' k with hjk|hjk|hjk
     ·obtain⟨y,hy,huy,_⟩:=hU j' (by omega) (by omega)
      simp only[Zbx,Xa5]at hd
      refine hsd j' y hj hjk hy hji ?_
      rcases hd with hd|hd
      ·have hy1:y.op.isLdo=true:=by
        rcases Zjn huy with e|⟨t',e,_⟩|⟨h,_⟩
        ·rw[e]at hd;cases hd
        ·rw[e]at hd;cases hd
        ·exact h
       simp[Za0,hx1,hy1]
      ·have hy1:=Zcf huy hd
       simp[Za0,hx1,hy1]
     ·rw[hjk,hUk]at hd;simp[Zbx,Ud.idle,Zcb]at hd
     ·have h1: ¬j'<k:=by omega
      have h2: ¬j'<i:=by omega
      simp[h1,h2]
   have hH:∀y∈x.op.hOpds, ∀id,Zco (evO (s i).tm y)=some id->((s i).H id).isSome=true->(Zaj U (fun j=>S j&&decide (j<k)) st N).H id=(s i).H id:=by
    intro y hy id hid hsome
    have hid':Zco (evO (Zaj U (fun j=>S j&&decide (j<k)) st N).tm y)=some id:=by
     rw[<-hid];congr 1
     refine Zax fun t ht=> ?_
     have:t∈x.op.reads:=by
      revert hy;cases x.op<;>simp only[AOp.hOpds,Xa1,Xdi,false_implies]<;>intro hy<;>first|(subst hy;simp[AOp.reads,ht];done)|exact Xce.2 ⟨y,hy,ht⟩
     exact htm t (by simp[AOper.rd,this])
    have hlt:=hsr.ref hn' (hop y hy) hid'
    rw[hsi]at hsome⊢
    by_cases hex:∃k',k'<N/\(U k').nw.isSome=true
    ·obtain⟨k',hk',hnw⟩:=hex
     obtain⟨cs,hcs⟩:=Xcy.1 hnw
     have none_of:∀(T:Nat->Bool),T k'=false->(∀j,j<N->T j=true->(U j).nw=none):=by
      intro T hT j hj hTj
      cases hjn:(U j).nw with
      |none=>rfl
      |some z=>have:=hone j k' (by omega) (by omega) (by rw[hjn];rfl) hnw;subst this;rw[hT]at hTj;cases hTj
     have hsid:∀(b:Bool),decide (k'<i)=b->(Zaj U (fun j=>decide (j<i)) st N).H=(if b=true then upd st.H st.nH (some (.cells cs))else st.H):=by
      intro b hb
      cases b with
      |true=>rw[(Zdm (S:=fun j=>decide (j<i)) hone hcs (by simpa using hb) hk' (by omega)).1];simp
      |false=>rw[(Zbn (n:=N) (none_of (fun j=>decide (j<i)) hb)).1];simp
     cases hSk2:(S k'&&decide (k'<k))with
     |true=>
      rw[(Zdm (S:=fun j=>S j&&decide (j<k)) hone hcs hSk2 hk' (by omega)).1]
      rw[hsid _ rfl]at hsome⊢
      by_cases hki:k'<i
      ·simp[hki]
      ·simp only[hki,decide_false,Xat,if_false]at hsome⊢
       have:id≠st.nH:=fun e=>by subst e;rw[h.obn _ (Xag _)]at hsome;cases hsome
       simp[upd,this]
     |false=>
      obtain⟨e1,e2⟩:=Zbn (s0:=st) (n:=N) (none_of (fun j=>S j&&decide (j<k)) hSk2)
      rw[e2]at hlt
      rw[e1,hsid _ rfl]
      by_cases hki:k'<i
      ·simp only[hki,decide_true,if_true]
       have:id≠st.nH:=by omega
       simp[upd,this]
      ·simp[hki]
    ·have hnone:∀(T:Nat->Bool) j,j<N->T j=true->(U j).nw=none:=fun T j hj _=>by
      cases hjn:(U j).nw with
      |none=>rfl
      |some z=>exact absurd ⟨j,hj,by rw[hjn];rfl⟩ hex
     rw[(Zbn (n:=N) (hnone _)).1,(Zbn (n:=N) (hnone _)).1]
   have hu:=Zf7 hst hux htm how hldo hH
   rw[Zdv hst hu,hadd]
  ·--k itself
   subst hik
   have hx':x=aos[i]:=by rw[hxk]at hx;exact(Option.some.inj hx).symm
   subst hx'
   rw[if_neg (by rw[hSi];simp),if_pos (by simp)]
   have hall:∀j,j<i->S j=true:=fun j hj=>hpre j ((hchk i hkm _ hxk).2.2.2.1 rfl j hj)
   have hbeh:∀j,i<j->S j=false:=fun j hj=>by
    cases hSj:S j with
    |false=>rfl
    |true=>
     have hjN:=hSm j hSj
     have hxj:=Xad (show j<aos.length by omega)
     rcases((hchk j (by omega) _ hxj).2.2.2.2 hj).2 i hj _ hxk with h|h
     ·rw[hcl j hSj i h]at hSi;cases hSi
     ·omega
   have e1:Zaj U (fun j=>S j&&decide (j<i)) st N=s i:=by
    rw[<-hA i (Xag _)]
    exact Zbg fun j _=>by
     by_cases hj:j<i
     ·simp[hj,hall j hj]
     ·simp[hj]
   have e2:Zaj U (fun j=>(S j||j==i)&&decide (i<j)) (s (i+1)) N=s (i+1):=by
    refine Eq.trans (Zbg fun j _=> ?_) (hB 0 (i+1) rfl (by omega))
    by_cases hj:i<j
    ·have:(j==i)=false:=by simp;omega
     have h2: ¬j<i+1:=by omega
     simp[hj,hbeh j hj,this,h2]
    ·simp[hj]
   rw[e1,e2]
   exact hstep i _ hxk
  ·--behind
   have hSk:S k=true:=by
    rcases((hchk i (by omega) x hx).2.2.2.2 hik).2 k hik _ hxk with h|h
    ·exact hpre k h
    ·omega
   rw[if_pos hSk]at hsr⊢
   rw[if_pos (by rw[hSk];rfl)]
   obtain⟨x',hx',hux,_⟩:=hU i (by omega) (by omega)
   rw[hx]at hx';cases hx'
   have hq:=((hchk i (by omega) x hx).2.2.2.2 hik).1
   have hq':=hq
   unfold AOp.quiet at hq'
   simp only[Xai,Xbh,Xfj]at hq'
   have hst:=hq'.2
   have hsi:s i=Zaj U (fun j=>decide (k<j)&&decide (j<i)) (s (k+1)) N:=(hB (i-(k+1)) i (by omega) (by omega)).symm
   have hsd:∀j y,j<N->k<j->aos[j]? =some y->j≠i->Za0 y x=true->(S j&&decide (k<j))=(decide (k<j)&&decide (j<i)):=fun j y hj hjk hy hne hcf=>by
    rw[side S i (by omega) (by omega) hSi hcl hpre x hx j y (by omega) (.inr ⟨hjk,hik⟩) hy hne hcf];simp[hjk]
   have hu:udOf Γ cx.gl x (Zaj U (fun j=>S j&&decide (k<j)) (s (k+1)) N)=some (U i):=by
    refine Zf7 hst hux (fun t ht=> ?_) (fun t ht=> ?_) (fun hx1=> ?_) (fun y hy=> ?_)
    ·rw[hsi]
     refine Zfw hone (by omega) fun j hj hd=> ?_
     by_cases hji:j=i
     ·subst hji;rw[hSi];simp
     ·rcases Xbx j k with hjk|hjk|hjk
      ·have: ¬k<j:=by omega
       simp[this]
      ·rw[hjk,hUk]at hd;cases hd
      ·obtain⟨y,hy,huy,_⟩:=hU j (by omega) (by omega)
       rw[ud_d huy]at hd
       exact hsd j y hj hjk hy hji (cf ⟨t,by simp[AOper.ws,hd], .inl ht⟩)
    ·rw[hsi]
     refine Zcq hone (by omega) fun j hj hd=> ?_
     by_cases hji:j=i
     ·subst hji;rw[hSi];simp
     ·rcases Xbx j k with hjk|hjk|hjk
      ·have: ¬k<j:=by omega
       simp[this]
      ·rw[hjk,hUk]at hd;simp[Zbx,Ud.idle]at hd
      ·obtain⟨y,hy,huy,_⟩:=hU j (by omega) (by omega)
       simp only[Zbx,Xa5,beq_iff_eq]at hd
       rcases hd with hd|hd
       ·rw[ud_d huy]at hd
        exact hsd j y hj hjk hy hji (cf ⟨t,by simp[AOper.ws,hd], .inr (.inr ht)⟩)
       ·rcases Zjn huy with e|⟨t',e,h'⟩|⟨_,id,j,e⟩
        ·rw[e]at hd;cases hd
        ·rw[e]at hd;cases hd;exact hsd j y hj hjk hy hji (cf2 h' ht)
        ·rw[e]at hd;cases hd
    ·rw[hq'.1.2]at hx1;cases hx1
    ·rw[hq'.1.1.1]at hy;cases hy
   have hadd:Zaj U (fun j=>(S j||j==i)&&decide (k<j)) (s (k+1)) N=(U i).app (Zaj U (fun j=>S j&&decide (k<j)) (s (k+1)) N):=by
    refine Zda (by rw[hSi];rfl) (fun j=> ?_) (by omega) fun j h1 h2 h3=> ?_
    ·by_cases e:j=i
     ·subst e;simp[hik]
     ·have:(j==i)=false:=by simpa using e
      simp[this]
    ·simp only[Xai,decide_eq_true_eq]at h3
     obtain⟨y,hy,huy,_⟩:=hU j (by omega) (by omega)
     refine Zig huy hux ?_ (fun h=>Zcf huy h) (fun h=>Zcf hux h)
     cases hh:Za0 y x with
     |false=>rfl
     |true=>have:=side S i (by omega) (by omega) hSi hcl hpre x hx j y (by omega) (.inr ⟨h3.2,hik⟩) hy (by omega) hh;rw[h3.1]at this;simp at this;omega
   rw[Zdv hst hu,hadd]
 refine Zrf hs hΓ hc (m:=N) (by omega) (ancs aos []) F (fun S S' hS=> ?_) ?_ (s:=s) ?_ (by rw[<-hl];exact hsn) (fun i hi x hx=> ?_) (fun S i hi hSi hSm hcl hpre g' a' W' hsr hn' x hx=>step1 S i hi hSi hSm hcl hpre g' a' W' hsr hn' x hx) (fun i x hge hx=>hstep i x hx) h hn hnext
 ·rw[hF,hF,hS k (by omega)]
  split
  ·exact Zbg fun j hj=>by rw[hS j hj]
  ·exact Zbg fun j hj=>by rw[hS j hj]
 ·rw[hF,if_neg (by simp)]
  have:∀j,Zaj U (fun j=>false&&decide (j<k)) st j=st:=by
   intro j
   induction j with
   |zero=>rfl
   |succ j ih=>simp only[Zaj];rw[if_neg (by simp),ih]
  exact this N
 ·rw[hF,if_pos rfl, <-hB (N-(k+1)) N (by omega) (Xag _)]
  refine Zbg fun j hj=> ?_
  simp[hj]
 ·obtain⟨c1,c2,_⟩:=hchk i (by omega) x hx
  exact⟨c1,c2,fun hge=>by omega⟩
end Go.Abs
namespace Go.Abs
open Go.RowKit
variable {cx:Cx}{w:World}{B:Nat->Prop}{GB:Gh}{g:Gh}{st:St}{a:Act}{W:World}{Γ:Spec}{R:TypeId->Bool}
theorem Zv9 {P:Program}{ops:Array Oper}{Q:Exit->Act->World->Prop}(INV:(Nat->Bool)->Act->World->Prop)
  (hlt:∀i o,ops[i]? =some o-> ∀e∈Zgy o,e<i)
  (step:∀(S:Nat->Bool) i o a W,ops[i]? =some o->S i=false->(∀e∈Zgy o,S e=true)->INV S a W-> ∀K:Act->World->Prop,(∀a' W',INV (fun k=>S k||k==i) a' W'->K a' W')->wpOp P ops Q i K a W)
  (fin:∀S a W,(∀k,k<ops.size->S k=true)->INV S a W->Q .normal a W) (h0:INV (fun _=>false) a W):
  wpAny P .any ops Q ops.size (Array.replicate ops.size false) a W:=by
 have Zbt:∀(l:Array Bool) (k:Nat),l.size=ops.size->k<ops.size->l.getD k true=l.getD k false:=fun l k h1 h2=>by simp[Array.getD,show k<l.size by omega]
 have nolist:∀(l:Array Bool),l.size=ops.size->Region.ready .any ops l=[]-> ∀k,k<ops.size->l.getD k false=true:=by
  intro l hls hre k
  induction k using Nat.strongRecOn with
  |_ k ih=>
   intro hk
   cases hv:l.getD k false with
   |true=>rfl
   |false=>
    have:k∈Region.ready .any ops l:=by
     refine mem_ready.2 ⟨by rw[Zbt l k hls hk];exact hv,ops[k],Xar hk,fun e he hb=> ?_⟩
     have hea:e.on∈Zgy ops[k]:=Xa9.2 ⟨e,Xdt.2 ⟨by simpa using he,hb⟩,rfl⟩
     have:=hlt k ops[k] (Xar hk) _ hea
     exact ih e.on this (by omega)
    rw[hre]at this;cases this
 have main:∀(fuel:Nat) (l:Array Bool) (a':Act) (W':World),l.size=ops.size->l.toList.count false<=fuel->INV (fun k=>l.getD k false) a' W'->wpAny P .any ops Q fuel l a' W':=by
  intro fuel
  induction fuel with
  |zero=>
   intro l a' W' hls hcnt hj
   have hall:∀k,k<ops.size->l.getD k false=true:=by
    intro k hk
    cases hv:l.getD k false with
    |true=>rfl
    |false=>
     have hk':k<l.size:=by omega
     have:false∈l.toList:=by
      have e:l[k]=false:=by simpa[Array.getD,hk']using hv
      rw[<-e];simp
     have:=Xdo.2 this
     omega
   refine⟨?_,fin _ a' W' hall hj⟩
   apply Xdv.2
   intro k hk
   obtain⟨h1,o,h2,_⟩:=mem_ready.1 hk
   have hlt:=(Xa8.1 h2).1
   rw[Zbt l k hls hlt,hall k hlt]at h1;cases h1
  |succ fuel ih=>
   intro l a' W' hls hcnt hj
   refine⟨fun hre=>fin _ a' W' (nolist l hls hre) hj,fun i hi=> ?_⟩
   obtain⟨h1,o,ho,hedges⟩:=mem_ready.1 hi
   have hilt:=(Xa8.1 ho).1
   rw[Zbt l i hls hilt]at h1
   have hilt':i<l.size:=by omega
   have hls':(l.setIfInBounds i true).size=ops.size:=by simpa using hls
   have hcnt':(l.setIfInBounds i true).toList.count false<=fuel:=by
    have hi2:i<l.toList.length:=by simpa using hilt'
    have e:l.toList[i]=false:=by simpa[Array.getD,hilt']using h1
    have hpos:0<l.toList.count false:=Xdo.2 (by rw[<-e];exact Xau hi2)
    rw[Xc7,Xfs hi2,e]
    simp only[show(false==false)=true from rfl,show(true==false)=false from rfl,if_true,Xat,if_false]
    omega
   have hS':(fun k=>(l.setIfInBounds i true).getD k false)=fun k=>l.getD k false||k==i:=by
    funext k
    by_cases hki:k=i
    ·subst hki;simp[Array.getD,hilt']
    ·rw[getD_set_ne false (fun e=>hki e.symm)];simp[hki]
   have haft:∀e∈Zgy o,l.getD e false=true:=by
    intro e he
    obtain⟨ed,hed,rfl⟩:=Xa9.1 he
    obtain⟨hed1,hed2⟩:=Xdt.1 hed
    exact hedges ed (by simpa using hed1) hed2
   exact step _ i o a' W' ho h1 haft hj _ fun a2 W2 h2=>ih _ a2 W2 hls' hcnt' (by rw[hS'];exact h2)
 refine main ops.size _ a W (by simp) (by simp[Xew]) ?_
 have:(fun k=>(Array.replicate ops.size false).getD k false)=fun _=>false:=by funext k;simp[Array.getD]
 rw[this];exact h0
theorem OwnAt.mono {B B':Nat->Prop}{g g':Gh}{p:Pos}{v:V}{x:Value}(h:OwnAt W B g p v x)(hb:∀b,B b->g.ow b=some p->B' b/\g'.ow b=some p)(hG:g'.G=g.G):OwnAt W B' g' p v x:=by
 intro sz xs b off len cap sp e1 e2
 rcases h sz xs b off len cap sp e1 e2 with h|⟨h1,h2,h3⟩
 ·exact .inl h
 ·exact .inr ⟨(hb b h1 h2).1,(hb b h1 h2).2,by rw[hG];exact h3⟩
theorem SR.restart (h:SR w B GB g st a W){q:Nat}(hq:q<W.heap.size)(ho:g.ow q=none)(hf:∀id,g.φ id≠some q):SR W (fun b=>B b/\b≠q) g g st a W:=by
 have hm:∀{p:Pos} {v:V} {x:Value},OwnAt W B g p v x->OwnAt W (fun b=>B b/\b≠q) g p v x:=fun{p v x} h=>h.mono (fun b hb hw=>⟨⟨hb,fun e=>by rw[e,ho]at hw;cases hw⟩,hw⟩) rfl
 exact{
  defers:=h.defers
  tm:=h.tm
  own:=fun t x hx hw=>hm (h.own t x hx hw)
  ob:=fun id o hH=>(h.ob id o hH).keep (Keeps.refl ..) rfl (fun _ _=>rfl) fun j v x hw=>⟨hw,hm⟩
  obn:=h.obn
  φ:=fun id b hb=>⟨⟨(h.φ id b hb).1,fun e=>hf id (e▸hb)⟩,(h.φ id b hb).2⟩
  live:=h.live
  inj:=h.inj
  Gz:=h.Gz
  Glo:=fun _ _=>rfl
  kp:=fun _ _ _=>rfl
  kG:=fun _=>Xag _
  kφ:=fun _ _ e=>e
  ksz:=fun _ _ _=>rfl
  below:=Bel.refl _ _
  hB:=fun b hb=>⟨h.hB b (Xbs h.below.size hb),fun e=>by omega⟩}
def Pend (w:World)(B:Nat->Prop)(GB:Gh)(t:Nat)(cs:List V)(st:St)(a:Act)(W:World):Prop:=
 ∃W1 g1 st1 a1 q xs ty g,SR w B GB g1 st1 a1 W1/\B q/\W1.heap[q]? =some (.cells xs ty (0,0))/\RepP W1 g1.G g1.φ cs xs/\(∀c∈cs,c.sc=true)/\g1.G q=0/\
  SR W1 (fun b=>B b/\b≠q) g1 g (st.put (some t) (.gp q 0) false) a W
theorem Z1s (h:SR w B GB g st a W){t:Nat}{cs:List V}{xs:Array Value}{ty:TypeId}(hr:RepL W g.G g.φ cs xs)(hsc:∀c∈cs,c.sc=true):
  Pend w B GB t cs st (a.put (some t) (.pointer (some ⟨W.heap.size,0,none⟩))) (W.alloc (.cells xs ty)):=by
 have hadv:=Adv.new h 0 none none (Zb6 W (.cells xs ty)) (by simp)
 have h1:=h.adv hadv
 simp only[St.take]at h1
 have h2:=h1.restart (q:=W.heap.size) (by simp) (by simp) (fun id e=>by have:=(h.φ id _ e).2.1;omega)
 exact⟨_,_,st,a,W.heap.size,xs,ty,_,h1,h.hB _ h.below.size,heap_alloc_new _ _,(hr.keep hadv.keeps).pre,hsc,by simp,h2.put (some t) (.gp W.heap.size 0) false _ (.gp _ _) (fun _ _ h=>by cases h)⟩
theorem Zyb {t:Nat}{cs:List V}(h:Pend w B GB t cs st a W)(ht:t<a.tmps.size):∃g',SR w B GB g' ((st.new cs).put (some t) (.ptr st.nH 0) false) a W:=by
 obtain⟨W1,g1,st1,a1,q,xs,ty,g,h1,hB,hblk,hr,hsc,hG,h2⟩:=h
 have hk:Keeps W1 g1.G g1.φ W g.G g.φ:=⟨h2.kp,h2.kG,h2.kφ,h2.ksz⟩
 have hblk2:W.heap[q]? =some (.cells xs ty (0,0)):=(h2.below.block q fun e=>e.2 rfl).trans hblk
 have hqlt:q<W.heap.size:=(Xa8.1 hblk2).1
 have hG2:g.G q=0:=(h2.Glo q fun e=>e.2 rfl).trans hG
 have hfr:∀id,st.nH<=id->g.φ id=none:=by
  intro id hid
  cases hφ:g.φ id with
  |none=>rfl
  |some b=>have:=(h2.φ id b hφ).2.2;exact absurd this (Xe2.2 hid)
 have hfq:∀id b,g.φ id=some b->b≠q:=fun id b e=>(h2.φ id b e).1.2
 have hx:=Xar ht
 have hxt:a.tmps[t]= .pointer (some ⟨q,0,none⟩):=by
  have:=h2.tm t _ hx
  rw[show(st.put (some t) (.gp q 0) false).tm t= .gp q 0 by simp[St.put,upd]]at this
  generalize a.tmps[t]=v at this
  cases this;rfl
 have hk2:Keeps W g.G g.φ W g.G (upd g.φ st.nH (some q)):=⟨fun _ _ _=>rfl,fun _=>Xag _,fun id b hφ=>by
  have:id≠st.nH:=fun e=>by rw[hfr id (by omega)]at hφ;cases hφ
  simp[upd,this,hφ],fun _ _ _=>rfl⟩
 have hm:∀{p:Pos} {v:V} {x:Value},OwnAt W (fun b=>B b/\b≠q) g p v x->OwnAt W B ⟨g.G,upd g.φ st.nH (some q),fun b=>if b=q then none else g.ow b⟩ p v x:=fun{p v x} h=>h.mono (fun b hb hw=>⟨hb.1,by dsimp only;rw[if_neg hb.2];exact hw⟩) rfl
 have tme:∀t',t'≠t->(st.put (some t) (.gp q 0) false).tm t'=st.tm t':=fun t' e=>by simp[St.put,upd,e]
 have owe:∀id j,(st.put (some t) (.gp q 0) false).own (.cell id j)=st.own (.cell id j):=fun id j=>by simp[St.put,updP]
 refine⟨⟨g.G,upd g.φ st.nH (some q),fun b=>if b=q then none else g.ow b⟩, {
  defers:=h2.defers
  tm:=fun t' x hx'=> ?_
  own:=fun t' x hx' ho=> ?_
  ob:=fun id o hH=> ?_
  obn:=fun id hid=> ?_
  φ:=fun id b hφ=> ?_
  live:=fun id b hφ=> ?_
  inj:=fun id id' b e1 e2 l1 l2=> ?_
  Gz:=h2.Gz
  Glo:=fun b hb=>(h2.Glo b fun e=>hb e.1).trans (h1.Glo b hb)
  kp:=fun b i hi=>(h2.kp b i (Xb0 hi (h1.kG b))).trans (h1.kp b i hi)
  kG:=fun b=>Xbs (h1.kG b) (h2.kG b)
  kφ:=fun id b e=>hk2.φ id b (h2.kφ id b (h1.kφ id b e))
  ksz:=fun id b e=>(h2.ksz id b (h1.kφ id b e)).trans (h1.ksz id b e)
  below:=h1.below.trans (h2.below.mono fun b hb=>hb.1)
  hB:=h1.hB}⟩
 ·by_cases e:t'=t
  ·subst e
   rw[hx]at hx';cases hx'
   rw[hxt,show((st.new cs).put (some t') (.ptr st.nH 0) false).tm t'= .ptr st.nH 0 by simp[St.put,upd]]
   exact .ptr _ _ _ (by simp[upd])
  ·rw[show((st.new cs).put (some t) (.ptr st.nH 0) false).tm t'=st.tm t' by simp[St.put,upd,e,St.new], <-tme t' e]
   exact(h2.tm t' x hx').keep hk2
 ·by_cases e:t'=t
  ·subst e;simp[St.put,updP]at ho
  ·have ho':(st.put (some t) (.gp q 0) false).own (.slot t')=true:=by simpa[St.put,updP,e,St.new]using ho
   have:=hm (h2.own t' x hx' ho')
   rw[tme t' e]at this
   rw[show((st.new cs).put (some t) (.ptr st.nH 0) false).tm t'=st.tm t' by simp[St.put,upd,e,St.new]]
   exact this
 ·have hH':(upd st.H st.nH (some (.cells cs))) id=some o:=hH
  by_cases hid:id=st.nH
  ·subst hid
   simp only[upd,if_true,Xac]at hH'
   subst hH'
   exact .inr ⟨q,xs,ty,by simp[upd],hblk2,hr.keep (hk.trans hk2),hsc,fun j v x _ _ ho=>by simp[St.new,St.put,updP]at ho⟩
  ·simp only[upd,hid,if_false]at hH'
   refine ObOK.keep (h2.ob id o hH') hk2 (by simp[upd,hid]) (fun _ _=>rfl) (fun j v x hw=>⟨?_,hm⟩)
   rw[owe]
   simpa[St.new,St.put,updP,hid]using hw
 ·have hid':st.nH+1<=id:=hid
  have:id≠st.nH:=by omega
  show(upd st.H st.nH (some (.cells cs))) id=none
  simp only[upd,this,if_false]
  exact h2.obn id (by show st.nH<=id;omega)
 ·show B b/\b<W.heap.size/\id<st.nH+1
  by_cases hid:id=st.nH
  ·subst hid
   simp only[upd,if_true,Xac]at hφ
   subst hφ
   exact⟨hB,hqlt,by omega⟩
  ·simp only[upd,hid,if_false]at hφ
   obtain⟨q1,q2,q5⟩:=h2.φ id b hφ
   exact⟨q1.1,q2,Nat.lt_succ_of_lt q5⟩
 ·by_cases hid:id=st.nH
  ·subst hid
   simp only[upd,if_true,Xac]at hφ
   subst hφ
   exact⟨hG2,by simp⟩
  ·simp only[upd,hid,if_false]at hφ
   exact⟨(h2.live id b hφ).1,by dsimp only;split<;>first|rfl|exact(h2.live id b hφ).2⟩
 ·by_cases hid:id=st.nH<;>by_cases hid':id'=st.nH
  ·rw[hid,hid']
  ·simp only[upd,hid,if_true,Xac]at e1
   simp only[upd,hid',if_false]at e2
   exact absurd e1.symm (hfq _ _ e2)
  ·simp only[upd,hid',if_true,Xac]at e2
   simp only[upd,hid,if_false]at e1
   exact absurd e2.symm (hfq _ _ e1)
  ·simp only[upd,hid,hid',if_false]at e1 e2
   have k1:(upd st.H st.nH (some (.cells cs))) id≠none:=l1
   have k2:(upd st.H st.nH (some (.cells cs))) id'≠none:=l2
   simp only[upd,hid,hid',if_false]at k1 k2
   exact h2.inj id id' b e1 e2 k1 k2
theorem Scope.restart (hs:Scope cx w B GB)(h:SR w B GB g st a W){q:Nat}:Scope cx W (fun b=>B b/\b≠q) g:=
 ⟨(h.okw hs).below,fun b hb=>hs.hB b hb.1,(h.okw hs).Glo,hs.gl⟩
def big (x:AOper):Bool:=match x.op,x.guard with| .callh _ _,none| .store _ _ _,none| .new _,none=>true|_,_=>false
def AOp.mild (op:AOp):Bool:= !op.isNew&& !op.isLdo&& !op.isStore
def Z6m (n:Nat)(x:AOper):Option Nat:=match x.op,x.guard,x.dst with| .new _,none,some t=>if t<n then some t else none|_,_,_=>none
def Zh4 (t:Nat)(x:AOper):Bool:= !(x.rd++x.ws++x.op.owns).contains t
def good (y x:AOper):Bool:= !Za0 y x&& !(big x&& !y.op.quiet)&& !(big y&& !x.op.quiet)
def Zt4 (aos:List AOper)(an:List (List Nat))(t e i:Nat):Bool:=
 let x:=aos.getD i default
 let ai:=an.getD i []
 x.after.all (fun e=>decide (e<i))&&
 ai.all (fun j=>x.after.contains j||x.after.any fun e=>(an.getD e []).contains j)&&
 (big x||x.op.mild)&&
 (if i<e then Zh4 t x&&(x.op.quiet||big x||(List.range e).any fun b=>big (aos.getD b default)&&(an.getD b []).contains i)
  else i==e||Zh4 t x||(List.range e).all fun b=> !big (aos.getD b default)||ai.contains b)&&
 (i==e||(List.range i).all fun j=>ai.contains j||good (aos.getD j default) x)
def Zll (n:Nat)(aos:List AOper)(e:Nat):Bool:=match Z6m n (aos.getD e default)with
 |none=>false
 |some t=>(List.range aos.length).all (Zt4 aos (ancs aos []) t e)
def Z19 (Γ:Spec)(gl:Nat->Option (List V))(x:AOper)(s s1:St)(p:Ud×HS):Prop:=
 p.1.nw=none/\Zcb p.1.tk=false/\p.1.d=x.dst/\(∀t,p.1.tk=some (.slot t)->t∈x.op.owns)/\s1=p.1.app (s.setHS p.2)/\(big x=false->p.2=s.hs)/\
 ∀Z:St,(∀t∈x.rd,Z.tm t=s.tm t)->(∀t∈x.op.owns,Z.own (.slot t)=s.own (.slot t))->(x.op.quiet=true \/Z.hs=s.hs)->exec Γ gl x Z=some (p.1.app (if big x=true then Z.setHS p.2 else Z))
theorem Zkl (s:St):s.setHS s.hs=s:=St.ext' rfl (by funext p;cases p<;>rfl) rfl rfl
theorem Zha {u:Ud}(hn:u.nw=none)(ht:Zcb u.tk=false)(s:St)(h:HS):u.app (s.setHS h)=(u.app s).setHS h:=by
 obtain⟨d,v,o,tk,nw⟩:=u
 simp only at hn ht;subst hn
 apply St.ext'
 ·cases d<;>cases tk<;>rfl
 ·funext p
  cases tk with
  |none=>cases d<;>cases p<;>simp[Ud.app,St.put,St.take,St.setHS,updP]
  |some q=>
   cases q with
   |cell i j=>cases ht
   |slot t=>cases d<;>cases p<;>simp[Ud.app,St.put,St.take,St.setHS,updP]
 ·cases d<;>cases tk<;>rfl
 ·cases d<;>cases tk<;>rfl
theorem Zy0 {u:Ud}(hn:u.nw=none)(ht:Zcb u.tk=false)(s:St):(u.app s).hs=s.hs:=by
 obtain⟨d,v,o,tk,nw⟩:=u
 simp only at hn ht;subst hn
 have:∀i j,((⟨d,v,o,tk,none⟩:Ud).app s).own (.cell i j)=s.own (.cell i j):=by
  intro i j
  cases tk with
  |none=>cases d<;>simp[Ud.app,St.put,St.take,updP]
  |some q=>
   cases q with
   |cell i j=>cases ht
   |slot t=>cases d<;>simp[Ud.app,St.put,St.take,updP]
 have h1:((⟨d,v,o,tk,none⟩:Ud).app s).H=s.H:=by cases d<;>cases tk<;>rfl
 have h2:((⟨d,v,o,tk,none⟩:Ud).app s).nH=s.nH:=by cases d<;>cases tk<;>rfl
 simp only[St.hs,h1,h2,this]
theorem Qad {gl:Nat->Option (List V)}{x:AOper}{s s1:St}(hb:(big x||x.op.mild)=true)(h:exec Γ gl x s=some s1):∃p,Z19 Γ gl x s s1 p:=by
 cases hbx:big x with
 |true=>
  obtain⟨d,op,gd,af⟩:=x
  have hbx':=hbx
  unfold big at hbx'
  split at hbx'
  ·rename_i f args e1 e2
   simp only at e1 e2;subst e1;subst e2
   have h':s.doCall Γ d f (args.map s.ev)=some s1:=h
   simp only[St.doCall,Xaa]at h'
   obtain⟨r,hr,rfl⟩:=h'
   refine⟨(⟨d,r.1,r.2.1,none,none⟩,r.2.2),rfl,rfl,rfl,(fun t h=>by cases h),rfl,(fun h=>by cases h),fun Z htm how hq=> ?_⟩
   have hZ:Z.hs=s.hs:=hq.resolve_left (by simp[AOp.quiet,AOp.isStore])
   have ha:args.map Z.ev=args.map s.ev:=Zdt fun t ht=>htm t (by simp[AOper.rd,AOp.reads,ht])
   show Z.doCall Γ d f (args.map Z.ev)=_
   simp only[St.doCall,ha,hZ,hr,Xas]
   rfl
  ·rename_i n x y e1 e2
   simp only at e1 e2;subst e1;subst e2
   have ev:∀Z:St,exec Γ gl ⟨d, .store n x y,none,af⟩ Z=(match Z.ev x with
    | .ptr id off=>match Zat Z.H id with
     |some cs=>(Z.storeOb id cs off n (Z.ev y).cells).map fun s=>s.put d Nil false
     |_=>none
    |_=>none):=fun Z=>rfl
   rw[ev]at h
   split at h
   ·rename_i id off hx
    split at h
    ·rename_i cs hcs
     simp only[Xaa]at h
     obtain⟨s2,h2,rfl⟩:=h
     have h2':=h2
     unfold St.storeOb at h2
     split at h2
     ·rename_i hcond
      simp only[Xac]at h2
      refine⟨(⟨d,Nil,false,none,none⟩,s2.hs),rfl,rfl,rfl,(fun t h=>by cases h), ?_,(fun h=>by cases h),fun Z htm how hq=> ?_⟩
      ·subst h2
       show(s.setOb id cs off (s.ev y).cells).put d Nil false=(s.setHS (s.setOb id cs off (s.ev y).cells).hs).put d Nil false
       congr 1
      ·have hZ:Z.hs=s.hs:=hq.resolve_left (by simp[AOp.quiet,AOp.isStore])
       have e1:Z.ev x=s.ev x:=Zax fun t ht=>htm t (by simp[AOper.rd,AOp.reads,ht])
       have e2:Z.ev y=s.ev y:=Zax fun t ht=>htm t (by simp[AOper.rd,AOp.reads,ht])
       have hH:Z.H=s.H:=congrArg HS.H hZ
       rw[ev,e1,e2,hx]
       simp only[hH,hcs]
       unfold St.storeOb
       rw[if_pos hcond]
       simp only[Xas]
       subst h2
       show some ((Z.setOb id cs off (s.ev y).cells).put d Nil false)=some ((Z.setHS (s.setOb id cs off (s.ev y).cells).hs).put d Nil false)
       congr 2
       refine St.ext' rfl (funext fun p=> ?_) (by show upd Z.H _ _=upd s.H _ _;rw[hH]) (congrArg HS.nH hZ)
       cases p with
       |slot t=>rfl
       |cell i j=>
        have:Z.own (.cell i j)=s.own (.cell i j):=congrFun (congrFun (congrArg HS.co hZ) i) j
        show(if i=id/\off<=j/\j<off+(s.ev y).cells.length then false else Z.own (.cell i j))=if i=id/\off<=j/\j<off+(s.ev y).cells.length then false else s.own (.cell i j)
        rw[this]
     ·cases h2
    ·cases h
   ·cases h
  ·rename_i cs e1 e2
   simp only at e1 e2;subst e1;subst e2
   have h':some ((s.new cs).put d (.ptr s.nH 0) false)=some s1:=h
   cases h'
   refine⟨(⟨d, .ptr s.nH 0,false,none,none⟩,(s.new cs).hs),rfl,rfl,rfl,(fun t h=>by cases h), ?_,(fun h=>by cases h),fun Z htm how hq=> ?_⟩
   ·show(s.new cs).put d (.ptr s.nH 0) false=(s.setHS (s.new cs).hs).put d (.ptr s.nH 0) false
    congr 1
   ·have hZ:Z.hs=s.hs:=hq.resolve_left (by simp[AOp.quiet,AOp.isNew])
    have hn:Z.nH=s.nH:=congrArg HS.nH hZ
    have hH:Z.H=s.H:=congrArg HS.H hZ
    show some ((Z.new cs).put d (.ptr Z.nH 0) false)=some ((Z.setHS (s.new cs).hs).put d (.ptr s.nH 0) false)
    rw[hn]
    congr 2
    refine St.ext' rfl (funext fun p=> ?_) (by show upd Z.H _ _=upd s.H _ _;rw[hn,hH]) (by show Z.nH+1=s.nH+1;rw[hn])
    cases p with
    |slot t=>rfl
    |cell i j=>
     have:Z.own (.cell i j)=s.own (.cell i j):=congrFun (congrFun (congrArg HS.co hZ) i) j
     show(if i=Z.nH then false else Z.own (.cell i j))=if i=s.nH then false else s.own (.cell i j)
     rw[this,hn]
  ·cases hbx'
 |false=>
  rw[hbx,Xez]at hb
  simp only[AOp.mild,Xai,Xbh]at hb
  obtain⟨⟨m1,m2⟩,m3⟩:=hb
  obtain⟨u,hu,rfl⟩:=Zf1 m3 h
  have hn:u.nw=none:=by
   cases hn:u.nw with
   |none=>rfl
   |some c=>have:=Zcf hu (by rw[hn];rfl);rw[m1]at this;cases this
  have htk:Zcb u.tk=false/\ ∀t,u.tk=some (.slot t)->t∈x.op.owns:=by
   rcases Zjn hu with e|⟨t,e,h'⟩|⟨h',_⟩
   ·rw[e];exact⟨rfl,fun t h=>by cases h⟩
   ·rw[e];exact⟨rfl,fun t h=>by cases h;exact h'⟩
   ·rw[m2]at h';cases h'
  refine⟨(u,s.hs),hn,htk.1,ud_d hu,htk.2,by rw[Zkl],fun _=>rfl,fun Z htm how hq=> ?_⟩
  have hu':udOf Γ gl x Z=some u:=Zf7 m3 hu htm how (fun h=>by rw[m2]at h;cases h) fun y hy id _ _=>by
   rcases hq with hq|hq
   ·unfold AOp.quiet at hq
    simp only[Xai,Xfj]at hq
    rw[hq.1.1.1]at hy;cases hy
   ·exact congrFun (congrArg HS.H hq) id
  rw[Zdv m3 hu',if_neg (by rw[hbx];simp)]
def hsF (bg:Nat->Bool)(HP:Nat->HS)(h0:HS)(S:Nat->Bool):Nat->HS
 |0=>h0
 |i+1=>if(S i&&bg i)=true then HP i else hsF bg HP h0 S i
theorem Zfo {bg:Nat->Bool}{HP:Nat->HS}{h0:HS}{S S':Nat->Bool}:∀{n:Nat},(∀j,j<n->(S j&&bg j)=(S' j&&bg j))->hsF bg HP h0 S n=hsF bg HP h0 S' n
 |0,_=>rfl
 |n+1,h=>by simp only[hsF,h n (by omega),Zfo (n:=n) fun j hj=>h j (by omega)]
theorem Zqe (hs:Scope cx w B GB)(hΓ:Sound cx Γ){n:Nat}{ops:Array Oper}{aos:List AOper}(hc:Zfe cx.P R n ops ops.toList=some aos){e:Nat}(hem:e<aos.length)(hok:Zll n aos e=true)(h:SR w B GB g st a W)(hn:a.tmps.size=n)
  {st':St} (he:execs Γ cx.gl aos st=some st') {Q:Exit->Act->World->Prop} (hnext:∀g' a' W',SR w B GB g' st' a' W'->a'.tmps.size=n->Q .normal a' W'):
  wpAny cx.P .any ops Q ops.size (Array.replicate ops.size false) a W:=by
 obtain⟨hl,hget⟩:=Zcx hc
 simp only[Xcb]at hl
 have hget':∀i o,ops[i]? =some o-> ∃x,aos[i]? =some x/\Zgb cx.P R n ops o=some x:=fun i o ho=>hget i o (by simpa using ho)
 have aft:∀(o:Oper) (x:AOper),Zgb cx.P R n ops o=some x->x.after=Zgy o:=fun o x hx=>by
  simp only[Zgb,Xab,Xaa]at hx
  obtain⟨_,_,_,_,rfl⟩:=hx;rfl
 --the states of the text's order
 obtain⟨s,hs0,hsn,hstep⟩:∃s:Nat->St,s 0=st/\s aos.length=st'/\ ∀(i:Nat) (x:AOper),aos[i]? =some x->exec Γ cx.gl x (s i)=some (s (i+1)):=by
  have key:∀(l:List AOper) (s0 s1:St),execs Γ cx.gl l s0=some s1-> ∃s:Nat->St,s 0=s0/\s l.length=s1/\ ∀(i:Nat) (x:AOper),l[i]? =some x->exec Γ cx.gl x (s i)=some (s (i+1)):=by
   intro l
   induction l with
   |nil=>intro s0 s1 h;simp only[execs,Xac]at h;subst h;exact⟨fun _=>s0,rfl,rfl,fun i x h=>by simp at h⟩
   |cons x r ih=>
    intro s0 s1 h
    simp only[execs]at h
    split at h
    ·rename_i s2 h2
     obtain⟨s,h3,h4,h5⟩:=ih s2 s1 h
     refine⟨fun i=>if i=0 then s0 else s (i-1),by simp,by simp[h4],fun i y hy=> ?_⟩
     cases i with
     |zero=>simp at hy;subst hy;simp[h3,h2]
     |succ i=>have:=h5 i y (by simpa using hy);simpa using this
    ·simp at h
  exact key aos st st' he
 --the variable
 obtain⟨t,cs,gaf,hxe,htn,hok⟩:∃t cs gaf,aos[e]? =some ⟨some t, .new cs,none,gaf⟩/\t<n/\(List.range aos.length).all (Zt4 aos (ancs aos []) t e)=true:=by
  have hx:=Xad hem
  have hgd:=Zb8 hx
  unfold Zll at hok
  rw[hgd]at hok
  generalize aos[e]=x at hx hok
  split at hok
  ·cases hok
  ·rename_i t ht
   obtain⟨d,op,gd,af⟩:=x
   unfold Z6m at ht
   split at ht
   ·rename_i cs t' e1 e2 e3
    simp only at e1 e2 e3;subst e1;subst e2;subst e3
    split at ht
    ·cases ht;exact⟨_,_,_,hx,by assumption,hok⟩
    ·cases ht
   ·cases ht
 obtain⟨an,han⟩:∃an,an=ancs aos []:=⟨_,rfl⟩
 rw[<-han]at hok
 obtain⟨bg,hbg⟩:∃bg:Nat->Bool,bg=fun i=>big (aos.getD i default):=⟨_,rfl⟩
 have hbgx:∀i x,aos[i]? =some x->bg i=big x:=fun i x hx=>by rw[hbg];simp only[Zb8 hx]
 have frees:∀x:AOper,Zh4 t x=true->t∉x.rd/\t∉x.ws/\t∉x.op.owns:=fun x h=>by
  unfold Zh4 at h
  rw[Xbh]at h
  have h4':t∉x.rd++x.ws++x.op.owns:=fun hm=>by rw[Xbf.2 hm]at h;cases h
  simp only[Xay,not_or]at h4'
  exact⟨h4'.1.1,h4'.1.2,h4'.2⟩
 have hchk:∀i,i<aos.length-> ∀x,aos[i]? =some x->(∀e∈x.after,e<i)/\(∀j∈an.getD i [],j∈x.after \/ ∃e∈x.after,j∈an.getD e [])/\(big x||x.op.mild)=true/\
   (i<e->Zh4 t x=true/\(x.op.quiet=true \/big x=true \/ ∃b,b<e/\bg b=true/\i∈an.getD b []))/\(e<i->Zh4 t x=true \/ ∀b,b<e->bg b=true->b∈an.getD i [])/\
   (i≠e-> ∀j,j<i-> ∀y,aos[j]? =some y->j∈an.getD i [] \/good y x=true):=by
  intro i hi x hx
  have:=Xal.1 hok i (Xbi.2 hi)
  unfold Zt4 at this
  simp only[Zb8 hx,Xai]at this
  obtain⟨⟨⟨⟨h1,h2⟩,h3⟩,h4⟩,h5⟩:=this
  simp only[Xal,decide_eq_true_eq,Xa5,Xdj,Xbf]at h1 h2
  refine⟨h1,h2,h3,fun hlt=> ?_,fun hgt=> ?_,fun hne j hj y hy=> ?_⟩
  ·rw[if_pos hlt]at h4
   simp only[Xai,Xa5,Xdj,Xbi,Xbf,or_assoc]at h4
   refine⟨h4.1,h4.2.imp id fun h=>h.imp id ?_⟩
   rintro⟨b,q1,q2,q3⟩
   exact⟨b,q1,by rw[hbg];exact q2,q3⟩
  ·rw[if_neg (by omega)]at h4
   simp only[Xa5,beq_iff_eq,Xal,Xbi,Xbh,Xbf]at h4
   rcases h4 with(h4|h4)|h4
   ·omega
   ·exact .inl h4
   ·exact .inr fun b hb hbb=>(h4 b hb).resolve_left (by rw[hbg]at hbb;simp only at hbb;rw[hbb];simp)
  ·simp only[Xa5,beq_iff_eq,Xal,Xbi,Xbf]at h5
   have:=(h5.resolve_left hne) j hj
   rw[Zb8 hy]at this
   exact this
 have jlt:∀k,k<aos.length-> ∀j∈an.getD k [],j<k:=by
  intro k
  induction k using Nat.strongRecOn with
  |_ k ihk=>
   intro hk2 j hj2
   obtain⟨d1,d2,_⟩:=hchk k hk2 _ (Xad hk2)
   rcases d2 j hj2 with h|⟨e,he,h⟩
   ·exact d1 j h
   ·have:=d1 e he
    have:=ihk e this (by omega) j h
    omega
 have goods:∀y x:AOper,good y x=true->Za0 y x=false/\(big x=true->y.op.quiet=true)/\(big y=true->x.op.quiet=true):=fun y x h=>by
  unfold good at h
  simp only[Xai,Xbh,Xdn,Bool.not_eq_false']at h
  exact⟨h.1.1,fun hb=>h.1.2.resolve_left (by rw[hb];simp),fun hb=>h.2.resolve_left (by rw[hb];simp)⟩
 have bigq:∀x:AOper,big x=true->x.op.quiet=false:=fun x hb=>by
  unfold big at hb
  split at hb
  ·rename_i e1 e2;rw[e1];simp[AOp.quiet,AOp.isStore]
  ·rename_i e1 e2;rw[e1];simp[AOp.quiet,AOp.isStore]
  ·rename_i e1 e2;rw[e1];simp[AOp.quiet,AOp.isNew]
  ·cases hb
 --what each of them does
 have hud:∀i, ∃p:Ud×HS,p.1.nw=none/\(i<aos.length-> ∃x,aos[i]? =some x/\Z19 Γ cx.gl x (s i) (s (i+1)) p):=by
  intro i
  by_cases hi:i<aos.length
  ·have hx:=Xad hi
   obtain⟨p,hp⟩:=Qad (hchk i hi _ hx).2.2.1 (hstep i _ hx)
   exact⟨p,hp.1,fun _=>⟨_,hx,hp⟩⟩
  ·exact⟨(.idle,st.hs),rfl,fun h=>absurd h hi⟩
 obtain⟨UP,hUP⟩:=Classical.axiomOfChoice hud
 obtain⟨U,hUe⟩:∃U:Nat->Ud,U=fun i=>(UP i).1:=⟨_,rfl⟩
 obtain⟨HP,hHe⟩:∃HP:Nat->HS,HP=fun i=>(UP i).2:=⟨_,rfl⟩
 obtain⟨N,hN⟩:∃N,N=aos.length:=⟨_,rfl⟩
 have hget2:∀i,i<N-> ∃x,aos[i]? =some x:=fun i hi=>⟨_,Xad (by omega)⟩
 have hU:∀i x,aos[i]? =some x->Z19 Γ cx.gl x (s i) (s (i+1)) (U i,HP i):=fun i x hx=>by
  obtain⟨x',hx',hp⟩:=(hUP i).2 (Xae.1 hx).1
  rw[hx]at hx';cases hx'
  rw[hUe,hHe];exact hp
 have hnw:∀i,(U i).nw=none:=fun i=>by rw[hUe];exact(hUP i).1
 have hone:Zhz U N:=fun k k' _ _ h1 _=>by rw[hnw k]at h1;cases h1
 have hsh:∀i,i<N->(s (i+1)).hs=HP i:=fun i hi=>by
  obtain⟨x,hx⟩:=hget2 i hi
  have hp:=hU i x hx
  rw[hp.2.2.2.2.1]
  exact Zy0 hp.1 hp.2.1 _
 have hshn:∀i,i<N->bg i=false->HP i=(s i).hs:=fun i hi hb=>by
  obtain⟨x,hx⟩:=hget2 i hi
  exact(hU i x hx).2.2.2.2.2.1 (by rw[<-hbgx i x hx,hb])
 --the text's states,as folds
 have hG:∀i,i<=N->s i=(Zaj U (fun _=>true) st i).setHS (s i).hs:=by
  intro i
  induction i with
  |zero=>intro _;rw[hs0];exact(Zkl st).symm
  |succ i ih=>
   intro hi
   obtain⟨x,hx⟩:=hget2 i (by omega)
   have hp:=hU i x hx
   have h5:=hp.2.2.2.2.1
   rw[hsh i (by omega)]
   rw[ih (by omega)]at h5
   rw[h5]
   show(U i).app ((Zaj U (fun _=>true) st i).setHS (HP i))=_
   rw[Zha hp.1 hp.2.1]
   rfl
 have hsi:∀i,i<=N->s i=(Zaj U (fun j=>decide (j<i)) st N).setHS (s i).hs:=fun i hi=>by rw[Zg4 hi];exact hG i hi
 have hH1:∀i,i<=N-> ∀k,k<=i->hsF bg HP st.hs (fun j=>decide (j<i)) k=(s k).hs:=by
  intro i hi k
  induction k with
  |zero=>intro _;rw[hs0];rfl
  |succ k ih=>
   intro hk
   simp only[hsF,show decide (k<i)=true by simp;omega,Xe0]
   rw[ih (by omega),hsh k (by omega)]
   split
   ·rfl
   ·rename_i hb;exact(hshn k (by omega) (by simpa using hb)).symm
 have hH2:∀i,i<=N-> ∀d,hsF bg HP st.hs (fun j=>decide (j<i)) (i+d)=(s i).hs:=by
  intro i hi d
  induction d with
  |zero=>exact hH1 i hi i (Xag _)
  |succ d ih=>
   rw[<-Xc8]
   simp only[hsF,show decide (i+d<i)=false by simp,Xep,Xat,if_false]
   exact ih
 have hHi:∀i,i<=N->hsF bg HP st.hs (fun j=>decide (j<i)) N=(s i).hs:=fun i hi=>by
  have:=hH2 i hi (N-i)
  rwa[show i+(N-i)=N by omega]at this
 obtain⟨F,hF⟩:∃F:(Nat->Bool)->St, ∀S,F S=(Zaj U S st N).setHS (hsF bg HP st.hs S N):=⟨_,fun _=>rfl⟩
 have hFc:∀S S':Nat->Bool,(∀j,j<N->S j=S' j)->F S=F S':=fun S S' hS=>by rw[hF,hF,Zbg hS,Zfo fun j hj=>by rw[hS j hj]]
 have hFN:∀S:Nat->Bool,(∀j,j<N->S j=true)->F S=s N:=fun S hS=>by
  rw[hFc S (fun j=>decide (j<N)) (fun j hj=>by rw[hS j hj];simp[hj]),hF,hHi N (Xag _)]
  exact(hsi N (Xag _)).symm
 have hF0:F (fun _=>false)=st:=by
  rw[hFc _ (fun j=>decide (j<0)) (fun j _=>by simp),hF,hHi 0 (Xbw _)]
  exact(hsi 0 (Xbw _)).symm.trans hs0
 --one more
 have step1:∀(S:Nat->Bool) (i:Nat) x,aos[i]? =some x->S i=false->(∀j y,aos[j]? =some y->j≠i->Za0 y x≠false->(y.op.owns=[]/\y.ws=[t]/\t∉x.rd/\t∉x.op.owns) \/S j=decide (j<i))->(x.op.quiet=false-> ∀j,j<N->j≠i->bg j=true->S j=decide (j<i))->
   (∀j y,aos[j]? =some y->i<j->S j=true->Za0 y x=false)->
   exec Γ cx.gl x (F S)=some (F (fun k=>S k||k==i))/\(t∉x.rd->t∉x.ws->t∉x.op.owns-> ∀u:Ud,u.nw=none->u.tk=none->u.d=some t->exec Γ cx.gl x (u.app (F S))=some (u.app (F (fun k=>S k||k==i)))):=by
  intro S i x hx hSi pairs bigs apart
  have hi:i<N:=by rw[hN];exact(Xae.1 hx).1
  obtain⟨p1,p2,p3,p4,p5,p6,p7⟩:=hU i x hx
  have hbi:=hbgx i x hx
  have cf:∀{y:AOper},(∃t,t∈y.ws/\(t∈x.rd \/t∈x.ws \/t∈x.op.owns))-> ¬Za0 y x=false:=by
   intro y ⟨t,h1,h2⟩ hh
   simp only[Za0,Xbj]at hh
   exact absurd (by simp only[Xaj,Xay];exact h2) (Zau hh.1.1.1.1.1.1 h1)
  have cf2:∀{y:AOper} {t:Nat},t∈y.op.owns->t∈x.op.owns-> ¬Za0 y x=false:=by
   intro y t h1 h2 hh
   simp only[Za0,Xbj]at hh
   exact absurd h2 (Zau hh.1.1.1.1.2 h1)
  have cf3:∀{y:AOper} {t:Nat},t∈y.op.owns->t∈x.ws-> ¬Za0 y x=false:=by
   intro y t h1 h2 hh
   simp only[Za0,Xbj]at hh
   exact absurd (by simp[h1]) (Zau hh.1.1.1.1.1.2 h2)
  have wr:∀{j t'},j<N->(U j).d=some t'->(t'∈x.rd \/t'∈x.op.owns)->S j=decide (j<i):=by
   intro j t' hj hd ht
   by_cases hji:j=i
   ·subst hji;rw[hSi];simp
   ·obtain⟨y,hy⟩:=hget2 j hj
    rw[(hU j y hy).2.2.1]at hd
    have hws:t'∈y.ws:=by simp[AOper.ws,hd]
    rcases pairs j y hy hji (cf ⟨t',hws,ht.imp id .inr⟩)with⟨q1,q2,q3,q4⟩|h
    ·exfalso
     rw[q2,Xa1]at hws
     subst hws
     exact ht.elim q3 q4
    ·exact h
  have htm:∀t'∈x.rd,(Zaj U S st N).tm t'=(s i).tm t':=by
   intro t' ht
   rw[hsi i (by omega)]
   show _=(Zaj U (fun j=>decide (j<i)) st N).tm t'
   exact Zfw hone (Xag _) fun j hj hd=>wr hj hd (.inl ht)
  have how:∀t'∈x.op.owns,(Zaj U S st N).own (.slot t')=(s i).own (.slot t'):=by
   intro t' ht
   rw[hsi i (by omega)]
   show _=(Zaj U (fun j=>decide (j<i)) st N).own (.slot t')
   refine Zcq hone (Xag _) fun j hj hd=> ?_
   simp only[Zbx,Xa5,beq_iff_eq]at hd
   rcases hd with hd|hd
   ·exact wr hj hd (.inr ht)
   ·by_cases hji:j=i
    ·subst hji;rw[hSi];simp
    ·obtain⟨y,hy⟩:=hget2 j hj
     rcases pairs j y hy hji (cf2 ((hU j y hy).2.2.2.1 _ hd) ht)with⟨q1,q2,q3,q4⟩|h
     ·have:=(hU j y hy).2.2.2.1 _ hd
      rw[q1]at this;cases this
     ·exact h
  have hhs:x.op.quiet=true \/hsF bg HP st.hs S N=(s i).hs:=by
   cases hq:x.op.quiet with
   |true=>exact .inl rfl
   |false=>
    right
    rw[<-hHi i (by omega)]
    refine Zfo fun j hj=> ?_
    cases hb:bg j with
    |false=>simp
    |true=>
     by_cases hji:j=i
     ·subst hji;rw[hSi];simp
     ·rw[bigs hq j hj hji hb]
  have hadd:Zaj U (fun k=>S k||k==i) st N=(U i).app (Zaj U S st N):=by
   refine Zda hSi (fun k=>rfl) hi fun j h1 h2 h3=> ?_
   obtain⟨y,hy⟩:=hget2 j h2
   have hpj:=hU j y hy
   have hcf:=apart j y hy h1 h3
   have w1:∀{t'},(U j).d=some t'->t'∈y.ws:=fun h=>by have:=hpj.2.2.1.symm.trans h;simp[AOper.ws,this]
   have w2:∀{t'},(U i).d=some t'->t'∈x.ws:=fun h=>by have:=p3.symm.trans h;simp[AOper.ws,this]
   refine⟨fun t' q1 q2=>cf ⟨t',w1 q1, .inr (.inl (w2 q2))⟩ hcf,fun t' q1=>⟨fun q2=>cf3 (hpj.2.2.2.1 _ q1) (w2 q2) hcf,fun q2=>cf2 (hpj.2.2.2.1 _ q1) (p4 _ q2) hcf⟩,fun t' q1=>⟨fun q2=>cf ⟨t',w1 q2, .inr (.inr (p4 _ q1))⟩ hcf,fun q2=>cf2 (hpj.2.2.2.1 _ q2) (p4 _ q1) hcf⟩,
    fun q=> ?_,fun q=>(by have:=q.1;rw[hnw]at this;cases this),fun q=>(by rw[hnw]at q;cases q),fun q=>(by rw[hnw]at q;cases q)⟩
   have:=q.2;rw[show Zcb (U i).tk=false from p2]at this;cases this
  have hnew:(U i).app (if big x=true then(F S).setHS (HP i)else F S)=F (fun k=>S k||k==i):=by
   rw[hF,hF]
   split
   ·rename_i hb
    have:hsF bg HP st.hs (fun k=>S k||k==i) N=HP i:=by
     rw[<-hsh i hi, <-hHi (i+1) (by omega)]
     refine Zfo fun j hj=> ?_
     by_cases hji:j=i
     ·subst hji;simp
     ·have hne:(j==i)=false:=by simpa using hji
      rw[hne,Xcv]
      cases hbj:bg j with
      |false=>simp
      |true=>
       rw[bigs (bigq x hb) j hj hji hbj]
       simp only[Xch,decide_eq_decide]
       omega
    rw[this,hadd]
    show(U i).app ((Zaj U S st N).setHS (HP i))=_
    exact Zha p1 p2 _ _
   ·rename_i hb
    have:hsF bg HP st.hs (fun k=>S k||k==i) N=hsF bg HP st.hs S N:=Zfo fun j _=>by
     by_cases hji:j=i
     ·subst hji;rw[hbi,Bool.eq_false_iff.2 hb];simp
     ·have hne:(j==i)=false:=by simpa using hji
      rw[hne,Xcv]
    rw[this,hadd]
    exact Zha p1 p2 _ _
  refine⟨?_,fun c2 c3 c4 u hun hut hud=> ?_⟩
  ·rw[p7 (F S) (fun t' ht=>by rw[hF];exact htm t' ht) (fun t' ht=>by rw[hF];exact how t' ht) (hhs.imp id fun hh=>by rw[hF];exact hh),hnew]
  ·have ucell:Zcb u.tk=false:=by rw[hut];rfl
   have e1:∀t',t'≠t->(u.app (F S)).tm t'=(F S).tm t':=fun t' hne=>by
    rw[Zgd,if_neg (by rw[hud];simp;exact fun h=>hne h.symm)]
   have e2:∀t',t'≠t->(u.app (F S)).own (.slot t')=(F S).own (.slot t'):=fun t' hne=>Ziu (by simp only[Zbx,hud,hut];simp;exact fun h=>hne h.symm) _
   have hap:Apart (U i) u:=by
    refine⟨fun t' q1 q2=> ?_,fun t' q1=>⟨fun q2=> ?_,fun q2=>by rw[hut]at q2;cases q2⟩,fun t' q1=>(by rw[hut]at q1;cases q1),fun q=>(by have:=q.2;rw[ucell]at this;cases this),fun q=>(by have:=q.2;rw[hun]at this;cases this),fun q=>(by rw[hnw]at q;cases q),fun q=>(by rw[hun]at q;cases q)⟩
    ·rw[hud]at q2;cases q2
     exact c3 (by have:=p3.symm.trans q1;simp[AOper.ws,this])
    ·rw[hud]at q2;cases q2
     exact c4 (p4 _ q1)
   rw[p7 (u.app (F S)) (fun t' ht=>by rw[e1 t' (fun e=>c2 (e▸ht)),hF];exact htm t' ht) (fun t' ht=>by rw[e2 t' (fun e=>c4 (e▸ht)),hF];exact how t' ht) (hhs.imp id fun hh=>by rw[Zy0 hun ucell,hF];exact hh), <-hnew]
   congr 1
   split
   ·rw[<-Zha hun ucell,Zlf hap]
   ·rw[Zlf hap]
 have hxeU:bg e=true:=by rw[hbgx e _ hxe];rfl
 have heN:e<N:=by omega
 have conflE:∀y:AOper,Zh4 t y=true->(big y||y.op.mild)=true->big y=false->Za0 y ⟨some t, .new cs,none,gaf⟩=false:=by
  intro y hf m1 hb
  rw[hb,Xez]at m1
  simp only[AOp.mild,Xai,Xbh]at m1
  obtain⟨f1,f2,f3⟩:=frees y hf
  have n1:∀l:List Nat,t∉l->Zl3 [t] l=false:=fun l h=>by simp[Zl3,h]
  have n2:∀l:List Nat,t∉l->Zl3 l [t]=false:=fun l h=>Xcz.2 fun q hq=>by simp;exact fun e=>h (e▸hq)
  have n3:∀l:List Nat,Zl3 l []=false:=fun l=>Xcz.2 fun q hq=>by simp
  have w0:(⟨some t, .new cs,none,gaf⟩:AOper).ws=[t]:=rfl
  have r0:(⟨some t, .new cs,none,gaf⟩:AOper).rd=[]:=rfl
  have o0:(AOp.new cs).owns=[]:=rfl
  have i0:(AOp.new cs).isLdo=false:=rfl
  unfold Za0
  rw[w0,r0]
  simp only[o0,i0,m1.1.1,m1.1.2,Xba,Xao,Xeq,Xep,Xcv]
  rw[n2 _ f2,n1 (y.rd++y.op.owns) (by simp[f1,f3]),n3]
  rfl
 --the variable itself,when all ahead of it that touch objects are done
 have stepE:∀S:Nat->Bool,S e=false->(∀j y,aos[j]? =some y->e<j->S j=true->Za0 y ⟨some t, .new cs,none,gaf⟩=false/\big y=false)->(∀j,j<e->bg j=true->S j=true)->exec Γ cx.gl ⟨some t, .new cs,none,gaf⟩ (F S)=some (F (fun k=>S k||k==e)):=by
  intro S hSe late hb
  refine(step1 S e _ hxe hSe (fun j y hy hne hcf=> .inr ?_) (fun _ j hj hne hbj=> ?_) (fun j y hy hlt hSj=>(late j y hy hlt hSj).1)).1
  ·rcases Xa4 j e with hlt|hge
   ·cases hbj:bg j with
    |true=>rw[hb j hlt hbj];simp[hlt]
    |false=>
     obtain⟨_,_,m1,m2,_⟩:=hchk j (by omega) y hy
     exact absurd (conflE y (m2 hlt).1 m1 (by rw[<-hbgx j y hy,hbj])) hcf
   ·have hlt:e<j:=by omega
    cases hSj:S j with
    |false=>simp;omega
    |true=>exact absurd (late j y hy hlt hSj).1 hcf
  ·rcases Xa4 j e with hlt|hge
   ·rw[hb j hlt hbj];simp[hlt]
   ·cases hSj:S j with
    |false=>simp;omega
    |true=>
     obtain⟨y,hy⟩:=hget2 j hj
     have:=(late j y hy (by omega) hSj).2
     rw[<-hbgx j y hy,hbj]at this;cases this
 refine Zv9 (fun S a W=>a.tmps.size=n/\(∀k,k<N->S k=true-> ∀j∈an.getD k [],S j=true)/\
  (((S e=false \/ ∀j,j<e->bg j=true->S j=true)/\ ∃g,SR w B GB g (F S) a W) \/
   (S e=true/\(∃j,j<e/\bg j=true/\S j=false)/\Pend w B GB t cs (F fun k=>S k&& !(k==e)) a W))) ?_ ?_ ?_ ?_
 ·intro i o ho e' he'
  obtain⟨x,hx,hcx⟩:=hget' i o ho
  rw[<-aft o x hcx]at he'
  exact(hchk i (Xae.1 hx).1 x hx).1 e' he'
 ·intro S i o a W ho hSi hafS ⟨hsz,hcl,hinv⟩ K hK
  obtain⟨x,hx,hcx⟩:=hget' i o ho
  have hiN:=(Xae.1 hx).1
  have haf:∀e'∈x.after,S e'=true:=fun e' he'=>hafS e' (by rw[<-aft o x hcx];exact he')
  obtain⟨c1,c2,c3,c4,c5,c6⟩:=hchk i hiN x hx
  have hpre:∀j∈an.getD i [],S j=true:=by
   intro j hj
   rcases c2 j hj with h|⟨e',he',h⟩
   ·exact haf j h
   ·exact hcl e' (by have:=c1 e' he';omega) (haf e' he') j h
  have hcl':∀k,k<N->(S k||k==i)=true-> ∀j∈an.getD k [],(S j||j==i)=true:=by
   intro k hkN hk j hj
   simp only[Xa5,beq_iff_eq]at hk⊢
   rcases hk with hk|rfl
   ·exact .inl (hcl k hkN hk j hj)
   ·exact .inl (hpre j hj)
  --the others,which are not the variable
  have oth:i≠e-> ∀j y,aos[j]? =some y->j≠i->(j≠e \/e<i)->(S j=decide (j<i)) \/(Za0 y x=false/\(big y=true->x.op.quiet=true)):=by
   intro hie j y hy hji hje
   have hjN:=(Xae.1 hy).1
   rcases Xa4 j i with hlt|hge
   ·rcases c6 hie j hlt y hy with h|h
    ·left;rw[hpre j h];simp[hlt]
    ·right;obtain⟨g1,g2,g3⟩:=goods _ _ h;exact⟨g1,g3⟩
   ·have hgt:i<j:=by omega
    have hjne:j≠e:=hje.elim id fun h=>by omega
    rcases(hchk j hjN y hy).2.2.2.2.2 hjne i hgt x hx with h|h
    ·left
     cases hSj:S j with
     |false=>simp;omega
     |true=>rw[hcl j (by omega) hSj i h]at hSi;cases hSi
    ·right;obtain⟨g1,g2,g3⟩:=goods _ _ h;exact⟨Zds g1,g2⟩
  have oth2:i≠e-> ∀j y,aos[j]? =some y->i<j->j≠e->S j=true->Za0 y x=false:=by
   intro hie j y hy hlt hje hSj
   rcases oth hie j y hy (by omega) (.inl hje)with h|h
   ·rw[hSj]at h;simp at h;omega
   ·exact h.1
  have e1:(⟨some t, .new cs,none,gaf⟩:AOper).op.owns=[]:=rfl
  have e2:(⟨some t, .new cs,none,gaf⟩:AOper).ws=[t]:=rfl
  have hie':i≠e->((S e||e==i)=S e):=fun h=>by
   have:(e==i)=false:=by simp;exact fun e=>h e.symm
   rw[this,Xcv]
  rcases hinv with⟨hd,g',q3⟩|⟨q1,⟨b,hb1,hb2,hb3⟩,hP⟩
  ·by_cases hie:i=e
   ·subst hie
    rw[hxe]at hx;cases hx
    by_cases hb:∀j,j<i->bg j=true->S j=true
    ·have hex:=stepE S hSi (fun j y hy hlt hSj=>by
      have hjN:=(Xae.1 hy).1
      rcases(hchk j hjN y hy).2.2.2.2.2 (by omega) i hlt _ hxe with h|h
      ·rw[hcl j (by omega) hSj i h]at hSi;cases hSi
      ·obtain⟨g1,g2,g3⟩:=goods _ _ h
       refine⟨Zds g1, ?_⟩
       cases hby:big y with
       |false=>rfl
       |true=>have:=g2 hby;simp[AOp.quiet,AOp.isNew]at this) hb
     exact Zel hs hΓ q3 hsz ho hcx hex fun g2 a2 W2 h2 hn2=>hK a2 W2 ⟨hn2,hcl', .inl ⟨.inr fun j hj hbj=>by show(S j||j==i)=true;rw[hb j hj hbj];rfl,g2,h2⟩⟩
    ·have⟨j,hj⟩:=Classical.not_forall.1 hb
     obtain⟨hj1,hj⟩:=Classical.not_imp.1 hj
     obtain⟨hj2,hj3⟩:=Classical.not_imp.1 hj
     have hcx':=hcx
     simp only[Zgb,Xab,Xaa,AOper.mk.injEq]at hcx'
     obtain⟨ao,hao,gd,hgd,hd',rfl,rfl,haf'⟩:=hcx'
     have hcop:cOp cx.P n ops o=some (.new cs):=by
      rcases Zkr hao with h|h
      ·exact h
      ·cases h
     obtain⟨ty,hop,hz⟩:=Ztl hcop
     obtain⟨z,hzr,hzrep,hzs⟩:=Zfm (W:=W) (G:=g'.G) (φ:=g'.φ) hz
     have hw:=Zre q3 hsz hcx
     have hrun:(Instr.alloc ty true (.tuple #[])).run cx.P W= .ok (.pointer (some ⟨W.heap.size,0,none⟩)) (W.alloc (.cells z.cells ty)):=by
      simp only[Instr.alloc,Sem.run_bind,hzr,Result.andThen_ok,newVar,newRow]
      rfl
     have hp:=Z1s (t:=t) (ty:=ty) q3 hzrep hzs
     unfold wpOp
     simp only[ho]
     rw[hw,if_pos (show(F S).wants _=true from rfl)]
     have hFF:F (fun k=>(S k||k==i)&& !(k==i))=F S:=hFc _ _ fun k hk=>by
      by_cases hki:k=i
      ·subst hki;rw[hSi];simp
      ·have:(k==i)=false:=by simpa using hki
       rw[this,Xcv];simp
     refine .inl (Zay (by simp only[execOp,hop]) hrun (hK _ _ ⟨by rw[Za4];exact hsz,hcl', .inr ⟨by simp,⟨j,hj1,hj2, ?_⟩, ?_⟩⟩))
     ·have:(j==i)=false:=by simp;omega
      show(S j||j==i)=false
      rw[this,Xcv];simpa using hj3
     ·rw[hFF,hd']
      exact hp
   ·--another one
    have hnd:i<e->(x.op.quiet=false \/big x=true)->S e=false:=by
     intro hlt hx2
     rcases hd with h|h
     ·exact h
     ·exfalso
      rcases(c4 hlt).2 with q|q|⟨b,k1,k2,k3⟩
      ·rcases hx2 with h2|h2
       ·rw[q]at h2;cases h2
       ·rw[bigq x h2]at q;cases q
      ·have:=h i hlt (by rw[hbgx i x hx];exact q);rw[hSi]at this;cases this
      ·have:=hcl b (by omega) (h b k1 k2) i k3;rw[hSi]at this;cases this
    have hex:=(step1 S i x hx hSi (fun j y hy hji hcf=>by
     by_cases hje:j≠e \/e<i
     ·rcases oth hie j y hy hji hje with h|h
      ·exact .inr h
      ·exact absurd h.1 hcf
     ·have hje':j=e:=Classical.not_not.1 fun h=>hje (.inl h)
      subst hje'
      rw[hxe]at hy;cases hy
      have hlt:i<j:=by have:=fun h=>hje (.inr h);omega
      obtain⟨f1,f2,f3⟩:=frees x (c4 hlt).1
      exact .inl ⟨rfl,rfl,f1,f3⟩) (fun hq j hj hji hbj=>by
     obtain⟨y,hy⟩:=hget2 j hj
     by_cases hje:j≠e \/e<i
     ·rcases oth hie j y hy hji hje with h|h
      ·exact h
      ·rw[h.2 (by rw[<-hbgx j y hy];exact hbj)]at hq;cases hq
     ·have hje':j=e:=Classical.not_not.1 fun h=>hje (.inl h)
      subst hje'
      have hlt:i<j:=by have:=fun h=>hje (.inr h);omega
      rw[hnd hlt (.inl hq)];simp;omega) (fun j y hy hlt hSj=>by
     by_cases hje:j=e
     ·subst hje
      rw[hxe]at hy;cases hy
      have hbx:big x=false:=by
       cases hbx:big x with
       |false=>rfl
       |true=>rw[hnd hlt (.inr hbx)]at hSj;cases hSj
      exact Zds (conflE x (c4 hlt).1 c3 hbx)
     ·exact oth2 hie j y hy hlt hje hSj)).1
    refine Zel hs hΓ q3 hsz ho hcx hex fun g2 a2 W2 h2 hn2=>hK a2 W2 ⟨hn2,hcl', .inl ⟨?_,g2,h2⟩⟩
    rcases hd with h|h
    ·exact .inl ((hie' hie).trans h)
    ·exact .inr fun j hj hbj=>by show(S j||j==i)=true;rw[h j hj hbj];rfl
  ·have hie:i≠e:=fun h=>by rw[h,q1]at hSi;cases hSi
   have hfx:Zh4 t x=true:=by
    rcases Xa4 i e with hlt|hge
    ·exact(c4 hlt).1
    ·rcases c5 (by omega)with h|h
     ·exact h
     ·rw[hpre b (h b hb1 hb2)]at hb3;cases hb3
   obtain⟨f1,f2,f3⟩:=frees x hfx
   obtain⟨S',hS'⟩:∃S':Nat->Bool,S'=fun k=>S k&& !(k==e):=⟨_,rfl⟩
   have hS'k:∀k,k≠e->S' k=S k:=fun k hk=>by
    have:(k==e)=false:=by simpa using hk
    rw[hS'];simp only[this];simp
   have hS'e:S' e=false:=by rw[hS'];simp
   rw[<-hS']at hP
   obtain⟨W1,g1,st1,a1,q,xs,ty,g',r1,r2,r3,r4,r5,r6,r7⟩:=hP
   have hex:=(step1 S' i x hx (by rw[hS'k i hie,hSi]) (fun j y hy hji hcf=>by
    by_cases hje:j=e
    ·subst hje
     rw[hxe]at hy;cases hy
     exact .inl ⟨rfl,rfl,f1,f3⟩
    ·rw[hS'k j hje]
     rcases oth hie j y hy hji (.inl hje)with h|h
     ·exact .inr h
     ·exact absurd h.1 hcf) (fun hq j hj hji hbj=>by
    obtain⟨y,hy⟩:=hget2 j hj
    by_cases hje:j=e
    ·subst hje
     rw[hS'e]
     have: ¬j<i:=fun hlt=>by
      obtain⟨yb,hyb⟩:=hget2 b (by omega)
      rcases c6 hie b (by omega) yb hyb with h|h
      ·rw[hpre b h]at hb3;cases hb3
      ·rw[(goods _ _ h).2.2 (by rw[<-hbgx b yb hyb];exact hb2)]at hq;cases hq
     simp[this]
    ·rw[hS'k j hje]
     rcases oth hie j y hy hji (.inl hje)with h|h
     ·exact h
     ·rw[h.2 (by rw[<-hbgx j y hy];exact hbj)]at hq;cases hq) (fun j y hy hlt hSj=>by
    have hje:j≠e:=fun h=>by rw[h,hS'e]at hSj;cases hSj
    exact oth2 hie j y hy hlt hje (by rw[<-hS'k j hje];exact hSj))).2 f1 f2 f3 ⟨some t, .gp q 0,false,none,none⟩ rfl rfl rfl
   refine Zel (hs.restart r1 (q:=q)) hΓ r7 hsz ho hcx hex fun g2 a2 W2 h2 hn2=> ?_
   have hp2:Pend w B GB t cs (F fun k=>S' k||k==i) a2 W2:=⟨W1,g1,st1,a1,q,xs,ty,g2,r1,r2,r3,r4,r5,r6,h2⟩
   by_cases hall:∀j,j<e->bg j=true->(S j||j==i)=true
   ·have hib:i=b:=by
     have:=hall b hb1 hb2
     rw[hb3,Xez]at this
     exact(by simpa using this:b=i).symm
    obtain⟨g3,h3⟩:=Zyb hp2 (by rw[hn2];exact htn)
    have hse:=stepE (fun k=>S' k||k==i) (by show(S' e||e==i)=false;rw[hS'e,Xez];simp;exact fun h=>hie h.symm) (fun j y hy hlt hSj=>by
     have hjN:=(Xae.1 hy).1
     have hSj':(S' j||j==i)=true:=hSj
     have hji:(j==i)=false:=by simp;omega
     rw[hji,Xcv,hS'k j (by omega)]at hSj'
     obtain⟨d1,d2,d3,d4,d5,d6⟩:=hchk j hjN y hy
     have hby:big y=false:=by
      cases hby:big y with
      |false=>rfl
      |true=>
       obtain⟨yb,hyb⟩:=hget2 b (by omega)
       rcases d6 (by omega) b (by omega) yb hyb with h|h
       ·rw[hcl j (by omega) hSj' b h]at hb3;cases hb3
       ·have:=(goods _ _ h).2.2 (by rw[<-hbgx b yb hyb];exact hb2);rw[bigq y hby]at this;cases this
     refine⟨conflE y ?_ d3 hby,hby⟩
     rcases d5 hlt with h|h
     ·exact h
     ·rw[hcl j (by omega) hSj' b (h b hb1 hb2)]at hb3;cases hb3) (fun j hj hbj=>by
     show(S' j||j==i)=true
     rw[hS'k j (by omega)]
     exact hall j hj hbj)
    have hse':some (((F fun k=>S' k||k==i).new cs).put (some t) (.ptr (F fun k=>S' k||k==i).nH 0) false)=some (F fun k=>(S' k||k==i)||k==e):=hse
    have hse2:=Option.some.inj hse'
    have hFF:F (fun k=>(S' k||k==i)||k==e)=F (fun k=>S k||k==i):=hFc _ _ fun k _=>by
     by_cases hke:k=e
     ·subst hke;rw[q1];simp
     ·have:(k==e)=false:=by simpa using hke
      rw[hS'k k hke,this,Xcv]
    refine hK a2 W2 ⟨hn2,hcl', .inl ⟨.inr hall,g3, ?_⟩⟩
    rw[<-hFF, <-hse2]
    exact h3
   ·have⟨j,hj⟩:=Classical.not_forall.1 hall
    obtain⟨hj1,hj⟩:=Classical.not_imp.1 hj
    obtain⟨hj2,hj3⟩:=Classical.not_imp.1 hj
    refine hK a2 W2 ⟨hn2,hcl', .inr ⟨(hie' hie).trans q1,⟨j,hj1,hj2,by simpa using hj3⟩, ?_⟩⟩
    have hFF:F (fun k=>(S k||k==i)&& !(k==e))=F (fun k=>S' k||k==i):=hFc _ _ fun k _=>by
     by_cases hke:k=e
     ·subst hke
      have:(k==i)=false:=by simp;exact fun h=>hie h.symm
      rw[hS'e,this];simp
     ·have:(k==e)=false:=by simpa using hke
      rw[hS'k k hke,this];simp
    rw[hFF];exact hp2
 ·intro S a W hall ⟨hsz,_,hinv⟩
  rcases hinv with⟨_,g',q4⟩|⟨_,⟨j,q1,_,q2⟩,_⟩
  ·rw[hFN S fun j hj=>hall j (by omega),hN,hsn]at q4
   exact hnext g' a W q4 hsz
  ·rw[hall j (by omega)]at q2;cases q2
 ·exact⟨hn,fun k _ hk=>(by cases hk), .inl ⟨.inl rfl,g,by rw[hF0];exact h⟩⟩
end Go.Abs
namespace Go.Abs
open Go.RowKit
def Ze0 (K:St->Prop)(Q:Ex->St->Prop):Ex->St->Prop
 | .normal,s=>K s
 |e,s=>Q e s
def Zj7 (body:(Ex->St->Prop)->St->Prop)(Q:Ex->St->Prop):Nat->St->Prop
 |0,_=>False
 |k+1,st=>body (Ze0 (Zj7 body Q k) Q) st
def Zng (v:V)(p q:Prop):Prop:=match v with| .bool true=>p| .bool false=>q|_=>False
def Zjg (o:Option St)(p:St->Prop):Prop:=match o with|some s=>p s|none=>False
def awp (Γ:Spec)(gl:Nat->Option (List V)):ACode->(Ex->St->Prop)->St->Prop
 | .skip,Q,st=>Q .normal st
 | .region ops _,Q,st=>Zjg (execs Γ gl ops st) (Q .normal)
 | .seq a b,Q,st=>awp Γ gl a (Ze0 (awp Γ gl b Q) Q) st
 | .cond c a b,Q,st=>Zng (evO st.tm c) (awp Γ gl a Q st) (awp Γ gl b Q st)
 | .block id b,Q,st=>awp Γ gl b (fun e s=>Q (e.inBlock id) s) st
 | .loop b,Q,st=> ∃k,Zj7 (awp Γ gl b) Q k st
 | .exit id,Q,st=>Q (.exit id) st
 | .ret,Q,st=>Q .ret st
 | .fail,_,_=>False
theorem Zcu {K K':St->Prop}{Q Q':Ex->St->Prop}(hK:∀s,K s->K' s)(hQ:∀e s,Q e s->Q' e s):∀e s,Ze0 K Q e s->Ze0 K' Q' e s
 | .normal,s,h=>hK s h
 | .exit _,s,h=>hQ _ s h
 | .ret,s,h=>hQ _ s h
theorem Zf9 {Γ:Spec}{gl:Nat->Option (List V)}:∀{c:ACode} {Q Q':Ex->St->Prop} {st:St},(∀e s,Q e s->Q' e s)->awp Γ gl c Q st->awp Γ gl c Q' st:=by
 intro c
 induction c with
 |skip=>intro Q Q' st hq h;exact hq _ _ h
 |region ops d=>
  intro Q Q' st hq h
  simp only[awp]at h⊢
  unfold Zjg at h⊢
  split at h
  ·exact hq _ _ h
  ·exact h.elim
 |seq a b iha ihb=>intro Q Q' st hq h;exact iha (Zcu (fun s=>ihb hq) hq) h
 |cond c a b iha ihb=>
  intro Q Q' st hq h
  simp only[awp]at h⊢
  unfold Zng at h⊢
  split at h
  ·exact iha hq h
  ·exact ihb hq h
  ·exact h.elim
 |block id b ih=>intro Q Q' st hq h;exact ih (fun e s=>hq _ s) h
 |loop b ih=>
  intro Q Q' st hq h
  obtain⟨k,h⟩:=h
  refine⟨k, ?_⟩
  induction k generalizing st with
  |zero=>exact h.elim
  |succ k ihk=>exact ih (Zcu (fun s=>ihk) hq) h
 |exit id=>intro Q Q' st hq h;exact hq _ _ h
 |ret=>intro Q Q' st hq h;exact hq _ _ h
 |fail=>intro Q Q' st hq h;exact h.elim
def mOf (aos:List AOper):Nat:=
 let an:=ancs aos []
 let N:=aos.length
 N-((List.range N).reverse.takeWhile fun i=>(List.range i).all fun j=>(an.getD i []).contains j).length
def AOper.bare (o:AOper):AOper:=⟨o.dst,o.op,o.guard,[]⟩
theorem Zke {Γ:Spec}{gl:Nat->Option (List V)}:∀{aos:List AOper} {st:St},execs Γ gl (aos.map AOper.bare) st=execs Γ gl aos st
 | [],_=>rfl
 |o::r,st=>by
  simp only[Xaq,execs]
  have:exec Γ gl o.bare st=exec Γ gl o st:=rfl
  rw[this]
  cases exec Γ gl o st with
  |none=>rfl
  |some s=>exact Zke
def Zp7 (n:Nat)(aos:List AOper):Option (Nat×List AOper):=
 match(List.range aos.length).find? (fun i=>(aos.getD i default).op.isStore)with
 |none=>none
 |some k=>
  let an:=ancs aos []
  let m:=mOf aos
  let aos':=aos.mapIdx fun i x=>if(decide (i<k)&&(an.getD k []).contains i)||decide (m<=i)then x else x.toP
  if m<=aos.length/\k<m/\Zlp n aos' m k=true then some (k,aos')else none
theorem Zn2 {n:Nat}{aos:List AOper}{k:Nat}{aos':List AOper}(h:Zp7 n aos=some (k,aos')):aos'.length=aos.length/\mOf aos<=aos'.length/\k<mOf aos/\Zlp n aos' (mOf aos) k=true/\
  ∀(i:Nat) (x:AOper),aos'[i]? =some x-> ∃x0:AOper,aos[i]? =some x0/\(x=x0 \/x=x0.toP):=by
 unfold Zp7 at h
 split at h
 ·cases h
 ·rename_i k0 hk0
  simp only at h
  split at h
  ·rename_i hc
   simp only[Xac,Xc3]at h
   obtain⟨rfl,rfl⟩:=h
   refine⟨by simp,by simpa using hc.1,hc.2.1,hc.2.2,fun i x hx=> ?_⟩
   rw[List.getElem?_mapIdx]at hx
   simp only[Xaa]at hx
   obtain⟨x0,h0,rfl⟩:=hx
   refine⟨x0,h0, ?_⟩
   split
   ·exact .inl rfl
   ·exact .inr rfl
  ·cases h
def Zvt (n:Nat)(aos:List AOper):Option Nat:=(List.range aos.length).find? fun k=>(aos.getD k default).op.isStore&&Zpv n aos k
theorem Zny {n:Nat}{aos:List AOper}{k:Nat}(h:Zvt n aos=some k):k<aos.length/\Zpv n aos k=true:=by
 have h1:=Xe4 h
 have h2:=Xdq h
 simp only[Xai]at h1
 exact⟨Xbi.1 h2,h1.2⟩
def Zwu (n:Nat)(aos:List AOper):Option Nat:=(List.range aos.length).find? fun e=>Zll n aos e
theorem Zox {n:Nat}{aos:List AOper}{e:Nat}(h:Zwu n aos=some e):e<aos.length/\Zll n aos e=true:=
 ⟨Xbi.1 (Xdq h),by simpa using Xe4 h⟩
def comp (P:Program)(R:TypeId->Bool)(n:Nat):Code->ACode
 | .skip=> .skip
 | .region _ ops draw=>match Zfe P R n ops ops.toList with
  |some aos=>if draw then(if mOf aos<=aos.length/\Zzq n aos (mOf aos)=true then .region (aos.map AOper.bare) true else match Zp7 n aos with|some (_,aos')=> .region (aos'.map AOper.bare) true|none=>match Zvt n aos with|some _=> .region (aos.map AOper.bare) true|none=>match Zwu n aos with|some _=> .region (aos.map AOper.bare) true|none=> .fail)else .region (aos.map AOper.bare) false
  |none=> .fail
 | .seq a b=> .seq (comp P R n a) (comp P R n b)
 | .cond c a b=>match cOpd P n 0 c with|some c=> .cond c (comp P R n a) (comp P R n b)|none=> .fail
 | .block id b=> .block id (comp P R n b)
 | .loop b=> .loop (comp P R n b)
 | .exit id=> .exit id
 | .ret=> .ret
 |_=> .fail
def exm :Ex->Exit
 | .normal=> .normal
 | .exit id=> .exit id
 | .ret=> .ret
theorem SR.drew {w B GB g st a W}(h:SR w B GB g st a W):SR w B GB g st a W.drew:=by
 have:=h.adv (Adv.refl h none).drew
 simpa[St.take]using this
variable {cx:Cx}{w:World}{B:Nat->Prop}{GB:Gh}{Γ:Spec}{RT:TypeId->Bool}
theorem Zk7 (hs:Scope cx w B GB)(hΓ:Sound cx Γ)(hm:cx.P.follows .mixedOrders=true){n:Nat}:∀(c:Code) (Q:Ex->St->Prop) (g:Gh) (st:St) (a:Act) (W:World) (R:Exit->Act->World->Prop),
  SR w B GB g st a W->a.tmps.size=n->awp Γ cx.gl (comp cx.P RT n c) Q st->(∀e st g a W,Q e st->SR w B GB g st a W->a.tmps.size=n->R (exm e) a W)->c.wp cx.P R a W:=by
 intro c
 induction c with
 |skip=>intro Q g st a W R h hn hq hR;exact wp_skip (hR .normal st g a W hq h hn)
 |exit id=>intro Q g st a W R h hn hq hR;exact wp_exit (hR (.exit id) st g a W hq h hn)
 |ret=>intro Q g st a W R h hn hq hR;exact wp_ret (hR .ret st g a W hq h hn)
 |region id ops draw=>
  intro Q g st a W R h hn hq hR
  simp only[comp]at hq
  split at hq
  ·rename_i aos has
   have fin:∀(aos:List AOper) d,awp Γ cx.gl (.region (aos.map AOper.bare) d) Q st-> ∃st',execs Γ cx.gl aos st=some st'/\Q .normal st':=by
    intro aos d hq
    simp only[awp,Zke]at hq
    unfold Zjg at hq
    split at hq
    ·exact⟨_,by assumption,hq⟩
    ·exact hq.elim
   cases draw with
   |false=>
    simp only[Xat,if_false]at hq
    obtain⟨st',he,hq⟩:=fin _ _ hq
    refine wp_region ?_
    rw[List.range_eq_range']
    exact Zph hs hΓ has (fun g' a' W' h' hn'=>hR .normal st' g' a' W' hq h' hn') ops.size 0 g st a W (by omega) h hn (by simpa using he)
   |true=>
    simp only[if_true]at hq
    split at hq
    ·rename_i hc
     obtain⟨st',he,hq⟩:=fin _ _ hq
     exact wp_region_any hm (Zsm hs hΓ has hc.1 hc.2 h.drew hn he fun g' a' W' h' hn'=>hR .normal st' g' a' W' hq h' hn')
    ·split at hq
     ·rename_i k aos' hea
      obtain⟨e1,e2,e3,e4,e5⟩:=Zn2 hea
      obtain⟨st',he,hq⟩:=fin _ _ hq
      exact wp_region_any hm (Zp8 hs hΓ has e1 e5 e2 e3 e4 h.drew hn he fun g' a' W' h' hn'=>hR .normal st' g' a' W' hq h' hn')
     ·split at hq
      ·rename_i k hab
       obtain⟨e1,e2⟩:=Zny hab
       obtain⟨st',he,hq⟩:=fin _ _ hq
       exact wp_region_any hm (Zqb hs hΓ has e1 e2 h.drew hn he fun g' a' W' h' hn'=>hR .normal st' g' a' W' hq h' hn')
      ·split at hq
       ·rename_i k hab
        obtain⟨e1,e2⟩:=Zox hab
        obtain⟨st',he,hq⟩:=fin _ _ hq
        exact wp_region_any hm (Zqe hs hΓ has e1 e2 h.drew hn he fun g' a' W' h' hn'=>hR .normal st' g' a' W' hq h' hn')
       ·exact hq.elim
  ·exact hq.elim
 |seq x y ihx ihy=>
  intro Q g st a W R h hn hq hR
  refine wp_seq (ihx _ g st a W _ h hn hq fun e st g a W hq h hn=> ?_)
  cases e with
  |normal=>exact ihy Q g st a W R h hn hq hR
  |exit id=>exact hR (.exit id) st g a W hq h hn
  |ret=>exact hR .ret st g a W hq h hn
 |cond c x y ihx ihy=>
  intro Q g st a W R h hn hq hR
  simp only[comp]at hq
  split at hq
  ·rename_i c' hc
   have hr:=Zaf h hn hc
   simp only[awp]at hq
   unfold Zng at hq
   split at hq
   ·rename_i he;rw[he]at hr;cases hr':a.eval c<;>rw[hr']at hr<;>cases hr
    exact wp_cond hr' (ihx Q g st a W R h hn hq hR)
   ·rename_i he;rw[he]at hr;cases hr':a.eval c<;>rw[hr']at hr<;>cases hr
    exact wp_cond hr' (ihy Q g st a W R h hn hq hR)
   ·exact hq.elim
  ·exact hq.elim
 |block id x ih=>
  intro Q g st a W R h hn hq hR
  refine wp_block (ih _ g st a W _ h hn hq fun e st g a W hq h hn=> ?_)
  cases e with
  |normal=>exact hR .normal st g a W hq h hn
  |exit i=>
   simp only[exm,Exit.inBlock]
   simp only[Ex.inBlock]at hq
   split
   ·rename_i hi;rw[if_pos hi]at hq;exact hR .normal st g a W hq h hn
   ·rename_i hi;rw[if_neg hi]at hq;exact hR (.exit i) st g a W hq h hn
  |ret=>exact hR .ret st g a W hq h hn
 |loop x ih=>
  intro Q g st a W R h hn hq hR
  obtain⟨k,hk⟩:=hq
  have key:∀(k:Nat) (g:Gh) (st:St) (a:Act) (W:World),SR w B GB g st a W->a.tmps.size=n->Zj7 (awp Γ cx.gl (comp cx.P RT n x)) Q k st-> ∀b kk cs,
    ∃e a' w',R e a' w'/\Arrives cx.P (lone (b.at a (.code x:: .inLoop x::kk)) cs W) b kk cs e a' w':=by
   intro k
   induction k with
   |zero=>intro g st a W _ _ hl;exact hl.elim
   |succ k ihk=>
    intro g st a W h hn hl b kk cs
    have hwp:=ih _ g st a W (fun e a' W'=>match e with
     | .normal=> ∃g' st',SR w B GB g' st' a' W'/\a'.tmps.size=n/\Zj7 (awp Γ cx.gl (comp cx.P RT n x)) Q k st'
     |e=>R e a' W') h hn hl fun e st' g' a' W' hq h' hn'=>by
      cases e with
      |normal=>exact⟨g',st',h',hn',hq⟩
      |exit i=>exact hR (.exit i) st' g' a' W' hq h' hn'
      |ret=>exact hR .ret st' g' a' W' hq h' hn'
    obtain⟨e,a₁,w₁,hq,harr⟩:=hwp b (.inLoop x::kk) cs
    cases e with
    |normal=>
     obtain⟨g',st',h',hn',hl'⟩:=hq
     obtain⟨e₂,a₂,w₂,hq₂,harr₂⟩:=ihk g' st' a₁ w₁ h' hn' hl' b kk cs
     exact⟨e₂,a₂,w₂,hq₂, .of_steps (Steps.trans harr (.one step_inLoop)) harr₂⟩
    |exit id=>exact⟨_,a₁,w₁,hq, .pass (x:= .inLoop x) rfl (fun _ _=> .inl (by simp)) harr⟩
    |goto l=>exact⟨_,a₁,w₁,hq, .pass (x:= .inLoop x) rfl (fun _ _=> .inl (by simp)) harr⟩
    |ret=>exact⟨_,a₁,w₁,hq, .pass (x:= .inLoop x) rfl (fun _ _=> .inl (by simp)) harr⟩
    |panic ch=>exact⟨_,a₁,w₁,hq, .pass (x:= .inLoop x) rfl (fun _ _=> .inl (by simp)) harr⟩
    |outgrown=>exact⟨_,a₁,w₁,hq, .pass (x:= .inLoop x) rfl (fun _ _=> .inl (by simp)) harr⟩
  intro b kk cs
  obtain⟨e,a',w',hq,harr⟩:=key k g st a W h hn hk b kk cs
  exact⟨e,a',w',hq, .of_steps (.one step_loop) harr⟩
 |_=>intro Q g st a W R h hn hq hR;exact hq.elim
mutual
def V.clean :V->Bool
 | .osl _ _ _ _ _| .ptr _ _| .map _=>false
 | .agg cs=>Zac cs
 | .sl _ _ cs=>Zac cs
 | .el cs _=>Zac cs
 | .fn _ cs=>Zac cs
 | .mfn _ cs=>Zac cs
 | .tup cs=>Zac cs
 | .iface _ v=>v.clean
 |_=>true
def Zac :List V->Bool
 | []=>true
 |v::r=>v.clean&&Zac r
end
theorem Zal :∀{l:List V},Zac l=true<-> ∀v∈l,v.clean=true
 | []=>by simp[Zac]
 |v::r=>by simp[Zac,Zal (l:=r)]
theorem V.clean_cells {v:V}(h:v.clean=true):∀c∈v.cells,c.clean=true:=by
 cases v<;>simp only[V.cells,Xa1,forall_eq]<;>first|exact h|exact Zal.1 (by simpa[V.clean]using h)
theorem Rep.clean {W G φ φ' v x}(h:Rep W G φ v x)(hc:v.clean=true):Rep W G φ' v x:=by
 induction h with
 |bool b=>exact .bool b
 |int k n=>exact .int k n
 |str l s h=>exact .str l s h
 |agg cs xs hl hs h ih=>
  exact .agg cs xs hl hs fun i c x hi hx=>ih i c x hi hx (Zal.1 (by simpa[V.clean]using hc) c (Xam hi))
 |slnil sz=>exact .slnil sz
 |sl sz xs b off cap rd hcap hG hx hrd _ ih=>
  exact .sl sz xs b off cap rd hcap hG hx hrd fun i x j c hi hj=>ih i x j c hi hj (V.clean_cells (Zal.1 (by simpa[V.clean]using hc) x (Xam hi)) c (Xam hj))
 |sl0 sz a=>exact .sl0 sz a
 |osl=>simp[V.clean]at hc
 |osln=>simp[V.clean]at hc
 |el cs off b base rd hG hs hrd _ ih=>
  exact .el cs off b base rd hG hs hrd fun k c hk=>ih k c hk (Zal.1 (by simpa[V.clean]using hc) c (Xam hk))
 |gp g off=>exact .gp g off
 |ptr=>simp[V.clean]at hc
 |nilptr=>exact .nilptr
 |map=>simp[V.clean]at hc
 |nilmap=>exact .nilmap
 |fn f cs xs hl _ ih=>
  exact .fn f cs xs hl fun i c x hi hx=>ih i c x hi hx (Zal.1 (by simpa[V.clean]using hc) c (Xam hi))
 |mfn f cs xs hl _ ih=>
  exact .mfn f cs xs hl fun i c x hi hx=>ih i c x hi hx (Zal.1 (by simpa[V.clean]using hc) c (Xam hi))
 |nilfn=>exact .nilfn
 |iface t v x _ ih=>exact .iface t v x (ih (by simpa[V.clean]using hc))
 |nilif=>exact .nilif
 |tup cs xs hl _ ih=>
  exact .tup cs xs hl fun i c x hi hx=>ih i c x hi hx (Zal.1 (by simpa[V.clean]using hc) c (Xam hi))
inductive RS where
 |t (k:Nat)
 |c (k:Nat) (n:Option Nat)
 deriving Inhabited
structure AFn where
 n:Nat
 body:ACode
 res:List RS
def cRes (P:Program)(n:Nat):List ResultVar->Option (List RS)
 | []=>some []
 | .tmp t::r=>if t<n then(cRes P n r).map (.t t:: ·)else none
 | .cell t ty::r=>if t<n then(ldN P ty).bind fun k=>(cRes P n r).map (.c t k:: ·)else none
def cFnW (P:Program)(hp:Bool)(f:FuncId):Option AFn:=
 match P.funcs[f]? with
 |some fn=>match fn.body with
  | some c => if fn.name = "runtime.NumGoroutine" then none else (cRes P fn.ntmps fn.results.toList).map fun rs => ⟨fn.ntmps, comp P (fun t => rowT P c t || (hp && (Zuq P f).any (Nat.beq t))) fn.ntmps c, rs⟩
  |none=>none
 |none=>none
def cFnP (P:Program)(f:FuncId):Option AFn:=
 match P.funcs[f]? with
 |some fn=>match fn.body with
  | some c => if fn.name = "runtime.NumGoroutine" then none else (cRes P fn.ntmps fn.results.toList).map fun rs => ⟨fn.ntmps, comp P (fun _ => false) fn.ntmps c, rs⟩
  |none=>none
 |none=>none
def cFnR (P:Program)(pl hp:Bool)(f:FuncId):Option AFn:=match pl with|true=>cFnP P f|false=>cFnW P hp f
def St.init (args:List V):St:=⟨fun t=>args.getD t Nil,fun _=>false,fun _=>none,0⟩
def rv (st:St):RS->Option (V×Bool)
 | .t k=>some (st.tm k,st.own (.slot k))
 | .c k n=>match st.tm k with
  | .ptr id off=>((Zat st.H id).bind fun cs=>Zak n cs off).map fun v=>(v,false)
  |_=>none
def rvs (st:St):List RS->Option (List V)
 | []=>some []
 |r::rs=>(rv st r).bind fun p=>(rvs st rs).map (p.1:: ·)
def Zdo (res:List RS)(st:St):Option (V×Bool):=
 match res with
 | [r]=>rv st r
 |rs=>(rvs st rs).map fun vs=>(.tup vs,false)
def retQ (res:List RS)(r:V×Bool):Ex->St->Prop
 | .exit _,_=>False
 |_,st=> ∃p,Zdo res st=some p/\p.1=r.1/\(r.2=true->p.2=true)
def resM (tmps:Array Value):ResultVar->Sem Value
 | .tmp t=>pure (tmps.getD t undef)
 | .cell a t=>do loadVar t (<-asAddr (tmps.getD a undef))
theorem Zfy (fn:Func)(tmps:Array Value)(P:Program)(W:World){ys:List Value}(h:(fn.results.toList.mapM (resM tmps)).run P W= .ok ys W):
  (results fn tmps).run P W= .ok (if h:ys.toArray.size=1 then ys.toArray[0]else .tuple ys.toArray) W:=by
 have e:fn.results=fn.results.toList.toArray:=rfl
 have key:(fn.results.mapM (resM tmps)).run P W= .ok ys.toArray W:=by
  rw[e]
  simp only[List.mapM_toArray]at h⊢
  simp[h]
 have e2:results fn tmps=(fn.results.mapM (resM tmps))>>=fun vs=>pure (if h:vs.size=1 then vs[0]else .tuple vs):=by
  unfold results
  congr 1
 rw[e2,Sem.run_bind,key]
 simp only[Result.andThen_ok,Sem.run_pure]
theorem Ztu {g:Gh}{st:St}{a:Act}{W:World}(hs:Scope cx w B GB)(h:SR w B GB g st a W){r:ResultVar}{s:RS}(hc:cRes cx.P a.tmps.size [r]=some [s]){p:V×Bool}(hp:rv st s=some p):
  ∃y,(resM a.tmps r).run cx.P W= .ok y W/\Rep W g.G g.φ p.1 y/\(p.2=true-> ∃t,s= .t t/\p=(st.tm t,st.own (.slot t))/\t<a.tmps.size/\y=a.tmps.getD t undef):=by
 cases r with
 |tmp t=>
  simp only[cRes]at hc
  split at hc
  ·rename_i ht
   simp at hc;subst hc
   simp only[rv,Xac]at hp;subst hp
   exact⟨_,by simp[resM,Act.eval],h.get ht,fun _=>⟨t,rfl,rfl,ht,rfl⟩⟩
  ·simp at hc
 |cell t ty=>
  simp only[cRes]at hc
  split at hc
  ·rename_i ht
   simp only[Xab,Xas,Xac,Xb8,and_true]at hc
   obtain⟨k,hk,rfl⟩:=hc
   have hr:=h.get ht
   simp only[rv]at hp
   split at hp
   ·rename_i id off hid
    rw[hid]at hr
    simp only[Xaa]at hp
    obtain⟨v,hv,rfl⟩:=hp
    obtain⟨y,h1,h2⟩:=Zy4 hs h (u:= .ptr id off) hk hr (by simpa[Zfr]using hv)
    refine⟨y, ?_,h2,fun h=>by cases h⟩
    simp only[Act.eval]at h1 hr
    generalize hxe:a.tmps.getD t undef=xv at hr h1
    cases hr
    simp only[resM,hxe]
    simpa[Instr.loadAt,Instr.sureAddr,asAddr]using h1
   ·cases hp
  ·simp at hc
theorem Zpf {g:Gh}{st:St}{a:Act}{W:World}(hs:Scope cx w B GB)(h:SR w B GB g st a W):∀{rs:List ResultVar} {ss:List RS} {vs:List V},cRes cx.P a.tmps.size rs=some ss->rvs st ss=some vs->
  ∃ys:List Value,(rs.mapM (resM a.tmps)).run cx.P W= .ok ys W/\vs.length=ys.length/\ ∀(i:Nat) (c:V) (x:Value),vs[i]? =some c->ys[i]? =some x->Rep W g.G g.φ c x
 | [],ss,vs,h1,h2=>by
  simp[cRes]at h1;subst h1
  simp[rvs]at h2;subst h2
  exact⟨[],by simp,rfl,fun i c x hc=>by simp at hc⟩
 |r::rs,ss,vs,h1,h2=>by
  have hsplit:∃s ss',ss=s::ss'/\cRes cx.P a.tmps.size [r]=some [s]/\cRes cx.P a.tmps.size rs=some ss':=by
   cases r with
   |tmp t=>
    simp only[cRes]at h1⊢
    split at h1
    ·rename_i ht
     simp only[Xaa]at h1
     obtain⟨ss',h3,rfl⟩:=h1
     exact⟨_,_,rfl,by simp[ht],h3⟩
    ·simp at h1
   |cell t ty=>
    simp only[cRes]at h1⊢
    split at h1
    ·rename_i ht
     simp only[Xab,Xaa]at h1
     obtain⟨k,hk,ss',h3,rfl⟩:=h1
     exact⟨_,_,rfl,by simp[ht,hk],h3⟩
    ·simp at h1
  obtain⟨s,ss',rfl,h3,h4⟩:=hsplit
  simp only[rvs,Xab,Xaa]at h2
  obtain⟨p,hp,vs',hvs,rfl⟩:=h2
  obtain⟨y,q1,q2,_⟩:=Ztu hs h h3 hp
  obtain⟨ys,q3,q4,q5⟩:=Zpf hs h h4 hvs
  refine⟨y::ys,by simp[q1,q3],by simp[q4],fun i c x hc hx=> ?_⟩
  cases i with
  |zero=>simp at hc hx;subst hc;subst hx;exact q2
  |succ i=>exact q5 i c x (by simpa using hc) (by simpa using hx)
theorem Zt2 {P : Program} {pl hp : Bool} {f : FuncId} {F : AFn} (h : cFnR P pl hp f = some F) : ∃ fn c R ts, P.funcs[f]? = some fn ∧ fn.body = some c ∧ ¬ fn.name = "runtime.NumGoroutine" ∧ cRes P fn.ntmps fn.results.toList = some ts ∧ F = ⟨fn.ntmps, comp P R fn.ntmps c, ts⟩ := by
 unfold cFnR at h
 split at h
 ·unfold cFnP at h
  split at h
  ·rename_i fn hfn
   split at h
   ·rename_i c hc
    split at h
    ·simp at h
    ·rename_i hname
     simp only[Xaa]at h
     obtain⟨ts,hts,rfl⟩:=h
     exact⟨fn,c,_,ts,hfn,hc,hname,hts,rfl⟩
   ·simp at h
  ·simp at h
 ·unfold cFnW at h
  split at h
  ·rename_i fn hfn
   split at h
   ·rename_i c hc
    split at h
    ·simp at h
    ·rename_i hname
     simp only[Xaa]at h
     obtain⟨ts,hts,rfl⟩:=h
     exact⟨fn,c,_,ts,hfn,hc,hname,hts,rfl⟩
   ·simp at h
  ·simp at h
theorem Zvr (hgl:GlOK cx)(hm:cx.P.follows .mixedOrders=true)(hΓ:Sound cx Γ){f:FuncId}{F:AFn}{pl:Bool}(hf:cFnR cx.P pl false f=some F){args:List V}{r:V×Bool}(hl:args.length<=F.n)(hca:Zac args=true)(hcr:r.1.clean=true)
  (h:awp Γ cx.gl F.body (retQ F.res r) (St.init args)):PC cx f args r:=by
 obtain⟨fn,c,R,ts,hfn,hc,hname,hts,rfl⟩:=Zt2 hf
 ·
    have hl':args.length<=fn.ntmps:=hl
    refine⟨⟨fn,hfn,hname,by simp[hc]⟩,fun W G φ xs hW hxs=> ?_⟩
    have hB0:cx.w0.heap.size<=W.heap.size:=hW.below.size
    have hs:Scope cx W (fun b=>W.heap.size<=b) ⟨G,fun _=>none,fun _=>none⟩:=⟨hW.below,fun b hb=>Xbs hB0 hb,hW.Glo,hgl⟩
    have hargs:∀(t:Nat) (x:Value),(xs++Array.replicate (fn.ntmps-xs.size) undef)[t]? =some x->Rep W G (fun _=>none) ((St.init args).tm t) x:=by
     intro t x hx
     by_cases ht:t<xs.size
     ·rw[Xd5 ht]at hx
      obtain⟨v,hv⟩:∃v,args[t]? =some v:=⟨_,Xad (by rw[hxs.1];exact ht)⟩
      have:(St.init args).tm t=v:=by simp[St.init,List.getD,hv]
      rw[this]
      exact(hxs.2 t v x hv hx).clean (Zal.1 hca v (Xam hv))
     ·rw[Xe5 (by omega)]at hx
      have hx':x=undef:=by
       rw[Xfg]at hx
       split at hx<;>simp at hx
       exact hx.symm
      have:(St.init args).tm t=Nil:=by simp[St.init,List.getD,Xd1 (show args.length<=t by rw[hxs.1];omega)]
      rw[this,hx']
      exact .tup [] #[] rfl fun i c x hc=>by simp at hc
    have h0:SR W (fun b=>W.heap.size<=b) ⟨G,fun _=>none,fun _=>none⟩ ⟨G,fun _=>none,fun _=>none⟩ (St.init args) {tmps:=xs++Array.replicate (fn.ntmps-xs.size) undef,defers:=[]} W:=
     ⟨rfl,hargs,fun t x hx ho=>by simp[St.init]at ho,(fun id cs hc=>by simp[St.init]at hc),(fun _ _=>rfl),(fun id b hb=>by simp at hb),(fun id b hb=>by simp at hb),(fun id id' b hb=>by simp at hb),hW.Gz,fun _ _=>rfl,fun _ _ _=>rfl,fun _=>Xag _,fun _ _ h=>h,fun _ _ _=>rfl, .refl _ _,fun _ h=>h⟩
    refine calls_of_wp hfn hc (Zk7 hs hΓ hm (n:=fn.ntmps) c _ _ _ _ _ _ h0 (by simp[<-hxs.1];omega) h fun e st g a W' hq hsr hn=> ?_)
    have hts':cRes cx.P a.tmps.size fn.results.toList=some ts:=by rw[hn];exact hts
    have fin:(∃p,Zdo ts st=some p/\p.1=r.1/\(r.2=true->p.2=true))->a.defers=[]/\ ∃v,(results fn a.tmps).run cx.P W'= .ok v W'/\ ∃G' y,Ending.returned v= .returned y/\Below W.heap.size W W'/\(∀b,b<W.heap.size->G' b=G b)/\(∀b,W'.heap.size<=b->G' b=0)/\
      Rep W' G' φ r.1 y/\(r.2=true-> ∀ow q,(∀b,W.heap.size<=b->ow b=some q)->OwnAt W' (fun b=>W.heap.size<=b) ⟨G',φ,ow⟩ q r.1 y):=by
     rintro⟨p,hp,hr1,hr2⟩
     obtain⟨rv0,ro⟩:=r
     simp only at hr1 hr2 hcr
     subst hr1
     by_cases h1:∃s,ts=[s]
     ·obtain⟨s,rfl⟩:=h1
      simp only[Zdo]at hp
      have hone:∃rr,fn.results.toList=[rr]:=by
       cases hL:fn.results.toList with
       |nil=>rw[hL]at hts;simp[cRes]at hts
       |cons rr l=>
        cases l with
        |nil=>exact⟨rr,rfl⟩
        |cons rr' l=>
         rw[hL]at hts
         exfalso
         have len:∀{l:List ResultVar} {ss:List RS},cRes cx.P fn.ntmps l=some ss->l.length=ss.length:=by
          intro l
          induction l with
          |nil=>intro ss h;simp[cRes]at h;subst h;rfl
          |cons x l ih=>
           intro ss h
           cases x with
           |tmp t=>
            simp only[cRes]at h
            split at h
            ·simp only[Xaa]at h
             obtain⟨ss',h3,rfl⟩:=h
             simp[ih h3]
            ·simp at h
           |cell t ty=>
            simp only[cRes]at h
            split at h
            ·simp only[Xab,Xaa]at h
             obtain⟨k,hk,ss',h3,rfl⟩:=h
             simp[ih h3]
            ·simp at h
         have:=len hts
         simp at this
      obtain⟨rr,hrr⟩:=hone
      rw[hrr]at hts'
      obtain⟨y,q1,q2,q3⟩:=Ztu hs hsr hts' hp
      have hm:(fn.results.toList.mapM (resM a.tmps)).run cx.P W'= .ok [y] W':=by rw[hrr];simp[q1]
      refine⟨hsr.defers,_,Zfy fn a.tmps cx.P W' hm,g.G,y,by simp,hsr.below.below,(fun b hb=>hsr.Glo b (Xfu.2 hb)),hsr.Gz,q2.clean hcr,fun ho ow q hqq sz ys b off len cap sp hv hx=> ?_⟩
      obtain⟨t,rfl,hpe,ht,hy⟩:=q3 (hr2 ho)
      have e:a.tmps[t]? =some (a.tmps.getD t undef):=by rw[Xar ht];simp[Array.getD,ht]
      subst hpe
      simp only at hv hr2
      rcases hsr.own t _ e (hr2 ho) sz ys b off len cap sp hv (by rw[<-hy];exact hx)with h2|⟨h2,h3,h4⟩
      ·exact .inl h2
      ·exact .inr ⟨h2,hqq b h2,h4⟩
     ·have hr':Zdo ts st=(rvs st ts).map fun vs=>(.tup vs,false):=by
       unfold Zdo
       split
       ·exact absurd ⟨_,rfl⟩ h1
       ·rfl
      rw[hr',Xaa]at hp
      obtain⟨vs,hvs,rfl⟩:=hp
      obtain⟨ys,q1,q2,q3⟩:=Zpf hs hsr hts' hvs
      have hne: ¬ys.toArray.size=1:=by
       intro he
       simp at he
       have hl:∀{ss:List RS} {vs:List V},rvs st ss=some vs->ss.length=vs.length:=by
        intro ss
        induction ss with
        |nil=>intro vs h;simp[rvs]at h;subst h;rfl
        |cons s ss ih=>
         intro vs h
         simp only[rvs,Xab,Xaa]at h
         obtain⟨p,_,vs',h3,rfl⟩:=h
         simp[ih h3]
       have:=hl hvs
       exact h1 (Xei.1 (by omega))
      refine⟨hsr.defers,_,Zfy fn a.tmps cx.P W' q1,g.G, .tuple ys.toArray,by rw[dif_neg hne],hsr.below.below,(fun b hb=>hsr.Glo b (Xfu.2 hb)),hsr.Gz, ?_,fun ho=>absurd (hr2 ho) (by simp)⟩
      exact Rep.clean (φ:=g.φ) (.tup _ _ (by simpa using q2) fun i c x hi hx=>q3 i c x hi (by simpa using hx)) hcr
    cases e with
    |normal=>exact fin hq
    |exit i=>exact hq.elim
    |ret=>exact fin hq
def St.initH (args:List V)(hs:HS):St:=⟨fun t=>args.getD t Nil,fun p=>match p with| .cell i j=>hs.co i j| .slot _=>false,hs.H,hs.nH⟩
def retH (res:List RS)(r:V×Bool)(hs':HS):Ex->St->Prop
 | .exit _,_=>False
 |_,st=>(∃p,Zdo res st=some p/\p.1=r.1/\(r.2=true->p.2=true))/\st.hs=hs'
def Gh.out (g:Gh)(tr:Option Nat):Gh:=⟨g.G,g.φ,fun b=>match g.ow b with|some (.slot t)=>if tr=some t then some (.slot 0)else none|q=>q⟩
theorem SR.hrelOut {a:Act}{W:World}{g:Gh}{st:St}(h:SR w B GB g st a W)(tr:Option Nat):HRel B (g.out tr) st.hs W where
 ob id o hH:=by
  refine ObOK.keep (h.ob id o hH) (.refl _ _ _) rfl (fun _ _=>rfl) (fun j v x hw=>⟨hw,fun hq=> ?_⟩)
  intro sz ys b' off len cap sp e1 e2
  rcases hq sz ys b' off len cap sp e1 e2 with h6|⟨h6,h7,h8⟩
  ·exact .inl h6
  ·exact .inr ⟨h6,by simp only[Gh.out,h7],h8⟩
 obn:=h.obn
 φ:=h.φ
 live id b hb:=by
  obtain⟨h3,h4⟩:=h.live id b hb
  exact⟨h3,by simp only[Gh.out,h4]⟩
 inj:=h.inj
 Gz:=h.Gz
theorem Zgn {P:Program}{n:Nat}:∀{l:List ResultVar} {ss:List RS},cRes P n l=some ss->l.length=ss.length
 | [],ss,h=>by simp[cRes]at h;subst h;rfl
 | .tmp t::l,ss,h=>by
  simp only[cRes]at h
  split at h
  ·simp only[Xaa]at h
   obtain⟨ss',h3,rfl⟩:=h
   simp[Zgn h3]
  ·simp at h
 | .cell t ty::l,ss,h=>by
  simp only[cRes]at h
  split at h
  ·simp only[Xab,Xaa]at h
   obtain⟨k,hk,ss',h3,rfl⟩:=h
   simp[Zgn h3]
  ·simp at h
theorem Zkk {st:St}:∀{ss:List RS} {vs:List V},rvs st ss=some vs->ss.length=vs.length
 | [],vs,h=>by simp[rvs]at h;subst h;rfl
 |s::ss,vs,h=>by
  simp only[rvs,Xab,Xaa]at h
  obtain⟨p,_,vs',h3,rfl⟩:=h
  simp[Zkk h3]
theorem Zs2 (hgl:GlOK cx)(hm:cx.P.follows .mixedOrders=true)(hΓ:Sound cx Γ){f:FuncId}{F:AFn}{hp:Bool}(hf:cFnW cx.P hp f=some F){args:List V}{hs hs':HS}{r:V×Bool}(hl:args.length<=F.n)
  (h:awp Γ cx.gl F.body (retH F.res r hs') (St.initH args hs)):PCH cx f args hs r hs':=by
 unfold cFnW at hf
 split at hf
 ·rename_i fn hfn
  split at hf
  ·rename_i c hc
   split at hf
   ·simp at hf
   ·rename_i hname
    simp only[Xaa]at hf
    obtain⟨ts,hts,rfl⟩:=hf
    have hl':args.length<=fn.ntmps:=hl
    refine⟨⟨fn,hfn,hname,by simp[hc]⟩,fun W M g xs hW hM hrel hsl hxs=> ?_⟩
    have hB0:cx.w0.heap.size<=W.heap.size:=hW.below.size
    have hsc:Scope cx W (fun b=>W.heap.size<=b \/M b) g:=⟨hW.below,fun b hb=>hb.elim (fun h=>Xbs hB0 h) (hM b),hW.Glo,hgl⟩
    have hargs:∀(t:Nat) (x:Value),(xs++Array.replicate (fn.ntmps-xs.size) undef)[t]? =some x->Rep W g.G g.φ ((St.initH args hs).tm t) x:=by
     intro t x hx
     by_cases ht:t<xs.size
     ·rw[Xd5 ht]at hx
      obtain⟨v,hv⟩:∃v,args[t]? =some v:=⟨_,Xad (by rw[hxs.1];exact ht)⟩
      have:(St.initH args hs).tm t=v:=by simp[St.initH,List.getD,hv]
      rw[this]
      exact hxs.2 t v x hv hx
     ·rw[Xe5 (by omega)]at hx
      have hx':x=undef:=by
       rw[Xfg]at hx
       split at hx<;>simp at hx
       exact hx.symm
      have:(St.initH args hs).tm t=Nil:=by simp[St.initH,List.getD,Xd1 (show args.length<=t by rw[hxs.1];omega)]
      rw[this,hx']
      exact .tup [] #[] rfl fun i c x hc=>by simp at hc
    have h0:SR W (fun b=>W.heap.size<=b \/M b) g g (St.initH args hs) {tmps:=xs++Array.replicate (fn.ntmps-xs.size) undef,defers:=[]} W:=
     {defers:=rfl
      tm:=hargs
      own:=fun t x hx ho=>by simp[St.initH]at ho
      ob:=fun id o hc=>by
       refine ObOK.keep (hrel.ob id o hc) (.refl _ _ _) rfl (fun _ _=>rfl) (fun j v x hw=>⟨hw,fun hq=> ?_⟩)
       intro sz zs b' off len cap sp e1 e2
       rcases hq sz zs b' off len cap sp e1 e2 with h6|⟨h6,h7⟩
       ·exact .inl h6
       ·exact .inr ⟨.inr h6,h7⟩
      obn:=hrel.obn
      φ:=fun id b hb=>by
       obtain⟨h1,h2⟩:=hrel.φ id b hb
       exact⟨.inr h1,h2⟩
      live:=hrel.live
      inj:=hrel.inj
      Gz:=hrel.Gz
      Glo:=fun _ _=>rfl
      kp:=fun _ _ _=>rfl
      kG:=fun _=>Xag _
      kφ:=fun _ _ h=>h
      ksz:=fun _ _ _=>rfl
      below:= .refl _ _
      hB:=fun b hb=> .inl hb}
    refine calls_of_wp hfn hc (Zk7 hsc hΓ hm (n:=fn.ntmps) c _ _ _ _ _ _ h0 (by simp[<-hxs.1];omega) h fun e st gf a W' hq hsr hn=> ?_)
    have hts':cRes cx.P a.tmps.size fn.results.toList=some ts:=by rw[hn];exact hts
    have hkeep:Keeps W g.G g.φ W' gf.G gf.φ:=⟨hsr.kp,hsr.kG,hsr.kφ,hsr.ksz⟩
    have fin:((∃p,Zdo ts st=some p/\p.1=r.1/\(r.2=true->p.2=true))/\st.hs=hs')->a.defers=[]/\ ∃v,(results fn a.tmps).run cx.P W'= .ok v W'/\ ∃g' y,Ending.returned v= .returned y/\Bel (fun b=>W.heap.size<=b \/M b) W W'/\(∀b,b<W.heap.size-> ¬M b->g'.G b=g.G b)/\Keeps W g.G g.φ W' g'.G g'.φ/\
      HRel (fun b=>W.heap.size<=b \/M b) g' hs' W'/\Rep W' g'.G g'.φ r.1 y/\(r.2=true->OwnAt W' (fun b=>W.heap.size<=b \/M b) g' (.slot 0) r.1 y):=by
     rintro⟨⟨p,hp,hr1,hr2⟩,rfl⟩
     obtain⟨rv0,ro⟩:=r
     simp only at hr1 hr2
     subst hr1
     have hGlo:∀b,b<W.heap.size-> ¬M b->gf.G b=g.G b:=fun b h1 h2=>hsr.Glo b fun h3=>h3.elim (fun h=>by omega) h2
     by_cases h1:∃s,ts=[s]
     ·obtain⟨s,rfl⟩:=h1
      simp only[Zdo]at hp
      obtain⟨rr,hrr⟩:∃rr,fn.results.toList=[rr]:=Xei.1 (by have:=Zgn hts;simpa using this)
      rw[hrr]at hts'
      obtain⟨y,q1,q2,q3⟩:=Ztu hsc hsr hts' hp
      have hm:(fn.results.toList.mapM (resM a.tmps)).run cx.P W'= .ok [y] W':=by rw[hrr];simp[q1]
      refine⟨hsr.defers,_,Zfy fn a.tmps cx.P W' hm,gf.out (match s with| .t t=>some t|_=>none),y,by simp,hsr.below,hGlo,hkeep,hsr.hrelOut _,q2,fun ho=> ?_⟩
      obtain⟨t,rfl,hpe,ht,hy⟩:=q3 (hr2 ho)
      have e:a.tmps[t]? =some (a.tmps.getD t undef):=by rw[Xar ht];simp[Array.getD,ht]
      subst hpe
      intro sz xs b off len cap sp hv hx
      simp only at hv hr2
      rcases hsr.own t _ e (hr2 ho) sz xs b off len cap sp hv (by rw[<-hy];exact hx)with h2|⟨h2,h3,h4⟩
      ·exact .inl h2
      ·exact .inr ⟨h2,by simp only[Gh.out,h3,if_true],h4⟩
     ·have hr':Zdo ts st=(rvs st ts).map fun vs=>(.tup vs,false):=by
       unfold Zdo
       split
       ·exact absurd ⟨_,rfl⟩ h1
       ·rfl
      rw[hr',Xaa]at hp
      obtain⟨vs,hvs,rfl⟩:=hp
      obtain⟨ys,q1,q2,q3⟩:=Zpf hsc hsr hts' hvs
      have hne: ¬ys.toArray.size=1:=by
       intro he
       simp at he
       have:=Zkk hvs
       exact h1 (Xei.1 (by omega))
      refine⟨hsr.defers,_,Zfy fn a.tmps cx.P W' q1,gf.out none, .tuple ys.toArray,by rw[dif_neg hne],hsr.below,hGlo,hkeep,hsr.hrelOut _, ?_,fun ho=>absurd (hr2 ho) (by simp)⟩
      exact .tup _ _ (by simpa using q2) fun i c x hi hx=>q3 i c x hi (by simpa using hx)
    cases e with
    |normal=>exact fin hq
    |exit i=>exact hq.elim
    |ret=>exact fin hq
  ·simp at hf
 ·simp at hf
end Go.Abs
namespace Go.Abs
open Go.RowKit
def repl {α:Type}(n:Nat)(x:α):List α:=List.replicate n x
@[simp] theorem Z1r {α:Type}(n:Nat)(x:α):(repl n x).length=n:=by simp[repl]
@[simp] theorem Z7c {α:Type}(n:Nat)(x y:α):(y∈repl n x)=(n≠0/\y=x):=by simp[repl]
abbrev Glob :=Nat->Option (List V)
def runs (Γ:Abs.Spec)(gl:Glob):List AOper->(St->Prop)->St->Prop
 | [],K,st=>K st
 |o::r,K,st=>Zjg (exec Γ gl o st) (runs Γ gl r K)
theorem Zt8 {Γ:Abs.Spec}{gl:Glob}:∀{os:List AOper} {st:St} {K:St->Prop},Zjg (execs Γ gl os st) K=runs Γ gl os K st
 | [],_,_=>rfl
 |o::r,st,K=>by
  simp only[execs,runs]
  cases exec Γ gl o st with
  |none=>rfl
  |some s=>exact Zt8
def Znh (i:Nat)(Q:Ex->St->Prop)(e:Ex)(s:St):Prop:=Q (e.inBlock i) s
def condA (v:V)(Γ:Abs.Spec)(gl:Glob)(a b:ACode)(Q:Ex->St->Prop)(st:St):Prop:=Zng v (awp Γ gl a Q st) (awp Γ gl b Q st)
variable {Γ:Abs.Spec}{gl:Glob}{Q:Ex->St->Prop}{st:St}
@[simp] theorem Z2v (s:St)(p:St->Prop):Zjg (some s) p=p s:=(rfl)
section
variable {a b:ACode}
@[simp] theorem Z2t :condA (.bool true) Γ gl a b Q st=awp Γ gl a Q st:=(rfl)
@[simp] theorem Z0w :condA (.bool false) Γ gl a b Q st=awp Γ gl b Q st:=(rfl)
end
@[simp] theorem Zz6 (K:St->Prop)(Q:Ex->St->Prop)(s:St):Ze0 K Q .normal s=K s:=(rfl)
@[simp] theorem Z21 (K:St->Prop)(Q:Ex->St->Prop)(i:Nat)(s:St):Ze0 K Q (.exit i) s=Q (.exit i) s:=(rfl)
@[simp] theorem Z27 (K:St->Prop)(Q:Ex->St->Prop)(s:St):Ze0 K Q .ret s=Q .ret s:=(rfl)
@[simp] theorem Zxh (i:Nat)(Q:Ex->St->Prop)(s:St):Znh i Q .normal s=Q .normal s:=(rfl)
@[simp] theorem Z24 (i:Nat)(Q:Ex->St->Prop)(s:St):Znh i Q .ret s=Q .ret s:=(rfl)
@[simp] theorem Z0u (i j:Nat)(Q:Ex->St->Prop)(s:St):Znh i Q (.exit j) s=if j=i then Q .normal s else Q (.exit j) s:=by
  simp only[Znh,Ex.inBlock];split<;>rfl
@[simp] theorem Z67 :awp Γ gl .skip Q st=Q .normal st:=(rfl)
@[simp] theorem Z22 (os:List AOper)(d:Bool):awp Γ gl (.region os d) Q st=runs Γ gl os (Q .normal) st:=by rw[<-Zt8];rfl
@[simp] theorem Z91 (a b:ACode):awp Γ gl (.seq a b) Q st=awp Γ gl a (Ze0 (awp Γ gl b Q) Q) st:=(rfl)
@[simp] theorem Z6x (c:Opd)(a b:ACode):awp Γ gl (.cond c a b) Q st=condA (evO st.tm c) Γ gl a b Q st:=(rfl)
@[simp] theorem Z33 (i:Nat)(b:ACode):awp Γ gl (.block i b) Q st=awp Γ gl b (Znh i Q) st:=(rfl)
@[simp] theorem Z7m (i:Nat):awp Γ gl (.exit i) Q st=Q (.exit i) st:=(rfl)
@[simp] theorem Z82 :awp Γ gl .ret Q st=Q .ret st:=(rfl)
@[simp] theorem Z65 (K:St->Prop):runs Γ gl [] K st=K st:=(rfl)
@[simp] theorem Z3f (o:AOper)(r:List AOper)(K:St->Prop):runs Γ gl (o::r) K st=Zjg (exec Γ gl o st) (runs Γ gl r K):=(rfl)
@[simp] theorem Z9x (tm:Nat->V)(t:Nat):evO tm (.tmp t)=tm t:=(rfl)
@[simp] theorem Ziy (tm:Nat->V)(v:V):evO tm (.const v)=v:=(rfl)
@[simp] theorem Z6v (v:V)(o:Bool):st.put none v o=st:=(rfl)
@[simp] theorem Zzy (d:Nat)(v:V)(o:Bool)(t:Nat):(st.put (some d) v o).tm t=if t=d then v else st.tm t:=(rfl)
@[simp] theorem Ztm (d:Nat)(v:V)(o:Bool)(t:Nat):(st.put (some d) v o).own (.slot t)=if t=d then o else st.own (.slot t):=by simp[St.put,updP]
@[simp] theorem Zw9 (d:Nat)(v:V)(o:Bool)(i j:Nat):(st.put (some d) v o).own (.cell i j)=st.own (.cell i j):=by simp[St.put,updP]
@[simp] theorem Qax (d:Nat)(v:V)(o:Bool):(st.put (some d) v o).H=st.H:=(rfl)
@[simp] theorem Qap (d:Nat)(v:V)(o:Bool):(st.put (some d) v o).nH=st.nH:=(rfl)
@[simp] theorem Z6o :st.take none=st:=(rfl)
@[simp] theorem take_own (p q:Pos):(st.take (some p)).own q=if q=p then false else st.own q:=(rfl)
@[simp] theorem Qar (cs:List V):(st.new cs).tm=st.tm:=(rfl)
@[simp] theorem Z84 (cs:List V)(t:Nat):(st.new cs).own (.slot t)=st.own (.slot t):=(rfl)
@[simp] theorem Zqr (cs:List V)(i j:Nat):(st.new cs).own (.cell i j)=if i=st.nH then false else st.own (.cell i j):=(rfl)
@[simp] theorem Qba (cs:List V)(i:Nat):(st.new cs).H i=if i=st.nH then some (.cells cs)else st.H i:=(rfl)
@[simp] theorem Qan (cs:List V):(st.new cs).nH=st.nH+1:=(rfl)
@[simp] theorem Z7p (id:Nat)(cs:List V)(off:Nat)(ys:List V):(st.setOb id cs off ys).tm=st.tm:=(rfl)
@[simp] theorem Z6k (id:Nat)(cs:List V)(off:Nat)(ys:List V)(t:Nat):(st.setOb id cs off ys).own (.slot t)=st.own (.slot t):=(rfl)
@[simp] theorem Zc2 (id:Nat)(cs:List V)(off:Nat)(ys:List V)(i j:Nat):(st.setOb id cs off ys).own (.cell i j)=if i=id/\off<=j/\j<off+ys.length then false else st.own (.cell i j):=(rfl)
@[simp] theorem Z8h (id:Nat)(cs:List V)(off:Nat)(ys:List V)(i:Nat):(st.setOb id cs off ys).H i=if i=id then some (.cells (Zav cs off ys))else st.H i:=(rfl)
@[simp] theorem Z62 (id:Nat)(cs:List V)(off:Nat)(ys:List V):(st.setOb id cs off ys).nH=st.nH:=(rfl)
@[simp] theorem Z6y (id:Nat)(cs:List V)(off t:Nat):(st.stoOb id cs off t).tm=st.tm:=(rfl)
@[simp] theorem Zwp (id:Nat)(cs:List V)(off t u:Nat):(st.stoOb id cs off t).own (.slot u)=if u=t then false else st.own (.slot u):=by simp[St.stoOb,updP]
@[simp] theorem Zhn (id:Nat)(cs:List V)(off t i j:Nat):(st.stoOb id cs off t).own (.cell i j)=if i=id/\j=off then st.own (.slot t)else st.own (.cell i j):=by simp[St.stoOb,updP]
@[simp] theorem Z8w (id:Nat)(cs:List V)(off t i:Nat):(st.stoOb id cs off t).H i=if i=id then some (.cells (Zav cs off [st.tm t]))else st.H i:=(rfl)
@[simp] theorem Z68 (id:Nat)(cs:List V)(off t:Nat):(st.stoOb id cs off t).nH=st.nH:=(rfl)
@[simp] theorem Z0l (args:List V)(t:Nat):(St.init args).tm t=args.getD t Nil:=(rfl)
@[simp] theorem Z66 (args:List V)(p:Pos):(St.init args).own p=false:=(rfl)
@[simp] theorem Qak (args:List V)(i:Nat):(St.init args).H i=none:=(rfl)
@[simp] theorem Z72 (args:List V):(St.init args).nH=0:=(rfl)
def putV (st:St)(d:Option Nat)(v:Option V):Option St:=v.map fun v=>st.put d v false
def putR (st:St)(d:Option Nat)(r:Option Res):Option St:=r.map fun r=>(st.take r.tk).put d r.v r.o
@[simp] theorem Z3w (d:Option Nat)(v:V):putV st d (some v)=some (st.put d v false):=(rfl)
@[simp] theorem Z36 (d:Option Nat)(v:V)(o:Bool)(p:Option Pos):putR st d (some ⟨v,o,p⟩)=some ((st.take p).put d v o):=(rfl)
variable {d:Option Nat}{g:Option (Nat×Bool)}{a:List Nat}
theorem Za2 (v:Option V):((resV v).map fun r=>(st.take r.tk).put d r.v r.o)=putV st d v:=by cases v<;>rfl
@[simp] theorem Z49 (op:AOp):exec Γ gl ⟨d,op,none,a⟩ st=exec1 Γ gl ⟨d,op,none,a⟩ st:=(rfl)
@[simp] theorem Zno (op:AOp)(t:Nat)(w:Bool):exec Γ gl ⟨d,op,some (t,w),a⟩ st=if(match st.tm t with| .bool b=>b==w|_=>false)=true then exec1 Γ gl ⟨d,op,some (t,w),a⟩ st else some (st.put d Nil false):=(rfl)
@[simp] theorem e_mv (x:Opd):exec1 Γ gl ⟨d, .mv x,g,a⟩ st=some (st.put d (evO st.tm x) false):=(rfl)
@[simp] theorem Z8y (t:Nat):exec1 Γ gl ⟨d, .mvo t,g,a⟩ st=some ((st.take (some (.slot t))).put d (st.tm t) (st.own (.slot t))):=(rfl)
@[simp] theorem Zrx (c x y:Opd):exec1 Γ gl ⟨d, .pick c x y,g,a⟩ st=putV st d (Zpy (evO st.tm c) (evO st.tm x) (evO st.tm y)):=Za2 _
@[simp] theorem Z4a (t:Opd)(i:Nat):exec1 Γ gl ⟨d, .ext t i,g,a⟩ st=putV st d (vExt (evO st.tm t) i):=Za2 _
@[simp] theorem Zol (op:BinOp)(q:EqK)(x y:Opd):exec1 Γ gl ⟨d, .bin op q x y,g,a⟩ st=putV st d (abin op q (evO st.tm x) (evO st.tm y)):=Za2 _
@[simp] theorem e_un (op:UnOp)(x:Opd):exec1 Γ gl ⟨d, .un op x,g,a⟩ st=putV st d (aun op (evO st.tm x)):=Za2 _
@[simp] theorem Zxf (s:Bool)(x:Opd):exec1 Γ gl ⟨d, .len s x,g,a⟩ st=putV st d (vLen s (evO st.tm x)):=Za2 _
@[simp] theorem Z7r (m:Bool)(x y:Opd):exec1 Γ gl ⟨d, .mnx m x y,g,a⟩ st=putV st d (vMnx m (evO st.tm x) (evO st.tm y)):=Za2 _
@[simp] theorem Zme (sz:Nat)(x i:Opd):exec1 Γ gl ⟨d, .iaddr sz x i,g,a⟩ st=putV st d (Zeu sz (evO st.tm x) (evO st.tm i)):=Za2 _
@[simp] theorem Zwa (n sz:Nat)(x i:Opd):exec1 Γ gl ⟨d, .iarr n sz x i,g,a⟩ st=putV st d (Zpj n sz (evO st.tm x) (evO st.tm i)):=Za2 _
@[simp] theorem Zlh (off:Nat)(x:Opd):exec1 Γ gl ⟨d, .faddr off x,g,a⟩ st=putV st d (Zjt off (evO st.tm x)):=Za2 _
@[simp] theorem Zna (n:Option Nat)(x:Opd):exec1 Γ gl ⟨d, .load n x,g,a⟩ st=putV st d (Zfr gl st.H n (evO st.tm x)):=Za2 _
@[simp] theorem Z17 (n:Option Nat)(x:Opd):exec1 Γ gl ⟨d, .ldp n x,g,a⟩ st=putV st d (vLdp gl n (evO st.tm x)):=Za2 _
@[simp] theorem Z92 (x:Opd):exec1 Γ gl ⟨d, .ldo x,g,a⟩ st=putR st d (vLdo st.H st.own (evO st.tm x)):=(rfl)
@[simp] theorem Z53 (n:Option Nat)(off:Nat)(x:Opd):exec1 Γ gl ⟨d, .fld n off x,g,a⟩ st=putV st d (vFld n off (evO st.tm x)):=Za2 _
@[simp] theorem Z7w (x i:Opd):exec1 Γ gl ⟨d, .idx x i,g,a⟩ st=putV st d (vIdx (evO st.tm x) (evO st.tm i)):=Za2 _
@[simp] theorem Z5t (l sz:Nat)(n:Option Nat)(x i:Opd):exec1 Γ gl ⟨d, .idxa l sz n x i,g,a⟩ st=putV st d (Zp6 l sz n (evO st.tm x) (evO st.tm i)):=Za2 _
@[simp] theorem Z8f (x:Opd)(lo hi:Option Opd):exec1 Γ gl ⟨d, .sls x lo hi,g,a⟩ st=putV st d (vSls (evO st.tm x) (lo.map (evO st.tm)) (hi.map (evO st.tm))):=Za2 _
@[simp] theorem Zpd (sz:Nat)(x:Opd)(lo hi mx:Option Opd):exec1 Γ gl ⟨d, .slc sz x lo hi mx,g,a⟩ st=putR st d (vSlc sz (evO st.tm x) (lo.map (evO st.tm)) (hi.map (evO st.tm)) (mx.map (evO st.tm))):=(rfl)
theorem Z0a (n sz:Nat)(x:Opd)(lo hi mx:Option Opd):exec1 Γ gl ⟨d, .slca n sz x lo hi mx,g,a⟩ st=putV st d (Zi6 st.H n sz (evO st.tm x) (lo.map (evO st.tm)) (hi.map (evO st.tm)) (mx.map (evO st.tm))):=Za2 _
@[simp] theorem Zl9 (z:List V)(ps:List (Nat×Nat×Opd)):exec1 Γ gl ⟨d, .build z ps,g,a⟩ st=putV st d ((Zio z (ps.map fun p=>(p.1,p.2.1,evO st.tm p.2.2))).map .agg):=Za2 _
@[simp] theorem Z87 (sz:Nat)(ps:List Opd):exec1 Γ gl ⟨d, .bsl sz ps,g,a⟩ st=putR st d (if fits sz (ps.map (evO st.tm))then some ⟨.sl false sz (ps.map (evO st.tm)),true,none⟩else none):=(rfl)
@[simp] theorem Z70 (x:Opd):exec1 Γ gl ⟨d, .s2b x,g,a⟩ st=putR st d (vS2b (evO st.tm x)):=(rfl)
@[simp] theorem Z1a (x:Opd):exec1 Γ gl ⟨d, .b2s x,g,a⟩ st=putV st d (vB2s st.H (evO st.tm x)):=Za2 _
@[simp] theorem Z9q (k:IntKind)(x:Opd):exec1 Γ gl ⟨d, .i2i k x,g,a⟩ st=putV st d (vI2i k (evO st.tm x)):=Za2 _
@[simp] theorem Z7y (x:Opd):exec1 Γ gl ⟨d, .s2s x,g,a⟩ st=putV st d (vS2s (evO st.tm x)):=Za2 _
@[simp] theorem Z9v (n:Nat)(x:Opd):exec1 Γ gl ⟨d, .s2a n x,g,a⟩ st=putV st d (vS2a n (evO st.tm x)):=Za2 _
def putC (st:St)(d:Option Nat)(r:Option (V×Bool)):Option St:=r.map fun r=>st.put d r.1 r.2
@[simp] theorem Z4z (v:V)(o:Bool):putC st d (some (v,o))=some (st.put d v o):=(rfl)
@[simp] theorem Z8o (f:Opd)(xs:List Opd):exec1 Γ gl ⟨d, .callv f xs,g,a⟩ st=putR st d (Zos Γ (evO st.tm f) (xs.map (evO st.tm))):=(rfl)
theorem Zvq (f:Nat)(xs:List Opd):exec1 Γ gl ⟨d, .call f xs,g,a⟩ st=putR st d (Zj4 Γ st.H f (xs.map (evO st.tm))):=(rfl)
theorem Z8k (sz:Nat):exec1 Γ gl ⟨d, .nro sz,g,a⟩ st=some ((st.new []).put d (.osl st.nH 0 0 0 sz) false):=(rfl)
theorem Z9j (sz:Nat)(z:List V)(l c:Opd):exec1 Γ gl ⟨d, .mko sz z l c,g,a⟩ st=(st.mkOb sz z (evO st.tm l) (evO st.tm c)).map fun r=>r.1.put d r.2 false:=(rfl)
theorem Z6e (sz:Nat)(s x:Opd):exec1 Γ gl ⟨d, .appo sz s x,g,a⟩ st=(st.appOb sz (evO st.tm s) (evO st.tm x)).map fun r=>r.1.put d r.2 false:=(rfl)
theorem Z8m (x s:Opd):exec1 Γ gl ⟨d, .cpy x s,g,a⟩ st=(st.cpyOb (evO st.tm x) (evO st.tm s)).map fun r=>r.1.put d r.2 false:=(rfl)
theorem Z40 (z:List V)(x:Opd):exec1 Γ gl ⟨d, .clr z x,g,a⟩ st=(st.clrOb z (evO st.tm x)).map fun s=>s.put d Nil false:=(rfl)
@[simp] theorem Z39 (f:Nat)(xs:List Opd):exec1 Γ gl ⟨d, .mkf f xs,g,a⟩ st=some (st.put d (.fn f (xs.map (evO st.tm))) false):=(rfl)
@[simp] theorem Z73 (f:Nat)(xs:List Opd):exec1 Γ gl ⟨d, .mkm f xs,g,a⟩ st=some (st.put d (.mfn f (xs.map (evO st.tm))) false):=(rfl)
@[simp] theorem Zua (x:Opd):exec1 Γ gl ⟨d, .nilck x,g,a⟩ st=putV st d (Zoq (evO st.tm x)):=Za2 _
@[simp] theorem Z4l (sz:Nat)(z:List V)(l c:Opd):exec1 Γ gl ⟨d, .mks sz z l c,g,a⟩ st=putR st d (vMk sz z (evO st.tm l) (evO st.tm c)):=(rfl)
@[simp] theorem Z4j (sz:Nat)(s x:Opd):exec1 Γ gl ⟨d, .app sz s x,g,a⟩ st=putR st d (vApp st.H (ownO st.own s) sz (posO s) (evO st.tm s) (evO st.tm x)):=(rfl)
@[simp] theorem Z9f (cs:List V):exec1 Γ gl ⟨d, .new cs,g,a⟩ st=some ((st.new cs).put d (.ptr st.nH 0) false):=(rfl)
@[simp] theorem Z12 (x:Opd):exec1 Γ gl ⟨d, .box x,g,a⟩ st=if(evO st.tm x).cells.all V.sc then some ((st.new (evO st.tm x).cells).put d (.ptr st.nH 0) false)else none:=(rfl)
def Zo6 (st:St)(d:Option Nat)(n:Nat)(ys:List V):V->Option St
 | .ptr id off=>(Zat st.H id).bind fun cs=>if ys.length=n/\ys.all V.sc=true/\off+n<=cs.length then some ((st.setOb id cs off ys).put d Nil false)else none
 |_=>none
@[simp] theorem Zue (n:Nat)(x y:Opd):exec1 Γ gl ⟨d, .store n x y,g,a⟩ st=Zo6 st d n (evO st.tm y).cells (evO st.tm x):=by
  simp only[exec1,St.ev]
  cases evO st.tm x<;>try rfl
  rename_i id off
  simp only[Zo6,St.storeOb]
  cases Zat st.H id<;>simp
def Z09 (st:St)(d:Option Nat)(t:Nat):V->Option St
 | .ptr id off=>(Zat st.H id).bind fun cs=>if(st.tm t).sc=true/\off<cs.length then some ((st.stoOb id cs off t).put d Nil false)else none
 |_=>none
@[simp] theorem Z9r (x:Opd)(t:Nat):exec1 Γ gl ⟨d, .sto x t,g,a⟩ st=Z09 st d t (evO st.tm x):=by
  simp only[exec1,St.ev]
  cases evO st.tm x<;>try rfl
  rename_i id off
  simp only[Z09]
  cases Zat st.H id<;>simp
@[simp] theorem Zjw (n:Nat)(ys:List V)(id off:Nat):Zo6 st d n ys (.ptr id off)=(Zat st.H id).bind fun cs=>if ys.length=n/\ys.all V.sc=true/\off+n<=cs.length then some ((st.setOb id cs off ys).put d Nil false)else none:=(rfl)
@[simp] theorem Zwe (t:Nat)(id off:Nat):Z09 st d t (.ptr id off)=(Zat st.H id).bind fun cs=>if(st.tm t).sc=true/\off<cs.length then some ((st.stoOb id cs off t).put d Nil false)else none:=(rfl)
@[simp] theorem Z7n (own:Pos->Bool)(t:Nat):ownO own (.tmp t)=own (.slot t):=(rfl)
@[simp] theorem Z2x (own:Pos->Bool)(v:V):ownO own (.const v)=false:=(rfl)
@[simp] theorem Z7k (t:Nat):posO (.tmp t)=some (.slot t):=(rfl)
@[simp] theorem Z2w (v:V):posO (.const v)=none:=(rfl)
section
theorem Zbu :∀a:Bytes,Op.bytesLess a a=false
 | []=>rfl
 |a::r=>by simp[Op.bytesLess,Zbu r]
theorem Zeq :∀{a b c:Bytes},Op.bytesLess a b=true->Op.bytesLess b c=true->Op.bytesLess a c=true
 |_,_,[],h1,h2=>by cases ‹Bytes› <;>simp[Op.bytesLess]at h2
 | [],_,_::_,_,_=>rfl
 |_::_,[],_::_,h1,_=>by simp[Op.bytesLess]at h1
 |x::a,y::b,z::c,h1,h2=>by
  simp only[Op.bytesLess,Xa5,decide_eq_true_eq,Xai,beq_iff_eq]at h1 h2⊢
  rcases h1 with h1|⟨rfl,h1⟩<;>rcases h2 with h2|⟨rfl,h2⟩
  ·exact .inl (UInt8.lt_trans h1 h2)
  ·exact .inl h1
  ·exact .inl h2
  ·exact .inr ⟨rfl,Zeq h1 h2⟩
theorem Zli :∀{a b:Bytes},Op.bytesLess a b=false->Op.bytesLess b a=false->a=b
 | [],[],_,_=>rfl
 | [],_::_,h,_=>by simp[Op.bytesLess]at h
 |_::_,[],_,h=>by simp[Op.bytesLess]at h
 |x::a,y::b,h1,h2=>by
  simp only[Op.bytesLess,Xbj,decide_eq_false_iff_not,Xdn,beq_eq_false_iff_ne]at h1 h2
  have hxy:x=y:=by
   rcases Classical.em (x=y)with h|h
   ·exact h
   ·rcases UInt8.lt_or_lt_of_ne h with h|h
    ·exact absurd h h1.1
    ·exact absurd h h2.1
  subst hxy
  rw[Zli (h1.2.resolve_left (by simp)) (h2.2.resolve_left (by simp))]
theorem Zkb {a b:Bytes}(h:Op.bytesLess a b=true):Op.bytesLess b a=false:=by
 cases h':Op.bytesLess b a with
 |false=>rfl
 |true=>have:=Zeq h h';rw[Zbu]at this;cases this
theorem Zlb (a b:Bytes):(!(Op.bytesLess a b||decide (a=b)))=Op.bytesLess b a:=by
 cases h:Op.bytesLess a b with
 |true=>simp[Zkb h]
 |false=>
  by_cases he:a=b
  ·subst he;simp[Zbu]
  ·cases h':Op.bytesLess b a with
   |true=>simp[he]
   |false=>exact absurd (Zli h h') he
end
@[simp] theorem Z61 (s:Bytes):vLen true (.str s)=some (.int .i64 s.length):=(rfl)
@[simp] theorem Z8l (nl:Bool)(sz:Nat)(xs:List V):vLen false (.sl nl sz xs)=some (.int .i64 xs.length):=(rfl)
@[simp] theorem Z7h (id off n c sz:Nat):vLen false (.osl id off n c sz)=some (.int .i64 n):=(rfl)
@[simp] theorem Zf2 (t:Bool)(x y:V):Zpy (.bool t) x y=some (if t then x else y):=(rfl)
@[simp] theorem Zie (vs:List V)(i:Nat):vExt (.tup vs) i=vs[i]? :=(rfl)
theorem Zva (sz:Nat)(s:Nat)(xs:List V)(k:IntKind)(n:Int):Zeu sz (.sl false s xs) (.int k n)=if 0<=n/\s=sz then(xs[n.toNat]?).map fun e=> .el e.cells 0 else none:=(rfl)
@[simp] theorem Zjv (nl:Bool)(sz:Nat)(xs:List V)(k:IntKind)(n:Nat)(e:V)(h:xs[n]? =some e)(hnl:xs≠ []->nl=false):Zeu sz (.sl nl sz xs) (.int k (n:Int))=some (.el e.cells 0):=by
  have:nl=false:=hnl (fun hx=>by simp[hx]at h)
  subst this
  simp[Zeu,h]
@[simp] theorem Z7o (nl:Bool)(sz:Nat)(xs:List V)(k:IntKind)(e:V)(h:xs[0]? =some e)(hnl:xs≠ []->nl=false):Zeu sz (.sl nl sz xs) (.int k 0)=some (.el e.cells 0):=Zjv nl sz xs k 0 e h hnl
@[simp] theorem Z6z (nl:Bool)(sz:Nat)(xs:List V)(k:IntKind)(e:V)(h:xs[1]? =some e)(hnl:xs≠ []->nl=false):Zeu sz (.sl nl sz xs) (.int k 1)=some (.el e.cells 0):=Zjv nl sz xs k 1 e h hnl
@[simp] theorem Z69 (nl:Bool)(sz:Nat)(xs:List V)(k:IntKind)(e:V)(h:xs[2]? =some e)(hnl:xs≠ []->nl=false):Zeu sz (.sl nl sz xs) (.int k 2)=some (.el e.cells 0):=Zjv nl sz xs k 2 e h hnl
@[simp] theorem Z80 (n:Nat):((n:Int)+1=0)=False:=eq_false (by omega)
@[simp] theorem Z9p (n:Nat):(0<(n:Int)+1)=True:=eq_true (by omega)
@[simp] theorem Z63 (n:Nat):(0<=(n:Int)+1)=True:=eq_true (by omega)
@[simp] theorem Z8r (n:Nat):(1<=(n:Int)+1)=True:=eq_true (by omega)
@[simp] theorem Z88 (n:Nat):((n:Int)+1<=0)=False:=eq_false (by omega)
@[simp] theorem Z8j (n:Nat):((n:Int)+1<0)=False:=eq_false (by omega)
@[simp] theorem Z43 (cs:List V):Zio cs []=some cs:=(rfl)
@[simp] theorem Zkq (cs:List V)(off n:Nat)(v:V)(r:List (Nat×Nat×V)):Zio cs ((off,n,v)::r)=if v.cells.length=n/\v.cells.all V.sc=true/\off+n<=cs.length then Zio (Zav cs off v.cells) r else none:=(rfl)
@[simp] theorem Z26 (off id o:Nat):Zjt off (.ptr id o)=some (.ptr id (o+off)):=(rfl)
@[simp] theorem Z3q (off:Nat)(cs:List V)(o:Nat):Zjt off (.el cs o)=some (.el cs (o+off)):=(rfl)
@[simp] theorem Z3j (off g o:Nat):Zjt off (.gp g o)=some (.gp g (o+off)):=(rfl)
@[simp] theorem Zyh (gl:Glob)(H:Hp)(n:Option Nat)(cs:List V)(o:Nat):Zfr gl H n (.el cs o)=Zak n cs o:=(rfl)
@[simp] theorem Z7g (gl:Glob)(H:Hp)(n:Option Nat)(g o:Nat):Zfr gl H n (.gp g o)=(gl g).bind fun cs=>Zak n cs o:=(rfl)
@[simp] theorem Znz (gl:Glob)(H:Hp)(n:Option Nat)(id o:Nat):Zfr gl H n (.ptr id o)=(Zat H id).bind fun cs=>Zak n cs o:=(rfl)
@[simp] theorem Zrm (n:Option Nat)(off:Nat)(cs:List V):vFld n off (.agg cs)=Zak n cs off:=(rfl)
@[simp] theorem Z2u (cs:List V)(i:Nat):Zat (st.new cs).H i=if i=st.nH then some cs else Zat st.H i:=by
  by_cases h:i=st.nH<;>simp[Zat,h]
@[simp] theorem Zfs (id:Nat)(cs:List V)(off:Nat)(ys:List V)(i:Nat):Zat (st.setOb id cs off ys).H i=if i=id then some (Zav cs off ys)else Zat st.H i:=by
  by_cases h:i=id<;>simp[Zat,h]
@[simp] theorem Zmm (id:Nat)(cs:List V)(off t:Nat)(i:Nat):Zat (st.stoOb id cs off t).H i=if i=id then some (Zav cs off [st.tm t])else Zat st.H i:=by
  by_cases h:i=id<;>simp[Zat,h]
@[simp] theorem Z0j (args:List V)(i:Nat):Zat (St.init args).H i=none:=(rfl)
@[simp] theorem Zde (cs:List V)(off:Nat):Zak none cs off=cs[off]? :=(rfl)
@[simp] theorem Zc6 (k:Nat)(cs:List V)(off:Nat):Zak (some k) cs off=if off+k<=cs.length then some (.agg ((cs.drop off).take k))else none:=(rfl)
@[simp] theorem Z95 (b:Bool):aun .not (.bool b)=some (.bool !b):=(rfl)
@[simp] theorem Qaf (k:IntKind)(n:Int):aun .neg (.int k n)=some (.int k (k.wrap (0-n))):=(rfl)
variable {q:EqK}{k:IntKind}{x y:Int}{s t:Bytes}
@[simp] theorem b_add :abin .add q (.int k x) (.int k y)=some (.int k (k.wrap (x+y))):=by simp[abin,aint]
@[simp] theorem Qa1 :abin .sub q (.int k x) (.int k y)=some (.int k (k.wrap (x-y))):=by simp[abin,aint]
@[simp] theorem Qa0 :abin .mul q (.int k x) (.int k y)=some (.int k (k.wrap (x*y))):=by simp[abin,aint]
@[simp] theorem Qa8 :abin .quo q (.int k x) (.int k y)=if y=0 then none else some (.int k (k.wrap (x.tdiv y))):=by simp[abin,aint]
@[simp] theorem Qbg :abin .rem q (.int k x) (.int k y)=if y=0 then none else some (.int k (x.tmod y)):=by simp[abin,aint]
@[simp] theorem Qbd :abin .eql q (.int k x) (.int k y)=some (.bool (decide (x=y))):=by simp[abin,aint]
@[simp] theorem Qaz :abin .neq q (.int k x) (.int k y)=some (.bool (!decide (x=y))):=by simp[abin,aint]
@[simp] theorem Qa9 :abin .lss q (.int k x) (.int k y)=some (.bool (decide (x<y))):=by simp[abin,aint]
@[simp] theorem Qay :abin .leq q (.int k x) (.int k y)=some (.bool (decide (x<=y))):=by simp[abin,aint]
@[simp] theorem Qbe :abin .gtr q (.int k x) (.int k y)=some (.bool (decide (y<x))):=by simp[abin,aint]
@[simp] theorem Qa4 :abin .geq q (.int k x) (.int k y)=some (.bool (decide (y<=x))):=by simp[abin,aint]
@[simp] theorem Qbb :abin .eql q (.str s) (.str t)=some (.bool (decide (s=t))):=(rfl)
@[simp] theorem Qbc :abin .neq q (.str s) (.str t)=some (.bool (!decide (s=t))):=(rfl)
@[simp] theorem Qa3 :abin .lss q (.str s) (.str t)=some (.bool (Op.bytesLess s t)):=(rfl)
@[simp] theorem Qa5 :abin .gtr q (.str s) (.str t)=some (.bool (Op.bytesLess t s)):=by rw[<-Zlb];rfl
@[simp] theorem Qbf :abin .geq q (.str s) (.str t)=some (.bool (!Op.bytesLess s t)):=(rfl)
@[simp] theorem Qa7 :abin .add q (.str s) (.str t)=if s.length+t.length<=4611686018427387904 then some (.str (s++t))else none:=(rfl)
@[simp] theorem Qav (nl:Bool)(z z':Nat)(xs:List V):abin .eql .slice (.sl nl z xs) (.sl true z' [])=some (.bool nl):=by cases nl<;>rfl
@[simp] theorem Qal (nl:Bool)(z z':Nat)(xs:List V):abin .neq .slice (.sl nl z xs) (.sl true z' [])=some (.bool !nl):=by cases nl<;>rfl
@[simp] theorem Qai (ks:List (Option IntKind×Bool))(xs ys:List V):abin .eql (.flat ks) (.agg xs) (.agg ys)=(Zaw ks xs ys).map .bool:=(rfl)
@[simp] theorem Qat (ks:List (Option IntKind×Bool))(xs ys:List V):abin .neq (.flat ks) (.agg xs) (.agg ys)=(Zaw ks xs ys).map fun b=> .bool !b:=(rfl)
@[simp] theorem Z2z :Zaw [] [] []=some true:=(rfl)
@[simp] theorem Z15 (k:Option IntKind×Bool)(ks:List (Option IntKind×Bool))(x y:V)(xs ys:List V):Zaw (k::ks) (x::xs) (y::ys)=(kdEq k x y).bind fun b=>(Zaw ks xs ys).map (b&& ·):=(rfl)
@[simp] theorem Z7l (k:IntKind)(t:Bool)(x y:Int):kdEq (some k,t) (.int k x) (.int k y)=some (decide (x=y)):=by simp[kdEq]
@[simp] theorem Z64 (x y:Bytes):kdEq (none,true) (.str x) (.str y)=some (decide (x=y)):=(rfl)
@[simp] theorem Z57 (x y:Bool):kdEq (none,false) (.bool x) (.bool y)=some (x==y):=(rfl)
@[simp] theorem Z2k (res:List RS)(r:V×Bool):retQ res r .normal st=(∃p,Zdo res st=some p/\p.1=r.1/\(r.2=true->p.2=true)):=(rfl)
@[simp] theorem Z7a (res:List RS)(r:V×Bool):retQ res r .ret st=(∃p,Zdo res st=some p/\p.1=r.1/\(r.2=true->p.2=true)):=(rfl)
@[simp] theorem Z3s (res:List RS)(r:V×Bool)(i:Nat):retQ res r (.exit i) st=False:=(rfl)
@[simp] theorem Z5z (t:Nat):Zdo [.t t] st=some (st.tm t,st.own (.slot t)):=(rfl)
@[simp] theorem Z1n (a b:Nat):((a:Int)=(b:Int))=(a=b):=propext Int.ofNat_inj
theorem w64 (n:Int)(h: -9223372036854775808<=n/\n<=9223372036854775807):IntKind.wrap .i64 n=n:=Go.IntWalk.i64_in n h
@[simp] theorem Zww (cs:List V):(V.agg cs).cells=cs:=(rfl)
@[simp] theorem Z25 (b:Bool):(V.bool b).cells=[.bool b]:=(rfl)
@[simp] theorem Z4q (k:IntKind)(n:Int):(V.int k n).cells=[.int k n]:=(rfl)
@[simp] theorem Z6u (s:Bytes):(V.str s).cells=[.str s]:=(rfl)
@[simp] theorem Z7b (nl:Bool)(z:Nat)(xs:List V):(V.sl nl z xs).cells=[.sl nl z xs]:=(rfl)
@[simp] theorem Z7f (f:Nat)(cs:List V):(V.fn f cs).cells=[.fn f cs]:=(rfl)
@[simp] theorem Z3x (i o:Nat):(V.ptr i o).cells=[.ptr i o]:=(rfl)
@[simp] theorem Zzg :V.nilptr.cells=[.nilptr]:=(rfl)
@[simp] theorem Z2r :V.nilif.cells=[.nilif]:=(rfl)
@[simp] theorem Qag (cs:List V):(V.agg cs).sc=false:=(rfl)
@[simp] theorem Qao (cs:List V):(V.tup cs).sc=false:=(rfl)
@[simp] theorem Z77 (b:Bool):(V.bool b).sc=true:=(rfl)
@[simp] theorem Qas (k:IntKind)(n:Int):(V.int k n).sc=true:=(rfl)
@[simp] theorem Qaj (s:Bytes):(V.str s).sc=true:=(rfl)
@[simp] theorem Qa2 (nl:Bool)(z:Nat)(xs:List V):(V.sl nl z xs).sc=true:=(rfl)
@[simp] theorem Qa6 (f:Nat)(cs:List V):(V.fn f cs).sc=true:=(rfl)
@[simp] theorem Qah (i o:Nat):(V.ptr i o).sc=true:=(rfl)
@[simp] theorem Z6t :V.nilptr.sc=true:=(rfl)
@[simp] theorem Z60 :V.nilif.sc=true:=(rfl)
@[simp] theorem Z0n {l:Bytes}{x:V}(h:x∈encB l):x.sc=true:=by
  simp only[encB,Xa9]at h
  obtain⟨b,_,rfl⟩:=h;rfl
@[simp] theorem Zpu (l:Bytes):(encB l).length=l.length:=by simp[encB]
@[simp] theorem Zzf {k:Nat}{cs:List V}(h:cs.length=k):Zak (some k) cs 0=some (.agg cs):=by simp[Zak, <-h]
@[simp] theorem Z23 {cs ys:List V}(h:ys.length=cs.length):Zav cs 0 ys=ys:=by simp[Zav,h]
@[simp] theorem Z20 (b:Bool):(V.bool b).clean=true:=(rfl)
@[simp] theorem Z5g (k:IntKind)(n:Int):(V.int k n).clean=true:=(rfl)
@[simp] theorem Z6l (s:Bytes):(V.str s).clean=true:=(rfl)
@[simp] theorem Z5c (cs:List V):(V.agg cs).clean=Zac cs:=(rfl)
@[simp] theorem Z7d (nl:Bool)(z:Nat)(xs:List V):(V.sl nl z xs).clean=Zac xs:=(rfl)
@[simp] theorem Z6w (f:Nat)(cs:List V):(V.fn f cs).clean=Zac cs:=(rfl)
@[simp] theorem Z3u (cs:List V):(V.tup cs).clean=Zac cs:=(rfl)
@[simp] theorem Z2y :Zac []=true:=(rfl)
@[simp] theorem Zp1 (v:V)(r:List V):Zac (v::r)=(v.clean&&Zac r):=(rfl)
@[simp] theorem Z0q (l:Bytes):Zac (encB l)=true:=Zal.2 fun v hv=>by
  simp only[encB,Xa9]at hv
  obtain⟨b,_,rfl⟩:=hv;rfl
theorem Zhi {α:Type}{f:α->V}(h:∀x,(f x).clean=true)(l:List α):Zac (l.map f)=true:=Zal.2 fun v hv=>by
 obtain⟨x,_,rfl⟩:=Xa9.1 hv;exact h x
@[simp] theorem Z7i (H:Hp)(sz:Nat)(nl:Bool)(ys:List V):Zb2 H sz (.sl nl sz ys)=some ys:=by simp[Zb2]
@[simp] theorem Zv8 (H:Hp)(b:Bytes):Zb2 H 1 (.str b)=some (encB b):=(rfl)
@[simp] theorem Zxj (H:Hp)(own:Bool)(sz z:Nat)(p:Option Pos)(xs:List V)(x:V):vApp H own sz p (.sl true z xs) x=(Zb2 H sz x).bind fun ys=>if ys.length<=Lim then some ⟨.sl ys.isEmpty sz ys,true,none⟩else none:=by
  simp only[vApp];cases Zb2 H sz x<;>rfl
@[simp] theorem Z2b (H:Hp)(sz:Nat)(p:Option Pos)(xs:List V)(x:V):vApp H true sz p (.sl false sz xs) x=(Zb2 H sz x).bind fun ys=>if xs.length+ys.length<=Lim then some ⟨.sl false sz (xs++ys),true,p⟩else none:=by
  simp only[vApp];cases Zb2 H sz x<;>simp
@[simp] theorem Zza (c:Prop) [Decidable c](q r:Pos):(st.take (if c then none else some q)).own r=if ¬c/\r=q then false else st.own r:=by
  by_cases h:c<;>simp[h]
@[simp] theorem Z7e (sz:Nat):fits sz []=true:=(rfl)
@[simp] theorem Zwm (sz:Nat)(x:V)(r:List V):fits sz (x::r)=((x.cells.length==sz&&x.cells.all V.sc)&&fits sz r):=(rfl)
@[simp] theorem Z7j (s:Bytes)(k:IntKind)(n:Nat):vIdx (.str s) (.int k (n:Int))=(s[n]?).map byteV:=by simp[vIdx]
@[simp] theorem Z5m (s:Bytes)(k:IntKind):vIdx (.str s) (.int k 0)=(s[0]?).map byteV:=by simp[vIdx]
@[simp] theorem Qae (s:Bytes)(k k':IntKind)(l h:Int):vSls (.str s) (some (.int k l)) (some (.int k' h))=if 0<=l/\l<=h/\h<=s.length then some (.str ((s.take h.toNat).drop l.toNat))else none:=by
  simp only[vSls,vOpt,cut3]
  by_cases hc:0<=l/\l<=h/\h<=s.length
  ·have:0<=h:=by omega
   simp[hc,this]
  ·rw[if_neg hc,if_neg]
   ·rfl
   ·simp;omega
@[simp] theorem Qau (s:Bytes)(k:IntKind)(l:Int):vSls (.str s) (some (.int k l)) none=if 0<=l/\l<=s.length then some (.str (s.drop l.toNat))else none:=by
  simp only[vSls,vOpt,cut3]
  by_cases hc:0<=l/\l<=s.length
  ·simp[hc]
  ·rw[if_neg hc,if_neg]
   ·rfl
   ·simp;omega
@[simp] theorem Qaw (s:Bytes)(k:IntKind)(h:Int):vSls (.str s) none (some (.int k h))=if 0<=h/\h<=s.length then some (.str (s.take h.toNat))else none:=by
  simp only[vSls,vOpt,cut3]
  by_cases hc:0<=h/\h<=s.length
  ·simp[hc]
  ·rw[if_neg hc,if_neg]
   ·rfl
   ·simp;omega
@[simp] theorem Qaq (sz z:Nat)(nl:Bool)(xs:List V)(k:IntKind)(l:Int):vSlc sz (.sl nl z xs) (some (.int k l)) none none=if z=sz/\0<=l/\l<=xs.length then some ⟨.sl nl sz (xs.drop l.toNat),false,none⟩else none:=by
  simp only[vSlc,vOpt,cut3]
  by_cases hc:z=sz/\0<=l/\l<=xs.length
  ·obtain⟨rfl,h1,h2⟩:=hc
   simp[h1,h2]
  ·rw[if_neg hc]
   by_cases hz:z=sz
   ·rw[if_pos (by simp[hz]),if_neg]
    ·rfl
    ·simp;omega
   ·rw[if_neg (by simp[hz])]
@[simp] theorem Qam (sz z:Nat)(nl:Bool)(xs:List V)(k:IntKind)(h:Int):vSlc sz (.sl nl z xs) none (some (.int k h)) none=if z=sz/\0<=h/\h<=xs.length then some ⟨.sl nl sz (xs.take h.toNat),false,none⟩else none:=by
  simp only[vSlc,vOpt,cut3]
  by_cases hc:z=sz/\0<=h/\h<=xs.length
  ·obtain⟨rfl,h1,h2⟩:=hc
   simp[h1,h2]
  ·rw[if_neg hc]
   by_cases hz:z=sz
   ·rw[if_pos (by simp[hz]),if_neg]
    ·rfl
    ·simp;omega
   ·rw[if_neg (by simp[hz])]
@[simp] theorem Z7q (l:Bytes):(∀a∈encB l,a.sc=true)=True:=eq_true fun _ h=>Z0n h
theorem drop_nil {α:Type}{l:List α}{k:Nat}(h:l.drop k=[])(hk:k<=l.length):k=l.length:=by
 have:=List.drop_eq_nil_iff.1 h;omega
end Go.Abs
namespace Go.Abs
open Go.RowKit Go.ChangeShapes Go.WideShapes
open Go.Proofs.YtpmgdngjbdkdfaaGreatDoor (Rows.uptoBulk Rows.uptoBulkAll)
mutual
def V.wt :V->Nat
 | .str s=>s.length+1
 | .agg cs=>wtL cs+1
 | .sl _ _ xs=>wtL xs+1
 |_=>1
def wtL :List V->Nat
 | []=>0
 |v::r=>v.wt+wtL r
end
theorem Zku (a b:List V):wtL (a++b)=wtL a+wtL b:=by
 induction a with
 |nil=>simp[wtL]
 |cons x a ih=>simp only[Xbq,wtL,ih];omega
theorem Zwc {l:List V}{v:V}(h:v∈l):v.wt<=wtL l:=by
 induction l with
 |nil=>cases h
 |cons x r ih=>
  simp only[wtL]
  rcases Xa0.1 h with rfl|h
  ·omega
  ·have:=ih h;omega
theorem Z5o (v:V):1<=v.wt:=by cases v<;>simp[V.wt]
theorem Zsw (l:List V):l.length<=wtL l:=by
 induction l with
 |nil=>simp
 |cons x r ih=>simp only[wtL,Xax];have:=Z5o x;omega
def Zje (P:Program):Nat->TypeId->Bool
 |0,_=>false
 |m+1,t=>match P.underlying t with
  |some .bool|some (.int _)|some .string=>true
  |some (.slice e)=>Zje P m e
  |some (.array _ e)=>Zje P m e
  |some (.struct fs)=>fs.toList.all fun f=>Zje P m f.type
  |_=>false
def Zeh (P:Program)(t:TypeId):Bool:=match P.underlying t with|some (.struct _)|some (.array _ _)=>true|_=>false
def elV (P:Program)(t:TypeId)(ws:List V):V:=if Zeh P t then .agg ws else ws.headD Nil
def HasT (P:Program):Nat->TypeId->List V->Prop
 |0,_,_=>False
 |m+1,t,vs=>match P.underlying t with
  |some .bool=> ∃b,vs=[.bool b]
  |some (.int k)=> ∃n,vs=[.int k n]/\k.min<=n/\n<=k.max
  |some .string=> ∃s,vs=[.str s]
  |some (.slice e)=>vs=[.sl true (P.cellsOf e) []] \/ ∃xs,vs=[.sl false (P.cellsOf e) xs]/\ ∀x∈xs, ∃ws,HasT P m e ws/\x=elV P e ws
  |some (.array n e)=> ∃wss:List (List V),wss.length=n/\(∀ws∈wss,HasT P m e ws)/\vs=wss.flatten
  |some (.struct fs)=> ∃wss:List (List V),wss.length=fs.size/\(∀(i:Nat) (f:Field) (ws:List V),fs[i]? =some f->wss[i]? =some ws->HasT P m f.type ws)/\vs=wss.flatten
  |_=>False
def RL (W:World)(G:Nat->Nat)(φ:Nat->Option Nat)(vs:List V)(cs:List Value):Prop:=
 vs.length=cs.length/\ ∀(i:Nat) (c:V) (x:Value),vs[i]? =some c->cs[i]? =some x->Rep W G φ c x
theorem RL.append {W G φ a b cs}(h1:RL W G φ a (cs.take a.length))(h2:RL W G φ b (cs.drop a.length))(hl:a.length<=cs.length):RL W G φ (a++b) cs:=by
 refine⟨?_,fun i c x hc hx=> ?_⟩
 ·have:=h2.1;simp at this⊢;omega
 ·rw[Xcp]at hc
  split at hc
  ·rename_i hlt
   exact h1.2 i c x hc (by rw[Xdk,if_pos hlt];exact hx)
  ·rename_i hge
   exact h2.2 (i-a.length) c x hc (by rw[Xcg];rw[show a.length+(i-a.length)=i by omega];exact hx)
theorem RL.flatten {W G φ}:∀{wss:List (List V)} {cs:List Value},cs.length=(wss.map List.length).sum->
  (∀(i:Nat) (ws:List V),wss[i]? =some ws->RL W G φ ws ((cs.drop ((wss.take i).map List.length).sum).take ws.length))->RL W G φ wss.flatten cs
 | [],cs,hl,_=>⟨by simp at hl;rw[hl];rfl,fun i c x hc=>by simp at hc⟩
 |w::r,cs,hl,h=>by
  rw[Xco]
  simp only[Xaq,Xfi]at hl
  refine RL.append (by simpa using h 0 w rfl) (RL.flatten (by simp;omega) fun i ws hi=> ?_) (by omega)
  have:=h (i+1) ws (by simpa using hi)
  simpa[Xdg,Xdp,Xfc]using this
section
variable {H:Type}{enc:TypeId×Value->H}{P:Program}{w:World}{held:Bool}{φ:Nat->Option Nat}
theorem Zv7 {w:World}{b i:Nat}{s:Option Nat}{v:Value}(h:w.cell? ⟨b,i,s⟩=some v):s=none/\i<G0 w b:=by
 simp only[World.cell?]at h
 split at h
 ·rename_i c t f hc
  split at h
  ·simp at h
  ·rename_i hs
   refine⟨by simpa using hs, ?_⟩
   simp only[G0,hc]
   exact(Xa8.1 h).1
 ·simp at h
theorem Zg2 (n:Nat)(f:Nat->List V)(D:Nat->DataW H)(k:Nat)(h:∀i,i<n->wtL (f i)<=Rows.uptoBulk (D (k+i))):wtL ((List.range n).map f).flatten<=Rows.uptoBulkAll ((List.range n).map fun i=>D (k+i)):=by
 induction n generalizing f k with
 |zero=>simp[wtL]
 |succ n ih=>
  rw[List.range_succ_eq_map]
  simp only[Xaq,Xco,Zku,Rows.uptoBulkAll,Xdm]
  have h0:=h 0 (by omega)
  have:=ih (fun i=>f (i+1)) (k+1) fun i hi=>by have:=h (i+1) (by omega);rwa[show k+(i+1)=k+1+i by omega]at this
  have e:((fun i=>D (k+i))∘Nat.succ)=fun i=>D (k+1+i):=by funext i;simp[Function.comp,Nat.succ_eq_add_one];congr 1;omega
  rw[e]
  have e2:(f∘Nat.succ)=fun i=>f (i+1):=rfl
  rw[e2]
  omega
theorem RL.one {W G φ v x}(h:Rep W G φ v x):RL W G φ [v] [x]:=⟨rfl,fun i c y hc hy=>by
 cases i with
 |zero=>simp at hc hy;subst hc;subst hy;exact h
 |succ i=>simp at hc⟩
theorem Zok {t:TypeId}{ws:List V}(h:Zeh P t=false-> ∃v,ws=[v]/\v.sc=true):(elV P t ws).cells=ws:=by
 unfold elV
 split
 ·rfl
 ·rename_i ha
  obtain⟨v,rfl,hv⟩:=h (by simpa using ha)
  cases v<;>first|rfl|simp at hv
theorem Zom {t:TypeId}{ws:List V}(h:∀c∈ws,c.clean=true):(elV P t ws).clean=true:=by
 unfold elV
 split
 ·exact Zal.2 h
 ·cases ws with
  |nil=>rfl
  |cons a r=>exact h a (by simp)
theorem Zq9 {K:Nat}{n:Nat}{f:Nat->List V}{c:Nat->Nat}(hn:K<=n)(hf:∀i,i<n->(f i).length=c i):((((List.range n).map f).take K).map List.length).sum=((List.range K).map c).sum:=by
 rw[<-Xdw,List.take_range,Xfo hn,Xdm]
 congr 1
 exact Xec fun i hi=>hf i (by have:=Xbi.1 hi;omega)
theorem Zxb (K:Kids P (· <P.types.size))(hz:∀t e,t<P.types.size->P.underlying t=some (.slice e)->0<P.cellsOf e):∀(m fuel:Nat) (t:TypeId) (cs:List Value) (x:DataW H×List MemPlace),t<P.types.size->Zje P m t=true->
  DataW.trod enc P w 0 (fun _=>true) held fuel t cs=some x->
  ∃vs,RL w (G0 w) φ vs cs/\(∀c∈vs,c.sc=true/\c.clean=true)/\HasT P m t vs/\(elV P t vs).wt<=Rows.uptoBulk x.1/\wtL vs<=Rows.uptoBulk x.1/\(Zeh P t=false-> ∃v,vs=[v]/\v.sc=true):=by
 intro m
 induction m with
 |zero=>intro fuel t cs x _ hp;simp[Zje]at hp
 |succ m ih=>
  intro fuel t cs x ht hp h
  unfold Zje at hp
  split at hp
  ·rename_i hu
   obtain⟨b,rfl,rfl⟩:=DataW.trod_bool hu h
   have ha:Zeh P t=false:=by simp[Zeh,hu]
   exact⟨[.bool b],RL.one (.bool b),by simp,by simp[HasT,hu],by simp[elV,ha,V.wt,Rows.uptoBulk],by simp[wtL,V.wt,Rows.uptoBulk],fun _=>⟨_,rfl,rfl⟩⟩
  ·rename_i k hu
   obtain⟨n,rfl,rfl,hw⟩:=DataW.trod_int hu h
   have ha:Zeh P t=false:=by simp[Zeh,hu]
   simp only[Lit.wf,Xai,decide_eq_true_eq]at hw
   exact⟨[.int k n],RL.one (.int k n),by simp,by simp[HasT,hu,hw],by simp[elV,ha,V.wt,Rows.uptoBulk],by simp[wtL,V.wt,Rows.uptoBulk],fun _=>⟨_,rfl,rfl⟩⟩
  ·rename_i hu
   obtain⟨s,rfl,rfl,hw⟩:=DataW.trod_string hu h
   have ha:Zeh P t=false:=by simp[Zeh,hu]
   exact⟨[.str s.data.toList],RL.one (.str _ s rfl),by simp,by simp[HasT,hu],by simp[elV,ha,V.wt,Rows.uptoBulk],by simp[wtL,V.wt,Rows.uptoBulk],fun _=>⟨_,rfl,rfl⟩⟩
  ·rename_i e hu
   have ha:Zeh P t=false:=by simp[Zeh,hu]
   have hte:=K.slice ht hu
   have hz0:=hz t e ht hu
   rcases Deep.open_slice hu h with⟨rfl,rfl⟩|⟨a,len,cap,mm,n,D,Pl,rfl,_,hl,_,hmm,rfl,hel⟩
   ·exact⟨[.sl true (P.cellsOf e) []],RL.one (.slnil _),by simp,by simp[HasT,hu],by simp[elV,ha,V.wt,wtL,Rows.uptoBulk],by simp[wtL,V.wt,Rows.uptoBulk],fun _=>⟨_,rfl,rfl⟩⟩
   ·simp only[if_true]at hmm
    subst hmm
    have hpick:∀i,i<mm-> ∃ws:List V, ∃cs',w.cells? 0 (a.add (i*P.cellsOf e)) (P.cellsOf e)=some cs'/\RL w (G0 w) φ ws cs'/\(∀c∈ws,c.sc=true/\c.clean=true)/\HasT P m e ws/\(elV P e ws).wt<=Rows.uptoBulk (D i)/\(Zeh P e=false-> ∃v,ws=[v]/\v.sc=true):=fun i hi=>by
     obtain⟨cs',h1,h2⟩:=hel i hi
     obtain⟨ws,q1,q2,q3,q4,_,q6⟩:=ih n e cs' _ hte hp h2
     exact⟨ws,cs',h1,q1,q2,q3,q4,q6⟩
    obtain⟨f,hf⟩:=Deep.choose_lt hpick
    have hbulk:wtL ((List.range len).map fun i=>elV P e (f i))+1<=Rows.uptoBulk (DataW.slice ((List.range len).map D) ((List.range (mm-len)).map fun j=>D (len+j))):=by
     have key:∀k,k<=mm->wtL ((List.range k).map fun i=>elV P e (f i))<=Rows.uptoBulkAll ((List.range k).map D):=by
      have app:∀(l r:List (DataW H)),Rows.uptoBulkAll (l++r)=Rows.uptoBulkAll l+Rows.uptoBulkAll r:=by
       intro l r
       induction l with
       |nil=>simp[Rows.uptoBulkAll]
       |cons x l ih=>simp only[Xbq,Rows.uptoBulkAll,ih];omega
      intro k
      induction k with
      |zero=>intro _;simp[wtL]
      |succ k ihk=>
       intro hk
       obtain⟨_,_,_,_,_,q4,_⟩:=hf k (by omega)
       rw[Xe6,Xcs,Xcs,Zku,app]
       have:=ihk (by omega)
       simp only[Xaq,Xbg,wtL,Rows.uptoBulkAll]
       omega
     simp only[Rows.uptoBulk]
     have:=key len (by omega)
     omega
    have hcl:∀v∈((List.range len).map fun i=>elV P e (f i)),v.clean=true:=fun v hv=>by
     obtain⟨i,hi,rfl⟩:=Xa9.1 hv
     obtain⟨_,_,_,q2,_⟩:=hf i (by have:=Xbi.1 hi;omega)
     exact Zom fun c hc=>(q2 c hc).2
    refine⟨[.sl false (P.cellsOf e) ((List.range len).map fun i=>elV P e (f i))],RL.one ?_,by simpa using Zal.2 hcl, ?_,by simpa[elV,ha,V.wt]using hbulk,by simpa[wtL,V.wt]using hbulk,fun _=>⟨_,rfl,rfl⟩⟩
    ·--where it lies
     by_cases hc0:mm=0
     ·have hl0:len=0:=by omega
      subst hc0;subst hl0
      exact .sl0 _ a
     ·obtain⟨cs0,p1,_⟩:=hf 0 (by omega)
      have hsp:a.spot=none:=by
       obtain⟨_,_,hc⟩:=World.cells?_some p1
       have h0:=hc 0 hz0
       simp only[Xfm,Addr.add,if_true]at h0
       have hlen:0<cs0.length:=by obtain⟨_,q,_⟩:=World.cells?_some p1;omega
       rw[Xad hlen]at h0
       obtain⟨ab,ao,asp⟩:=a
       exact(Zv7 h0).1
      obtain⟨ab,ao,asp⟩:=a
      simp only at hsp
      subst hsp
      have hcell:∀i,i<mm-> ∀j,j<P.cellsOf e-> ∃cs',w.cells? 0 (Addr.add ⟨ab,ao,none⟩ (i*P.cellsOf e)) (P.cellsOf e)=some cs'/\w.cell? ⟨ab,ao+(i*P.cellsOf e+j),none⟩=cs'[j]? /\j<cs'.length:=fun i hi j hj=>by
       obtain⟨cs',p1,_⟩:=hf i hi
       obtain⟨_,q,hc⟩:=World.cells?_some p1
       refine⟨cs',p1, ?_,by omega⟩
       have:=hc j hj
       rw[Zb9,Zb9]at this
       rw[<-this,Xc8]
      have hlenm:((List.range len).map fun i=>elV P e (f i)).length=len:=by simp
      have hrep:=Rep.sl (W:=w) (G:=G0 w) (φ:=φ) (P.cellsOf e) ((List.range len).map fun i=>elV P e (f i)) ab ao mm (fun k=>(w.cell? ⟨ab,ao+k,none⟩).getD undef) (by simpa using hl) ?_ ?_ ?_ ?_
      ·rw[hlenm]at hrep;exact hrep
      ·rw[hlenm]
       have hlast:ao+(mm-1+1)*P.cellsOf e<=G0 w ab:=by
        obtain⟨cs',p1,p2,p3⟩:=hcell (mm-1) (by omega) (P.cellsOf e-1) (by omega)
        rw[Xad p3]at p2
        have:=(Zv7 p2).2
        rw[Xca];omega
       have:len*P.cellsOf e<=(mm-1+1)*P.cellsOf e:=Xbv _ (by omega)
       omega
      ·intro v hv
       obtain⟨i,hi,rfl⟩:=Xa9.1 hv
       obtain⟨cs',p1,q1,q2,_,_,q6⟩:=hf i (by have:=Xbi.1 hi;omega)
       rw[Zok q6]
       exact⟨by rw[q1.1];exact(World.cells?_some p1).2.1,fun c hc=>(q2 c hc).1⟩
      ·intro k hk
       rw[hlenm]at hk
       have hi:k/P.cellsOf e<len:=(Nat.div_lt_iff_lt_mul hz0).2 hk
       have hk':k=k/P.cellsOf e*P.cellsOf e+k % P.cellsOf e:=by rw[Nat.mul_comm];exact(Xfp k _).symm
       obtain⟨cs',p1,p2,p3⟩:=hcell (k/P.cellsOf e) (by omega) (k % P.cellsOf e) (Nat.mod_lt _ hz0)
       rw[<-hk',Xad p3]at p2
       rw[p2];rfl
      ·intro i v j c hi hj
       have hilt:i<len:=by have:=(Xae.1 hi).1;simpa using this
       simp only[Xbt,Xdx hilt,Xas,Xac]at hi
       subst hi
       obtain⟨cs',p1,q1,q2,_,_,q6⟩:=hf i (by omega)
       rw[Zok q6]at hj
       have hjl:j<P.cellsOf e:=by have:=(Xae.1 hj).1;rw[q1.1,(World.cells?_some p1).2.1]at this;exact this
       obtain⟨cs'',p1',p2,p3⟩:=hcell i (by omega) j hjl
       rw[p1]at p1';cases p1'
       rw[p2,Xad p3]
       exact q1.2 j c _ hj (Xad p3)
    ·unfold HasT
     rw[hu]
     refine .inr ⟨_,rfl,fun v hv=> ?_⟩
     obtain⟨i,hi,rfl⟩:=Xa9.1 hv
     obtain⟨_,_,_,_,q3,_⟩:=hf i (by have:=Xbi.1 hi;omega)
     exact⟨f i,q3,rfl⟩
  ·rename_i n e hu
   have ha:Zeh P t=true:=by simp[Zeh,hu]
   obtain⟨hte,hsz⟩:=K.array ht hu
   obtain⟨xs,m',_,rfl,hl,hxl,hel⟩:=DataW.trod_array hu h
   have hpick:∀i,i<n-> ∃ws:List V,RL w (G0 w) φ ws ((cs.drop (i*P.cellsOf e)).take (P.cellsOf e))/\(∀c∈ws,c.sc=true/\c.clean=true)/\HasT P m e ws/\wtL ws<=Rows.uptoBulk ((xs.map (·.1)).getD i .nil):=fun i hi=>by
    have h1:=hel i hi
    rw[Xad (by omega)]at h1
    obtain⟨ws,q1,q2,q3,_,q5,_⟩:=ih m' e _ _ hte hp h1
    refine⟨ws,q1,q2,q3, ?_⟩
    simpa[List.getD,show i<xs.length by omega]using q5
   obtain⟨f,hf⟩:=Deep.choose_lt hpick
   have hfl:∀i,i<n->(f i).length=P.cellsOf e:=fun i hi=>by
    have:=(hf i hi).1.1
    simp only[Xbr,Xct,hl,hsz]at this
    have h2:(i+1)*P.cellsOf e<=n*P.cellsOf e:=Xbv _ hi
    rw[Xca]at h2
    omega
   have hsum:∀k,((List.range k).map fun _=>P.cellsOf e).sum=k*P.cellsOf e:=fun k=>by
    induction k with
    |zero=>simp
    |succ k ihk=>rw[Xe6,Xcs,Xfq,ihk,Xca];simp
   have hbulk:wtL ((List.range n).map f).flatten+1<=Rows.uptoBulk (DataW.agg (xs.map (·.1))):=by
    have:=Zg2 n f (fun i=>(xs.map (·.1)).getD i .nil) 0 fun i hi=>by simpa using(hf i hi).2.2.2
    have e1:((List.range n).map fun i=>(xs.map (·.1)).getD (0+i) DataW.nil)=xs.map (·.1):=by
     apply Xd9
     ·simp[hxl]
     ·intro i h1 h2
      simp at h1 h2
      simp[List.getD,h2]
    rw[e1]at this
    simp only[Rows.uptoBulk];omega
   refine⟨((List.range n).map f).flatten,RL.flatten ?_ fun i ws hi=> ?_,fun c hc=> ?_, ?_,by simpa[elV,ha,V.wt]using hbulk,Nat.le_of_lt hbulk,fun hh=>by rw[ha]at hh;cases hh⟩
   ·have:=Zq9 (K:=n) (n:=n) (f:=f) (c:=fun _=>P.cellsOf e) (Xag _) hfl
    rw[Xaw (by simp)]at this
    rw[this,hsum,hl,hsz]
   ·have hin:i<n:=by have:=(Xae.1 hi).1;simpa using this
    rw[Zq9 (by omega) hfl,hsum]
    simp only[Xbt,Xdx hin,Xas,Xac]at hi
    subst hi
    rw[hfl i hin];exact(hf i hin).1
   ·obtain⟨ws,hws,hc⟩:=List.mem_flatten.1 hc
    obtain⟨i,hi,rfl⟩:=Xa9.1 hws
    exact(hf i (Xbi.1 hi)).2.1 c hc
   ·unfold HasT
    rw[hu]
    refine⟨(List.range n).map f,by simp,fun ws hws=> ?_,rfl⟩
    obtain⟨i,hi,rfl⟩:=Xa9.1 hws
    exact(hf i (Xbi.1 hi)).2.2.1
  ·rename_i fs hu
   have ha:Zeh P t=true:=by simp[Zeh,hu]
   obtain⟨hte,hsz,hoff⟩:=K.struct ht hu
   obtain⟨xs,m',_,rfl,hl,hxl,hel⟩:=DataW.trod_struct hu h
   let c:Nat->Nat:=fun i=>match fs[i]? with|some f=>P.cellsOf f.type|none=>0
   have hc:∀(i:Nat) (fd:Field),fs[i]? =some fd->c i=P.cellsOf fd.type:=fun i fd hi=>by simp only[c,hi]
   have htake:∀k,k<=fs.size->(fs.toList.take k).map (fun f=>P.cellsOf f.type)=(List.range k).map c:=fun k hk=>by
    apply Xd9
    ·simp;omega
    ·intro i h1 h2
     simp at h1 h2
     have hi:fs[i]? =some fs[i]:=by simp
     simp[hc i _ hi]
   have hoff':∀(i:Nat) (fd:Field),fs[i]? =some fd->fd.offset=((List.range i).map c).sum:=fun i fd hi=>by
    have hlt:i<fs.size:=(Xa8.1 hi).1
    rw[hoff i fd (by simpa using hi),htake i (by omega)]
   have hsz':P.cellsOf t=((List.range fs.size).map c).sum:=by
    rw[hsz, <-htake fs.size (Xag _),Xaw (by simp)]
   have hsub:∀i,i<fs.size->((List.range i).map c).sum+c i<=P.cellsOf t:=fun i hi=>by
    have mono:∀k,i+1<=k->((List.range (i+1)).map c).sum<=((List.range k).map c).sum:=by
     intro k hk
     induction hk with
     |refl=>exact Xag _
     |step _ ih=>
      refine Xbs ih ?_
      rename_i k _
      have e:((List.range (k+1)).map c).sum=((List.range k).map c).sum+c k:=by rw[Xe6,Xcs,Xfq];simp
      show _<=((List.range (k+1)).map c).sum
      rw[e];exact Nat.le_add_right _ _
    have:=mono fs.size hi
    rw[<-hsz',Xe6,Xcs,Xfq]at this
    simpa using this
   have hpick:∀i,i<fs.size-> ∃ws:List V, ∀fd,fs[i]? =some fd->RL w (G0 w) φ ws ((cs.drop fd.offset).take (P.cellsOf fd.type))/\(∀c∈ws,c.sc=true/\c.clean=true)/\HasT P m fd.type ws/\wtL ws<=Rows.uptoBulk ((xs.map (·.1)).getD i .nil):=fun i hi=>by
    have hfd:fs[i]? =some fs[i]:=by simp[hi]
    have h1:=hel i _ hfd
    rw[Xad (by omega)]at h1
    obtain⟨ws,q1,q2,q3,_,q5,_⟩:=ih m' fs[i].type _ _ (hte _ (by simp)) (Xal.1 hp _ (by simp)) h1
    refine⟨ws,fun fd hfd'=> ?_⟩
    rw[hfd]at hfd';cases hfd'
    refine⟨q1,q2,q3, ?_⟩
    simpa[List.getD,show i<xs.length by omega]using q5
   obtain⟨f,hf⟩:=Deep.choose_lt hpick
   have hget:∀i,i<fs.size->fs[i]? =some (fs.getD i default):=fun i hi=>by simp[Array.getD,hi]
   have hfl:∀i,i<fs.size->(f i).length=c i:=fun i hi=>by
    have hfd:=hget i hi
    have:=(hf i hi _ hfd).1.1
    simp only[Xbr,Xct,hl]at this
    rw[hoff' i _ hfd, <-hc i _ hfd]at this
    have h2:=hsub i hi
    omega
   have hbulk:wtL ((List.range fs.size).map f).flatten+1<=Rows.uptoBulk (DataW.agg (xs.map (·.1))):=by
    have:=Zg2 fs.size f (fun i=>(xs.map (·.1)).getD i .nil) 0 fun i hi=>by simpa using(hf i hi _ (hget i hi)).2.2.2
    have e1:((List.range fs.size).map fun i=>(xs.map (·.1)).getD (0+i) DataW.nil)=xs.map (·.1):=by
     apply Xd9
     ·simp[hxl]
     ·intro i h1 h2
      simp at h1 h2
      simp[List.getD,h2]
    rw[e1]at this
    simp only[Rows.uptoBulk];omega
   refine⟨((List.range fs.size).map f).flatten,RL.flatten ?_ fun i ws hi=> ?_,fun c hc=> ?_, ?_,by simpa[elV,ha,V.wt]using hbulk,Nat.le_of_lt hbulk,fun hh=>by rw[ha]at hh;cases hh⟩
   ·have:=Zq9 (K:=fs.size) (n:=fs.size) (f:=f) (c:=c) (Xag _) hfl
    rw[Xaw (by simp)]at this
    rw[this,hl,hsz']
   ·have hin:i<fs.size:=by have:=(Xae.1 hi).1;simpa using this
    rw[Zq9 (by omega) hfl]
    simp only[Xbt,Xdx hin,Xas,Xac]at hi
    subst hi
    have hfd:=hget i hin
    rw[hfl i hin, <-hoff' i _ hfd,hc i _ hfd];exact(hf i hin _ hfd).1
   ·obtain⟨ws,hws,hc⟩:=List.mem_flatten.1 hc
    obtain⟨i,hi,rfl⟩:=Xa9.1 hws
    exact(hf i (Xbi.1 hi) _ (hget i (Xbi.1 hi))).2.1 c hc
   ·unfold HasT
    rw[hu]
    refine⟨(List.range fs.size).map f,by simp,fun i fd ws hfd hws=> ?_,rfl⟩
    have hin:i<fs.size:=(Xa8.1 hfd).1
    simp only[Xbt,Xdx hin,Xas,Xac]at hws
    subst hws
    exact(hf i hin fd hfd).2.2.1
  ·simp at hp
theorem Trod.rep (K:Kids P (· <P.types.size))(hz:∀t e,t<P.types.size->P.underlying t=some (.slice e)->0<P.cellsOf e){m:Nat}{t:TypeId}{v:Value}{d:DataW H}{ps:List MemPlace}{base:Nat}(ht:t<P.types.size)(hp:Zje P m t=true)
  (h:DataW.Trod enc P w 0 (fun _=>true) held t v d ps) (hval:Value.okWide P w .any base t v):
  ∃vs,Rep w (G0 w) φ (elV P t vs) v/\HasT P m t vs/\(elV P t vs).wt<=Rows.uptoBulk d/\(elV P t vs).clean=true:=by
 obtain⟨n,h⟩:=h
 obtain⟨vs,h1,h2,h3,h4,_,h6⟩:=Zxb (φ:=φ) K hz m n t _ _ ht hp h
 refine⟨vs, ?_,h3,h4,Zom fun c hc=>(h2 c hc).2⟩
 unfold elV
 by_cases ha:Zeh P t=true
 ·rw[if_pos ha]
  have:∃cs,v= .agg cs:=by
   unfold Value.okWide at hval
   unfold Zeh at ha
   split at ha
   ·rename_i hu;rw[hu]at hval;obtain⟨cs,rfl,_⟩:=hval;exact⟨cs,rfl⟩
   ·rename_i hu;rw[hu]at hval;obtain⟨cs,rfl,_⟩:=hval;exact⟨cs,rfl⟩
   ·simp at ha
  obtain⟨cs,rfl⟩:=this
  refine .agg vs cs (by simpa[Value.cells]using h1.1) (fun c hc=>(h2 c hc).1) fun i c x hc hx=>h1.2 i c x hc (by simpa[Value.cells]using hx)
 ·rw[if_neg ha]
  obtain⟨u,rfl,hu⟩:=h6 (by simpa using ha)
  have hv:v.cells.toList=[v]:=by
   cases v with
   |agg cs=>
    exfalso
    unfold Value.okWide at hval
    unfold Zeh at ha
    split at hval
    ·rename_i hu;simp[hu]at ha
    ·rename_i hu;simp[hu]at ha
    ·unfold Cell.okWide Cell.ok at hval
     split at hval<;>simp_all
   |_=>rfl
  rw[hv]at h1
  exact h1.2 0 u v rfl rfl
end
theorem Ztg {H:Type}{enc:TypeId×Value->H}{P:Program}(K:Kids P (· <P.types.size))(hz:∀t e,t<P.types.size->P.underlying t=some (.slice e)->0<P.cellsOf e){f:Func}{s:ChangeSpec}{apart fresh handsOn again:Bool}{W W':World}{args:Array Value}{ds:List (DataW H)}{before:List MemPlace}{tb:TypeId}
  (hvars:s.vars=[]) (hfn:s.fn H ds= {results:=[.lit (.bool true)],args:=ds}) (hrt:f.resultTypes= #[tb]) (htb:P.underlying tb=some .bool) (hpt:∀t∈f.params.toList,t<P.types.size)
  (hW:DataW.Whole enc P f.params.toList s.vars apart W args.toList ds [] before) (hB:Below W.heap.size W W'):s.post enc P f apart fresh handsOn again W args (.bool true) W':=by
 have hlt:=hW.lt
 have hW0:=hW
 obtain⟨p,q,hA,hV,rfl,hfz,hnd⟩:=hW
 rw[hvars]at hV
 have hq:q=[]:=hV
 subst hq
 have carry:∀{ts:List TypeId} {vs:List Value} {ds:List (DataW H)} {ps:List MemPlace},DataW.TrodAll enc P W 0 (fun _=>true) true ts vs ds ps->(∀p∈ps,p.block<W.heap.size)->DataW.TrodAll enc P W' 0 (fun _=>true) true ts vs ds ps:=by
  intro ts
  induction ts with
  |nil=>intro vs ds ps h _;cases vs<;>cases ds<;>first|exact h|exact h.elim
  |cons t ts ih=>
   intro vs ds ps h hb
   cases vs with
   |nil=>exact h.elim
   |cons v vs=>
    cases ds with
    |nil=>exact h.elim
    |cons d ds=>
     obtain⟨p,q,⟨n,h1⟩,h2,rfl⟩:=h
     exact⟨p,q,⟨n,DataW.trod_carry n _ _ _ h1 fun x hx=>hB.same (hb x (Xbo _ hx))⟩,ih h2 fun x hx=>hb x (Xbb _ hx),rfl⟩
 have hA':=carry hA fun x hx=>hlt x (by simpa using hx)
 have hargs:∀sp:Nat->Bool,(∀x∈p,sp x.block=true)->DataW.TrodAll enc P W' 0 sp true f.params.toList args.toList ds p:=fun sp hsp=>hA'.respare K hz hpt hsp
 have hres:∀(b:Nat) (sp:Nat->Bool) (hd:Bool),DataW.TrodAll enc P W' b sp hd f.resultTypes.toList ((Value.bool true).resultList f.resultTypes.size) [.lit (.bool true)] []:=by
  intro b sp hd
  rw[hrt]
  exact trodAll_cons_mk (shut_bool htb _) trodAll_mk0
 have hsimp:s.fn H (ds++ [])= {results:=[.lit (.bool true)],args:=ds}:=by rw[Xao];exact hfn
 have hold:∀x∈p,(fun b=>decide (b<W.heap.size)) x.block=true:=fun x hx=>by simpa using hlt x (by simpa using hx)
 refine⟨ds,[],p++ [],[],p,[],hW0,by rw[hsimp];exact hres _ _ _,by rw[hsimp];exact hargs _ hold,by rw[hsimp,hvars];rfl,World.keptBut_mono (fun x f=>f.elim) (hB.frame fun _=>False),fun _=> ?_⟩
 refine⟨ok_one hrt rfl (okWide_bool_mk htb _),_,[],([]++p)++ [],⟨[]++p,[],trodAll_append (hargs _ (fun _ _=>rfl)) (hres _ _ _),by rw[hvars];rfl,rfl, ?_, ?_⟩, ?_⟩
 ·intro b off hp
  have hp':MemPlace.cell b off∈p:=by simpa using hp
  rw[hB.frozen (p:=⟨b,off,none⟩) (hlt (.cell b off) (by simpa using hp'))]
  exact hfz b off (by simpa using hp')
 ·intro ha
  simpa using hnd ha
 ·intro x hx _
  simpa using hx
end Go.Abs
namespace Go.Abs
open Go.RowKit
structure Ctr where
 α:Type
 args:α->List V
 res:α->V×Bool
 ok:α->Prop
 inj:∀a b,args a=args b->res a=res b
def Ctr.Holds (cx:Cx)(f:Nat)(c:Ctr):Prop:=∀a,c.ok a->PC cx f (c.args a) (c.res a)
theorem PC.of {cx:Cx}{f:FuncId}{args:List V}{r:V×Bool}(hc:Zf8 cx.P f)
  (h:∀W G φ xs,OKW cx W G->RepL W G φ args xs->Calls cx.P f xs W fun e W'=> ∃G' y,e= .returned y/\Below W.heap.size W W'/\(∀b,b<W.heap.size->G' b=G b)/\(∀b,W'.heap.size<=b->G' b=0)/\
   Rep W' G' φ r.1 y/\(r.2=true-> ∀ow q,(∀b,W.heap.size<=b->ow b=some q)->OwnAt W' (fun b=>W.heap.size<=b) ⟨G',φ,ow⟩ q r.1 y)):PC cx f args r:=⟨hc,h⟩
theorem PC.pure {cx:Cx}{f:FuncId}{args:List V}{v:V}(hc:Zf8 cx.P f)(h:∀W G φ xs,OKW cx W G->RepL W G φ args xs->Calls cx.P f xs W fun e W'=> ∃y,e= .returned y/\Below W.heap.size W W'/\ ∀W' G',Rep W' G' φ v y):PC cx f args (v,false):=
 .of hc fun W G φ xs hW hxs=>(h W G φ xs hW hxs).mono fun e W' ⟨y,he,hB,hr⟩=>⟨G,y,he,hB,fun _ _=>rfl,fun b hb=>hW.Gz b (Xbs hB.size hb),hr _ _,fun h=>by cases h⟩
theorem PC.texts {cx:Cx}{f:FuncId}{args:List V}{l:List Bytes}(hc:Zf8 cx.P f)
  (h:∀W G φ xs,OKW cx W G->RepL W G φ args xs->Calls cx.P f xs W fun e W'=> ∃(ss:List ByteArray) (t:TypeId),ss.map (·.data.toList)=l/\e= .returned (.slice (some ⟨W.heap.size,0,none⟩) ss.length ss.length)/\W'=W.alloc (.cells (ss.map Value.string).toArray t)):
  PC cx f args (.sl false 1 (l.map .str),true):=by
 refine .of hc fun W G φ xs hW hxs=>(h W G φ xs hW hxs).mono fun e W'=> ?_
 rintro⟨ss,t,rfl,rfl,rfl⟩
 have hblk:(W.alloc (.cells (ss.map Value.string).toArray t)).heap[W.heap.size]? =some (.cells (ss.map Value.string).toArray t (0,0)):=heap_alloc_new _ _
 have hcell:∀k,(W.alloc (.cells (ss.map Value.string).toArray t)).cell? ⟨W.heap.size,k,none⟩=(ss.map Value.string)[k]? :=fun k=>by
  rw[cell_of_row _ W.heap.size k _ t (0,0) hblk];simp
 refine⟨fun b=>if b=W.heap.size then ss.length else G b,_,rfl,(Below.refl _ _).alloc (Xag _) _,fun b hb=>if_neg (by omega),fun b hb=> ?_, ?_,fun _ ow q how sz ys b off len cap sp hv hx=> ?_⟩
 ·simp at hb
  dsimp only;rw[if_neg (by omega)];exact hW.Gz b (by omega)
 ·have:=Rep.sl (W:=W.alloc (.cells (ss.map Value.string).toArray t)) (G:=fun b=>if b=W.heap.size then ss.length else G b) (φ:=φ) 1 ((ss.map (·.data.toList)).map V.str) W.heap.size 0 ss.length (fun k=> .string (ss.getD k default)) (by simp) (by simp) (fun x hx=> ?_) (fun k hk=> ?_) (fun i x j c hi hj=> ?_)
  ·simpa using this
  ·obtain⟨s,_,rfl⟩:=Xa9.1 hx;simp
  ·simp at hk
   rw[Xan,hcell];simp[List.getD,hk]
  ·simp only[Xdm,Xbt,Xaa]at hi
   obtain⟨s,hs,rfl⟩:=hi
   cases j with
   |zero=>simp at hj;subst hj;simp[List.getD,hs];exact .str _ _ rfl
   |succ j=>simp at hj
 ·cases hx;exact .inl rfl
theorem Zuf {cx:Cx}{f:FuncId}{args:List V}{xs:Array Value}{o:Bool}(h:PC cx f args (.bool true,o))(hr:RepL cx.w0 (G0 cx.w0) (fun _=>none) args xs):
  Calls cx.P f xs cx.w0 fun e W'=>e= .returned (.bool true)/\Below cx.w0.heap.size cx.w0 W':=by
 refine(h.2 cx.w0 (G0 cx.w0) (fun _=>none) xs ⟨.refl _ _,fun _ _=>rfl,fun b hb=>by simp[G0,Xd0 hb]⟩ hr).mono fun e W'=> ?_
 rintro⟨G',y,rfl,hB,_,_,hy,_⟩
 cases hy
 exact⟨rfl,hB⟩
end Go.Abs
namespace Go.Abs
open Go.RowKit
mutual
def V.nf :V->V
 | .agg cs=> .agg (nfL cs)
 | .sl true sz []=> .sl false sz []
 | .sl true _ (_::_)=> .map 0
 | .sl false sz xs=> .sl false sz (nfL xs)
 | .el cs off=> .el (nfL cs) off
 | .tup cs=> .tup (nfL cs)
 | .fn f cs=> .fn f (nfL cs)
 | .mfn f cs=> .mfn f (nfL cs)
 | .iface t v=> .iface t v.nf
 | .bool b=> .bool b
 | .int k n=> .int k n
 | .str s=> .str s
 | .osl a b c d e=> .osl a b c d e
 | .gp g o=> .gp g o
 | .ptr i o=> .ptr i o
 | .nilptr=> .nilptr
 | .map i=> .map i
 | .nilmap=> .nilmap
 | .nilfn=> .nilfn
 | .nilif=> .nilif
def nfL :List V->List V
 | []=> []
 |v::r=>v.nf::nfL r
end
theorem Zce :∀l:List V,nfL l=l.map V.nf
 | []=>rfl
 |v::r=>by rw[nfL,Zce r];rfl
@[simp] theorem Zap (l:List V):(nfL l).length=l.length:=by rw[Zce];simp
theorem Zfa (l:List V)(i:Nat):(nfL l)[i]? =(l[i]?).map V.nf:=by rw[Zce];simp
theorem Zby (a b:List V):nfL (a++b)=nfL a++nfL b:=by simp[Zce]
theorem Zdp (a:List V)(k:Nat):nfL (a.drop k)=(nfL a).drop k:=by simp[Zce,Xe1]
theorem Zci (a:List V)(k:Nat):nfL (a.take k)=(nfL a).take k:=by simp[Zce,Xdw]
theorem Zn8 (a:List V)(k:Nat)(b:List V):nfL (Zav a k b)=Zav (nfL a) k (nfL b):=by
 simp only[Zav,Zby,Zci,Zdp,Zap]
theorem Zcd {v:V}{b:Bool}(h:v.nf= .bool b):v= .bool b:=by
 cases v<;>simp_all[V.nf]
 all_goals (rename_i nl sz xs;cases nl<;>cases xs<;>simp[V.nf]at h)
theorem Zb3 {v:V}{k:IntKind}{n:Int}(h:v.nf= .int k n):v= .int k n:=by
 cases v<;>simp_all[V.nf]
 all_goals (rename_i nl sz xs;cases nl<;>cases xs<;>simp[V.nf]at h)
theorem Zei {v:V}{s:Bytes}(h:v.nf= .str s):v= .str s:=by
 cases v<;>simp_all[V.nf]
 all_goals (rename_i nl sz xs;cases nl<;>cases xs<;>simp[V.nf]at h)
theorem Zyx {v:V}{i o:Nat}(h:v.nf= .ptr i o):v= .ptr i o:=by
 cases v<;>simp_all[V.nf]
 all_goals (rename_i nl sz xs;cases nl<;>cases xs<;>simp[V.nf]at h)
theorem Zki {v:V}{l:List V}(h:v.nf= .agg l):∃cs,v= .agg cs/\nfL cs=l:=by
 cases v<;>simp_all[V.nf]
 all_goals (rename_i nl sz xs;cases nl<;>cases xs<;>simp[V.nf]at h)
theorem Zxm {v:V}{l:List V}{o:Nat}(h:v.nf= .el l o):∃cs,v= .el cs o/\nfL cs=l:=by
 cases v<;>simp_all[V.nf]
 all_goals (rename_i nl sz xs;cases nl<;>cases xs<;>simp[V.nf]at h)
theorem Z46 {v:V}{l:List V}(h:v.nf= .tup l):∃cs,v= .tup cs/\nfL cs=l:=by
 cases v<;>simp_all[V.nf]
 all_goals (rename_i nl sz xs;cases nl<;>cases xs<;>simp[V.nf]at h)
theorem Z6j {v:V}{f:Nat}{l:List V}(h:v.nf= .fn f l):∃cs,v= .fn f cs/\nfL cs=l:=by
 cases v<;>simp_all[V.nf]
 all_goals (rename_i nl sz xs;cases nl<;>cases xs<;>simp[V.nf]at h)
theorem Z96 {v:V}{sz:Nat}{l:List V}(h:v.nf= .sl false sz l):∃nl xs,v= .sl nl sz xs/\nfL xs=l/\(nl=true->xs=[]):=by
 cases v<;>simp_all[V.nf]
 rename_i nl sz' xs
 cases nl<;>cases xs<;>simp_all[V.nf,nfL]
theorem Z5r {nl:Bool}{sz:Nat}{xs:List V}(h:nl=true->xs=[]):(V.sl nl sz xs).nf= .sl false sz (nfL xs):=by
 cases nl
 ·rfl
 ·rw[h rfl];rfl
theorem Zo3 (v:V):v.nf.sc=v.sc:=by
 cases v<;>try rfl
 rename_i nl sz xs
 cases nl<;>cases xs<;>rfl
theorem Zbv (v:V):v.nf.cells=nfL v.cells:=by
 cases v<;>try rfl
 rename_i nl sz xs
 cases nl<;>cases xs<;>rfl
mutual
theorem Zmc :∀{v:V},v.nf.clean=true->v.clean=true
 | .agg cs,h=>by simp only[V.nf,V.clean]at h⊢;exact Zcg h
 | .sl true sz [],_=>rfl
 | .sl true _ (_::_),h=>by simp[V.nf,V.clean]at h
 | .sl false sz xs,h=>by simp only[V.nf,V.clean]at h⊢;exact Zcg h
 | .el cs off,h=>by simp only[V.nf,V.clean]at h⊢;exact Zcg h
 | .tup cs,h=>by simp only[V.nf,V.clean]at h⊢;exact Zcg h
 | .fn f cs,h=>by simp only[V.nf,V.clean]at h⊢;exact Zcg h
 | .mfn f cs,h=>by simp only[V.nf,V.clean]at h⊢;exact Zcg h
 | .iface t v,h=>by simp only[V.nf,V.clean]at h⊢;exact Zmc h
 | .bool b,_=>rfl
 | .int k n,_=>rfl
 | .str s,_=>rfl
 | .osl a b c d e,h=>by simp[V.nf,V.clean]at h
 | .gp g o,_=>rfl
 | .ptr i o,h=>by simp[V.nf,V.clean]at h
 | .nilptr,_=>rfl
 | .map i,h=>by simp[V.nf,V.clean]at h
 | .nilmap,_=>rfl
 | .nilfn,_=>rfl
 | .nilif,_=>rfl
theorem Zcg :∀{l:List V},Zac (nfL l)=true->Zac l=true
 | [],_=>rfl
 |v::r,h=>by
  simp only[nfL,Zac,Xai]at h⊢
  exact⟨Zmc h.1,Zcg h.2⟩
end
def Own (v:V)(o:Bool):Prop:=o=true \/ ∃sz,v= .sl true sz []
structure FC where
 f:Nat
 mt:List V->Bool
 own:Bool
 rel:List V->V->Prop
 clean:∀avs y,rel avs y->Zac avs=true/\y.clean=true
 fn:∀avs y z,rel avs y->rel avs z->y=z
def FC.Holds (cx:Cx)(c:FC):Prop:=∀args y,c.rel (nfL args) y-> ∃v o,PC cx c.f args (v,o)/\v.nf=y/\(c.own=true->Own v o)
def FC.Good (cx:Cx)(c:FC)(args:List V)(p:V×Bool):Prop:=PC cx c.f args p/\ ∃y,c.rel (nfL args) y/\p.1.nf=y/\(c.own=true->Own p.1 p.2)
variable {Γ:Abs.Spec}{gl:Glob}
theorem Zhu :∀{c:ACode} {Q:Ex->St->Prop} {s:St},awp Γ gl c Q s-> ∃e t,Q e t/\ ∀Q':Ex->St->Prop,Q' e t->awp Γ gl c Q' s:=by
 intro c
 induction c with
 |skip=>intro Q s h;exact⟨_,_,h,fun _ h=>h⟩
 |region ops dr=>
  intro Q s h
  simp only[awp]at h⊢
  unfold Zjg at h⊢
  split at h
  ·exact⟨_,_,h,fun _ h=>h⟩
  ·exact h.elim
 |seq a b iha ihb=>
  intro Q s h
  obtain⟨e,t,h1,h2⟩:=iha h
  cases e with
  |normal=>
   obtain⟨e,t',h3,h4⟩:=ihb h1
   exact⟨e,t',h3,fun Q' h=>h2 _ (h4 Q' h)⟩
  |exit i=>exact⟨_,t,h1,fun Q' h=>h2 _ h⟩
  |ret=>exact⟨_,t,h1,fun Q' h=>h2 _ h⟩
 |cond c a b iha ihb=>
  intro Q s h
  simp only[awp]at h⊢
  unfold Zng at h⊢
  split at h
  ·exact iha h
  ·exact ihb h
  ·exact h.elim
 |block id b ih=>
  intro Q s h
  obtain⟨e,t,h1,h2⟩:=ih h
  exact⟨_,t,h1,fun Q' h=>h2 _ h⟩
 |loop b ih=>
  intro Q s h
  obtain⟨n,h⟩:=h
  induction n generalizing s with
  |zero=>exact h.elim
  |succ n ihn=>
   obtain⟨e,t,h1,h2⟩:=ih h
   cases e with
   |normal=>
    obtain⟨e,t',h3,h4⟩:=ihn h1
    refine⟨e,t',h3,fun Q' h=> ?_⟩
    obtain⟨m,hm⟩:=h4 Q' h
    exact⟨m+1,h2 _ hm⟩
   |exit i=>exact⟨_,t,h1,fun Q' h=>⟨1,h2 _ h⟩⟩
   |ret=>exact⟨_,t,h1,fun Q' h=>⟨1,h2 _ h⟩⟩
 |exit id=>intro Q s h;exact⟨_,_,h,fun _ h=>h⟩
 |ret=>intro Q s h;exact⟨_,_,h,fun _ h=>h⟩
 |fail=>intro Q s h;exact h.elim
def Zyu (res:List RS)(own:Bool)(y:V)(s:St):Prop:= ∃p,Zdo res s=some p/\p.1.nf=y/\(own=true->Own p.1 p.2)
def endQ (res:List RS)(own:Bool)(y:V):Ex->St->Prop
 | .exit _,_=>False
 |_,s=>Zyu res own y s
theorem Zfg {v:V}{r:List V}(h:v.clean=true)(k:Zac r=true):Zac (v::r)=true:=by rw[Zp1,h,k];rfl
def fc {α β:Type}(f:Nat)(mt:List V->Bool)(own:Bool)(ea:α->List V)(eb:β->V)(g:α->Option β)(ha:∀a,Zac (ea a)=true)(hb:∀b,(eb b).clean=true)(hi:∀a b,ea a=ea b->a=b):FC where
 f:=f
 mt:=mt
 own:=own
 rel avs y:= ∃a x,avs=ea a/\g a=some x/\y=eb x
 clean:=by
  rintro avs y ⟨a,x,rfl,_,rfl⟩
  exact⟨ha a,hb x⟩
 fn:=by
  rintro avs y z ⟨a,x,rfl,h1,rfl⟩ ⟨a',x',h2,h3,rfl⟩
  obtain rfl:=hi _ _ h2
  rw[h1]at h3
  cases h3;rfl
theorem Zug {α:Type}{a b:α}{l m:List α}(h:a=b)(k:l=m):a::l=b::m:=by rw[h,k]
def fuel :Nat:=1000000000000
theorem Zii {v:List V}{x:V}{r:List V}(h:nfL v=x::r):∃a v',v=a::v'/\a.nf=x/\nfL v'=r:=by
 cases v with
 |nil=>cases h
 |cons a v'=>rw[nfL]at h;obtain⟨h1,h2⟩:=List.cons.inj h;exact⟨a,v',rfl,h1,h2⟩
theorem Zwq {v:List V}(h:nfL v=[]):v=[]:=by
 cases v with
 |nil=>rfl
 |cons a v'=>cases h
theorem Z1k {α β:Type}{f:α->β}(hf:∀x y,f x=f y->x=y){l m:List α}(h:l.map f=m.map f):l=m:=(List.map_inj_right hf).1 h
theorem Zsu (a b:List V):Zac (a++b)=(Zac a&&Zac b):=by
 induction a with
 |nil=>simp
 |cons x a ih=>simp[ih,Bool.and_assoc]
def Arr (n:Nat):Type:= {l:Bytes//l.length=n}
instance (n :Nat):DecidableEq (Arr n):=fun a b=>if h:a.1=b.1 then isTrue (Subtype.ext h)else isFalse fun e=>h (by rw[e])
theorem Arr.h {n:Nat}(a:Arr n):a.1.length=n:=a.2
theorem Arr.ext {n:Nat}{a b:Arr n}(h:a.1=b.1):a=b:=Subtype.ext h
def Arr.zero (n:Nat):Arr n:=⟨List.replicate n 0,by simp⟩
def Arr.set {n:Nat}(a:Arr n)(i:Int)(b:UInt8):Arr n:=⟨a.1.set i.toNat b,by simp[a.2]⟩
theorem Zbh {a b:List V}(h:Zac a=true)(k:Zac b=true):Zac (a++b)=true:=by rw[Zsu,h,k];rfl
theorem Zta {n:Option Nat}{a b:List V}{o:Nat}(h:o+n.getD 1<=a.length):Zak n (a++b) o=Zak n a o:=by
 cases n with
 |none=>simp only[Xcm]at h;rw[Zde,Zde,Xa3 (by omega)]
 |some k=>
  simp only[Xb1]at h
  rw[Zc6,Zc6,if_pos (by simp;omega),if_pos h,Xby (by omega),Xb4 (by simp;omega)]
theorem Zyl {n:Option Nat}{a b:List V}{o:Nat}(k:Nat)(h:a.length=k)(ho:k<=o:=by decide):Zak n (a++b) o=Zak n b (o-k):=by
 subst h
 cases n with
 |none=>rw[Zde,Zde,Xa2 ho]
 |some m=>
  rw[Zc6,Zc6,Xc6,Xav ho]
  simp only[Xaf,Xba]
  by_cases hc:o-a.length+m<=b.length
  ·rw[if_pos hc,if_pos (by omega)]
  ·rw[if_neg hc,if_neg (by omega)]
section
variable {q:EqK}{a b:UInt8}{s t:Bytes}{x y:Bool}
def cat (s t:Bytes):Option Bytes:=if s.length+t.length<=4611686018427387904 then some (s++t)else none
theorem Z14 {k:Option IntKind×Bool}{x y:V}{p:Bool}(h:kdEq k x.nf y.nf=some p):kdEq k x y=some p:=by
 obtain⟨k,u⟩:=k
 cases k with
 |some k=>
  cases hx:x.nf<;>rw[hx]at h<;>cases hy:y.nf<;>rw[hy]at h<;>simp[kdEq]at h
  rw[Zb3 hx,Zb3 hy];simp[kdEq,h]
 |none=>
  cases u with
  |true=>
   cases hx:x.nf<;>rw[hx]at h<;>cases hy:y.nf<;>rw[hy]at h<;>simp[kdEq]at h
   rw[Zei hx,Zei hy];simp[kdEq,h]
  |false=>
   cases hx:x.nf<;>rw[hx]at h<;>cases hy:y.nf<;>rw[hy]at h<;>simp[kdEq]at h
   rw[Zcd hx,Zcd hy];simp[kdEq,h]
theorem Zg5 :∀{ks:List (Option IntKind×Bool)} {a b:List V} {p:Bool},Zaw ks (nfL a) (nfL b)=some p->Zaw ks a b=some p
 | [],[],[],_,h=>h
 |k::ks,x::xs,y::ys,p,h=>by
  simp only[nfL,Zaw,Xab,Xaa]at h
  obtain⟨u,hu,w,hw,rfl⟩:=h
  simp only[Zaw,Z14 hu,Zg5 hw,Xak,Xas]
 | [],[],_::_,_,h=>by simp[nfL,Zaw]at h
 | [],_::_,_,_,h=>by simp[nfL,Zaw]at h
 |_::_,[],_,_,h=>by simp[nfL,Zaw]at h
 |_::_,_::_,[],_,h=>by simp[nfL,Zaw]at h
end
section
variable {Γ:Abs.Spec}{gl:Glob}{K:St->Prop}{s:St}{d:Option Nat}{r:List AOper}{af:List Nat}
end
def andI (k:IntKind)(a b:Int):Int:=k.wrap (BitVec.ofInt k.bits a&&&BitVec.ofInt k.bits b).toNat
def orI (k:IntKind)(a b:Int):Int:=k.wrap (BitVec.ofInt k.bits a|||BitVec.ofInt k.bits b).toNat
def xorI (k:IntKind)(a b:Int):Int:=k.wrap (BitVec.ofInt k.bits a^^^BitVec.ofInt k.bits b).toNat
section
variable {Γ:Abs.Spec}{gl:Glob}{K:St->Prop}{s:St}{d:Option Nat}{r:List AOper}{af:List Nat}{q:EqK}{k:IntKind}{a b:Int}
theorem b_and :abin .and q (.int k a) (.int k b)=some (.int k (andI k a b)):=by simp[abin,aint,andI]
theorem b_or :abin .or q (.int k a) (.int k b)=some (.int k (orI k a b)):=by simp[abin,aint,orI]
theorem b_xor :abin .xor q (.int k a) (.int k b)=some (.int k (xorI k a b)):=by simp[abin,aint,xorI]
end
section
variable {Γ:Abs.Spec}{gl:Glob}{K:St->Prop}{s:St}{d:Option Nat}{r:List AOper}{af:List Nat}{α β:Type}{f:Nat}{mt:List V->Bool}{own:Bool}{ea:α->List V}{eb:β->V}{g:α->Option β}{h1:∀a,Zac (ea a)=true}{h2:∀b,(eb b).clean=true}{h3:∀a b,ea a=ea b->a=b}
end
theorem Zbz {n:Option Nat}{cs:List V}{o:Nat}{y:V}(h:Zak n (nfL cs) o=some y):∃v,Zak n cs o=some v/\v.nf=y:=by
 cases n with
 |none=>
  simp only[Zde,Zfa,Xaa]at h⊢
  exact h
 |some k=>
  simp only[Zc6,Zap]at h⊢
  split at h
  ·rename_i hc
   rw[if_pos hc]
   cases h
   exact⟨_,rfl,by rw[V.nf,Zci,Zdp]⟩
  ·cases h
theorem Zlr (l:Bytes):nfL (encB l)=encB l:=by
 rw[Zce];unfold encB;rw[Xdm];rfl
end Go.Abs
