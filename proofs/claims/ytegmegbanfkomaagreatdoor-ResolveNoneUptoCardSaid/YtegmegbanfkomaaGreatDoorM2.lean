/-
  Parts of the proof, one behind the other. Own work of this seat; some printed by its programs.
-/
import Derived.Test.YtegmegbanfkomaaGreatDoorM1
namespace Go.Abs
section
variable {ι:List Nat}{vs:List V}
theorem SegsS.shift {ow ow':Nat->Bool}:∀{ss:List Seg} {cs:List V} {j j':Nat},SegsS ι vs ss cs ow j->(∀i,i<cs.length->ow' (j'+i)=ow (j+i))->SegsS ι vs ss cs ow' j'
 | [],_,_,_,h,_=>h
 | .one a::r,_,j,j',⟨c,cs',e,h3,h4,h5⟩,ho=>by
  subst e
  refine⟨c,cs',rfl, ?_,h4,SegsS.shift h5 fun i h6=> ?_⟩
  ·have:=ho 0 (by simp);grind
  ·have:=ho (i+1) (by simp;omega);grind
 | .many n a::r,_,j,j',⟨l,cs',w,e,h3,h4,h5,h6,h7,h8⟩,ho=>by
  subst e
  refine⟨l,cs',w,rfl,h3,h4,h5,h6,h7,SegsS.shift h8 fun i h9=> ?_⟩
  have:=ho (l.length+i) (by simp;omega);grind
theorem SegsS.all_sc {ow:Nat->Bool}:∀{ss:List Seg} {cs:List V} {j:Nat},SegsS ι vs ss cs ow j->cs.all V.sc=true
 | [],_,_,h=>by rw[show _=[]from h];rfl
 | .one a::r,_,_,⟨c,cs',e,h3,h4,h5⟩=>by subst e;simp only[Xcs,h4,SegsS.all_sc h5,Xcv]
 | .many n a::r,_,_,⟨l,cs',w,e,h3,h4,h5,h6,h7,h8⟩=>by subst e;rw[List.all_append,h5,SegsS.all_sc h8];rfl
def Zjy (ss:List Seg):Prop:=∀s∈ss,s.len.isSome=true
theorem SegsS.app {ow:Nat->Bool}{q:List Seg}{cq:List V}:∀{p:List Seg} {cp:List V} {j:Nat},(Zjy p \/q=[])->SegsS ι vs p cp ow j->SegsS ι vs q cq ow (j+cp.length)->SegsS ι vs (p++q) (cp++cq) ow j
 | [],_,_,_,h,k=>by rw[show _=[]from h]at k⊢;exact k
 | .one a::r,_,j,hz,⟨c,cs',e,h3,h4,h5⟩,k=>by
  subst e
  refine⟨c,cs'++cq,rfl,h3,h4,SegsS.app ?_ h5 (by grind)⟩
  rcases hz with hz|hz
  ·exact .inl fun s hs=>hz s (Xbb _ hs)
  grind
 | .many n a::r,_,j,hz,⟨l,cs',w,e,h3,h4,h5,h6,h7,h8⟩,k=>by
  subst e
  refine⟨l,cs'++cq,w,by simp,h3,fun hn=> ?_,h5,h6,h7,SegsS.app ?_ h8 (by grind)⟩
  ·rcases hz with hz|hz
   ·have:=hz (.many n a) (by simp);grind[Seg.len]
   simp_all
  ·rcases hz with hz|hz
   ·exact .inl fun s hs=>hz s (Xbb _ hs)
   grind
theorem SegsS.split {ow:Nat->Bool}{q:List Seg}:∀{p:List Seg} {cs:List V} {j:Nat},SegsS ι vs (p++q) cs ow j-> ∃cp cq,cs=cp++cq/\SegsS ι vs p cp ow j/\SegsS ι vs q cq ow (j+cp.length)
 | [],cs,j,h=>⟨[],cs,rfl,rfl,h⟩
 | .one a::r,_,j,⟨c,cs',e,h3,h4,h5⟩=>by
  obtain⟨cp,cq,e2,k1,k2⟩:=SegsS.split h5
  subst e;subst e2
  exact⟨c::cp,cq,rfl,⟨c,cp,rfl,h3,h4,k1⟩,by grind⟩
 | .many n a::r,_,j,⟨l,cs',w,e,h3,h4,h5,h6,h7,h8⟩=>by
  obtain⟨cp,cq,e2,k1,k2⟩:=SegsS.split h8
  subst e;subst e2
  exact⟨l++cp,cq,by simp,⟨l,cp,w,rfl,h3,fun hn=>(List.append_eq_nil_iff.1 (h4 hn)).1,h5,h6,h7,k1⟩,by grind⟩
theorem SegsS.len1 {ow:Nat->Bool}{sg:Seg}{cs:List V}{j n:Nat}(h:SegsS ι vs [sg] cs ow j)(hn:sg.len=some n):cs.length=n:=by
 cases sg with
 |one a=>
  obtain⟨c,cs',e,_,_,h5⟩:=h
  rw[show cs'=[]from h5]at e;grind[Seg.len]
 |many m a=>
  obtain⟨l,cs',w,e,h3,_,_,_,_,h8⟩:=h
  rw[show cs'=[]from h8]at e;grind[Seg.len]
theorem Zbk {ow:Nat->Bool}:∀{ss:List Seg} {cs:List V} {j off i0:Nat} {sg:Seg} {r i:Nat},SegsS ι vs ss cs ow j->Zc6 ss off i0=some (sg,r,i)->
  ∃p q cp cg cq,ss=p++sg::q/\i=i0+p.length/\cs=cp++(cg++cq)/\off=cp.length+r/\Zjy p/\SegsS ι vs p cp ow j/\SegsS ι vs [sg] cg ow (j+cp.length)/\SegsS ι vs q cq ow (j+cp.length+cg.length)/\(sg.len=none->q=[])
 | [],_,_,_,_,_,_,_,_,h=>by cases h
 |s::ss,cs,j,off,i0,sg,r,i,h,hs=>by
  obtain⟨c1,c2,e,h1,h2⟩:=SegsS.split (p:=[s]) (q:=ss) h
  have hno:s.len=none->ss=[]:=fun hn=>by
   cases s with
   |one a=>cases hn
   |many n a=>obtain⟨_,_,_,_,_,h4,_⟩:=h;exact h4 hn
  have here:s=sg->off=r->i0=i-> ∃p q cp cg cq,s::ss=p++sg::q/\i=i0+p.length/\cs=cp++(cg++cq)/\off=cp.length+r/\Zjy p/\SegsS ι vs p cp ow j/\SegsS ι vs [sg] cg ow (j+cp.length)/\SegsS ι vs q cq ow (j+cp.length+cg.length)/\(sg.len=none->q=[]):=fun e1 e2 e3=>⟨[],ss,[],c1,c2,by rw[<-e1];rfl,by rw[e3];rfl,e,by simp[e2],fun _ h=>by(cases h),rfl,by rw[<-e1];exact h1,by simpa using h2,by rw[<-e1];exact hno⟩
  simp only[Zc6]at hs
  split at hs
  ·cases hs
   exact here rfl rfl rfl
  ·rename_i n hn
   split at hs
   ·cases hs;exact here rfl rfl rfl
   ·rename_i hlt
    have hle:n<=off:=by
     have: ¬off<n:=fun hlt'=>by rw[show Nat.blt off n=true from Xdz hlt']at hlt;cases hlt
     omega
    have hl:=h1.len1 hn
    obtain⟨p,q,cp,cg,cq,q1,q2,q3,q4,q5,q6,q7,q8,q9⟩:=Zbk h2 hs
    subst q1;subst q3;subst e
    refine⟨s::p,q,c1++cp,cg,cq,rfl,by simp;omega,by simp,by simp;omega,fun s' hs'=> ?_, ?_, ?_, ?_,q9⟩
    ·rcases Xap.1 hs' with rfl|hs'
     ·rw[hn];rfl
     ·exact q5 s' hs'
    ·exact SegsS.app (p:=[s]) (.inl fun s' hs'=>by simp at hs';rw[hs',hn];rfl) h1 q6
    ·rw[show j+(c1++cp).length=j+c1.length+cp.length by simp;omega];exact q7
    ·rw[show j+(c1++cp).length=j+c1.length+cp.length by simp;omega];exact q8
theorem Zcs {ow:Nat->Bool}:∀{ss:List Seg} {cs:List V} {j m q:Nat},SegsS ι vs ss cs ow j->Zby ss m=some q->
  ∃cp cq,cs=cp++cq/\cp.length=m/\Zjy (ss.take q)/\q<=ss.length/\SegsS ι vs (ss.take q) cp ow j/\SegsS ι vs (ss.drop q) cq ow (j+m)
 |ss,cs,j,0,q,h,hq=>by
  have:q=0:=by cases ss<;>simp[Zby]at hq<;>exact hq.symm
  subst this
  exact⟨[],cs,rfl,rfl,fun _ h=>by(simp at h),Xbz _,rfl,by simpa using h⟩
 | [],_,_,_+1,_,_,hq=>by cases hq
 |s::ss,cs,j,m+1,q,h,hq=>by
  obtain⟨c1,c2,e,h1,h2⟩:=SegsS.split (p:=[s]) (q:=ss) h
  simp only[Zby]at hq
  split at hq
  ·rename_i n hn
   split at hq
   ·rename_i hc
    simp only[Xai]at hc
    have hc1:=Xa5 hc.1
    simp only[Xaa]at hq
    obtain⟨q',hq',rfl⟩:=hq
    have hl:=h1.len1 hn
    obtain⟨cp,cq,q1,q2,q3,q4,q5,q6⟩:=Zcs h2 hq'
    subst q1;subst e
    refine⟨c1++cp,cq,by simp,by simp;omega,fun s' hs'=> ?_,by simp;omega, ?_, ?_⟩
    ·simp only[Xc6,Xap]at hs'
     rcases hs' with rfl|hs'
     ·rw[hn];rfl
     ·exact q3 s' hs'
    ·exact SegsS.app (p:=[s]) (.inl fun s' hs'=>by grind) h1 q5
    grind
   ·cases hq
  ·cases hq
theorem Zm0 {ow ow':Nat->Bool}{ss q:List Seg}{cs ys:List V}{off n:Nat}{sg:Seg}{i m:Nat}(h:SegsS ι vs ss cs ow 0)(hs:Zc6 ss off 0=some (sg,0,i))(hm:Zby (ss.drop i) n=some m)(hq:SegsS ι vs q ys ow' off)(hn:ys.length=n)
  (hz:Zjy q \/ss.drop (i+m)=[]) (ho:∀j,(j<off \/off+n<=j)->ow' j=ow j):off+n<=cs.length/\SegsS ι vs (spl ss i m q) (Zas cs off ys) ow' 0:=by
 obtain⟨p,q',cp,cg,cq,e1,e2,e3,e4,e5,e6,e7,e8,e9⟩:=Zbk h hs
 simp only[Xao,Xea]at e2 e4 e7 e8
 subst e1;subst e3;subst e2
 have hd:(p++sg::q').drop p.length=sg::q':=by simp
 rw[hd]at hm
 have hr:SegsS ι vs (sg::q') (cg++cq) ow cp.length:=by
  refine SegsS.app (p:=[sg]) (q:=q') ?_ e7 (by omega)
  cases hsl:sg.len with
  |none=>grind
  |some k=>exact .inl fun s' hs'=>by grind
 obtain⟨c1,c2,k1,k2,k3,k4,k5,k6⟩:=Zcs hr hm
 rw[k1]
 have hl:off+n<=(cp++(c1++c2)).length:=by simp;omega
 refine⟨hl, ?_⟩
 have hset:Zas (cp++(c1++c2)) off ys=cp++(ys++c2):=by
  grind[Zas]
 have hspl:spl (p++sg::q') p.length m q=p++(q++(sg::q').drop m):=by
  simp_all[spl]
 rw[hset,hspl]
 refine SegsS.app (.inl e5) (e6.shift fun i hi=> ?_) (SegsS.app ?_ (by rw[Xao, <-e4];exact hq) (k6.shift fun i hi=> ?_))<;>grind
theorem Zo6 {ow ow':Nat->Bool}{ss:List Seg}{cs ys:List V}{off n r i i' u:Nat}{sn:Option Nat}{a:At}{w x:V}(h:SegsS ι vs ss cs ow 0)(hs:Zc6 ss off 0=some (.many sn a,r,i))(ha:∀w,AtV vs a w->w=x)(hle:r+u+n<=x.cells.length)(hn:ys.length=n)(hsc:ys.all V.sc=true)
  (hw:vs[i']? =some w) (hww:w= .agg (Zas x.cells (r+u) (nfL ys))) (ho:∀j,(j<off+u \/off+u+n<=j)->ow' j=ow j):off+u+n<=cs.length/\SegsS ι vs (spl ss i 1 [.many sn (.n i' false false)]) (Zas cs (off+u) ys) ow' 0:=by
 obtain⟨p,q',cp,cg,cq,e1,e2,e3,e4,e5,e6,e7,e8,e9⟩:=Zbk h hs
 simp only[Xao]at e2 e7 e8
 subst e1;subst e3;subst e2
 obtain⟨l,cs',v,f1,f2,f3,f4,f5,f6,f7⟩:=e7
 rw[show cs'=[]from f7,Xax]at f1
 obtain rfl:=ha v f5
 have hl:cg.length=v.cells.length:=by grind[Zaq]
 refine⟨by simp;omega, ?_⟩
 have hset:Zas (cp++(cg++cq)) (off+u) ys=cp++(Zas cg (r+u) ys++cq):=by
  simp only[Zas]
  rw[List.take_append,Xa1 (by omega),Xdi,Xas (by omega)]
  grind
 have hspl:spl (p++ .many sn a::q') p.length 1 [.many sn (.n i' false false)]=p++(.many sn (.n i' false false)::q'):=by
  simp_all[spl]
 rw[hset,hspl]
 have hsl:(Zas cg (r+u) ys).length=cg.length:=by simp[Zas];omega
 refine SegsS.app (.inl e5) (e6.shift fun i hi=> ?_) ⟨Zas cg (r+u) ys,cq,w,rfl,fun m hm=>by grind,fun hn=>e9 hn, ?_,hw, ?_,e8.shift fun i hi=> ?_⟩
 ·grind
 ·grind[Zas]
 ·simp_all[Zoe]
 grind
theorem Zra {ow ow':Nat->Bool}{ss:List Seg}{cs ys:List V}{off n r i i':Nat}{sn:Option Nat}{a:At}{w x:V}(h:SegsS ι vs ss cs ow 0)(hs:Zc6 ss off 0=some (.many sn a,r,i))(ha:∀w,AtV vs a w->w=x)(hle:r+n<=x.cells.length)(hn:ys.length=n)(hsc:ys.all V.sc=true)
  (hw:vs[i']? =some w) (hww:w= .agg (Zas x.cells r (nfL ys))) (ho:∀j,(j<off \/off+n<=j)->ow' j=ow j):off+n<=cs.length/\SegsS ι vs (spl ss i 1 [.many sn (.n i' false false)]) (Zas cs off ys) ow' 0:=
 Zo6 (u:=0) h hs ha hle hn hsc hw hww ho
end
variable {c:Fc}{ι:List Nat}{s:St}{S:PS V}
theorem Zw6 {X:Type}(S:PS X)(o:Nat)(ss:List Seg)(k:Nat):(S.setOb o ss).obj k=if k=o/\o<S.ob.length then some ss else S.obj k:=by
 grind[PS.obj,PS.setOb]
theorem Z7k {X:Type}{S:PS X}{o:Nat}{ss:List Seg}(h:S.obj o=some ss):o<S.ob.length:=by
 grind[PS.obj]
theorem Sat.given (h:Sat c S ι s){o id:Nat}(hι:ι[o]? =some id):id∈c.ids \/c.hs.nH<=id:=by
 rcases Xa6 o S.g with h1|h1
 ·rw[<-h.g]at h1
  have h2:=h.pre o _ (Xad h1)
  grind
 ·exact .inr (h.new o id hι h1)
theorem Sat.objUpdS (h:Sat c S ι s){o id:Nat}(hι:ι[o]? =some id){s':St}(htm:s'.tm=s.tm)(hown:∀t,s'.own (.slot t)=s.own (.slot t))(hnH:s'.nH=s.nH)
  (hoth:∀id',id'≠id->s'.H id'=s.H id'/\ ∀j,s'.own (.cell id' j)=s.own (.cell id' j)) {ss:List Seg} (hobs:ObS ι S.vals ss s'.H (fun j=>s'.own (.cell id j)) id):
  Sat c (S.setOb o ss) ι s' where
 tm t y hy:=by rw[htm,hown];exact h.tm t y hy
 ob k qs hk:=by
  rw[Zw6]at hk
  split at hk
  ·rename_i e
   cases hk
   rw[e.1]
   exact⟨id,hι,hobs⟩
  ·rename_i e
   obtain⟨id',h1,h2⟩:=h.ob k qs hk
   have hne:id'≠id:=fun he=>by
    subst he
    have hko:k=o:=(Xdw (Xak.1 h1).1 h.nd).1 (by rw[h1,hι])
    exact e ⟨hko,by simp_all[Z7k]⟩
   obtain⟨k1,k2⟩:=hoth id' hne
   exact⟨id',h1,h2.to (.refl _) (.refl _) k1 k2⟩
 nd:=h.nd
 lt id' hid:=by rw[hnH];exact h.lt id' hid
 len:=by simpa[PS.setOb]using h.len
 lits:=h.lits
 cln:=h.cln
 g:=h.g
 pre:=h.pre
 new:=h.new
 nH:=by rw[hnH];exact h.nH
 fr id' h1 h2:=by
  have hne:id'≠id:=by
   rcases h.given hι with h3|h3<;>grind
  obtain⟨k3,k4⟩:=h.fr id' h1 h2
  grind
theorem Sat.objUpd (h:Sat c S ι s){o id:Nat}(hι:ι[o]? =some id){s':St}(htm:s'.tm=s.tm)(hown:∀t,s'.own (.slot t)=s.own (.slot t))(hnH:s'.nH=s.nH)
  (hoth:∀id',id'≠id->s'.H id'=s.H id'/\ ∀j,s'.own (.cell id' j)=s.own (.cell id' j)) {ss:List Seg} {cs:List V} (hcs:Zap s'.H id=some cs) (hseg:SegsS ι S.vals ss cs (fun j=>s'.own (.cell id j)) 0):Sat c (S.setOb o ss) ι s':=
 h.objUpdS hι htm hown hnH hoth (.cs cs hcs hseg)
theorem Sat.newObS (h:Sat c S ι s){s':St}(htm:s'.tm=s.tm)(hown:∀t,s'.own (.slot t)=s.own (.slot t))(hnH:s'.nH=s.nH+1)(hoth:∀id',id'≠s.nH->s'.H id'=s.H id'/\ ∀j,s'.own (.cell id' j)=s.own (.cell id' j))
  {ss:List Seg} (hobs:ObS (ι++ [s.nH]) S.vals ss s'.H (fun j=>s'.own (.cell s.nH j)) s.nH):Sat c (S.newOb ss) (ι++ [s.nH]) s'/\(ι++ [s.nH])[S.ob.length]? =some s.nH where
 left:=
 {tm:=fun t y hy=>by
    rw[htm,hown];exact(h.tm t y hy).mono (.app _ _) (.refl _)
  ob:=fun k qs hk=>by
   have hk':(k<S.ob.length/\S.obj k=some qs) \/(k=S.ob.length/\qs=ss):=by
    grind[PS.obj,PS.newOb]
   rcases hk' with⟨hl,hk'⟩|⟨rfl,rfl⟩
   ·obtain⟨id,h1,h2⟩:=h.ob k qs hk'
    have hlt:=h.lt id (Xaj h1)
    obtain⟨k1,k2⟩:=hoth id (by omega)
    exact⟨id,PreN.app _ _ _ _ h1,h2.to (.app _ _) (.refl _) k1 k2⟩
   ·exact⟨s.nH,by rw[<-h.len];simp,hobs⟩
  nd:=by
   rw[List.nodup_append]
   refine⟨h.nd,by simp,fun a ha b hb=> ?_⟩
   simp at hb;have:=h.lt a ha;omega
  lt:=fun id hid=>by
   rcases Xaz.1 hid with hid|hid
   ·have:=h.lt id hid;omega
   grind
  len:=by simp[PS.newOb,h.len]
  lits:=h.lits
  cln:=h.cln
  g:=h.g
  pre:=fun k id hk=>PreN.app _ _ _ _ (h.pre k id hk)
  new:=fun k id hk hg=>by
   rw[Xcx]at hk
   split at hk
   ·exact h.new k id hk hg
   ·have:=Xaj hk
    simp at this;rw[this];exact h.nH
  nH:=by have:=h.nH;omega
  fr:=fun id h1 h2=>by
   have hne:id≠s.nH:=by have:=h.nH;omega
   obtain⟨k1,k2⟩:=h.fr id h1 h2
   grind}
 right:=by rw[<-h.len];simp
theorem Sat.newOb (h:Sat c S ι s){ss:List Seg}{cs:List V}(hseg:SegsS ι S.vals ss cs (fun _=>false) 0):Sat c (S.newOb ss) (ι++ [s.nH]) (s.new cs)/\(ι++ [s.nH])[S.ob.length]? =some s.nH:=
 h.newObS (s':=s.new cs) rfl (fun _=>rfl) rfl (fun id' hne=>⟨by simp_all,fun j=>by simp_all⟩)
  (.cs cs (by simp) ((hseg.mono (.app _ _) (.refl _)).shift fun i hi=>by simp_all))
theorem Zq6 {X:Type}(S:PS X)(t:Nat):(S.disown t).g=S.g:=by unfold PS.disown;split<;>rfl
theorem Sat.disown (h:Sat c S ι s)(t:Nat):Sat c (S.disown t) ι (s.take (some (.slot t))) where
 tm u y hy:=by
  have hv:(S.disown t).vals=S.vals:=by grind[PS.disown]
  rw[hv]
  unfold PS.disown at hy
  split at hy
  ·rename_i z hz
   simp only[PS.get,Zc5]at hy
   split at hy
   ·rename_i e
    subst e;cases hy
    exact(h.tm _ _ hz).noOwn _
   ·have:=h.tm u y hy
    rw[take_own,if_neg (by simp;omega)]
    exact this
  ·by_cases e:u=t
   ·grind
   ·rw[take_own,if_neg (by simpa using e)];exact h.tm u y hy
 ob k ss hk:=by
  have hv:(S.disown t).vals=S.vals:=by grind[PS.disown]
  have he:(S.disown t).obj k=S.obj k:=by unfold PS.disown;split<;>rfl
  rw[he]at hk
  obtain⟨id,h1,h2⟩:=h.ob k ss hk
  simp_all
 nd:=h.nd
 lt:=h.lt
 len:=by have:(S.disown t).ob=S.ob:=by grind[PS.disown]
         rw[this];exact h.len
 lits i b hb:=by
  grind[lits,PS.disown]
 cln x hx:=by
  have hv:(S.disown t).vals=S.vals:=by grind[PS.disown]
  rw[hv]at hx;exact h.cln x hx
 g:=by rw[Zq6];exact h.g
 pre:=h.pre
 new:=by rw[Zq6];exact h.new
 nH:=h.nH
 fr id h1 h2:=by
  obtain⟨k1,k2⟩:=h.fr id h1 h2
  simp_all
end Go.Abs
namespace Go.Abs
def ResS (ι:List Nat)(vs:List V):List At->V->Bool->Prop
 | [a],v,o=>AtS ι vs a v o
 |az,v,_=> ∃ws,v= .tup ws/\AtsS ι vs az ws
structure RetS (c:Fc)(rt:RT)(xs:List V)(v:V)(o:Bool)(hs':HS)(ι':List Nat):Prop where
 n:xs.length=rt.n
 cl:Zab xs=true
 pre:∀(k id:Nat),c.ids[k]? =some id->ι'[k]? =some id
 len:ι'.length=rt.ob.length
 nd:ι'.Nodup
 lt:∀id∈ι',id<hs'.nH
 new:∀(k id:Nat),ι'[k]? =some id->c.ids.length<=k->c.hs.nH<=id
 nH:c.hs.nH<=hs'.nH
 res:ResS ι' xs rt.res v o
 ob:∀(k:Nat) (ss:List Seg),rt.ob[k]? =some (some ss)-> ∃id,ι'[k]? =some id/\ObS ι' xs ss hs'.H (hs'.co id) id
 fr:Frame c hs'.H hs'.co
def dumV :List V->List V
 | []=> [.bool true]
 |xs=>xs
def Zum (n:Nat)(j:Nat)(xs:List V):V:=match n with|1=>oneV xs|_=>oneV (.int .i64 j::dumV xs)
def RetR (c:Fc)(rts:List RT)(r v:V)(o:Bool)(hs':HS):Prop:= ∃j rt xs ι',rts[j]? =some rt/\r=Zum rts.length j xs/\RetS c rt xs v o hs' ι'
structure RI (no:Nat)(ρ:List (Nat×Nat)):Prop where
 lk:∀k o,(k,o)∈ρ->lk ρ k=some o
 inj:∀k k' o,(k,o)∈ρ->(k',o)∈ρ->k=k'
 lt:∀k o,(k,o)∈ρ->k<no
def Agree (ρ:List (Nat×Nat))(ι ι':List Nat):Prop:=∀k o id,(k,o)∈ρ->ι[o]? =some id->ι'[k]? =some id
theorem Agree.sub {ρ ρ':List (Nat×Nat)}{ι ι':List Nat}(h:Agree ρ' ι ι')(hs:∀p∈ρ,p∈ρ'):Agree ρ ι ι':=fun k o id hk ho=>h k o id (hs _ hk) ho
theorem Zc3 {α:Type}:∀{l:List (Nat×α)} {t:Nat} {a:α},lk l t=some a->(t,a)∈l
 |(k,b)::l,t,a,h=>by
  rw[Zc5]at h
  split at h
  ·rename_i e;cases h;rw[e];simp
  ·exact Xbb _ (Zc3 h)
theorem Zqq {no:Nat}{ρ ρ':List (Nat×Nat)}{k o:Nat}(h:mO no ρ k o=some ρ')(hr:RI no ρ):RI no ρ'/\(∀p∈ρ,p∈ρ')/\(k,o)∈ρ':=by
 unfold mO at h
 split at h
 ·rename_i hk
  have hk':k<no:=Xa5 hk
  split at h
  ·grind[Nat.eq_of_beq_eq_true,Zc3]
  ·split at h
   ·cases h
   ·rename_i hany
    cases h
    have hno:∀k',(k',o)∉ρ:=fun k' hm=>by
     have:=Xcy.1 hany _ hm
     simp at this
    refine⟨⟨fun k1 o1 hm=> ?_,fun k1 k2 o1 h1 h2=> ?_,fun k1 o1 hm=> ?_⟩,fun p hp=>Xbb _ hp,by simp⟩
    ·rcases Xap.1 hm with e|hm
     ·grind[Zc5]
     ·have h1:=hr.lk _ _ hm
      grind[Zc5]
    ·rcases Xap.1 h1 with e1|h1<;>rcases Xap.1 h2 with e2|h2
     ·grind
     ·grind
     ·grind
     ·exact hr.inj _ _ _ h1 h2
    ·rcases Xap.1 hm with e|hm
     ·grind
     ·exact hr.lt _ _ hm
 ·cases h
theorem Z06 {no:Nat}:∀{T ps ρ ρ':List (Nat×Nat)},mPs no T ps ρ=some ρ'->RI no ρ->RI no ρ'/\(∀p∈ρ,p∈ρ')/\ ∀ι ι' cs,Agree ρ' ι ι'->PsS ι ps cs->PsS ι' T cs
 | [],[],ρ,ρ',h,hr=>by cases h;exact⟨hr,fun _ h=>h,fun _ _ _ _ h=>h⟩
 |(k,off)::T,(o,off')::ps,ρ,ρ',h,hr=>by
  simp only[mPs]at h
  split at h
  ·rename_i ρ1 hb h1
   obtain⟨q1,q2,q3⟩:=Zqq h1 hr
   obtain⟨q4,q5,q6⟩:=Z06 h q1
   refine⟨q4,fun p hp=>q5 _ (q2 _ hp),fun ι ι' cs ha hp=> ?_⟩
   obtain⟨id,cs',e1,e2,e3⟩:=hp
   exact⟨id,cs',ha _ _ _ (q5 _ q3) e1,by rw[Xag hb];exact e2,q6 _ _ _ ha e3⟩
  ·cases h
 | [],_::_,_,_,h,_=>by cases h
 |_::_,[],_,_,h,_=>by cases h
variable {Γ:Gam}{f:Nat}{c:Fc}{ι:List Nat}{s:St}{S:PS V}
theorem Z5t {m m' b:Bool}(h:(Bool.xor m m'|| !b)=false):m=m'/\b=true:=by cases m<;>cases m'<;>cases b<;>simp_all
theorem Zkp (h:Sat c S ι s){no:Nat}{T y:At}{ρ ρ':List (Nat×Nat)}{acc acc':List V}(hg:mAt (BV Γ f) S no T y ρ acc=some (ρ',acc'))(hr:RI no ρ):
  RI no ρ'/\(∀p∈ρ,p∈ρ')/\(∃l,acc'=acc++l)/\(∀v o,AtS ι S.vals y v o->(Zab acc=true->Zab acc'=true)/\ ∀ι' vs,Agree ρ' ι ι'->Pre acc' vs->AtS ι' vs T v o)/\
   (∀w,AtV S.vals y w->(Zab acc=true->Zab acc'=true)/\ ∀vs,Pre acc' vs->AtV vs T w):=by
 have last:∀{x:V} {i:Nat},i=acc.length->(acc++ [x])[i]? =some x:=fun e=>by rw[e];simp
 unfold mAt at hg
 split at hg
 ·split at hg
  ·rename_i ρ1 hb h1
   cases hg
   obtain⟨q1,q2,q3⟩:=Zqq h1 hr
   refine⟨q1,q2,⟨[],by simp⟩,fun v o hv=>⟨id,fun ι' vs ha _=> ?_⟩,fun w hw=>hw.elim⟩
   obtain⟨id,h4,h5⟩:=hv
   exact⟨id,ha _ _ _ q3 h4,by simp_all⟩
  ·cases hg
 ·split at hg
  ·rename_i hc
   simp only[Xai]at hc
   cases hg
   refine⟨hr,fun _ h=>h,⟨[],by simp⟩,fun v o hv=>⟨id,fun ι' vs _ _=> ?_⟩,fun w hw=>hw.elim⟩
   show v=_
   rw[Xag hc.1,Xag hc.2];exact hv
  ·cases hg
 ·split at hg
  ·rename_i ρ1 hc h1
   simp only[Xai]at hc
   obtain⟨⟨⟨b1,b2⟩,b3⟩,b4⟩:=hc
   cases hg
   obtain⟨q1,q2,q3⟩:=Zqq h1 hr
   refine⟨q1,q2,⟨[],by simp⟩,fun v o hv=>⟨id,fun ι' vs ha _=> ?_⟩,fun w hw=>hw.elim⟩
   obtain⟨id,h4,h5⟩:=hv
   rw[<-Xag b1, <-Xag b2, <-Xag b3, <-Xag b4]at h5
   exact⟨id,ha _ _ _ q3 h4,h5⟩
  ·cases hg
 ·split at hg
  ·rename_i x ρ1 hc hx h1
   simp only[Xai]at hc
   cases hg
   obtain⟨q1,q2,q3⟩:=Zqq h1 hr
   refine⟨q1,q2,⟨[x],rfl⟩,fun v o hv=>⟨fun hcl=>Zbf hcl (by simp only[Zab,h.cln _ (Xaj hx),Xcv]),fun ι' vs ha hp=> ?_⟩,fun w hw=>hw.elim⟩
   obtain⟨id,n,cap,h4,h5,h6,h7,h8⟩:=hv
   rw[hx]at h5;cases h5
   exact⟨id,n,cap,ha _ _ _ q3 h4,hp _ _ (last (Xag hc.1)),h6,by simp_all,h8⟩
  ·cases hg
 ·split at hg
  ·rename_i x y ρ1 hc hx hy h1
   simp only[Xai]at hc
   cases hg
   obtain⟨q1,q2,q3⟩:=Zqq h1 hr
   refine⟨q1,q2,⟨[x,y],rfl⟩,fun v o hv=>⟨fun hcl=>Zbf hcl (by simp only[Zab,h.cln _ (Xaj hx),h.cln _ (Xaj hy),Xcv]),fun ι' vs ha hp=> ?_⟩,fun w hw=>hw.elim⟩
   obtain⟨id,a,b,cap,h4,h5,h6,h7,h8,h9,h10⟩:=hv
   rw[hx]at h5;cases h5
   rw[hy]at h6;cases h6
   exact⟨id,a,b,cap,ha _ _ _ q3 h4,hp _ _ (by simp_all),hp _ _ (by simp_all),h7,h8,by simp_all,h10⟩
  ·cases hg
 ·split at hg
  ·rename_i y ρ1 hc hy h1
   simp only[Xai]at hc
   obtain⟨⟨b1,b2⟩,b3⟩:=hc
   cases hg
   obtain⟨q1,q2,q3⟩:=Zqq h1 hr
   refine⟨q1,q2,⟨[.int .i64 0,y],rfl⟩,fun v o hv=>⟨fun hcl=>Zbf hcl (by
    have hy':=h.cln _ (Xaj hy)
    simp only[Zab,hy',Xce]
    rfl),fun ι' vs ha hp=> ?_⟩,fun w hw=>hw.elim⟩
   obtain⟨id,n,cap,h4,h5,h6,h7,h8⟩:=hv
   rw[hy]at h5;cases h5
   exact⟨id,0,n,cap,ha _ _ _ q3 h4,hp _ _ (by grind[Nat.eq_of_beq_eq_true,BV]),hp _ _ (by simp_all),Int.le_refl _,h6,by simp_all,by simpa using h8⟩
  ·cases hg
 ·split at hg
  ·rename_i ρ1 hb h1
   cases hg
   obtain⟨b1,b2⟩:=Z5t hb
   obtain⟨q1,q2,q3⟩:=Z06 h1 hr
   refine⟨q1,q2,⟨[],by simp⟩,fun v o hv=>⟨id,fun ι' vs ha _=> ?_⟩,fun w hw=>hw.elim⟩
   obtain⟨cs,h4,h5⟩:=hv
   exact⟨cs,by simp_all,q3 _ _ _ ha h5⟩
  ·cases hg
 ·split at hg
  ·rename_i x hc hx
   simp only[Xai]at hc
   cases hg
   refine⟨hr,fun _ h=>h,⟨[x],rfl⟩,fun v o hv=>⟨fun hcl=>Zbf hcl (by simp only[Zab,h.cln _ (Xaj hx),Xcv]),fun ι' vs _ hp=> ?_⟩,fun w hw=>hw.elim⟩
   obtain⟨w,h1,h2⟩:=hv
   rw[hx]at h1;cases h1
   exact⟨x,hp _ _ (last (Xag hc.1)),by simp_all⟩
  ·cases hg
 ·split at hg
  ·rename_i x hc hx
   simp only[Xai,Xa4,Xb6]at hc
   obtain⟨⟨h1,h2⟩,h3⟩:=hc
   cases hg
   refine⟨hr,fun _ h=>h,⟨[x],rfl⟩,fun v o hv=> ?_,fun w hw=> ?_⟩
   ·obtain⟨rfl,hxc⟩:=h.val hv hx
    refine⟨fun hcl=>Zbf hcl (by simp_all),fun ι' vs _ hp=>⟨hp _ _ (last (Xag h1)),fun ho=> ?_,fun ho=> ?_⟩⟩
    ·rcases h2 with h2|h2
     ·grind
     ·exact hv.owned h2
    ·rcases h3 with h3|h3
     ·grind
     ·exact hv.one h3
   ·obtain⟨rfl,hxc⟩:=h.valV hw hx
    exact⟨fun hcl=>Zbf hcl (by simp_all),fun vs hp=>hp _ _ (last (Xag h1))⟩
  ·cases hg
 ·cases hg
  refine⟨hr,fun _ h=>h,⟨[],by simp⟩,fun v o hv=>⟨id,fun ι' vs _ _=> ?_⟩,fun w hw=>⟨id,fun vs _=> ?_⟩⟩
  ·exact⟨hv.1,rfl,fun h=>nomatch h⟩
  ·exact hw
 ·split at hg
  ·rename_i ρ1 h1
   cases hg
   obtain⟨q1,q2,q3⟩:=Zqq h1 hr
   refine⟨q1,q2,⟨[],by simp⟩,fun v o hv=>⟨id,fun ι' vs ha _=> ?_⟩,fun w hw=>hw.elim⟩
   obtain⟨id,h4,h5⟩:=hv
   exact⟨id,ha _ _ _ q3 h4,h5⟩
  ·cases hg
 ·split at hg
  ·rename_i x hc hx
   cases hg
   exact⟨hr,fun _ h=>h,⟨[x],rfl⟩,fun v o hv=>hv.elim,fun w hw=>hw.elim⟩
  ·cases hg
 ·cases hg
theorem Zg0 (h:Sat c S ι s){no:Nat}{ow:Nat->Bool}:∀{ss qs:List Seg} {cs:List V} {j:Nat} {ρ ρ':List (Nat×Nat)} {acc acc':List V},mSegs (BV Γ f) S no ss qs ρ acc=some (ρ',acc')->RI no ρ->SegsS ι S.vals qs cs ow j->
  RI no ρ'/\(∀p∈ρ,p∈ρ')/\(∃l,acc'=acc++l)/\(Zab acc=true->Zab acc'=true)/\ ∀ι' vs,Agree ρ' ι ι'->Pre acc' vs->SegsS ι' vs ss cs ow j
 | [],[],cs,j,ρ,ρ',acc,acc',hg,hr,hs=>by cases hg;exact⟨hr,fun _ h=>h,⟨[],by simp⟩,id,fun _ _ _ _=>hs⟩
 | .one a::ss, .one b::qs,cs,j,ρ,ρ',acc,acc',hg,hr,hs=>by
  simp only[mSegs]at hg
  split at hg
  ·rename_i ρ1 acc1 h1
   obtain⟨c',cs',e,q1,q2,q3⟩:=hs
   obtain⟨r1,r2,⟨l1,e1⟩,h3,_⟩:=Zkp h h1 hr
   obtain⟨h4,h5⟩:=h3 c' _ q1
   obtain⟨r3,r4,⟨l2,e2⟩,h6,h7⟩:=Zg0 h hg r1 q3
   exact⟨r3,fun p hp=>r4 _ (r2 _ hp),⟨l1++l2,by rw[e2,e1,Xar]⟩,fun hc=>h6 (h4 hc),fun ι' vs ha hp=>⟨c',cs',e,h5 ι' vs (ha.sub r4) (fun i x hi=>hp i x (by rw[e2];exact Pre.app _ _ i x hi)),q2,h7 ι' vs ha hp⟩⟩
  ·cases hg
 | .many (some n) a::ss, .many (some m) b::qs,cs,j,ρ,ρ',acc,acc',hg,hr,hs=>by
  simp only[mSegs]at hg
  split at hg
  ·rename_i ρ1 acc1 hn h1
   obtain⟨l,cs',w,e,q1,q2,q3,q4,q5,q6⟩:=hs
   obtain⟨r1,r2,⟨l1,e1⟩,_,h3⟩:=Zkp h h1 hr
   obtain⟨h4,h5⟩:=h3 w q4
   obtain⟨r3,r4,⟨l2,e2⟩,h6,h7⟩:=Zg0 h hg r1 q6
   exact⟨r3,fun p hp=>r4 _ (r2 _ hp),⟨l1++l2,by rw[e2,e1,Xar]⟩,fun hc=>h6 (h4 hc),fun ι' vs ha hp=>⟨l,cs',w,e,(by rw[Xag hn];exact q1),(fun hn=>by cases hn),q3,h5 vs (fun i x hi=>hp i x (by rw[e2];exact Pre.app _ _ i x hi)),q5,h7 ι' vs ha hp⟩⟩
  ·cases hg
 | .many none a::ss, .many none b::qs,cs,j,ρ,ρ',acc,acc',hg,hr,hs=>by
  simp only[mSegs]at hg
  split at hg
  ·rename_i ρ1 acc1 h1
   obtain⟨l,cs',w,e,q1,q2,q3,q4,q5,q6⟩:=hs
   obtain⟨r1,r2,⟨l1,e1⟩,_,h3⟩:=Zkp h h1 hr
   obtain⟨h4,h5⟩:=h3 w q4
   obtain⟨r3,r4,⟨l2,e2⟩,h6,h7⟩:=Zg0 h hg r1 q6
   refine⟨r3,fun p hp=>r4 _ (r2 _ hp),⟨l1++l2,by rw[e2,e1,Xar]⟩,fun hc=>h6 (h4 hc),fun ι' vs ha hp=>⟨l,cs',w,e,q1,fun hn=> ?_,q3,h5 vs (fun i x hi=>hp i x (by rw[e2];exact Pre.app _ _ i x hi)),q5,h7 ι' vs ha hp⟩⟩
   have:=q2 hn
   subst this
   cases ss with
   |nil=>rfl
   |cons _ _=>simp[mSegs]at hg
  ·cases hg
 | [],_::_,_,_,_,_,_,_,hg,_,_=>by grind[mSegs]
 |_::_,[],_,_,_,_,_,_,hg,_,_=>by grind[mSegs]
 | .one _::_, .many _ _::_,_,_,_,_,_,_,hg,_,_=>by grind[mSegs]
 | .many _ _::_, .one _::_,_,_,_,_,_,_,hg,_,_=>by grind[mSegs]
 | .many none _::_, .many (some _) _::_,_,_,_,_,_,_,hg,_,_=>by grind[mSegs]
 | .many (some _) _::_, .many none _::_,_,_,_,_,_,_,hg,_,_=>by grind[mSegs]
theorem Zy8 (h:Sat c S ι s){no:Nat}{H:Hp}{ow:Nat->Bool}{id:Nat}{ss qs:List Seg}{ρ ρ':List (Nat×Nat)}{acc acc':List V}(hg:mSegs (BV Γ f) S no ss qs ρ acc=some (ρ',acc'))(hr:RI no ρ)(ho:ObS ι S.vals qs H ow id):
  RI no ρ'/\(∀p∈ρ,p∈ρ')/\(∃l,acc'=acc++l)/\(Zab acc=true->Zab acc'=true)/\ ∀ι' vs,Agree ρ' ι ι'->Pre acc' vs->ObS ι' vs ss H ow id:=by
 cases ho with
 |cs cs hc hs=>
  obtain⟨u1,u2,u3,u4,u5⟩:=Zg0 h hg hr hs
  exact⟨u1,u2,u3,u4,fun ι' vs ha hp=> .cs cs hc (u5 ι' vs ha hp)⟩
 | @mp _ _ _ j l hl hs=>
  have key:∃i x,ss=[.one (.mpc i)]/\i=acc.length/\S.vals[j]? =some x/\ρ'=ρ/\acc'=acc++ [x]:=by
   cases ss with
   |nil=>grind[mSegs]
   |cons a r=>
    cases a with
    |many n a=>cases n<;>simp[mSegs]at hg
    |one a=>
     simp only[mSegs]at hg
     split at hg
     ·rename_i ρ1 acc1 h1
      have hr1:r=[]/\ρ'=ρ1/\acc'=acc1:=by
       grind[mSegs]
      cases a<;>simp only[mAt,PS.valA,reduceCtorEq]at h1
      ·grind
      grind[Nat.eq_of_beq_eq_true]
     ·cases hg
  obtain⟨i,x,rfl,hi,hx,rfl,rfl⟩:=key
  rw[hx]at hs
  cases hs
  refine⟨hr,fun _ h=>h,⟨_,rfl⟩,fun hcl=>Zbf hcl (by simp only[Zab,h.cln _ (Xaj hx),Xcv]),fun ι' vs _ hp=> .mp l hl (hp _ _ (by rw[hi];simp))⟩
theorem Zja (h:Sat c S ι s){no:Nat}:∀{T:List (Option (List Seg))} {k0:Nat} {ρ ρ':List (Nat×Nat)} {acc acc':List V},mObs (BV Γ f) S no T k0 ρ acc=some (ρ',acc')->RI no ρ->
  RI no ρ'/\(∀p∈ρ,p∈ρ')/\(∃l,acc'=acc++l)/\(Zab acc=true->Zab acc'=true)/\(∀k,k<T.length-> ∃o,(k0+k,o)∈ρ'/\o<S.ob.length)/\
   ∀(k:Nat) (ss:List Seg),T[k]? =some (some ss)-> ∃o id,(k0+k,o)∈ρ'/\ι[o]? =some id/\ ∀ι' vs,Agree ρ' ι ι'->Pre acc' vs->ObS ι' vs ss s.H (fun j=>s.own (.cell id j)) id
 | [],k0,ρ,ρ',acc,acc',hg,hr=>by cases hg<;>simp_all
 |q::T,k0,ρ,ρ',acc,acc',hg,hr=>by
  simp only[mObs]at hg
  split at hg
  ·rename_i o ho
   split at hg
   ·rename_i hlt
    have hlt':o<S.ob.length:=Xa5 hlt
    split at hg
    ·obtain⟨r1,r2,r3,r4,r5,r6⟩:=Zja h hg hr
     refine⟨r1,r2,r3,r4,fun k hk=> ?_,fun k ss hk=> ?_⟩
     ·cases k with
      |zero=>exact⟨o,r2 _ (Zc3 ho),hlt'⟩
      |succ k=>rw[show k0+(k+1)=k0+1+k by omega];exact r5 k (by simpa using hk)
     ·cases k with
      |zero=>simp at hk
      |succ k=>rw[show k0+(k+1)=k0+1+k by omega];exact r6 k ss (by simpa using hk)
    ·split at hg
     ·rename_i qs hqs
      split at hg
      ·rename_i ρ1 acc1 h1
       obtain⟨id,e1,e3⟩:=h.ob o qs hqs
       obtain⟨u1,u2,⟨l1,e4⟩,u4,u5⟩:=Zy8 h h1 hr e3
       obtain⟨r1,r2,⟨l2,e5⟩,r4,r5,r6⟩:=Zja h hg u1
       refine⟨r1,fun p hp=>r2 _ (u2 _ hp),⟨l1++l2,by rw[e5,e4,Xar]⟩,fun hc=>r4 (u4 hc),fun k hk=> ?_,fun k ss' hk=> ?_⟩
       ·cases k with
        |zero=>exact⟨o,r2 _ (u2 _ (Zc3 ho)),hlt'⟩
        |succ k=>rw[show k0+(k+1)=k0+1+k by omega];exact r5 k (by simpa using hk)
       ·cases k with
        |zero=>
         simp at hk;subst hk
         exact⟨o,id,r2 _ (u2 _ (Zc3 ho)),e1,fun ι' vs ha hp=>u5 ι' vs (ha.sub r2) (fun i x hi=>hp i x (by rw[e5];exact Pre.app _ _ i x hi))⟩
        |succ k=>rw[show k0+(k+1)=k0+1+k by omega];exact r6 k ss' (by simpa using hk)
      ·cases hg
     ·cases hg
   ·cases hg
  ·cases hg
theorem AtsS.get :∀{ι:List Nat} {vs:List V} {az:List At} {ws:List V},AtsS ι vs az ws->az.length=ws.length/\ ∀(t:Nat) (a:At),az[t]? =some a->AtS ι vs a (ws.getD t Nil) false
 |_,_,[],ws,h=>by rw[show ws=[]from h];grind
 |_,_,a::az,ws,⟨w,ws',e,h1,h2⟩=>by
  obtain⟨h3,h4⟩:=h2.get
  grind
theorem Zq2 (h:Sat c S ι s){no:Nat}{az:List At}{args:List V}(ha:AtsS ι S.vals az args):∀{tm:List (Nat×Sy)} {ρ ρ':List (Nat×Nat)} {acc acc':List V},mArgs (BV Γ f) S no az tm ρ acc=some (ρ',acc')->RI no ρ->
  RI no ρ'/\(∀p∈ρ,p∈ρ')/\(∃l,acc'=acc++l)/\(Zab acc=true->Zab acc'=true)/\ ∀p∈tm, ∀ι' vs,Agree ρ' ι ι'->Pre acc' vs->SyS ι' vs p.2 (args.getD p.1 Nil) false
 | [],ρ,ρ',acc,acc',hg,hr=>by cases hg<;>simp_all
 |(t, .at a)::tm,ρ,ρ',acc,acc',hg,hr=>by
  simp only[mArgs]at hg
  split at hg
  ·rename_i b hb
   split at hg
   ·rename_i ρ1 acc1 h1
    obtain⟨u1,u2,⟨l1,e1⟩,u4,_⟩:=Zkp h h1 hr
    obtain⟨u5,u6⟩:=u4 _ _ (ha.get.2 t b hb)
    obtain⟨r1,r2,⟨l2,e2⟩,r4,r5⟩:=Zq2 h ha hg u1
    refine⟨r1,fun p hp=>r2 _ (u2 _ hp),⟨l1++l2,by rw[e2,e1,Xar]⟩,fun hc=>r4 (u5 hc),fun p hp ι' vs hag hv=> ?_⟩
    rcases Xap.1 hp with rfl|hp
    ·exact u6 ι' vs (hag.sub r2) (fun i x hi=>hv i x (by rw[e2];exact Pre.app _ _ i x hi))
    ·exact r5 p hp ι' vs hag hv
   ·cases hg
  ·cases hg
 |(_, .agg _ _)::_,_,_,_,_,hg,_=>by cases hg
 |(_, .tup _)::_,_,_,_,_,hg,_=>by cases hg
def AtsO (ι:List Nat)(vs:List V):List At->List (V×Bool)->Prop
 | [],ps=>ps=[]
 |a::az,ps=> ∃p ps',ps=p::ps'/\AtS ι vs a p.1 p.2/\AtsO ι vs az ps'
theorem AtsO.ats {vs:List V}:∀{az:List At} {ps:List (V×Bool)},AtsO ι vs az ps->(∀p∈ps,p.2=false)->AtsS ι vs az (ps.map (·.1))
 | [],ps,h,_=>by rw[show ps=[]from h];rfl
 |a::az,ps,⟨p,ps',e,h1,h2⟩,hf=>by
  subst e
  exact⟨p.1,_,rfl,by grind,h2.ats fun q hq=>hf q (by simp[hq])⟩
theorem AtsO.noOwn {vs:List V}:∀{az:List At} {ps:List (V×Bool)},AtsO ι vs az ps->AtsO ι vs (az.map At.noOwn) (ps.map fun p=>(p.1,false))
 | [],ps,h=>by rw[show ps=[]from h];rfl
 |a::az,ps,⟨p,ps',e,h1,h2⟩=>by subst e;exact⟨(p.1,false),_,rfl,h1.noOwn _,h2.noOwn⟩
theorem AtsO.mono {ι':List Nat}{vs vs':List V}(k1:PreN ι ι')(k2:Pre vs vs'):∀{az:List At} {ps:List (V×Bool)},AtsO ι vs az ps->AtsO ι' vs' az ps
 | [],ps,h=>h
 |a::az,ps,⟨p,ps',e,h1,h2⟩=>⟨p,ps',e,h1.mono k1 k2,h2.mono k1 k2⟩
theorem AtsO.len {vs:List V}:∀{az:List At} {ps:List (V×Bool)},AtsO ι vs az ps->az.length=ps.length
 | [],ps,h=>by rw[show ps=[]from h];rfl
 |a::az,ps,⟨p,ps',e,h1,h2⟩=>by subst e;simp[h2.len]
theorem Zt7 (h:Sat c S ι s){no:Nat}:∀{T az:List At} {ws:List (V×Bool)} {ρ ρ':List (Nat×Nat)} {acc acc':List V},mAts (BV Γ f) S no T az ρ acc=some (ρ',acc')->RI no ρ->AtsO ι S.vals az ws->
  RI no ρ'/\(∀p∈ρ,p∈ρ')/\(∃l,acc'=acc++l)/\(Zab acc=true->Zab acc'=true)/\ ∀ι' vs,Agree ρ' ι ι'->Pre acc' vs->AtsO ι' vs T ws
 | [],[],ws,ρ,ρ',acc,acc',hg,hr,ha=>by cases hg;exact⟨hr,fun _ h=>h,⟨[],by simp⟩,id,fun _ _ _ _=>ha⟩
 |a::T,b::az,ws,ρ,ρ',acc,acc',hg,hr,ha=>by
  simp only[mAts]at hg
  split at hg
  ·rename_i ρ1 acc1 h1
   obtain⟨w,ws',e,k1,k2⟩:=ha
   obtain⟨u1,u2,⟨l1,e1⟩,u4,_⟩:=Zkp h h1 hr
   obtain⟨u5,u6⟩:=u4 _ _ k1
   obtain⟨r1,r2,⟨l2,e2⟩,r4,r5⟩:=Zt7 h hg u1 k2
   exact⟨r1,fun p hp=>r2 _ (u2 _ hp),⟨l1++l2,by rw[e2,e1,Xar]⟩,fun hc=>r4 (u5 hc),fun ι' vs hag hv=>⟨w,ws',e,u6 ι' vs (hag.sub r2) (fun i x hi=>hv i x (by rw[e2];exact Pre.app _ _ i x hi)),r5 ι' vs hag hv⟩⟩
  ·cases hg
 | [],_::_,_,_,_,_,_,hg,_,_=>by cases hg
 |_::_,[],_,_,_,_,_,hg,_,_=>by cases hg
def ιOf (no:Nat)(ρ:List (Nat×Nat))(ι:List Nat):List Nat:=(List.range no).map fun k=>match lk ρ k with|some o=>(ι[o]?).getD 0|none=>0
theorem Zhh {no:Nat}{ρ:List (Nat×Nat)}(hr:RI no ρ):Agree ρ ι (ιOf no ρ ι):=fun k o id hk ho=>by
 unfold ιOf
 rw[Xbe,Xd4 (hr.lt _ _ hk)]
 simp[hr.lk _ _ hk,ho]
theorem Zfo (no:Nat)(ρ:List (Nat×Nat))(ι:List Nat):(ιOf no ρ ι).length=no:=by simp[ιOf]
def Cov (no:Nat)(ρ:List (Nat×Nat))(ι:List Nat):Prop:=∀k,k<no-> ∃o id,(k,o)∈ρ/\ι[o]? =some id
theorem Zff {no:Nat}{ρ:List (Nat×Nat)}(hr:RI no ρ)(hc:Cov no ρ ι){k id:Nat}(h:(ιOf no ρ ι)[k]? =some id):∃o,(k,o)∈ρ/\ι[o]? =some id:=by
 have hk:k<no:=by grind[Zfo]
 obtain⟨o,id',h1,h2⟩:=hc k hk
 have:=Zhh hr k o id' h1 h2
 grind
theorem Zwc {no:Nat}{ρ:List (Nat×Nat)}(hr:RI no ρ)(hc:Cov no ρ ι)(hn:ι.Nodup):(ιOf no ρ ι).Nodup:=by
 refine Xa3.2 fun i j hi hj hij e0=> ?_
 have e:(ιOf no ρ ι)[i]? =(ιOf no ρ ι)[j]? :=by grind
 have hj':j<no:=by grind[Zfo]
 obtain⟨o,id,h1,h2⟩:=hc j hj'
 have h3:=Zhh hr j o id h1 h2
 rw[h3]at e
 obtain⟨o',h4,h5⟩:=Zff hr hc e
 have:o'=o:=(Xdw (Xak.1 h5).1 hn).1 (by rw[h5,h2])
 subst this
 have:=hr.inj _ _ _ h1 h4
 omega
theorem Zvp {X:Type}(T:PT)(xs:List X)(k:Nat):(T.start xs).obj k=match T.ob[k]? with|some (some ss)=>some ss|_=>none:=rfl
theorem RI.nil (no:Nat):RI no []:=⟨fun _ _ h=>(by cases h),fun _ _ _ h=>(by cases h),fun _ _ h=>(by cases h)⟩
theorem Z13 (h:Sat c S ι s){E:FE}{az:List At}{args:List V}{ρ:List (Nat×Nat)}{xs:List V}(hf:fitE (BV Γ f) S E az=some (ρ,xs))(ha:AtsS ι S.vals az args):
  args.length=E.ar/\xs.length=E.ent.n/\RI E.ent.g ρ/\Cov E.ent.g ρ ι/\Sat ⟨ιOf E.ent.g ρ ι,s.hs⟩ (E.ent.start xs) (ιOf E.ent.g ρ ι) (St.initH args s.hs):=by
 unfold fitE at hf
 split at hf
 ·rename_i hb
  simp only[Xai]at hb
  have hn1:=Xag hb.1
  have hn2:=Xag hb.2
  split at hf
  ·rename_i ρ1 acc1 h1
   split at hf
   ·rename_i ρ2 xs2 h2
    split at hf
    ·rename_i hx
     cases hf
     obtain⟨r1,r2,⟨l1,e1⟩,r4,r5⟩:=Zq2 h ha h1 (RI.nil _)
     obtain⟨u1,u2,⟨l2,e2⟩,u4,u5,u6⟩:=Zja h h2 r1
     have hcov:Cov E.ent.g ρ ι:=fun k hk=>by
      obtain⟨o,h3,h4⟩:=u5 k (by omega)
      rw[Xao]at h3
      rw[<-h.len]at h4
      exact⟨o,_,h3,Xad h4⟩
     have hag:=Zhh (ι:=ι) u1
     refine⟨by rw[<-ha.get.1];exact hn1,Xag hx,u1,hcov, ?_⟩
     exact{
      tm:=fun t y hy=>by
       have:=r5 (t,y) (Zc3 hy) _ xs (hag.sub u2) (by grind[Pre.app])
       exact this
      ob:=fun k ss hk=>by
       rw[Zvp]at hk
       have hk':E.ent.ob[k]? =some (some ss):=by
        grind
       obtain⟨o,id,h3,h4,h6⟩:=u6 k ss hk'
       rw[Xao]at h3
       exact⟨id,hag _ _ _ h3 h4,h6 _ xs hag (.refl _)⟩
      nd:=Zwc u1 hcov h.nd
      lt:=fun id hid=>by
       obtain⟨k,hk⟩:=Xbv.1 hid
       obtain⟨o,_,h4⟩:=Zff u1 hcov hk
       exact h.lt id (Xaj h4)
      len:=by rw[Zfo];exact hn2
      lits:=fun i b hb=>by cases hb
      cln:=fun x hx=>Zaj.1 (u4 (r4 rfl)) x hx
      g:=Zfo _ _ _
      pre:=fun k id hk=>hk
      new:=fun k id hk hg=>by
       have:=(Xak.1 hk).1
       rw[Zfo]at this
       exact absurd this (Nat.not_lt.2 hg)
      nH:=Xae _
      fr:=fun id _ _=>⟨rfl,fun _=>rfl⟩}
    ·cases hf
   ·cases hf
  ·cases hf
 ·cases hf
theorem Zrv {az:List At}{E:FE}{q:List (Nat×Nat)×List V}:∀{l:List FE},pickE (BV Γ f) S az l=some (E,q)->E∈l/\fitE (BV Γ f) S E az=some q
 | [],h=>by cases h
 |E'::l,h=>by
  simp only[pickE]at h
  split at h
  ·rename_i q' hq
   cases h
   exact⟨by simp,hq⟩
  ·obtain⟨h1,h2⟩:=Zrv h
   exact⟨Xbb _ h1,h2⟩
theorem Zsl :∀{n k o:Nat} {p:Nat×Nat},p∈newR n k o<-> ∃j,j<n/\p=(k+j,o+j)
 |0,k,o,p=>by simp[newR]
 |n+1,k,o,p=>by
  simp only[newR,Xap,Zsl (n:=n)]
  constructor
  ·rintro(rfl|⟨j,hj,rfl⟩)
   ·exact⟨0,by omega,rfl⟩
   ·exact⟨j+1,by omega,by simp;omega⟩
  ·rintro⟨j,hj,rfl⟩
   cases j with
   |zero=>exact .inl rfl
   |succ j=>exact .inr ⟨j,by omega,by simp;omega⟩
theorem Zwt :∀{ρ:List (Nat×Nat)} {o k:Nat},rlk ρ o=some k->(k,o)∈ρ
 |(k',o')::ρ,o,k,h=>by
  simp only[rlk]at h
  split at h
  ·rename_i he;cases h;rw[Xag he];simp
  ·exact Xbb _ (Zwt h)
theorem Zqv :∀{ρ:List (Nat×Nat)} {o k:Nat},rlk ρ o=none->(k,o)∉ρ
 | [],_,_,_=>by simp
 |(k',o')::ρ,o,k,h=>by
  simp only[rlk]at h
  split at h
  ·cases h
  ·rename_i he
   intro hm
   rcases Xap.1 hm with e|hm
   ·cases e;rw[Xeb]at he;cases he
   ·exact Zqv h hm
theorem Zrf {α β:Type}(F:Nat->α->β):∀(l:List α) (i j:Nat),(mapI F i l)[j]? =(l[j]?).map (F (i+j))
 | [],i,j=>by simp[mapI]
 |a::l,i,j=>by
  cases j with
  |zero=>simp[mapI]
  |succ j=>simp only[mapI,List.getElem?_cons_succ,Zrf F l (i+1) j];rw[show i+1+j=i+(j+1)by omega]
theorem Zrk {α β:Type}(F:Nat->α->β):∀(l:List α) (i:Nat),(mapI F i l).length=l.length
 | [],_=>rfl
 |_::l,i=>by simp[mapI,Zrk F l]
def Back (ρ:List (Nat×Nat))(ι' ιn:List Nat):Prop:=∀k o id,(k,o)∈ρ->ι'[k]? =some id->ιn[o]? =some id
theorem Zux {ρ:List (Nat×Nat)}{ι' ιn:List Nat}(hb:Back ρ ι' ιn):∀{ps qs:List (Nat×Nat)} {cs:List V},rnPs ρ ps=some qs->PsS ι' ps cs->PsS ιn qs cs
 | [],qs,cs,h,hp=>by cases h;exact hp
 |(k,off)::ps,qs,cs,h,⟨id,cs',h1,h2,h3⟩=>by
  simp only[rnPs]at h
  split at h
  ·rename_i o q ho hq
   cases h
   exact⟨id,cs',hb _ _ _ (Zc3 ho) h1,h2,Zux hb hq h3⟩
  ·cases h
theorem Zl4 {ρ:List (Nat×Nat)}{ι' ιn:List Nat}(hb:Back ρ ι' ιn){vs xs:List V}{a a':At}(h:rnAt ρ vs.length a=some a'):(∀v o,AtS ι' xs a v o->AtS ιn (vs++xs) a' v o)/\ ∀w,AtV xs a w->AtV (vs++xs) a' w:=by
 have app:∀{i:Nat} {x:V},xs[i]? =some x->(vs++xs)[vs.length+i]? =some x:=fun h=>by
  grind
 cases a with
 |c v o=>cases h;exact⟨fun _ _ h=>h,fun _ h=>h⟩
 |n i o sc=>cases h;exact⟨fun _ _ h=>⟨app h.1,h.2⟩,fun _ h=>app h⟩
 |ptr k off=>
  simp only[rnAt]at h
  split at h
  ·rename_i o ho
   cases h
   exact⟨fun v o' ⟨id,h1,h2⟩=>⟨id,hb _ _ _ (Zc3 ho) h1,h2⟩,fun _ h=>h.elim⟩
  ·cases h
 |gp g off=>cases h;exact⟨fun _ _ h=>h,fun _ h=>h.elim⟩
 |el i off=>cases h;exact⟨fun v o ⟨x,h1,h2⟩=>⟨x,app h1,h2⟩,fun _ h=>h.elim⟩
 |osl k off n c s=>
  simp only[rnAt]at h
  split at h
  ·rename_i o ho
   cases h
   exact⟨fun v o' ⟨id,h1,h2⟩=>⟨id,hb _ _ _ (Zc3 ho) h1,h2⟩,fun _ h=>h.elim⟩
  ·cases h
 |osx k i s=>
  simp only[rnAt]at h
  split at h
  ·rename_i o ho
   cases h
   exact⟨fun v o' ⟨id,n,cap,h1,h2,h3⟩=>⟨id,n,cap,hb _ _ _ (Zc3 ho) h1,app h2,h3⟩,fun _ h=>h.elim⟩
  ·cases h
 |osc k off n i s=>cases h
 |osr k j i s=>cases h
 |osv k i j s=>cases h
 |fp m f ps=>
  simp only[rnAt]at h
  split at h
  ·rename_i q hq
   cases h
   exact⟨fun v o' ⟨cs,h1,h2⟩=>⟨cs,h1,Zux hb hq h2⟩,fun _ h=>h.elim⟩
  ·cases h
 |mpp k=>
  simp only[rnAt]at h
  split at h
  ·rename_i o ho
   cases h
   exact⟨fun v o' ⟨id,h1,h2⟩=>⟨id,hb _ _ _ (Zc3 ho) h1,h2⟩,fun _ h=>h.elim⟩
  ·cases h
 |mpc i=>exact⟨fun _ _ h=>h.elim,fun _ h=>h.elim⟩
 |ptd k b i sz=>cases h
 |gpd g b i sz=>cases h
 |nil=>cases h
theorem Zrp {ρ:List (Nat×Nat)}{ι' ιn:List Nat}(hb:Back ρ ι' ιn){vs xs:List V}:∀{az az':List At} {ws:List V},Zmq ρ vs.length az=some az'->AtsS ι' xs az ws->AtsS ιn (vs++xs) az' ws
 | [],az',ws,h,ha=>by cases h;exact ha
 |a::az,az',ws,h,⟨w,ws',e,h1,h2⟩=>by
  simp only[Zmq]at h
  split at h
  ·rename_i x l hx hl
   cases h
   exact⟨w,ws',e,(Zl4 hb hx).1 _ _ h1,Zrp hb hl h2⟩
  ·cases h
theorem Zir {ρ:List (Nat×Nat)}{ι' ιn:List Nat}(hb:Back ρ ι' ιn){vs xs:List V}{ow:Nat->Bool}:∀{ss ss':List Seg} {cs:List V} {j:Nat},Zhy ρ vs.length ss=some ss'->SegsS ι' xs ss cs ow j->SegsS ιn (vs++xs) ss' cs ow j
 | [],ss',cs,j,h,ha=>by cases h;exact ha
 | .one a::ss,ss',cs,j,h,⟨c,cs',e,h1,h2,h3⟩=>by
  simp only[Zhy]at h
  split at h
  ·rename_i x l hx hl
   cases h
   exact⟨c,cs',e,(Zl4 hb hx).1 _ _ h1,h2,Zir hb hl h3⟩
  ·cases h
 | .many n a::ss,ss',cs,j,h,⟨l',cs',w,e,h3,h4,h5,h6,h7,h8⟩=>by
  simp only[Zhy]at h
  split at h
  ·rename_i x l hx hl
   cases h
   exact⟨l',cs',w,e,h3,fun hn=>by have:=h4 hn;subst this;cases hl;rfl,h5,(Zl4 hb hx).2 _ h6,h7,Zir hb hl h8⟩
  ·cases h
theorem Zwr {ρ:List (Nat×Nat)}{ι' ιn:List Nat}(hb:Back ρ ι' ιn){vs xs:List V}{H:Hp}{ow:Nat->Bool}{id:Nat}{ss ss':List Seg}(h:Zhy ρ vs.length ss=some ss')(ho:ObS ι' xs ss H ow id):ObS ιn (vs++xs) ss' H ow id:=by
 cases ho with
 |cs cs hc hs=>exact .cs cs hc (Zir hb h hs)
 |mp l hl hs=>
  simp only[Zhy,rnAt,Xac]at h
  subst h
  exact .mp l hl (by grind)
theorem Zyv (h:Sat c S ι s){g:Nat}{ρ:List (Nat×Nat)}(hr:RI g ρ)(hcov:Cov g ρ ι){rt:RT}{xs:List V}{v:V}{o:Bool}{hs':HS}{ι':List Nat}(hR:RetS ⟨ιOf g ρ ι,s.hs⟩ rt xs v o hs' ι')(hg:g<=rt.ob.length):
  Sat c (S.after g ρ rt xs).2 (ι++ι'.drop g) (s.setHS hs')/\Back (S.after g ρ rt xs).1 ι' (ι++ι'.drop g):=by
 have hback:Back (S.after g ρ rt xs).1 ι' (ι++ι'.drop g):=by
  intro k o' id hm hid
  rcases Xaz.1 hm with hm|hm
  ·have hk:=hr.lt _ _ hm
   obtain⟨o2,id2,h1,h2⟩:=hcov k hk
   have:o2=o':=by have a:=hr.lk _ _ hm;have b:=hr.lk _ _ h1;grind
   have h3:=hR.pre k id2 (Zhh hr _ _ _ h1 h2)
   grind
  ·obtain⟨j,hj,e⟩:=Zsl.1 hm
   cases e
   rw[<-h.len,Xcb (by omega),Xd8]
   grind
 refine⟨?_,hback⟩
 have hobl:(S.after g ρ rt xs).2.ob.length=S.ob.length+(rt.ob.length-g):=by
  grind[Zrk,PS.after]
 have hdrop:∀id∈ι'.drop g,s.nH<=id/\id<hs'.nH:=fun id hid=>by
  obtain⟨k,hk⟩:=Xbv.1 hid
  rw[Xd8]at hk
  exact⟨hR.new _ _ hk (by grind[Zfo]),hR.lt _ (Xaj hk)⟩
 have hnH:s.nH<=hs'.nH:=hR.nH
 have hids:∀id,id∈ιOf g ρ ι->id∈ι:=fun id hid=>by
  grind[List.mem_iff_getElem?,Zff]
 exact{
  tm:=fun t y hy=>(h.tm t y hy).mono (.app _ _) (.app _ _)
  ob:=fun k ss hk=>by
   have hk':(S.after g ρ rt xs).2.ob[k]? =some (some ss):=by
    grind[PS.obj]
   simp only[PS.after,Zrf,Xao,Xaa]at hk'
   obtain⟨q,hq,hq2⟩:=hk'
   split at hq2
   ·rename_i k' hk'
    unfold rnO at hq2
    split at hq2
    ·rename_i ss0 e0
     obtain⟨id,h1,h2⟩:=hR.ob k' ss0 e0
     exact⟨id,hback _ _ _ (Zwt hk') h1,Zwr hback hq2 h2⟩
    ·cases hq2
   ·rename_i hno
    rw[Xcx]at hq
    split at hq
    ·have hob:S.obj k=some ss:=by grind[PS.obj]
     obtain⟨id,h1,h2⟩:=h.ob k ss hob
     have hnot:id∉ιOf g ρ ι:=fun hm=>by
      obtain⟨k',hk'⟩:=Xbv.1 hm
      obtain⟨o',h4,h5⟩:=Zff hr hcov hk'
      have:o'=k:=(Xdw (Xak.1 h5).1 h.nd).1 (by rw[h5,h1])
      subst this
      exact Zqv hno (Xbh _ h4)
     obtain⟨f1,f2⟩:=hR.fr id (h.lt _ (Xaj h1)) hnot
     exact⟨id,PreN.app _ _ _ _ h1,h2.to (.app _ _) (.app _ _) f1 f2⟩
    grind
  nd:=by
   rw[List.nodup_append]
   exact⟨h.nd,hR.nd.sublist (Xdx _ _),fun a ha b hb e=>by subst e;have:=h.lt a ha;grind⟩
  lt:=fun id hid=>by
   show id<hs'.nH
   rcases Xaz.1 hid with hid|hid
   ·have:=h.lt id hid;omega
   grind
  len:=by rw[hobl,Xaf,Xc7,h.len,hR.len]
  lits:=fun i b hb=>Pre.app _ _ _ _ (h.lits i b hb)
  cln:=fun x hx=>by
   rcases Xaz.1 hx with hx|hx
   ·exact h.cln x hx
   ·exact Zaj.1 hR.cl x hx
  g:=h.g
  pre:=fun k id hk=>PreN.app _ _ _ _ (h.pre k id hk)
  new:=fun k id hk hgk=>by
   rw[Xcx]at hk
   split at hk
   ·exact h.new k id hk hgk
   ·have:=(hdrop id (Xaj hk)).1
    have:=h.nH;omega
  nH:=by show c.hs.nH<=hs'.nH;have:=h.nH;omega
  fr:=fun id h1 h2=>by
   have hnot:id∉ιOf g ρ ι:=fun hm=>by
    obtain⟨o',ho'⟩:=Xbv.1 (hids id hm)
    rcases h.given ho' with h3|h3<;>grind
   obtain⟨f1,f2⟩:=hR.fr id (by have:=h.nH;show id<s.nH;omega) hnot
   obtain⟨f3,f4⟩:=h.fr id h1 h2
   exact⟨f1.trans f3,fun j=>(f2 j).trans (f4 j)⟩}
end Go.Abs
namespace Go.Abs
structure GamOK (GA:Abs.Spec)(gl:Glob)(Γ:Gam)(ow:Cfg):Prop where
 p:∀f args r,Zab (nfL args)=true->Γ f 0 (nfL args)=some r-> ∃v o,GA.p f args=some (v,o)/\v.nf=r/\r.clean=true/\(ow.ow f=true->Own v o)
 c:∀f args r,GA.p f args=some r->Zab args=true
 h:∀f, ∀E∈ow.he f, ∀rts,E.ret=some rts-> ∀xs r,Γ E.k 1 xs=some r-> ∀args ι hs,args.length=E.ar->xs.length=E.ent.n->Sat ⟨ι,hs⟩ (E.ent.start xs) ι (St.initH args hs)->
  ∃v o hs',GA.h f args hs=some (v,o,hs')/\RetR ⟨ι,hs⟩ rts r v o hs'
 gl:∀g cs,ow.gl g=some cs->gl g=some cs/\nfL cs=cs/\Zab cs=true
variable {GA:Abs.Spec}{gl:Glob}{Γ:Gam}{f:Nat}{ow:Cfg}{c:Fc}{ι:List Nat}{s:St}{S:PS V}{d:Option Nat}{g:Option (Nat×Bool)}{a:List Nat}{r:V}{k:PS V->Option V}
def Res1 (c:Fc)(GA:Abs.Spec)(gl:Glob)(d:Option Nat)(op:AOp)(g:Option (Nat×Bool))(a:List Nat)(s:St)(k:PS V->Option V)(r:V):Prop:= ∃S' ι' s',k S'=some r/\exec1 GA gl ⟨d,op,g,a⟩ s=some s'/\Sat c S' ι' s'
theorem Sat.putN (h:Sat c S ι s){v z:V}{o own sc:Bool}(hz:v.nf=z)(hc:z.clean=true)(ho:own=true->Own v o)(hs:sc=true->v.sc=true):Sat c ((S.push z).put d (.at (.n S.nx own sc))) ι (s.put d v o):=by
 refine(h.push hc).put d ⟨?_,ho,hs⟩<;>grind[Zan]
theorem Za9 (h:Sat c S ι s){op:AOp}{p:Prim}{xs:List Opd}{own:Bool}(hp:Zi8 op=some (p,xs,own))(hk:doP (BV Γ f) S p xs d own k=some r):Res1 c GA gl d op g a s k r:=by
 obtain⟨ys,S1,h1,h2,h3,h4,h5⟩:=h.matL hk
 simp only[doX,BV,Xab]at h1
 obtain⟨z,hz,h1⟩:=h1
 obtain⟨v,o,q1,q2,q3,q4,q5⟩:=Z3f (Γ:=GA) (gl:=gl) (s:=s) (d:=d) (g:=g) (a:=a) hp h4 h5 hz
 exact⟨_,ι,_,h1,q1,h2.putN q2 q3 q4 q5⟩
theorem Zl2 {x:Opd}{kk:Sy->Option V}(hk:onO (BV Γ f) S x kk=some r):∃y,S.opd x=some y/\kk y=some r:=by
 unfold onO at hk
 split at hk
 ·grind
 ·cases hk
theorem Zfr (h:Sat c S ι s){x:Opd}{b:Bool}(hb:S.truth (S.opd x)=some b):evO s.tm x= .bool b:=by
 cases hx:S.opd x with
 |none=>rw[hx]at hb;cases hb
 |some y=>
  rw[hx]at hb
  have hy:=h.opd hx
  unfold PS.truth at hb
  split at hb
  ·rename_i e;cases hb;cases e
   exact Zci hy.1
  ·rename_i e;cases e
   have:=h.lits _ _ hb
   rw[hy.1]at this
   grind[Zci]
  ·cases hb
theorem Qaa (h:Sat c S ι s){x:Opd}(hk:op1 (BV Γ f) ow d (.mv x) S k=some r):Res1 c GA gl d (.mv x) g a s k r:=by
 obtain⟨y,hy,hk⟩:=Zl2 hk
 exact⟨_,ι,_,hk,e_mv x,h.put d ((h.opd hy).noOwn false)⟩
theorem Z4l (h:Sat c S ι s){t:Nat}(hk:op1 (BV Γ f) ow d (.mvo t) S k=some r):Res1 c GA gl d (.mvo t) g a s k r:=by
 simp only[op1]at hk
 split at hk
 ·rename_i y hy
  have hv:(S.disown t).vals=S.vals:=by grind[PS.disown]
  exact⟨_,ι,_,hk,Qap t,(h.disown t).put d (y:= .at y) (by rw[hv];exact h.tm t _ hy)⟩
 ·cases hk
theorem Z3p (h:Sat c S ι s){cd x y:Opd}(hk:op1 (BV Γ f) ow d (.pick cd x y) S k=some r):Res1 c GA gl d (.pick cd x y) g a s k r:=by
 simp only[op1]at hk
 split at hk
 ·rename_i hb
  obtain⟨z,hz,hk⟩:=Zl2 hk
  exact⟨_,ι,s.put d (evO s.tm x) false,hk,by rw[Zrz,Zfr h hb,Zfz];rfl,h.put d ((h.opd hz).noOwn false)⟩
 ·rename_i hb
  obtain⟨z,hz,hk⟩:=Zl2 hk
  exact⟨_,ι,s.put d (evO s.tm y) false,hk,by rw[Zrz,Zfr h hb,Zfz];rfl,h.put d ((h.opd hz).noOwn false)⟩
 ·obtain⟨ys,S1,h1,h2,h3,h4,h5⟩:=h.matL hk
  simp only[doX,BV,Xab]at h1
  obtain⟨z,hz,h1⟩:=h1
  subst h4
  simp only[Xan,Xa9,nfL,evp]at hz
  unfold Zql at hz
  split at hz
  ·rename_i t e
   cases hz
   simp only[Xan,Xa9,nfL,Zab,Xai,Xce]at h5
   cases t
   ·exact⟨_,ι,_,h1,by rw[Zrz,Zci e,Zfz];rfl,h2.putN (v:=evO s.tm y) (o:=false) rfl h5.2.2 (fun h=>Bool.noConfusion h) (fun h=>Bool.noConfusion h)⟩
   ·exact⟨_,ι,_,h1,by rw[Zrz,Zci e,Zfz];rfl,h2.putN (v:=evO s.tm x) (o:=false) rfl h5.2.1 (fun h=>Bool.noConfusion h) (fun h=>Bool.noConfusion h)⟩
  ·cases hz
theorem Z9y (h:Sat c S ι s){op:UnOp}{x:Opd}(hk:op1 (BV Γ f) ow d (.un op x) S k=some r):Res1 c GA gl d (.un op x) g a s k r:=by
 simp only[op1]at hk
 split at hk
 ·rename_i b hb
  refine⟨_,ι,_,hk,by rw[e_un,Zfr h hb];rfl,h.put d (y:=Zcp !b) (v:= .bool !b) (o:=false) ⟨rfl,rfl,fun h=>(nomatch h)⟩⟩
 ·exact Za9 h rfl hk
theorem Zt3 {x:V}{a b:Option V}(h:vif x a b=some r):(x= .bool true/\a=some r) \/(x= .bool false/\b=some r):=by
 unfold vif at h
 grind
theorem Zj2 {x:V}{a b:Option V}(h:vamb x a b=some r):(∃c sz,x= .sl c sz []/\a=some r/\b=some r) \/(∃c sz y l,x= .sl c sz (y::l)/\b=some r):=by
 unfold vamb at h
 grind
theorem Z1c {v:V}{a b:Option V}(h:vamb v.nf a b=some r):∃nl sz xs,v= .sl nl sz xs/\((nl=true/\a=some r) \/(nl=false/\b=some r)):=by
 rcases Zj2 h with⟨c,sz,e,h1,h2⟩|⟨c,sz,y,l,e,h1⟩
 ·grind[Zgw]
 ·obtain⟨_,nl,xs,e2,e3,e4⟩:=Zgw e
  cases nl
  ·grind
  ·rw[e4 rfl]at e3;cases e3
theorem Zs2 {op:BinOp}{nl:Bool}{sz s':Nat}{xs:List V}:abin op .slice (.sl nl sz xs) (.sl true s' [])=vEq op (some nl):=by
 grind[abin,aeq]
theorem Z6b (h:Sat c S ι s){op:BinOp}{q:EqK}{x y:Opd}(hk:op1 (BV Γ f) ow d (.bin op q x y) S k=some r):Res1 c GA gl d (.bin op q x y) g a s k r:=by
 simp only[op1]at hk
 split at hk
 ·have go:∀{sz:Nat} {b:Bool} {k1:V->PS V->Option V},(∀v S1,k1 v S1=vamb v (k (S1.put d (Zcp b))) (k (S1.put d (Zcp !b))))->(∀nl,vEq op (some nl)=some (.bool (if nl then b else !b)))->y= .const (.sl true sz [])->mat (BV Γ f) S (S.opd x) k1=some r->Res1 c GA gl d (.bin op .slice x y) g a s k r:=by
   intro sz b k1 hk1 hop hy hm
   cases hx:S.opd x with
   |none=>rw[hx]at hm;cases hm
   |some y'=>
    rw[hx]at hm
    obtain⟨S1,h1,h2,_,_⟩:=h.mat (h.opd hx) hm
    rw[hk1]at h1
    obtain⟨nl,sz',xs,e1,e2⟩:=Z1c h1
    have ex:∀c,(if nl then b else !b)=c->exec1 GA gl ⟨d, .bin op .slice x y,g,a⟩ s=some (s.put d (.bool c) false):=fun c hc=>by rw[Zu6,e1,hy,Zvk,Zs2,hop,hc];rfl
    rcases e2 with⟨rfl,e2⟩|⟨rfl,e2⟩
    ·exact⟨_,ι,_,e2,ex b rfl,h2.put d (y:=Zcp b) ⟨rfl,rfl,fun h=>(nomatch h)⟩⟩
    ·exact⟨_,ι,_,e2,ex (!b) rfl,h2.put d (y:=Zcp !b) ⟨rfl,rfl,fun h=>(nomatch h)⟩⟩
  have gq:∀{sz:Nat} (b:Bool) {n:Int} {id cap s':Nat},evO s.tm x= .osl id 0 n.toNat cap s'->vEq op (some false)=some (.bool b)->y= .const (.sl true sz [])->((BV Γ f).prim .chkd [.int .i64 n,(BV Γ f).c (.int .i64 0)] S.nx fun q=>k ((S.push q).put d (Zcp b)))=some r->Res1 c GA gl d (.bin op .slice x y) g a s k r:=by
   intro sz b n id cap s' e1 hop hy hm
   simp only[BV,Xab]at hm
   obtain⟨z,hz,hm⟩:=hm
   have hz':(if 0<=(0:Int)/\(0:Int)<n then some (V.int .i64 0)else none)=some z:=hz
   split at hz'
   ·cases hz'
    have hab:abin op .slice (.osl id 0 n.toNat cap s') (.sl true sz [])=some (.bool b):=by
     show(if n.toNat=0 then none else vEq op (some false))=_
     grind
    exact⟨_,ι,_,hm,by simp_all,(h.push rfl).put d (v:= .bool b) (o:=false) (y:=Zcp b) ⟨rfl,rfl,fun h=>(nomatch h)⟩⟩
   ·cases hz'
  split at hk
  ·split at hk
   ·rename_i hx
    obtain⟨id,n,cap,_,e2,_,e1,_⟩:=h.opd hx
    rw[e2]at hk
    exact gq false e1 rfl rfl hk
   ·exact go (b:=true) (fun _ _=>rfl) (fun nl=>by cases nl<;>rfl) rfl hk
  ·split at hk
   ·rename_i hx
    obtain⟨id,n,cap,_,e2,_,e1,_⟩:=h.opd hx
    rw[e2]at hk
    exact gq true e1 rfl rfl hk
   ·exact go (b:=false) (fun _ _=>rfl) (fun nl=>by cases nl<;>rfl) rfl hk
  ·cases hk
 ·split at hk
  ·rename_i o off w hx hy
   obtain⟨id,_,e1⟩:=h.opd hx
   have e2:evO s.tm y= .nilptr:=Zdo (h.opd hy).1
   split at hk
   ·exact⟨_,ι,_,hk,by rw[Zu6,e1,e2];rfl,h.put d (v:= .bool false) (o:=false) ⟨rfl,rfl,fun h=>(nomatch h)⟩⟩
   ·exact⟨_,ι,_,hk,by rw[Zu6,e1,e2];rfl,h.put d (v:= .bool true) (o:=false) ⟨rfl,rfl,fun h=>(nomatch h)⟩⟩
   ·cases hk
  ·rename_i w w' hx hy
   have e1:evO s.tm x= .nilptr:=Zdo (h.opd hx).1
   have e2:evO s.tm y= .nilptr:=Zdo (h.opd hy).1
   split at hk
   ·exact⟨_,ι,_,hk,by rw[Zu6,e1,e2];rfl,h.put d (v:= .bool true) (o:=false) ⟨rfl,rfl,fun h=>(nomatch h)⟩⟩
   ·exact⟨_,ι,_,hk,by rw[Zu6,e1,e2];rfl,h.put d (v:= .bool false) (o:=false) ⟨rfl,rfl,fun h=>(nomatch h)⟩⟩
   ·cases hk
  ·cases hk
 ·split at hk
  ·rename_i v _ w _ hx hy
   split at hk
   ·rename_i z hz
    obtain⟨e1,_⟩:=h.opd hx
    obtain⟨e2,_⟩:=h.opd hy
    have hf:=Zlx (Zms hz)
    exact⟨_,ι,s.put d z false,hk,by simp_all[Zwg],h.put d (y:= .at (.c z false)) ⟨hf.1,hf.2.1,fun h=>nomatch h⟩⟩
   ·cases hk
  ·refine Za9 h ?_ hk
   cases q<;>first|rfl|grind|grind
theorem Z6s (h:Sat c S ι s){sb:Bool}{x:Opd}(hk:op1 (BV Γ f) ow d (.len sb x) S k=some r):Res1 c GA gl d (.len sb x) g a s k r:=by
 simp only[op1]at hk
 split at hk
 ·rename_i o off n c sz hx
  obtain⟨id,_,e1⟩:=h.opd hx
  exact⟨_,ι,_,hk,by simp_all,h.put d (v:= .int .i64 n) (o:=false) ⟨rfl,rfl,fun h=>(nomatch h)⟩⟩
 ·rename_i o i sz hx
  obtain⟨id,n,cap,_,e2,e3,e1,_⟩:=h.opd hx
  exact⟨_,ι,_,hk,by simp_all,h.put d (v:= .int .i64 n.toNat) (o:=false) ⟨by rw[e2,Int.toNat_of_nonneg e3];rfl,fun h=>(nomatch h),fun _=>rfl⟩⟩
 ·rename_i o i j sz hx
  split at hk
  ·rename_i a b ha hb
   obtain⟨id,a',b',cap,_,e2,e3,e4,e5,e1,_⟩:=h.opd hx
   rw[ha]at e2;cases e2
   rw[hb]at e3;cases e3
   simp only[doX,BV,Xab]at hk
   obtain⟨z,hz,h1⟩:=hk
   simp only[evp,Z4r]at hz
   rw[if_pos ⟨e4,e5⟩]at hz
   cases hz
   have hn:((b'.toNat-a'.toNat:Nat):Int)=b'-a':=by omega
   exact⟨_,ι,s.put _ (.int .i64 ((b'.toNat-a'.toNat:Nat):Int)) false,h1,by simp_all,h.putN (by rw[hn];rfl) rfl (fun h=>nomatch h) (fun _=>rfl)⟩
  ·cases hk
 ·exact Za9 h rfl hk
theorem Zil {n:Nat}{v:V}{xs:List V}{j:V}(hxs: [v.nf]=xs)(h:evp (.chk n) xs=some j):∃kd m,v= .int kd m/\j= .int kd m/\0<=m/\m<n:=by
 simp only[evp,vChk]at h
 grind[Zb3]
theorem Zm8 {n:Int}{v:V}{xs:List V}{j:V}(hxs: [v.nf]=xs)(h:evp .chkd (.int .i64 n::xs)=some j):∃kd m,v= .int kd m/\j= .int kd m/\0<=m/\m<n:=by
 simp only[evp]at h
 unfold Z5z at h
 grind[Zb3]
theorem Zug {n:Int}{v:V}{xs:List V}{j:V}(hxs: [v.nf]=xs)(h:evp .chkl (.int .i64 n::xs)=some j):∃kd m,v= .int kd m/\j= .int .i64 m/\0<=m/\m<=n:=by
 simp only[evp]at h
 unfold Z7s at h
 grind[Zb3]
theorem Zur {a b:Int}{v:V}{xs:List V}{j:V}(hxs: [v.nf]=xs)(h:evp .vidx (.int .i64 a:: .int .i64 b::xs)=some j):∃kd m,v= .int kd m/\j= .int .i64 (a+m)/\0<=a/\0<=m/\a+m<b:=by
 subst hxs
 simp only[evp]at h
 cases hv:v.nf<;>rw[hv]at h<;>simp only[Z7t,reduceCtorEq]at h
 grind[Zb3]
theorem Zjx {a b:Int}{v:V}{xs:List V}{j:V}(hxs: [v.nf]=xs)(h:evp .vadd (.int .i64 a:: .int .i64 b::xs)=some j):∃kd m,v= .int kd m/\j= .int .i64 (a+m)/\0<=a/\0<=m/\a+m<=b:=by
 subst hxs
 simp only[evp]at h
 cases hv:v.nf<;>rw[hv]at h<;>simp only[Z6w,reduceCtorEq]at h
 grind[Zb3]
theorem Zxw (h:Sat c S ι s){sz:Nat}{x i:Opd}(hk:op1 (BV Γ f) ow d (.iaddr sz x i) S k=some r):Res1 c GA gl d (.iaddr sz x i) g a s k r:=by
 simp only[op1]at hk
 split at hk
 ·rename_i o j0 s' hx
  split at hk
  ·rename_i n hs hn
   obtain rfl:=Xag hs
   obtain⟨id,m0,cap,hid,e2,e3,e1,_⟩:=h.opd hx
   rw[hn]at e2;cases e2
   obtain⟨ys,S1,h1,h2,h3,h4,h5⟩:=h.matL hk
   simp only[BV,Xab]at h1
   obtain⟨j,hj,h1⟩:=h1
   obtain⟨kd,m,e5,rfl,h6⟩:=Zm8 h4 hj
   refine⟨_,ι,_,h1,by rw[Zp6,e1,e5];simp only[Zd8];rw[if_pos ⟨h6.1,by omega,trivial⟩];rfl,(h2.push (x:= .int kd m) rfl).put d (v:= .ptr id (0+m.toNat*s')) (o:=false) ⟨id,kd,m,hid,Zan _ _,rfl⟩⟩
  ·cases hk
 ·rename_i o i' j' s' hx
  split at hk
  ·rename_i va vb hs ha hb
   obtain rfl:=Xag hs
   obtain⟨id,p,q,cap,hid,e2,e3,e4,e5,e1,_⟩:=h.opd hx
   rw[ha]at e2;cases e2
   rw[hb]at e3;cases e3
   obtain⟨ys,S1,h1,h2,h3,h4,h5⟩:=h.matL hk
   simp only[BV,Xab]at h1
   obtain⟨j,hj,h1⟩:=h1
   obtain⟨kd,m,e6,rfl,h6,h7,h8⟩:=Zur h4 hj
   refine⟨_,ι,_,h1,by rw[Zp6,e1,e6];simp only[Zd8];rw[if_pos ⟨h7,by omega,trivial⟩];rfl,(h2.push (x:= .int .i64 (p+m)) rfl).put _ (v:= .ptr id (p.toNat*s'+m.toNat*s')) (o:=false) ⟨id, .i64,p+m,hid,Zan _ _, ?_⟩⟩
   rw[Xao, <-Xb8]
   grind
  ·cases hk
 ·rename_i o off n c sz' hx
  split at hk
  ·rename_i hs
   obtain rfl:=Xag hs
   obtain⟨id,hid,e1⟩:=h.opd hx
   obtain⟨ys,S1,h1,h2,h3,h4,h5⟩:=h.matL hk
   simp only[BV,Xab]at h1
   obtain⟨j,hj,h1⟩:=h1
   obtain⟨kd,m,e2,rfl,h6⟩:=Zil h4 hj
   refine⟨_,ι,_,h1,by simp_all[Zd8],(h2.push (x:= .int kd m) rfl).put d (v:= .ptr id (off+m.toNat*sz')) (o:=false) ⟨id,kd,m,hid,Zan _ _,rfl⟩⟩
  ·cases hk
 ·obtain⟨ys,S1,h1,h2,h3,h4,h5⟩:=h.matL hk
  simp only[BV,Xab]at h1
  obtain⟨e,he,h1⟩:=h1
  subst h4
  simp only[Xan,Xa9,nfL,evp]at he
  unfold Z2n at he
  split at he
  ·rename_i b s' xs kd m e1 e2
   obtain⟨_,nl,ws,e3,rfl,hn⟩:=Zgw e1
   split at he
   ·rename_i hc
    obtain⟨hc1,rfl⟩:=hc
    rw[Zfg,Xaa]at he
    obtain⟨w,hw,rfl⟩:=he
    have hnl:nl=false:=by grind
    subst hnl
    have hcl:w.nf.clean=true:=by
     simp only[Xan,Xa9,nfL,Zab,Xai,e1,V.clean]at h5
     exact Zj7 h5.1 (by rw[Zfg,hw];rfl)
    refine⟨_,ι,_,h1,by rw[Zp6,e3,Zb3 e2,Zu4,if_pos ⟨hc1,rfl⟩,hw];rfl,(h2.push hcl).put d (v:= .el w.cells 0) (o:=false) ⟨w.nf,Zan _ _, ?_⟩⟩
    show V.el (nfL w.cells) 0=_
    rw[Zbs]
   ·cases he
  ·cases he
theorem Z3t (h:Sat c S ι s){o off n:Nat}{k:PS V->Option V}(hk:coal (BV Γ f) S o off n k=some r):∃S',k S'=some r/\Sat c S' ι s/\S'.tm=S.tm:=by
 unfold coal at hk
 split at hk
 ·rename_i ss hss
  split at hk
  ·grind
  ·rename_i a' i hs
   split at hk
   ·rename_i q hq
    split at hk
    ·rename_i ns xs hsv
     simp only[BV,evp,Xab,Xaa]at hk
     obtain⟨x,⟨l,hl,rfl⟩,hk⟩:=hk
     obtain⟨id,cs,q1,q2,q3⟩:=h.cob o ss hss
     obtain⟨p,q',cp,cg,cq,e1,e2,e3,e4,e5,e6,e7,e8,e9⟩:=Zbk q3 hs
     simp only[Xao]at e2 e4 e7 e8
     have hr:SegsS ι S.vals (.one a'::q') (cg++cq) (fun j=>s.own (.cell id j)) cp.length:=SegsS.app (p:=[.one a']) (q:=q') (.inl fun s' hs'=>by simp at hs';rw[hs'];rfl) e7 e8
     have hd:ss.drop i= .one a'::q':=by grind
     rw[hd]at hq hsv
     obtain⟨c1,c2,k1,k2,k3,k4,k5,k6⟩:=Zcs hr hq
     obtain⟨rfl,hc⟩:=h.segVals k5 hsv hl
     have hcl:(V.agg (nfL c1)).clean=true:=Ze7 hl hc
     have q3':=q3.mono (PreN.refl ι) (Ext.push S (V.agg (nfL c1))).pre
     have hsc:=k5.all_sc
     have hms:SegsS ι (S.push (V.agg (nfL c1))).vals [.many (some n) (.n S.nx false false)] c1 (fun j=>s.own (.cell id j)) off:=⟨c1,[], .agg (nfL c1),by simp,fun m hm=>by grind,fun h=>by(cases h),hsc,Zan _ _,rfl,rfl⟩
     have hspl:=(Zm0 (ow':=fun j=>s.own (.cell id j)) q3' hs (by rw[hd];exact hq) hms k2 (.inl fun s' hs'=>by simp at hs';rw[hs'];rfl) fun _ _=>rfl).2
     have hset:Zas cs off c1=cs:=by
      grind[List.length_append,Zas]
     rw[hset]at hspl
     exact⟨_,hk,(h.push hcl).objUpd (s':=s) q1 rfl (fun _=>rfl) rfl (fun _ _=>⟨rfl,fun _=>rfl⟩) q2 hspl,rfl⟩
    ·cases hk
   ·cases hk
  ·cases hk
 ·cases hk
theorem Zwl {vs:List V}{l:List V}{n i:Nat}(hn:l.length=n)(hl:l.all V.sc=true)(hw:vs[i]? =some (.agg (nfL l)))(ow:Nat->Bool)(j:Nat):SegsS ι vs (mseg n (.n i false false)) l ow j:=by
 subst hn
 cases l with
 |nil=>rfl
 |cons x r=>exact⟨x::r,[], .agg (nfL (x::r)),by simp,fun m hm=>by(cases hm;rfl),fun h=>by(cases h),hl,hw,rfl,rfl⟩
theorem Zhg (n:Nat)(a:At):Zjy (mseg n a):=by
 cases n with
 |zero=>intro s hs;cases hs
 |succ n=>intro s hs;simp[mseg]at hs;rw[hs];rfl
theorem Zwa (h:Sat c S ι s){o off:Nat}{k:PS V->Option V}(hk:splitO (BV Γ f) S o off k=some r):∃S',k S'=some r/\Sat c S' ι s/\S'.tm=S.tm:=by
 unfold splitO at hk
 split at hk
 ·rename_i ss hss
  split at hk
  ·rename_i m a' q i hs
   split at hk
   ·rename_i x hx
    simp only[BV,evp,Xab]at hk
    obtain⟨y1,hy1,y0,hy0,y2,hy2,hk⟩:=hk
    obtain⟨id,cs,q1,q2,q3⟩:=h.cob o ss hss
    obtain⟨p,q',cp,cg,cq,e1,e2,e3,e4,e5,e6,e7,e8,e9⟩:=Zbk q3 hs
    simp only[Xao]at e2 e7 e8
    obtain⟨l,cs',w,f1,f2,f3,f4,f5,f6,f7⟩:=e7
    rw[show cs'=[]from f7,Xax]at f1
    subst f1
    obtain⟨rfl,hc⟩:=h.valV f5 hx
    rw[<-f6]at hy1 hy0 hy2
    unfold Zak at hy1 hy0 hy2
    simp only at hy1 hy0 hy2
    split at hy1
    rotate_left
    ·cases hy1
    split at hy2
    rotate_left
    ·cases hy2
    cases hy1;cases hy2
    rename_i hle1 hle2
    simp only[Zaq]at hle1 hle2
    have hlm:=f2 m rfl
    rw[Zfg,Xaa]at hy0
    obtain⟨v,hv,rfl⟩:=hy0
    have hcl:Zab (nfL cg)=true:=by grind[clean_cells]
    have A1:((nfL cg).drop 0).take q=nfL (cg.take q):=by grind[Zcb]
    have A2:((nfL cg).drop (q+1)).take (m-q-1)=nfL (cg.drop (q+1)):=by
     rw[Xa1 (by simp;omega),Zdf]
    rw[A1,A2]at hk
    have k1:(V.agg (nfL (cg.take q))).clean=true:=by simp_all[Zcb,Zbm]
    have k0:v.nf.clean=true:=Zaj.1 hcl _ (Xaj (by rw[Zfg,hv];rfl))
    have k2:(V.agg (nfL (cg.drop (q+1)))).clean=true:=by simp_all[Zdf,Zb5]
    have hsat:=((h.push k1).push k0).push k2
    have hpre:=(((Ext.push S (V.agg (nfL (cg.take q)))).trans (Ext.push _ v.nf)).trans (Ext.push _ (V.agg (nfL (cg.drop (q+1)))))).pre
    have hvs:v.sc=true:=Xav.1 f4 v (Xaj hv)
    have hcg:cg=cg.take q++(v::cg.drop (q+1)):=by
     grind[List.drop_eq_getElem_cons,List.take_append_drop]
    have hn:SegsS ι (((S.push (V.agg (nfL (cg.take q)))).push v.nf).push (V.agg (nfL (cg.drop (q+1))))).vals (mseg q (.n S.nx false false)++(.one (.n (S.nx+1) false true)::mseg (m-q-1) (.n (S.nx+2) false false))) cg (fun j=>s.own (.cell id j)) cp.length:=by
     have:=SegsS.app (ι:=ι) (vs:=(((S.push (V.agg (nfL (cg.take q)))).push v.nf).push (V.agg (nfL (cg.drop (q+1))))).vals) (ow:=fun j=>s.own (.cell id j)) (p:=mseg q (.n S.nx false false)) (cp:=cg.take q) (j:=cp.length) (q:= .one (.n (S.nx+1) false true)::mseg (m-q-1) (.n (S.nx+2) false false)) (cq:=v::cg.drop (q+1)) (.inl (Zhg _ _))
      (Zwl (by simp;omega) (Xav.2 fun x hx=>Xav.1 f4 x (Xcl hx)) (by simp[PS.push,PS.nx]) _ _)
      ⟨v,cg.drop (q+1),rfl,⟨by simp[PS.push,PS.nx],fun h=>(by cases h),fun _=>hvs⟩,hvs,Zwl (by simp;omega) (Xav.2 fun x hx=>Xav.1 f4 x (Xca hx)) (by simp[PS.push,PS.nx]) _ _⟩
     grind
    have hz:Zjy (mseg q (.n S.nx false false)++(Seg.one (.n (S.nx+1) false true)::mseg (m-q-1) (.n (S.nx+2) false false))):=by
     intro s' hs'
     rcases Xaz.1 hs' with h1|h1
     ·exact Zhg _ _ s' h1
     ·rcases Xap.1 h1 with h1|h1
      ·rw[h1];rfl
      ·exact Zhg _ _ s' h1
    have hall:=SegsS.app (.inl e5) (e6.mono (PreN.refl ι) hpre) (by rw[Xao];exact SegsS.app (.inl hz) hn (e8.mono (PreN.refl ι) hpre))
    rw[<-e3]at hall
    have hspl:spl ss i 1 (mseg q (.n S.nx false false)++(.one (.n (S.nx+1) false true)::mseg (m-q-1) (.n (S.nx+2) false false)))=p++((mseg q (.n S.nx false false)++(.one (.n (S.nx+1) false true)::mseg (m-q-1) (.n (S.nx+2) false false)))++q'):=by
     rw[e1,e2];simp[spl]
    rw[<-hspl]at hall
    exact⟨_,hk,hsat.objUpd (s':=s) q1 rfl (fun _=>rfl) rfl (fun _ _=>⟨rfl,fun _=>rfl⟩) q2 hall,rfl⟩
   ·cases hk
  grind
 ·cases hk
theorem Z3e (h:Sat c S ι s){n sz:Nat}{x i:Opd}(hk:op1 (BV Γ f) ow d (.iarr n sz x i) S k=some r):Res1 c GA gl d (.iarr n sz x i) g a s k r:=by
 simp only[op1]at hk
 split at hk
 ·rename_i o off kd j hx
  split at hk
  ·obtain⟨id,hid,e1⟩:=h.opd hx
   refine⟨_,ι,_,hk,by simp_all[Zp9],h.put d (v:= .ptr id (off+(Int.ofNat j).toNat*sz)) (o:=false) ⟨id,hid,rfl⟩⟩
  ·cases hk
 ·rename_i o off hx hno
  obtain⟨id,hid,e1⟩:=h.opd hx
  obtain⟨S0,hk,h0,_⟩:=Z3t h hk
  obtain⟨ys,S1,h1,h2,h3,h4,h5⟩:=h0.matL hk
  simp only[BV,Xab]at h1
  obtain⟨j,hj,h1⟩:=h1
  obtain⟨kd,m,e2,rfl,h6⟩:=Zil h4 hj
  exact⟨_,ι,_,h1,by simp_all[Zp9],(h2.push (x:= .int kd m) rfl).put d (v:= .ptr id (off+m.toNat*sz)) (o:=false) ⟨id,kd,m,hid,Zan _ _,rfl⟩⟩
 ·rename_i o off hx
  have e1:evO s.tm x= .gp o off:=h.opd hx
  obtain⟨ys,S1,h1,h2,h3,h4,h5⟩:=h.matL hk
  simp only[BV,Xab]at h1
  obtain⟨j,hj,h1⟩:=h1
  obtain⟨kd,m,e2,rfl,h6⟩:=Zil h4 hj
  exact⟨_,ι,_,h1,by simp_all[Zp9],(h2.push (x:= .int kd m) rfl).put d (v:= .gp o (off+m.toNat*sz)) (o:=false) ⟨kd,m,Zan _ _,rfl⟩⟩
 ·cases hk
theorem Zxz (h:Sat c S ι s){off:Nat}{x:Opd}(hk:op1 (BV Γ f) ow d (.faddr off x) S k=some r):Res1 c GA gl d (.faddr off x) g a s k r:=by
 simp only[op1]at hk
 split at hk
 ·rename_i o a' hx
  obtain⟨id,hid,e1⟩:=h.opd hx
  exact⟨_,ι,_,hk,by simp_all,h.put d (v:= .ptr id (a'+off)) (o:=false) ⟨id,hid,rfl⟩⟩
 ·rename_i i a' hx
  obtain⟨w,hw,e1⟩:=h.opd hx
  obtain⟨cs,e2,e3⟩:=Zyf e1
  exact⟨_,ι,_,hk,by simp_all,h.put d (v:= .el cs (a'+off)) (o:=false) ⟨w,hw,by rw[<-e3];rfl⟩⟩
 ·rename_i o b i sz hx
  obtain⟨id,kd,j,hid,hj,e1⟩:=h.opd hx
  exact⟨_,ι,_,hk,by simp_all,h.put d (v:= .ptr id (b+j.toNat*sz+off)) (o:=false) ⟨id,kd,j,hid,hj,by congr 1;omega⟩⟩
 ·rename_i g' a' hx
  have e1:evO s.tm x= .gp g' a':=h.opd hx
  exact⟨_,ι,_,hk,by simp_all,h.put d (v:= .gp g' (a'+off)) (o:=false) rfl⟩
 ·cases hk
theorem Z1i (h:Sat c S ι s){n sz:Nat}{x:Opd}{lo hi mx:Option Opd}(hk:op1 (BV Γ f) ow d (.slca n sz x lo hi mx) S k=some r):Res1 c GA gl d (.slca n sz x lo hi mx) g a s k r:=by
 simp only[op1]at hk
 split at hk
 ·rename_i o off hx
  split at hk
  ·rename_i ss hss
   split at hk
   ·rename_i m a' r i hs
    split at hk
    ·rename_i hm hpos
     obtain⟨id,hid,e1⟩:=h.opd hx
     obtain⟨id',cs,q1,q2,q3⟩:=h.cob o ss hss
     have hpos':0<n*sz:=Xa5 hpos
     have hm':r+n*sz<=m:=Xa5 hm
     have hle:off+n*sz<=cs.length:=by
      obtain⟨p,q',cp,cg,cq,e1',e2,e3,e4,e5,e6,e7,e8,e9⟩:=Zbk q3 hs
      obtain⟨l,cs',w,f1,f2,f3,f4,f5,f6,f7⟩:=e7
      grind
     refine⟨_,ι,_,hk, ?_,h.put d (v:= .osl id off n n sz) (o:=false) ⟨id,hid,rfl⟩⟩
     rw[Zzs,e1]
     have hne:cs≠ []:=fun e=>by grind
     simp_all[Zj5,vOpt,cut3]
    ·cases hk
   ·rename_i sg i _ hs
    split at hk
    ·rename_i q hq hpos
     obtain⟨id,hid,e1⟩:=h.opd hx
     obtain⟨id',cs,q1,q2,q3⟩:=h.cob o ss hss
     rw[hid]at q1;cases q1
     have hpos':0<n*sz:=Xa5 hpos
     have hle:off+n*sz<=cs.length:=by
      obtain⟨p,q',cp,cg,cq,e1',e2,e3,e4,e5,e6,e7,e8,e9⟩:=Zbk q3 hs
      simp only[Xao]at e2 e4 e7 e8
      have hd:ss.drop i=sg::q':=by grind
      have hr:SegsS ι S.vals (sg::q') (cg++cq) (fun j=>s.own (.cell id j)) cp.length:=by
       refine SegsS.app (p:=[sg]) (q:=q') ?_ e7 e8
       cases hsl:sg.len with
       |none=>grind
       |some m=>exact .inl fun s' hs'=>by grind
      grind[Zcs]
     refine⟨_,ι,_,hk, ?_,h.put d (v:= .osl id off n n sz) (o:=false) ⟨id,hid,rfl⟩⟩
     rw[Zzs,e1]
     have hne:cs≠ []:=fun e=>by grind
     simp_all[Zj5,vOpt,cut3]
    ·cases hk
   ·cases hk
  ·cases hk
 ·cases hk
theorem Zyi (h:Sat c S ι s){x:Opd}(hk:op1 (BV Γ f) ow d (.nilck x) S k=some r):Res1 c GA gl d (.nilck x) g a s k r:=by
 simp only[op1]at hk
 split at hk
 ·rename_i o a' hx
  obtain⟨id,hid,e1⟩:=h.opd hx
  exact⟨_,ι,_,hk,by rw[Zvh,e1];rfl,h.put d (v:= .ptr id a') (o:=false) ⟨id,hid,rfl⟩⟩
 ·rename_i i a' hx
  obtain⟨w,hw,e1⟩:=h.opd hx
  obtain⟨cs,e2,e3⟩:=Zyf e1
  exact⟨_,ι,_,hk,by rw[Zvh,e2];rfl,h.put d (v:= .el cs a') (o:=false) ⟨w,hw,by grind⟩⟩
 ·cases hk
theorem Ziw :∀{l:List V},Zab l=true->l.any V.isPtrV=false/\l.any V.isOsl=false
 | [],_=>⟨rfl,rfl⟩
 |v::l,h=>by
  simp only[Zab,Xai]at h
  obtain⟨h1,h2⟩:=Ziw h.2
  simp only[Xeh,h1,h2]
  cases v<;>first|exact⟨rfl,rfl⟩|(simp[V.clean]at h)
theorem Z48 {st:St}{f:Nat}{xs:List Opd}(hc:Zab (xs.map (evO st.tm))=true):exec1 GA gl ⟨d, .call f xs,g,a⟩ st=putC st d (GA.p f (xs.map (evO st.tm))):=by
 obtain⟨h1,h2⟩:=Ziw hc
 rw[Zv7]
 unfold Zke putR putC
 rw[h1,h2,if_neg (by simp),if_neg (by simp)]
 cases GA.p f (xs.map (evO st.tm))<;>rfl
theorem Z3c (h:Sat c S ι s){xs:List Opd}(ha:(xs.any fun x=>Zt8 (S.opd x))=true):(xs.map (evO s.tm)).any V.isOsl=true:=by
 obtain⟨x,hx,hy⟩:=Xdj.1 ha
 refine Xdj.2 ⟨_,Xcq hx, ?_⟩
 unfold Zt8 at hy
 split at hy
 ·rename_i e;obtain⟨id,_,e1⟩:=h.opd e;rw[e1];rfl
 ·rename_i e;obtain⟨id,_,_,_,_,_,_,_,e1⟩:=h.opd e;rw[e1];rfl
 ·rename_i e;obtain⟨id,_,_,_,_,_,e1,_⟩:=h.opd e;rw[e1];rfl
 ·rename_i e;obtain⟨id,_,_,_,_,_,_,_,_,e1,_⟩:=h.opd e;rw[e1];rfl
 ·cases hy
theorem Zlk (h:Sat c S ι s){o id off q i:Nat}{ss:List Seg}{sn:Option Nat}{a':At}(hid:ι[o]? =some id)(hss:S.cob o=some ss)(hs:Zc6 ss off 0=some (.many sn a',q,i)):
  ∃cs w,Zap s.H id=some cs/\AtV S.vals a' w/\ ∀j n,q+j+n<=w.cells.length->off+j+n<=cs.length/\nfL ((cs.drop (off+j)).take n)=(w.cells.drop (q+j)).take n:=by
 obtain⟨id',cs,q1,q2,q3⟩:=h.cob o ss hss
 rw[hid]at q1;cases q1
 obtain⟨p,q',cp,cg,cq,e1',e2,e3,e4,e5,e6,e7,e8,e9⟩:=Zbk q3 hs
 obtain⟨l,cs',w,f1,f2,f3,f4,f5,f6,f7⟩:=e7
 rw[show cs'=[]from f7,Xax]at f1
 subst f1;subst e3
 refine⟨_,w,q2,f5,fun j n hle=> ?_⟩
 rw[<-f6,Zaq]at hle
 refine⟨by simp;omega, ?_⟩
 rw[<-f6, <-Zdf, <-Zcb,e4]
 rw[Xdi,Xas (by omega),show cp.length+q+j-cp.length=q+j by omega,Xbl,Xbw (by omega),Xc8 (by simp;omega)]
theorem Zny (h:Sat c S ι s){o id:Nat}{w:V}(hid:ι[o]? =some id)(hw:rowVal (BV Γ f) S o=some w):∃cs,Zap s.H id=some cs/\nfL cs=w.cells/\cs.all V.sc=true/\w.clean=true:=by
 unfold rowVal at hw
 split at hw
 ·rename_i a' hss
  obtain⟨id',cs,q1,q2,q3⟩:=h.cob o _ hss
  rw[hid]at q1;obtain⟨l,cs',w',f1,f2,f3,f4,f5,f6,f7⟩:=q3
  rw[show cs'=[]from f7,Xax]at f1
  obtain⟨rfl,hc⟩:=h.valV f5 hw
  grind
 ·cases hw
theorem Z12 {v:V}(h:v.nf.flatR=true):v.nf=v:=by
 cases v<;>first|rfl|(simp[V.nf,V.flatR]at h)|skip
 rename_i nl sz xs
 cases nl<;>cases xs<;>simp[V.nf,V.flatR]at h
theorem nfL_flat :∀{l:List V},(nfL l).all V.flatR=true->nfL l=l
 | [],_=>rfl
 |v::r,h=>by
  simp only[nfL,Xcs,Xai]at h
  simp only[nfL,Z12 h.1,nfL_flat h.2]
theorem Zro {v:V}(h:v.nf.flatT=true):v.nf=v:=by
 cases v with
 |tup xs=>
  grind[nfL_flat,V.nf,V.flatT]
 |sl nl sz xs=>cases nl<;>cases xs<;>simp[V.nf,V.flatT,V.flatR]at h
 |_=>grind[V.nf,V.flatT,V.flatR]
theorem Zln {v:V}(h:v.nf.clean=true):v.isOsl0=false:=by
 cases v<;>first|rfl|grind[V.nf,V.clean]
theorem Zn7 {sz:Nat}:∀{n:Nat} {cs:List V},nfL (Zfp sz n cs)=Zfp sz n (nfL cs)
 |0,_=>rfl
 |n+1,cs=>by simp only[Zfp,nfL,V.nf,Zn7,Zcb,Zdf]
theorem Zzf {sz n:Nat}{cs:List V}:nfL (vRow sz n cs)=vRow sz n (nfL cs):=by
 grind[Zcb,Zn7,vRow]
theorem Zhv {sz:Nat}:∀{n:Nat} {cs:List V},Zab cs=true->Zab (Zfp sz n cs)=true
 |0,_,_=>rfl
 |n+1,cs,h=>by simp only[Zfp,Zab,V.clean,Zbm h,Zhv (Zb5 h _),Xcv]
theorem Zpb {sz n:Nat}{cs:List V}(h:Zab cs=true):Zab (vRow sz n cs)=true:=by
 grind[Zbm,Zhv,vRow]
theorem Zrs (h:Sat c S ι s){x:Opd}{o id sz:Nat}{w:V}(hid:ι[o]? =some id)(hw:rowVal (BV Γ f) S o=some w){a b:Int}{cap:Nat}{kk:V->PS V->Option V}(hk:(Zxf sz w (.int .i64 a) (.int .i64 b)).bind (fun z=>kk z (S.push z))=some r)
  (e1:evO s.tm x= .osl id (a.toNat*sz) (b.toNat-a.toNat) cap sz):
  ∃(u:Bool->V), ∃y S1,(kk y S1=some r/\Sat c S1 ι s/\Ext S S1/\(∀nl,y=(u nl).nf)/\y.clean=true/\(∀nl,Zf3 nl s.H (evO s.tm x)=some (u nl))/\(evO s.tm x).isPtrV=false):=by
 obtain⟨cs,q1,q2,q3,q4⟩:=Zny h hid hw
 simp only[Xab]at hk
 obtain⟨z,hz,hk⟩:=hk
 simp only[Zxf]at hz
 by_cases hle:0<=a/\a<=b/\b.toNat*sz<=w.cells.length
 ·rw[if_pos hle]at hz
  cases hz
  have hcl:(V.sl false sz (vRow sz (b.toNat-a.toNat) (w.cells.drop (a.toNat*sz)))).clean=true:=Zpb (Zb5 (clean_cells q4) _)
  rw[<-q2,Zaq]at hle
  have hm:b.toNat*sz=a.toNat*sz+(b.toNat-a.toNat)*sz:=by rw[<-Xb8];congr 1;omega
  refine⟨fun nl=>if b.toNat-a.toNat=0 then .sl nl sz []else .sl false sz (vRow sz (b.toNat-a.toNat) (cs.drop (a.toNat*sz))),_,_,hk,h.push hcl, .push _ _,fun nl=> ?_,hcl,fun nl=> ?_,by rw[e1];rfl⟩
  ·show V.sl false sz _=V.nf (if b.toNat-a.toNat=0 then .sl nl sz []else .sl false sz (vRow sz (b.toNat-a.toNat) (cs.drop (a.toNat*sz))))
   rw[<-q2, <-Zdf, <-Zzf]
   by_cases h0:b.toNat-a.toNat=0
   ·rw[if_pos h0,h0]
    have:vRow sz 0 (cs.drop (a.toNat*sz))=[]:=by unfold vRow;split<;>rfl
    rw[this]
    cases nl<;>rfl
   ·rw[if_neg h0];rfl
  grind[Zf3]
 grind
theorem Zrd (h:Sat c S ι s){x:Opd}{kk:V->PS V->Option V}(hk:snapO (BV Γ f) S (S.opd x) kk=some r):
  ∃(y:V) (S1:PS V) (u:Bool->V),kk y S1=some r/\Sat c S1 ι s/\Ext S S1/\(∀nl,y=(u nl).nf)/\y.clean=true/\(∀nl,Zf3 nl s.H (evO s.tm x)=some (u nl))/\(evO s.tm x).isPtrV=false/\((evO s.tm x).isOsl0=true->Zws (S.opd x)=true):=by
 unfold snapO at hk
 split at hk
 ·rename_i o off n cap hx
  split at hk
  ·rename_i ss hss hpos
   split at hk
   ·rename_i sn a' q i hs
    have hpos':0<n:=Xa5 hpos
    obtain⟨id,hid,e1⟩:=h.opd hx
    obtain⟨cs,w,p1,p2,p3⟩:=Zlk h hid hss hs
    simp only[mat]at hk
    split at hk
    ·rename_i x' hx'
     obtain⟨rfl,hwc⟩:=h.valV p2 hx'
     simp only[BV,Xab]at hk
     obtain⟨z,hz,hk⟩:=hk
     simp only[evp]at hz
     unfold Z4m at hz
     split at hz
     ·rename_i hle
      cases hz
      obtain⟨p4,p5⟩:=p3 0 n (by omega)
      simp only[Xea]at p4 p5
      have hcl:(V.sl false 1 ((x'.cells.drop q).take n)).clean=true:=Zbm (Zb5 (clean_cells hwc) q) n
      refine⟨_,_,fun _=> .sl false 1 ((cs.drop off).take n),hk,h.push hcl, .push _ _,fun _=> ?_,hcl,fun nl=> ?_,by rw[e1];rfl,fun h0=> ?_⟩
      ·rw[<-p5];rfl
      ·grind[Zf3,vRow]
      ·rw[e1]at h0
       cases n with
       |zero=>omega
       |succ n=>cases h0
     ·cases hz
    ·cases hk
   ·cases hk
  ·cases hk
 ·rename_i o off n i hx
  split at hk
  ·rename_i ss j hss hj
   split at hk
   ·rename_i sn a' q i' hs
    obtain⟨id,kd,m,cap,hid,e2,e3,e4,e1⟩:=h.opd hx
    rw[hj]at e2;cases e2
    obtain⟨cs,w,p1,p2,p3⟩:=Zlk h hid hss hs
    simp only[mat]at hk
    split at hk
    ·rename_i x' hx'
     obtain⟨rfl,hwc⟩:=h.valV p2 hx'
     simp only[BV,Xab]at hk
     obtain⟨z,hz,hk⟩:=hk
     simp only[evp]at hz
     unfold Z08 at hz
     simp only at hz
     by_cases hle:0<=m/\m<n/\q+n<=x'.cells.length
     ·rw[if_pos hle]at hz
      cases hz
      obtain⟨p4,p5⟩:=p3 m.toNat (n-m.toNat) (by omega)
      have hcl:(V.sl false 1 ((x'.cells.drop (q+m.toNat)).take (n-m.toNat))).clean=true:=Zbm (Zb5 (clean_cells hwc) _) _
      refine⟨_,_,fun _=> .sl false 1 ((cs.drop (off+m.toNat)).take (n-m.toNat)),hk,h.push hcl, .push _ _,fun _=> ?_,hcl,fun nl=> ?_,by rw[e1];rfl,fun h0=> ?_⟩
      ·rw[<-p5];rfl
      ·grind[Zf3,vRow]
      ·rw[e1]at h0
       obtain⟨q',hq'⟩:∃q',n-m.toNat=q'+1:=⟨n-m.toNat-1,by omega⟩
       rw[hq']at h0;cases h0
     grind
    ·cases hk
   ·cases hk
  ·cases hk
 ·rename_i o j sz hx
  split at hk
  ·rename_i w n hw hn
   obtain⟨id,m,cap,hid,e2,e3,e1,e4⟩:=h.opd hx
   rw[hn]at e2;cases e2
   obtain⟨cs,q1,q2,q3,q4⟩:=Zny h hid hw
   simp only[BV,Xab]at hk
   obtain⟨z,hz,hk⟩:=hk
   simp only[evp,Zzw]at hz
   by_cases hle:0<=m/\m.toNat<=w.cells.length
   ·rw[if_pos hle]at hz
    cases hz
    have hcl:(V.sl false 1 (w.cells.take m.toNat)).clean=true:=Zbm (clean_cells q4) _
    rw[<-q2,Zaq]at hle
    refine⟨_,_,fun nl=>if m.toNat=0 then .sl nl 1 []else .sl false 1 ((cs.drop 0).take m.toNat),hk,h.push hcl, .push _ _,fun nl=> ?_,hcl,fun nl=> ?_,by rw[e1];rfl,fun _=>by rw[hx];rfl⟩
    ·rw[<-q2, <-Zcb]
     simp only[Xbq]
     by_cases h0:m.toNat=0
     ·rw[if_pos h0,h0];cases nl<;>rfl
     ·rw[if_neg h0];rfl
    grind[Zf3,vRow]
   grind
  ·rename_i w n sz' hw hn hn1
   obtain⟨id,m,cap,hid,e2,e3,e1,e4⟩:=h.opd hx
   rw[hn]at e2;cases e2
   obtain⟨u,y,S1,k1,k2,k3,k4,k5,k6,k7⟩:=Zrs h hid hw (a:=0) (b:=m) (by simpa[BV,evp]using hk) (by simpa using e1)
   exact⟨y,S1,u,k1,k2,k3,k4,k5,k6,k7,fun _=>by rw[hx];rfl⟩
  ·cases hk
 ·rename_i o i j sz hx
  split at hk
  ·rename_i w va vb hw ha hb
   obtain⟨id,p,q,cap,hid,e2,e3,e4,e5,e1,_⟩:=h.opd hx
   rw[ha]at e2;cases e2
   rw[hb]at e3;cases e3
   obtain⟨u,y,S1,k1,k2,k3,k4,k5,k6,k7⟩:=Zrs h hid hw (a:=p) (b:=q) (by simpa[BV,evp]using hk) e1
   exact⟨y,S1,u,k1,k2,k3,k4,k5,k6,k7,fun _=>by rw[hx];rfl⟩
  ·cases hk
 ·rename_i n1 n2 n3
  cases hx:S.opd x with
  |none=>rw[hx]at hk;cases hk
  |some y=>
   rw[hx]at hk
   obtain⟨S1,h1,h2,h3,h4⟩:=h.mat (h.opd hx) hk
   refine⟨_,S1,fun _=>evO s.tm x,h1,h2,h3,fun _=>rfl,h4,fun nl=> ?_, ?_,fun h0=> ?_⟩
   ·generalize evO s.tm x=u at h4
    cases u<;>first|rfl|grind[V.nf,V.clean]
   ·generalize evO s.tm x=u at h4
    cases u<;>first|rfl|grind[V.nf,V.clean]
   grind[Zln]
theorem Zsp :∀{xs:List Opd} {fl:Bool} {S:PS V} {kk:List V->PS V->Option V},Sat c S ι s->snapA (BV Γ f) fl S xs kk=some r->
  ∃(ys:List V) (S1:PS V) (us:Bool->List V),kk ys S1=some r/\Sat c S1 ι s/\(∀nl,ys=nfL (us nl))/\Zab ys=true/\(∀nl,Zgk nl s.H (xs.map (evO s.tm))=some (us nl))/\(xs.map (evO s.tm)).any V.isPtrV=false/\
   fewE (xs.map (evO s.tm))=true/\(fl=true->(xs.map (evO s.tm)).any V.isOsl0=false)
 | [],fl,S,kk,h,hk=>⟨[],S,fun _=> [],hk,h,fun _=>rfl,rfl,fun _=>rfl,rfl,rfl,fun _=>rfl⟩
 |x::xs,fl,S,kk,h,hk=>by
  simp only[snapA]at hk
  split at hk
  ·cases hk
  obtain⟨y,S1,u,h1,h2,h3,h4,h5,h6,h7,h8⟩:=Zrd h hk
  obtain⟨ys,S2,us,q1,q2,q3,q4,q5,q6,q7,q8⟩:=Zsp (kk:=fun ys S2=>kk (y::ys) S2) h2 h1
  refine⟨_,S2,fun nl=>u nl::us nl,q1,q2,fun nl=>by rw[h4 nl,q3 nl];rfl,by simp only[Zab,h5,q4,Xce],fun nl=> ?_, ?_, ?_,fun hf=> ?_⟩<;>grind[Zgk,fewE]
theorem Z2q (h:Sat c S ι s)(hΓ:GamOK GA gl Γ ow){f':Nat}{xs:List Opd}(hk:op1 (BV Γ f) ow d (.call f' xs) S k=some r):Res1 c GA gl d (.call f' xs) g a s k r:=by
 simp only[op1]at hk
 split at hk
 ·obtain⟨ys,S1,h1,h2,h3,h4,h5⟩:=h.matL hk
  simp only[BV,Xab]at h1
  obtain⟨z,hz,h1⟩:=h1
  subst h4
  obtain⟨v,o,q1,q2,q3,q4⟩:=hΓ.p _ _ _ h5 hz
  exact⟨_,ι,_,h1,by simp_all[Z48,Zca],h2.putN q2 q3 q4 (fun h=>nomatch h)⟩
 ·obtain⟨ys,S1,us,h1,h2,h4,h5,h6,h7,h8,_⟩:=Zsp h hk
  simp only[BV,Xab]at h1
  obtain⟨z,hz,z',hf,h1⟩:=h1
  simp only[evp]at hf
  split at hf
  ·obtain⟨v,o,q1,q2,q3,q4⟩:=hΓ.p _ (us true) _ (by grind) (by rw[<-h4 true];exact hz)
   obtain⟨v',o',q1',q2',_,_⟩:=hΓ.p _ (us false) _ (by grind) (by rw[<-h4 false];exact hz)
   have hv:v=z:=by grind[Zro]
   have hv':v'=z:=by grind[Zro]
   subst hv
   subst hv'
   refine⟨_,ι,s.put d v' false,h1, ?_, ?_⟩
   ·rw[Zv7]
    unfold Zke putR
    rw[if_neg (by rw[h7];simp),if_pos (Z3c h (by assumption)),h6,h6]
    simp_all[Zy2]
   ·have:=(h2.push q3).putN (d:=d) (v:=v') (z:=v') (o:=false) (own:=false) (sc:=false) q2 q3 (fun h=>nomatch h) (fun h=>nomatch h)
    grind[PS.push,PS.nx]
  ·cases hf
theorem Zu3 (h:Sat c S ι s){y:Option Sy}{v:V}{o:Bool}(hy:∀z,y=some z->SyS ι S.vals z v o){kk:At->PS V->Option V}(hk:atO (BV Γ f) S y kk=some r):
  ∃a S',kk a S'=some r/\Sat c S' ι s/\Ext S S'/\AtS ι S'.vals a v o:=by
 unfold atO at hk
 split at hk
 ·exact⟨_,S,hk,h, .refl S,hy _ rfl⟩
 ·rename_i ss z
  exact⟨_,S,hk,h, .refl S,(hy _ rfl).2 z rfl,fun h=>(nomatch h),fun h=>(nomatch h)⟩
 ·split at hk
  ·rename_i ns xs hs
   simp only[BV,evp,Xab,Xaa]at hk
   obtain⟨x,⟨l,hl,rfl⟩,hk⟩:=hk
   obtain⟨⟨cs,rfl,h3⟩,_⟩:=hy _ rfl
   obtain⟨rfl,hc⟩:=h.segVals h3 hs hl
   have hx:(V.agg (nfL cs)).clean=true:=Ze7 hl hc
   exact⟨_,_,hk,h.push hx, .push _ _,Zan _ _,fun h=>(nomatch h),fun h=>(nomatch h)⟩
  ·cases hk
 ·cases hk
theorem Zme :∀{xs:List Opd} {S:PS V} {kk:List At->PS V->Option V},Sat c S ι s->atsO (BV Γ f) S xs kk=some r-> ∃az S',kk az S'=some r/\Sat c S' ι s/\Ext S S'/\AtsS ι S'.vals az (xs.map (evO s.tm))
 | [],S,kk,h,hk=>⟨[],S,hk,h, .refl S,rfl⟩
 |x::xs,S,kk,h,hk=>by
  obtain⟨a',S1,h1,h2,h3,h4⟩:=Zu3 h (v:=evO s.tm x) (o:=ownO s.own x) (fun z hz=>h.opd hz) hk
  obtain⟨az,S2,h5,h6,h7,h8⟩:=Zme h2 h1
  exact⟨_,S2,h5,h6,h3.trans h7,_,_,rfl,(h4.mono (.refl _) h7.pre).noOwn false,h8⟩
theorem Zn9 :∀{az:List At} {ws:List V} {vs:List V},AtsS ι vs az ws->az.any At.isPtr=true->Zab ws=false
 | [],_,_,_,h=>by cases h
 |a'::az,ws,vs,⟨w,ws',e,h1,h2⟩,h=>by
  subst e
  simp only[Xeh,Xa4]at h
  rcases h with h|h
  ·cases a' with
   |fp m f ps=>
    cases ps with
    |nil=>grind[At.isPtr]
    |cons p ps=>
     obtain⟨cs,e,id,cs',_,e2,_⟩:=h1
     subst e2
     have:w.clean=false:=by rw[e];cases m<;>rfl
     simp_all
   |_=>
    simp[At.isPtr]at h
    try first|(obtain⟨id,_,e⟩:=h1;rw[e];rfl)|(obtain⟨id,_,_,_,_,_,e,_⟩:=h1;rw[e];rfl)|(obtain⟨id,_,_,_,_,_,_,_,_,e,_⟩:=h1;rw[e];rfl)
  ·simp only[Zab,Zn9 h2 h,Xem]
theorem Zmh :∀{ps:List (Nat×Nat)} {cs:List V} {vs:List V},PsS ι ps cs->AtsS ι vs (Z1g ps) cs
 | [],_,_,h=>h
 |p::ps,_,_,⟨id,cs',h1,h2,h3⟩=>⟨_,_,h2,⟨id,h1,rfl⟩,Zmh h3⟩
theorem AtsS.app {vs:List V}{bz:List At}{us:List V}:∀{az:List At} {ws:List V},AtsS ι vs az ws->AtsS ι vs bz us->AtsS ι vs (az++bz) (ws++us)
 | [],ws,h,k=>by rw[show ws=[]from h];exact k
 |_::_,_,⟨w,ws',e,h1,h2⟩,k=>⟨w,ws'++us,by rw[e];rfl,h1,h2.app k⟩
theorem Zvn {ys:List V}{kk:List V->Option V}:∀{n i nx:Nat} {kk:List V->Option V},unp (BV Γ f) (.tup ys) n i nx kk=some r-> ∃l,kk l=some r/\l=(ys.drop i).take n/\l.length=n
 |0,i,nx,kk,h=>⟨[],h,by simp,rfl⟩
 |n+1,i,nx,kk,h=>by
  simp only[unp,BV,evp,Xab]at h
  obtain⟨x,hx,h⟩:=h
  rw[Zr1]at hx
  obtain⟨l,h1,h2,h3⟩:=Zvn (kk:=fun xs=>kk (x::xs)) h
  grind[List.drop_eq_getElem_cons]
theorem Zs9 {xs:List V}(h:Zab xs=true):(oneV xs).clean=true:=by
 unfold oneV
 split<;>simp_all
theorem Zsq {xs:List V}(h:Zab xs=true):Zab (dumV xs)=true:=by
 unfold dumV
 split<;>simp_all
theorem Zj1 {n j:Nat}{xs:List V}(h:Zab xs=true):(Zum n j xs).clean=true:=by
 unfold Zum
 split<;>simp_all[Zs9,Zsq]
theorem Zoz (h:Sat c S ι s){g0:Nat}{ρ:List (Nat×Nat)}(hr:RI g0 ρ)(hcov:Cov g0 ρ ι){rt:RT}{xs:List V}{v:V}{o:Bool}{hs':HS}{ι':List Nat}(hR:RetS ⟨ιOf g0 ρ ι,s.hs⟩ rt xs v o hs' ι'){tag:Bool}{w:V}
  (hw2:tag=true-> ∃t,w= .tup (t::dumV xs)) (hw3:tag=false->w=oneV xs)
  (hk:callRs (BV Γ f) S g0 ρ d tag w rt k=some r):∃S' ι2,k S'=some r/\Sat c S' ι2 ((s.setHS hs').put d v o):=by
 unfold callRs at hk
 split at hk
 ·rename_i hg
  have hg':g0<=rt.ob.length:=Xa5 hg
  have key:putRs (BV Γ f) (S.after g0 ρ rt xs).2 d k (Zmq (S.after g0 ρ rt xs).1 S.vals.length rt.res)=some r:=by
   unfold unpR at hk
   have hn:=hR.n
   split at hk
   ·rename_i hn1
    have: [oneV xs]=xs:=by
     match xs,hn.trans hn1 with
     | [x],_=>rfl
    grind
   ·have e:w= .tup xs:=by
     rw[hw3 rfl]
     unfold oneV
     grind
    rw[e]at hk
    obtain⟨l,h1,h2,h3⟩:=Zvn (kk:=fun _=>none) hk
    grind
   ·obtain⟨t,e⟩:=hw2 rfl
    rw[e]at hk
    obtain⟨l,h1,h2,h3⟩:=Zvn (kk:=fun _=>none) hk
    have:(dumV xs).take rt.n=xs:=by
     unfold dumV
     grind
    grind
  obtain⟨h1,h2⟩:=Zyv h hr hcov hR hg'
  unfold putRs at key
  split at key
  ·rename_i a' ha
   match hres:rt.res,ha with
   | [a0],ha=>
    have hR1:=hR.res
    rw[hres]at hR1
    simp only[Zmq]at ha
    split at ha
    ·rename_i x l hx hl
     cases ha
     exact⟨_,_,key,h1.put d (y:= .at a') ((Zl4 h2 hx).1 _ _ hR1)⟩
    ·cases ha
   | [],ha=>cases ha
   |a0::a1::l,ha=>
    grind[Zmq]
  ·rename_i az hno ha
   have hne:∀a0,rt.res≠ [a0]:=fun a0 e=>by
    grind[Zmq]
   have hR1:=hR.res
   unfold ResS at hR1
   split at hR1
   ·grind
   ·obtain⟨ws,e,hws⟩:=hR1
    exact⟨_,_,key,h1.put d (y:= .tup az) ⟨ws,e,Zrp h2 ha hws⟩⟩
  ·cases key
 ·cases hk
theorem Zz0 {t:V}{j:Nat}(ht:t= .int .i64 j){kk:PS V->RT->Option V}:∀{l:List RT} {S:PS V} {j0 m:Nat} {rt:RT},Sat c S ι s->swR (BV Γ f) t kk S j0 l=some r->l[m]? =some rt->j=j0+m-> ∃S',kk S' rt=some r/\Sat c S' ι s
 | [],S,j0,m,rt,h,hk,hl,hj=>by simp at hl
 | [x],S,j0,m,rt,h,hk,hl,hj=>by
  cases m with
  |zero=>simp at hl;subst hl;exact⟨S,hk,h⟩
  |succ m=>simp at hl
 |x::y::l,S,j0,m,rt,h,hk,hl,hj=>by
  simp only[swR,BV,Xab]at hk
  obtain⟨b,hb,hk⟩:=hk
  subst ht
  simp only[evp,abin,aint,if_true,Xac]at hb
  subst hb
  have hp:=h.push (x:= .bool (decide ((j:Int)=(j0:Int)))) rfl
  rcases Zt3 hk with⟨e,h1⟩|⟨e,h1⟩
  ·grind
  ·simp only[V.bool.injEq,decide_eq_false_iff_not]at e
   cases m with
   |zero=>omega
   |succ m=>exact Zz0 rfl (l:=y::l) (j0:=j0+1) (m:=m) hp (by exact_mod_cast h1) (by simpa using hl) (by omega)
theorem Zse (h:Sat c S ι s)(hΓ:GamOK GA gl Γ ow){az:List At}{args:List V}(ha:AtsS ι S.vals az args){F:Nat}(hk:callE (BV Γ f) S d k (pickE (BV Γ f) S az (ow.he F))=some r):
  ∃v o hs',GA.h F args s.hs=some (v,o,hs')/\ ∃S' ι',k S'=some r/\Sat c S' ι' ((s.setHS hs').put d v o):=by
 unfold callE at hk
 split at hk
 ·rename_i E ρ xs hp
  obtain⟨hE,hf⟩:=Zrv hp
  obtain⟨q1,q2,q3,q4,q5⟩:=Z13 h hf ha
  split at hk
  ·rename_i rt hret
   obtain⟨w,hw,hk⟩:=Xab.1 (show(Γ E.k 1 xs).bind _=some r from hk)
   obtain⟨v,o,hs',e1,j,rt',xs',ι',e2,e3,hR⟩:=hΓ.h F E hE _ hret xs w hw args _ s.hs q1 q2 q5
   have hj:j=0/\rt'=rt:=by
    grind
   obtain⟨rfl,rfl⟩:=hj
   have hwc:w.clean=true:=by rw[e3];exact Zj1 hR.cl
   exact⟨v,o,hs',e1,Zoz (h.push hwc) q3 q4 hR (fun h=>by cases h) (fun _=>e3) hk⟩
  ·rename_i rts hno hret
   obtain⟨w,hw,hk⟩:=Xab.1 (show(Γ E.k 1 xs).bind _=some r from hk)
   obtain⟨t,ht,hk⟩:=Xab.1 (show(evp (.ext 0) [w]).bind _=some r from hk)
   obtain⟨v,o,hs',e1,j,rt',xs',ι',e2,e3,hR⟩:=hΓ.h F E hE _ hret xs w hw args _ s.hs q1 q2 q5
   have hwc:w.clean=true:=by rw[e3];exact Zj1 hR.cl
   have hwt:w= .tup (.int .i64 j::dumV xs'):=by
    rw[e3]
    unfold Zum
    split
    ·rename_i hl
     match rts,hl,hno with
     | [rt],_,hno=>grind
    ·cases xs'<;>rfl
   rw[hwt]at ht
   simp only[evp,Zr1,Xef,Xac]at ht
   subst ht
   obtain⟨S1,h1,h2⟩:=Zz0 rfl (j0:=0) ((h.push hwc).push (x:= .int .i64 j) rfl) hk e2 (by omega)
   exact⟨v,o,hs',e1,Zoz h2 q3 q4 hR (fun _=>⟨_,hwt⟩) (fun h=>by cases h) h1⟩
  ·cases hk
 ·cases hk
theorem Z2t {F:Nat}{xs:List Opd}:exec1 GA gl ⟨d, .callh F xs,g,a⟩ s=(GA.h F (xs.map (evO s.tm)) s.hs).map fun r=>(s.setHS r.2.2).put d r.1 r.2.1:=rfl
theorem Zsc {x:Opd}{xs:List Opd}{F:Nat}{l:List V}(e:Zg5 (evO s.tm x) (xs.map (evO s.tm))=some (F,l)):exec1 GA gl ⟨d, .callvh x xs,g,a⟩ s=match GA.p F l with
   |some r=>some (s.put d r.1 r.2)
   |none=>(GA.h F l s.hs).map fun r=>(s.setHS r.2.2).put d r.1 r.2.1:=by
 have e':Zg5 (s.ev x) (xs.map s.ev)=some (F,l):=e
 simp only[exec1,e']
 rfl
theorem Zzq (h:Sat c S ι s)(hΓ:GamOK GA gl Γ ow){F:Nat}{xs:List Opd}(hk:op1 (BV Γ f) ow d (.callh F xs) S k=some r):Res1 c GA gl d (.callh F xs) g a s k r:=by
 obtain⟨az,S1,h1,h2,h3,h4⟩:=Zme h hk
 obtain⟨v,o,hs',e1,S',ι',e2,e3⟩:=Zse h2 hΓ h4 h1
 exact⟨S',ι',_,e2,by grind[Z2t],e3⟩
theorem Zxs (h:Sat c S ι s)(hΓ:GamOK GA gl Γ ow){x:Opd}{xs:List Opd}(hk:op1 (BV Γ f) ow d (.callvh x xs) S k=some r):Res1 c GA gl d (.callvh x xs) g a s k r:=by
 simp only[op1]at hk
 have heap:∀{F:Nat} {l:List V} {S1:PS V} {az:List At},Zg5 (evO s.tm x) (xs.map (evO s.tm))=some (F,l)->Sat c S1 ι s->AtsS ι S1.vals az l->az.any At.isPtr=true->callE (BV Γ f) S1 d k (pickE (BV Γ f) S1 az (ow.he F))=some r->Res1 c GA gl d (.callvh x xs) g a s k r:=by
  intro F l S1 az e h1 h2 h3 h4
  obtain⟨v,o,hs',e1,S',ι',e2,e3⟩:=Zse h1 hΓ h2 h4
  refine⟨S',ι',_,e2, ?_,e3⟩
  rw[Zsc e]
  have hnone:GA.p F l=none:=by
   cases hp:GA.p F l with
   |none=>rfl
   |some q=>have:=hΓ.c _ _ _ hp;grind[Zn9]
  grind
 have plain:∀{F:Nat} {cs:List V} {z:V},(evO s.tm x)= .fn F cs->Zab (nfL (xs.map (evO s.tm)))=true->Zab (nfL cs)=true->Γ F 0 (nfL (xs.map (evO s.tm))++nfL cs)=some z-> ∃v o,exec1 GA gl ⟨d, .callvh x xs,g,a⟩ s=some (s.put d v o)/\v.nf=z/\z.clean=true/\(ow.ow F=true->Own v o):=by
  intro F cs z e h5 hc hz
  rw[<-Zbv]at hz
  obtain⟨v,o,q1,q2,q3,q4⟩:=hΓ.p _ _ _ (by grind[Zbv,Zbf]) hz
  exact⟨v,o,by rw[Zsc (show Zg5 _ _=some (F,_)by rw[e];rfl),q1],q2,q3,q4⟩
 split at hk
 ·rename_i m F ps hx
  obtain⟨cs,e,hps⟩:=h.opd hx
  obtain⟨az,S1,h1,h2,h3,h4⟩:=Zme h hk
  split at h1
  ·rename_i hb
   cases m with
   |false=>exact heap (F:=F) (by rw[e];rfl) h2 (h4.app (Zmh hps)) hb h1
   |true=>exact heap (F:=F) (by rw[e];rfl) h2 ((Zmh hps).app h4) hb h1
  ·cases h1
 ·rename_i F o' hx
  obtain⟨e1,e2,_⟩:=h.opd hx
  obtain⟨cs,e3,e4⟩:=Z10 e1
  have:cs=[]:=by cases cs with
   |nil=>rfl
   |cons _ _=>cases e4
  subst this
  split at hk
  ·obtain⟨ys,S1,h1,h2,h3,h4,h5⟩:=h.matL hk
   subst h4
   simp only[BV,Xab]at h1
   obtain⟨z,hz,h1⟩:=h1
   obtain⟨v,o,q1,q2,q3,q4⟩:=plain e3 h5 rfl (by simpa[nfL]using hz)
   exact⟨_,ι,_,h1,q1,h2.putN q2 q3 q4 (fun h=>nomatch h)⟩
  ·split at hk
   ·obtain⟨az,S1,h1,h2,h3,h4⟩:=Zme h hk
    split at h1
    ·grind[Zg5]
    ·cases h1
   ·obtain⟨ys,S1,h1,h2,h3,h4,h5⟩:=h.matL hk
    subst h4
    simp only[BV,Xab]at h1
    obtain⟨z,hz,h1⟩:=h1
    obtain⟨v,o,q1,q2,q3,q4⟩:=plain e3 h5 rfl (by simpa[nfL]using hz)
    exact⟨_,ι,_,h1,q1,h2.putN q2 q3 q4 (fun h=>nomatch h)⟩
 ·rename_i at' _ _ hx
  obtain⟨ys,S1,h1,h2,h3,h4,h5⟩:=h.matL hk
  subst h4
  split at h1
  ·rename_i w hw
   obtain⟨rfl,hc⟩:=h2.val (by have:=h2.opd (x:=x) (y:= .at at') (by rw[h3.opd];exact hx);exact this) hw
   simp only[BV,Xab]at h1
   obtain⟨z,hz,h1⟩:=h1
   unfold Ze4 at hz
   split at hz
   ·rename_i F caps e
    obtain⟨cs,e3,rfl⟩:=Z10 e
    obtain⟨v,o,q1,q2,q3,q4⟩:=plain e3 h5 (by simp_all) hz
    exact⟨_,ι,_,h1,q1,h2.putN q2 q3 (fun h=>nomatch h) (fun h=>nomatch h)⟩
   ·cases hz
  ·cases h1
 ·cases hk
theorem Z66 (h:Sat c S ι s){t:Opd}{i:Nat}(hk:op1 (BV Γ f) ow d (.ext t i) S k=some r):Res1 c GA gl d (.ext t i) g a s k r:=by
 simp only[op1]at hk
 split at hk
 ·rename_i az hx
  split at hk
  ·rename_i a' ha
   obtain⟨ws,e,h1⟩:=h.opd hx
   obtain⟨h2,h3⟩:=h1.get
   have h4:=h3 i a' ha
   have hlt:i<ws.length:=by grind
   refine⟨_,ι,s.put d (ws.getD i Nil) false,hk, ?_,h.put d (y:= .at a'.noOwn) (h4.noOwn false)⟩<;>simp_all
  ·cases hk
 ·exact Za9 h rfl hk
theorem Zj3 (h:Sat c S ι s):∀{xs:List Opd} {ps:List (Nat×Nat)},Zol S xs=some ps->PsS ι ps (xs.map (evO s.tm))
 | [],ps,hp=>by cases hp;rfl
 |x::xs,ps,hp=>by
  simp only[Zol]at hp
  split at hp
  ·rename_i o off l hx hl
   cases hp
   obtain⟨id,h1,h2⟩:=h.opd hx
   exact⟨id,_,h1,by rw[Xan,h2],Zj3 h hl⟩
  ·cases hp
theorem Z4u (h:Sat c S ι s){F:Nat}{xs:List Opd}(hk:op1 (BV Γ f) ow d (.mkf F xs) S k=some r):Res1 c GA gl d (.mkf F xs) g a s k r:=by
 simp only[op1]at hk
 split at hk
 ·rename_i p ps hp
  exact⟨_,ι,_,hk,Z7j F xs,h.put d (y:= .at (.fp false F (p::ps))) (v:= .fn F (xs.map (evO s.tm))) (o:=false) ⟨_,rfl,Zj3 h hp⟩⟩
 ·exact Za9 h rfl hk
theorem Z7o (h:Sat c S ι s){F:Nat}{xs:List Opd}(hk:op1 (BV Γ f) ow d (.mkm F xs) S k=some r):Res1 c GA gl d (.mkm F xs) g a s k r:=by
 simp only[op1]at hk
 split at hk
 ·rename_i p ps hp
  exact⟨_,ι,_,hk,Z98 F xs,h.put d (y:= .at (.fp true F (p::ps))) (v:= .mfn F (xs.map (evO s.tm))) (o:=false) ⟨_,rfl,Zj3 h hp⟩⟩
 ·cases hk
end Go.Abs
namespace Go.Abs
variable {GA:Abs.Spec}{gl:Glob}{Γ:Gam}{f:Nat}{ow:Cfg}{κ:Fc}{ι:List Nat}{s:St}{S:PS V}{d:Option Nat}{g:Option (Nat×Bool)}{a:List Nat}{r:V}{k:PS V->Option V}
theorem Sat.matV (h:Sat κ S ι s){at':At}{w:V}(hw:AtV S.vals at' w){kk:V->PS V->Option V}(hk:Abs.mat (BV Γ f) S (some (.at at')) kk=some r):kk w S=some r/\w.clean=true:=by
 simp only[Abs.mat]at hk
 split at hk
 ·rename_i x hx
  obtain⟨rfl,hc⟩:=h.valV hw hx
  grind
 ·cases hk
theorem Zgb {n:Option Nat}{cp cg cq:List V}{q:Nat}{v:V}(hv:Zak n cg q=some v):Zak n (cp++(cg++cq)) (cp.length+q)=some v:=by
 rw[Zx7 cp.length rfl (by omega),show cp.length+q-cp.length=q by omega]
 cases n<;>grind[Zak]
theorem Zwq (h:Sat κ S ι s){w:V}{at':At}(hw:AtV S.vals at' w){n:Option Nat}{q:Nat}{cg:List V}(hcg:nfL cg=w.cells){k:Sy->PS V->Option V}(hk:ldIn (BV Γ f) S at' n q k=some r):
  ∃v y S',Zak n cg q=some v/\k y S'=some r/\Sat κ S' ι s/\Ext S S'/\SyS ι S'.vals y v false:=by
 obtain⟨h1,h2⟩:=h.matV hw hk
 simp only[BV,Xab]at h1
 obtain⟨z,hz,h1⟩:=h1
 simp only[evp, <-hcg]at hz
 obtain⟨v,hv,rfl⟩:=Zbu hz
 refine⟨v,_,_,hv,h1,h.push (Za6 ?_ hz), .push _ _,⟨Zan _ _,fun h=>(nomatch h),fun h=>(nomatch h)⟩⟩<;>grind[clean_cells]
theorem Zn2 (h:Sat κ S ι s){ss:List Seg}{cs:List V}{ow':Nat->Bool}(hseg:SegsS ι S.vals ss cs ow' 0){off i m:Nat}{sg:Seg}(hs:Zc6 ss off 0=some (sg,0,i)){alt:Option V}{k:Sy->PS V->Option V}(hk:ldSegs (BV Γ f) S ss i m k alt=some r):
  (∃v y S',Zak (some m) cs off=some v/\k y S'=some r/\Sat κ S' ι s/\Ext S S'/\SyS ι S'.vals y v false) \/alt=some r:=by
 unfold ldSegs at hk
 split at hk
 ·rename_i q hq
  left
  obtain⟨p,q',cp,cg,cq,e1,e2,e3,e4,e5,e6,e7,e8,e9⟩:=Zbk hseg hs
  simp only[Xao]at e2 e4 e7 e8
  subst e1;subst e3;subst e2
  have hd:(p++sg::q').drop p.length=sg::q':=by simp
  rw[hd]at hq hk
  have hr:SegsS ι S.vals (sg::q') (cg++cq) ow' cp.length:=by
   refine SegsS.app (p:=[sg]) (q:=q') ?_ e7 e8
   cases hsl:sg.len with
   |none=>grind
   |some k=>exact .inl fun s' hs'=>by grind
  obtain⟨c1,c2,k1,k2,k3,k4,k5,k6⟩:=Zcs hr hq
  have hld:Zak (some m) (cp++(cg++cq)) off=some (.agg c1):=by
   simp_all
  split at hk
  ·rename_i ns xs hsv
   simp only[BV,evp,Xab,Xaa]at hk
   obtain⟨x,⟨l,hl,rfl⟩,hk⟩:=hk
   obtain⟨rfl,hc⟩:=h.segVals k5 hsv hl
   refine⟨_,_,_,hld,hk,h.push (x:= .agg (nfL c1)) (Ze7 hl hc), .push _ _,⟨⟨c1,rfl, ?_⟩,fun i hi=> ?_⟩⟩
   ·exact(k5.mono (.refl _) (Ext.push S _).pre).noOwn _ 0 _
   ·cases hi;rw[Zan];rfl
  ·exact⟨_,_,_,hld,hk,h, .refl S,⟨⟨c1,rfl,k5.noOwn _ 0 _⟩,fun i hi=>by cases hi⟩⟩
 grind
theorem Zvz (h:Sat κ S ι s){ss:List Seg}{cs:List V}{ow':Nat->Bool}(hseg:SegsS ι S.vals ss cs ow' 0){off:Nat}{n:Option Nat}{k:Sy->PS V->Option V}(hk:ldY (BV Γ f) S ss off n k=some r):
  ∃v y S',Zak n cs off=some v/\k y S'=some r/\Sat κ S' ι s/\Ext S S'/\SyS ι S'.vals y v false:=by
 unfold ldY at hk
 split at hk
 ·rename_i a' i hs
  obtain⟨p,q',cp,cg,cq,e1,e2,e3,e4,e5,e6,e7,e8,e9⟩:=Zbk hseg hs
  obtain⟨c,cs',f1,f2,f3,f4⟩:=e7
  refine⟨c,_,_, ?_,hk,h, .refl S,f2.noOwn false⟩<;>simp_all
 ·rename_i a' i m hs
  rcases Zn2 h hseg hs hk with h1|h1
  ·exact h1
  ·cases h1
 ·rename_i m' a' i m hs
  obtain⟨p,q',cp,cg,cq,e1,e2,e3,e4,e5,e6,e7,e8,e9⟩:=Zbk hseg hs
  obtain⟨l,cs',w,f1,f2,f3,f4,f5,f6,f7⟩:=e7
  rw[show cs'=[]from f7,Xax]at f1
  subst f1;subst e3
  split at hk
  ·rename_i hc
   simp only[Xai]at hc
   obtain rfl:=Xag hc.1
   have h2:=Xa5 hc.2
   have hw:w= .agg w.cells:=by
    have:w.cells.length=m:=by grind[Zaq]
    cases w<;>first|rfl|grind[V.cells]
   refine⟨.agg cg,_,_, ?_,hk,h, .refl S, ?_⟩
   ·grind[Zak]
   ·cases a' with
    |c v o=>obtain⟨rfl,hcl⟩:=f5;exact⟨by rw[hw];show V.agg (nfL cg)=_;rw[f6],hcl,fun h=>nomatch h⟩
    |n i o sc=>exact⟨by rw[show S.vals[i]? =some w from f5,hw];show _=some (V.agg (nfL cg));rw[f6],fun h=>(nomatch h),fun h=>(nomatch h)⟩
    |_=>exact f5.elim
  ·rcases Zn2 h hseg hs hk with h1|h1
   ·exact h1
   ·obtain⟨v,y,S',q1,q2⟩:=Zwq h f5 f6 h1
    exact⟨v,y,S',by rw[e4];exact Zgb q1,q2⟩
 ·rename_i sn a' q i hs _
  obtain⟨p,q',cp,cg,cq,e1,e2,e3,e4,e5,e6,e7,e8,e9⟩:=Zbk hseg hs
  obtain⟨l,cs',w,f1,f2,f3,f4,f5,f6,f7⟩:=e7
  grind[Zwq,Zgb]
 ·cases hk
theorem Zul (h:Sat κ S ι s){ss:List Seg}{cs:List V}{ow':Nat->Bool}(hseg:SegsS ι S.vals ss cs ow' 0){off:Nat}{n:Option Nat}(hk:ldAt (BV Γ f) S ss off n d k=some r):
  ∃v S',Zak n cs off=some v/\k S'=some r/\Sat κ S' ι (s.put d v false):=by
 obtain⟨v,y,S',h1,h2,h3,_,h5⟩:=Zvz h hseg hk
 exact⟨v,_,h1,h2,h3.put d h5⟩
theorem Z2u (h:Sat κ S ι s)(hΓ:GamOK GA gl Γ ow){n:Option Nat}{x:Opd}(hk:op1 (BV Γ f) ow d (.load n x) S k=some r):Res1 κ GA gl d (.load n x) g a s k r:=by
 simp only[op1]at hk
 split at hk
 ·rename_i o off hx
  split at hk
  ·rename_i ss hss
   obtain⟨id,hid,e1⟩:=h.opd hx
   obtain⟨id',cs,q1,q2,q3⟩:=h.cob o ss hss
   rw[hid]at q1;obtain⟨v,S',h1,h2,h3⟩:=Zul h q3 hk
   exact⟨S',ι,_,h2,by simp_all,h3⟩
  ·cases hk
 ·rename_i o b i sz hx
  split at hk
  ·rename_i ss hss
   split at hk
   ·rename_i a' q _ j hs hj
    obtain⟨id,kd,m,hid,hm,e1⟩:=h.opd hx
    rw[hm]at hj;cases hj
    obtain⟨id',cs,q1,q2,q3⟩:=h.cob o ss hss
    rw[hid]at q1;cases q1
    obtain⟨p,q',cp,cg,cq,e1',e2,e3,e4,e5,e6,e7,e8,e9⟩:=Zbk q3 hs
    obtain⟨l,cs',w,f1,f2,f3,f4,f5,f6,f7⟩:=e7
    rw[show cs'=[]from f7,Xax]at f1
    subst f1;subst e3
    obtain⟨h1,h2⟩:=h.matV f5 hk
    simp only[doX,BV,Xab]at h1
    obtain⟨z,hz,h1⟩:=h1
    simp only[evp,vLdd, <-f6]at hz
    obtain⟨v,hv,rfl⟩:=Zbu hz
    refine⟨_,ι,_,h1, ?_,h.putN (v:=v) (o:=false) rfl (Za6 ?_ hz) (fun h=>nomatch h) (fun h=>nomatch h)⟩
    ·rw[Zxn,e1,Zuk,q2]
     simp only[Xaw]
     rw[show b+m.toNat*sz=cp.length+(q+m.toNat*sz)by omega,Zgb hv];rfl
    grind[clean_cells]
   ·cases hk
  ·cases hk
 ·rename_i i off hx
  split at hk
  ·rename_i x' hx'
   obtain⟨w,hw,e1⟩:=h.opd hx
   rw[hw]at hx';cases hx'
   obtain⟨cs,e2,e3⟩:=Zyf e1
   simp only[doX,BV,Xab]at hk
   obtain⟨z,hz,hk⟩:=hk
   simp only[evp, <-e3]at hz
   obtain⟨v,hv,rfl⟩:=Zbu hz
   refine⟨_,ι,_,hk,by simp_all,h.putN (v:=v) (o:=false) rfl (Za6 ?_ hz) (fun h=>nomatch h) (fun h=>nomatch h)⟩
   rw[e3];exact clean_cells (h.cln _ (Xaj hw))
  ·cases hk
 ·rename_i g' off hx
  split at hk
  ·rename_i cs hcs
   have e1:evO s.tm x= .gp g' off:=h.opd hx
   obtain⟨q1,q2,q3⟩:=hΓ.gl _ _ hcs
   simp only[doX,BV,Xab]at hk
   obtain⟨z,hz,hk⟩:=hk
   simp only[evp,V.cells]at hz
   rw[<-q2]at hz
   obtain⟨v,hv,rfl⟩:=Zbu hz
   refine⟨_,ι,_,hk,by rw[Zxn,e1];simp only[Zfe,q1,Xaw,hv];rfl,h.putN (v:=v) (o:=false) rfl (Za6 ?_ hz) (fun h=>nomatch h) (fun h=>nomatch h)⟩<;>grind
  ·cases hk
 ·rename_i g' b i sz hx
  split at hk
  ·rename_i cs j hcs hj
   obtain⟨kd,m,hm,e1⟩:=h.opd hx
   rw[hm]at hj;cases hj
   obtain⟨q1,q2,q3⟩:=hΓ.gl _ _ hcs
   simp only[doX,BV,Xab]at hk
   obtain⟨z,hz,hk⟩:=hk
   simp only[evp,vLdd,V.cells]at hz
   rw[<-q2]at hz
   obtain⟨v,hv,rfl⟩:=Zbu hz
   refine⟨_,ι,_,hk,by rw[Zxn,e1];simp only[Zfe,q1,Xaw,hv];rfl,h.putN (v:=v) (o:=false) rfl (Za6 ?_ hz) (fun h=>nomatch h) (fun h=>nomatch h)⟩<;>grind
  ·cases hk
 ·cases hk
theorem Z4b (h:Sat κ S ι s)(hΓ:GamOK GA gl Γ ow){n:Option Nat}{x:Opd}(hk:op1 (BV Γ f) ow d (.ldp n x) S k=some r):Res1 κ GA gl d (.ldp n x) g a s k r:=by
 simp only[op1]at hk
 split at hk
 ·rename_i i off hx
  split at hk
  ·rename_i x' hx'
   obtain⟨w,hw,e1⟩:=h.opd hx
   rw[hw]at hx';cases hx'
   obtain⟨cs,e2,e3⟩:=Zyf e1
   simp only[doX,BV,Xab]at hk
   obtain⟨z,hz,hk⟩:=hk
   simp only[evp, <-e3]at hz
   obtain⟨v,hv,rfl⟩:=Zbu hz
   refine⟨_,ι,_,hk,by simp_all[vLdp],h.putN (v:=v) (o:=false) rfl (Za6 ?_ hz) (fun h=>nomatch h) (fun h=>nomatch h)⟩
   rw[e3];exact clean_cells (h.cln _ (Xaj hw))
  ·cases hk
 ·rename_i g' off hx
  split at hk
  ·rename_i cs hcs
   have e1:evO s.tm x= .gp g' off:=h.opd hx
   obtain⟨q1,q2,q3⟩:=hΓ.gl _ _ hcs
   simp only[doX,BV,Xab]at hk
   obtain⟨z,hz,hk⟩:=hk
   simp only[evp,V.cells]at hz
   rw[<-q2]at hz
   obtain⟨v,hv,rfl⟩:=Zbu hz
   refine⟨_,ι,_,hk,by rw[Z68,e1];simp only[vLdp,q1,Xaw,hv];rfl,h.putN (v:=v) (o:=false) rfl (Za6 ?_ hz) (fun h=>nomatch h) (fun h=>nomatch h)⟩<;>grind
  ·cases hk
 ·rename_i g' b i sz hx
  split at hk
  ·rename_i cs j hcs hj
   obtain⟨kd,m,hm,e1⟩:=h.opd hx
   rw[hm]at hj;cases hj
   obtain⟨q1,q2,q3⟩:=hΓ.gl _ _ hcs
   simp only[doX,BV,Xab]at hk
   obtain⟨z,hz,hk⟩:=hk
   simp only[evp,vLdd,V.cells]at hz
   rw[<-q2]at hz
   obtain⟨v,hv,rfl⟩:=Zbu hz
   refine⟨_,ι,_,hk,by rw[Z68,e1];simp only[vLdp,q1,Xaw,hv];rfl,h.putN (v:=v) (o:=false) rfl (Za6 ?_ hz) (fun h=>nomatch h) (fun h=>nomatch h)⟩<;>grind
  ·cases hk
 ·cases hk
theorem Z6t (h:Sat κ S ι s){n:Option Nat}{off:Nat}{x:Opd}(hk:op1 (BV Γ f) ow d (.fld n off x) S k=some r):Res1 κ GA gl d (.fld n off x) g a s k r:=by
 simp only[op1]at hk
 split at hk
 ·rename_i ss z hx
  obtain⟨⟨cs,e1,h1⟩,_⟩:=h.opd hx
  obtain⟨v,S',h2,h3,h4⟩:=Zul h h1 hk
  exact⟨S',ι,_,h3,by simp_all,h4⟩
 ·exact Za9 h rfl hk
theorem Ztr {cs:List V}{off:Nat}{c:V}(h:cs[off]? =some c):Zas cs off [c]=cs:=by
 grind[List.length_singleton,List.drop_eq_getElem_cons,List.take_append_drop,Zas]
theorem cnt1 {a':At}{ss:List Seg}:Zby (.one a'::ss) 1=some 1:=by
 grind[Zby,Seg.len,Nat.ble]
theorem Z07 {ss:List Seg}{cs:List V}{ow':Nat->Bool}{ι':List Nat}{vs:List V}(hseg:SegsS ι' vs ss cs ow' 0){off i:Nat}{a':At}(hs:Zc6 ss off 0=some (.one a',0,i)):∃c,cs[off]? =some c/\AtS ι' vs a' c (ow' off)/\c.sc=true/\Zby (ss.drop i) 1=some 1:=by
 obtain⟨p,q',cp,cg,cq,e1,e2,e3,e4,e5,e6,e7,e8,e9⟩:=Zbk hseg hs
 obtain⟨c,cs',f1,f2,f3,f4⟩:=e7
 simp_all[cnt1]
theorem Z6e (h:Sat κ S ι s){x:Opd}(hk:op1 (BV Γ f) ow d (.ldo x) S k=some r):Res1 κ GA gl d (.ldo x) g a s k r:=by
 simp only[op1]at hk
 split at hk
 ·rename_i o off hx
  split at hk
  ·rename_i ss hss
   split at hk
   ·rename_i a' i hs
    obtain⟨id,hid,e1⟩:=h.opd hx
    obtain⟨id',cs,q1,q2,q3⟩:=h.cob o ss hss
    rw[hid]at q1;cases q1
    obtain⟨c,hc,h1,h2,h3⟩:=Z07 q3 hs
    have h4:Sat κ (S.setOb o (spl ss i 1 [.one a'.noOwn])) ι (s.take (some (.cell id off))):=by
     refine h.objUpd (s':=s.take (some (.cell id off))) hid rfl (fun t=>by simp_all) rfl (fun id' hne=>⟨rfl,fun j=>by simp_all⟩) q2 ?_
     have:=(Zm0 (ow':=fun j=>(s.take (some (.cell id off))).own (.cell id j)) (ys:=[c]) (q:=[.one a'.noOwn]) q3 hs h3 ⟨c,[],rfl,h1.noOwn _,h2,rfl⟩ rfl (.inl fun s' hs'=>by simp at hs';rw[hs'];rfl) (fun j hj=>by
      grind[take_own])).2
     grind[Ztr]
    exact⟨_,ι,(s.take (some (.cell id off))).put d c (s.own (.cell id off)),hk,by simp_all[vLdo],h4.put d (y:= .at a') h1⟩
   ·cases hk
  ·cases hk
 ·cases hk
theorem Z1d {n:Nat}{x:V}{l:List V}(h:catV [some n] [x]=some l):x.cells.length=n/\x.cells.all V.sc=true/\l=x.cells:=by
 grind[catV]
theorem Zfc (l:List V):(nfL l).all V.sc=l.all V.sc:=by grind[Zcn,List.all_map,Zni]
theorem Zvw (h:Sat κ S ι s){n:Nat}{y:Sy}{v:V}{o:Bool}(hy:SyS ι S.vals y v o){mny:Bool}{kk:List Seg->PS V->Option V}(hk:asSegs (BV Γ f) S n y mny kk=some r):
  ∃q S',kk q S'=some r/\Sat κ S' ι s/\Ext S S'/\v.cells.length=n/\v.cells.all V.sc=true/\Zjy q/\SegsS ι S'.vals q v.cells (fun _=>false) 0:=by
 cases y with
 |tup az=>grind[asSegs,BV]
 |agg q z=>
  obtain⟨⟨cs,rfl,h1⟩,hz⟩:=hy
  simp only[asSegs]at hk
  split at hk
  ·rename_i m hm
   split at hk
   ·rename_i hb
    obtain rfl:=Xag hb
    obtain⟨cp,cq,e1,e2,e3,e4,e5,e6⟩:=Zcs h1 hm
    rw[Xei]at e3 e5
    rw[List.drop_length]at e6
    rw[show cq=[]from e6,Xax]at e1
    subst e1
    split at hk
    ·rename_i z
     exact⟨_,S,hk,h, .refl S,e2,h1.all_sc,fun s' hs'=>by(simp at hs';rw[hs'];rfl),cs,[], .agg (nfL cs),by simp,fun m hm=>by grind,fun hm=>by(cases hm),h1.all_sc,hz z rfl,rfl,rfl⟩
    ·exact⟨q,S,hk,h, .refl S,e2,h1.all_sc,e3,h1⟩
   ·cases hk
  ·cases hk
 | «at» a'=>
  simp only[asSegs]at hk
  split at hk
  ·split at hk
   ·rename_i ho
    have hsc:=AtS.one hy ho
    rw[Zgz hsc]
    exact⟨_,S,hk,h, .refl S,rfl,by simp[hsc],fun s' hs'=>by(simp at hs';rw[hs'];rfl),v,[],rfl,AtS.noOwn hy _,hsc,rfl⟩
   ·obtain⟨S1,h1,h2,h3,h4⟩:=h.mat hy hk
    simp only[BV,Xab]at h1
    obtain⟨z,hz,h1⟩:=h1
    simp only[evp]at hz
    split at hz
    ·rename_i hsc
     cases hz
     rw[Zni]at hsc
     rw[Zgz hsc]
     exact⟨_,_,h1,h2.push h4,h3.trans (.push _ _),rfl,by simp[hsc],fun s' hs'=>by(simp at hs';rw[hs'];rfl),v,[],rfl,⟨Zan _ _,fun h=>(nomatch h),fun _=>hsc⟩,hsc,rfl⟩
    ·cases hz
  ·obtain⟨S1,h1,h2,h3,h4⟩:=h.mat hy hk
   simp only[BV,evp,Xab,Xaa]at h1
   obtain⟨z,⟨l,hl,rfl⟩,h1⟩:=h1
   obtain⟨q1,q2,rfl⟩:=Z1d hl
   rw[Zbs]at q1 q2
   rw[Zaq]at q1
   rw[Zfc]at q2
   exact⟨_,_,h1,h2.push (clean_cells h4),h3.trans (.push _ _),q1,q2,fun s' hs'=>by(simp at hs';rw[hs'];rfl),v.cells,[], .agg v.nf.cells,by simp,fun m hm=>by grind,fun hm=>by(cases hm),q2,Zan _ _,by rw[Zbs];rfl,rfl⟩
theorem Z2m (h:Sat κ S ι s){o id:Nat}{ss:List Seg}{cs:List V}(hid:ι[o]? =some id)(hcs:Zap s.H id=some cs)(hseg:SegsS ι S.vals ss cs (fun j=>s.own (.cell id j)) 0){off n:Nat}{y:Sy}{v:V}{ov:Bool}(hy:SyS ι S.vals y v ov)
  (hk:stAt (BV Γ f) S o ss off n y d k=some r):∃S',k S'=some r/\(v.cells.length=n/\v.cells.all V.sc=true/\off+n<=cs.length)/\Sat κ S' ι ((s.setOb id cs off v.cells).put d Nil false):=by
 have upd:∀{S1:PS V} {q:List Seg},Sat κ S1 ι s->v.cells.length=n->SegsS ι S1.vals q (Zas cs off v.cells) (fun j=>(s.setOb id cs off v.cells).own (.cell id j)) 0->Sat κ ((S1.setOb o q).put d (.at .nil)) ι ((s.setOb id cs off v.cells).put d Nil false):=by
  intro S1 q h1 hn hq
  refine Sat.put (h1.objUpd (s':=s.setOb id cs off v.cells) hid rfl (fun t=>rfl) rfl (fun id' hne=>⟨by simp_all,fun j=>by simp_all⟩) (by simp_all) hq) d (y:= .at .nil) rfl
 have hown:v.cells.length=n-> ∀j,(j<off \/off+n<=j)->(s.setOb id cs off v.cells).own (.cell id j)=s.own (.cell id j):=fun hn j hj=>by simp_all
 unfold stAt at hk
 split at hk
 ·rename_i sg q i hs
  split at hk
  ·rename_i m hm
   split at hm
   ·obtain⟨qs,S1,h1,h2,h3,h4,h5,h6,h7⟩:=Zvw h hy hk
    have:=Zm0 (ow':=fun j=>(s.setOb id cs off v.cells).own (.cell id j)) (ys:=v.cells) (hseg.mono (.refl _) h3.pre) hs hm (h7.shift fun i hi=>by
     simp_all) h4 (.inl h6) (hown h4)
    grind
   ·cases hm
  ·split at hk
   ·rename_i sn a'
    obtain⟨p,q',cp,cg,cq,e1,e2,e3,e4,e5,e6,e7,e8,e9⟩:=Zbk hseg hs
    obtain⟨l,cs',w,f1,f2,f3,f4,f5,f6,f7⟩:=e7
    obtain⟨h1,h2⟩:=h.matV f5 hk
    obtain⟨S2,h3,h4,h5,h6⟩:=h.mat hy h1
    simp only[BV,Xab]at h3
    obtain⟨z,hz,h3⟩:=h3
    simp only[evp,vSet]at hz
    split at hz
    ·rename_i hc
     cases hz
     rw[Zbs,Zaq,Zfc]at hc
     have hcl:(V.agg (Zas w.cells q v.nf.cells)).clean=true:=Zdy (clean_cells h2) (clean_cells h6) _
     have:=Zra (ow':=fun j=>(s.setOb id cs off v.cells).own (.cell id j)) (ys:=v.cells) (i':=S2.nx) (x:=w) ((hseg.mono (.refl _) h5.pre).mono (.refl _) (Ext.push S2 (V.agg (Zas w.cells q v.nf.cells))).pre) hs (fun w' hw'=>by
      have:=AtV.mono (h5.pre.trans (Ext.push S2 (V.agg (Zas w.cells q v.nf.cells))).pre) f5
      cases a' with
      |c v o=>exact hw'.1.symm.trans this.1
      |n i o sc=>exact Option.some.inj (hw'.symm.trans this)
      |_=>exact hw'.elim) (by omega) hc.1 hc.2.1 (Zan _ _) (by rw[Zbs]) (hown hc.1)
     exact⟨_,h3,⟨hc.1,hc.2.1,this.1⟩,upd (h4.push hcl) hc.1 this.2⟩
    ·cases hz
   ·cases hk
 ·cases hk
theorem Zzl (h:Sat κ S ι s){n:Nat}{x y:Opd}(hk:op1 (BV Γ f) ow d (.store n x y) S k=some r):Res1 κ GA gl d (.store n x y) g a s k r:=by
 simp only[op1]at hk
 split at hk
 ·rename_i o off hx
  split at hk
  ·rename_i ss y' hss hy
   obtain⟨id,hid,e1⟩:=h.opd hx
   obtain⟨id',cs,q1,q2,q3⟩:=h.cob o ss hss
   rw[hid]at q1;cases q1
   obtain⟨S',h1,h2,h3⟩:=Z2m h hid q2 q3 (h.opd hy) hk
   exact⟨S',ι,_,h1,by simp_all,h3⟩
  ·cases hk
 ·rename_i o b i sz hx
  split at hk
  ·rename_i ss hss
   split at hk
   ·rename_i sn a' q p j hs hj
    obtain⟨id,kd,m,hid,hm,e1⟩:=h.opd hx
    rw[hm]at hj;cases hj
    obtain⟨id',cs,q1,q2,q3⟩:=h.cob o ss hss
    rw[hid]at q1;cases q1
    obtain⟨p',q',cp,cg,cq,e1',e2,e3,e4,e5,e6,e7,e8,e9⟩:=Zbk q3 hs
    obtain⟨l,cs',w,f1,f2,f3,f4,f5,f6,f7⟩:=e7
    obtain⟨h1,h2⟩:=h.matV f5 hk
    cases hy:S.opd y with
    |none=>rw[hy]at h1;cases h1
    |some y'=>
    rw[hy]at h1
    obtain⟨S2,h3,h4,h5,h6⟩:=h.mat (h.opd hy) h1
    simp only[BV,Xab]at h3
    obtain⟨z,hz,h3⟩:=h3
    simp only[evp,vStd,vSet]at hz
    split at hz
    ·rename_i hc
     cases hz
     rw[Zbs,Zaq,Zfc]at hc
     have hcl:(V.agg (Zas w.cells (q+m.toNat*sz) (evO s.tm y).nf.cells)).clean=true:=Zdy (clean_cells h2) (clean_cells h6) _
     --the place,in the segment
     have hown:∀j,(j<b+m.toNat*sz \/b+m.toNat*sz+n<=j)->(s.setOb id cs (b+m.toNat*sz) (evO s.tm y).cells).own (.cell id j)=s.own (.cell id j):=fun j hj=>by simp_all
     have key:=Zo6 (ow':=fun j=>(s.setOb id cs (b+m.toNat*sz) (evO s.tm y).cells).own (.cell id j)) (ys:=(evO s.tm y).cells) (i':=S2.nx) (x:=w) (u:=m.toNat*sz) ((q3.mono (.refl _) h5.pre).mono (.refl _) (Ext.push S2 (V.agg (Zas w.cells (q+m.toNat*sz) (evO s.tm y).nf.cells))).pre) hs (fun w' hw'=>by
      have:=AtV.mono (h5.pre.trans (Ext.push S2 (V.agg (Zas w.cells (q+m.toNat*sz) (evO s.tm y).nf.cells))).pre) f5
      cases a' with
      |c v o=>exact hw'.1.symm.trans this.1
      |n i o sc=>exact Option.some.inj (hw'.symm.trans this)
      |_=>exact hw'.elim) (by omega) hc.1 hc.2.1 (Zan _ _) (by rw[Zbs]) hown
     refine⟨_,ι,_,h3,by rw[Z2h,e1,Zp5,q2];simp only[Xaw];rw[if_pos ⟨hc.1,hc.2.1,key.1⟩],Sat.put ((h4.push hcl).objUpd (s':=s.setOb id cs (b+m.toNat*sz) (evO s.tm y).cells) hid rfl (fun t=>rfl) rfl (fun id' hne=>⟨by simp_all,fun j=>by simp_all⟩) (by simp_all) key.2) d (y:= .at .nil) rfl⟩
    ·cases hz
   ·cases hk
  ·cases hk
 ·cases hk
end Go.Abs
namespace Go.Abs
variable {GA:Abs.Spec}{gl:Glob}{Γ:Gam}{f:Nat}{ow:Cfg}{κ:Fc}{ι:List Nat}{s:St}{S:PS V}{d:Option Nat}{g:Option (Nat×Bool)}{a:List Nat}{r:V}{k:PS V->Option V}
theorem Ztu {X:Type}(S:PS X)(t k:Nat):(S.disown t).obj k=S.obj k:=by unfold PS.disown;split<;>rfl
theorem Zga {X:Type}(S:PS X)(t:Nat):(S.disown t).vals=S.vals:=by unfold PS.disown;split<;>rfl
theorem Zky {v:V}(h:v.sc=true):v.cells=[v]:=by cases v<;>first|rfl|cases h
theorem Z5u (h:Sat κ S ι s){x:Opd}{t:Nat}(hk:op1 (BV Γ f) ow d (.sto x t) S k=some r):Res1 κ GA gl d (.sto x t) g a s k r:=by
 simp only[op1]at hk
 split at hk
 ·rename_i o off y hx hy
  obtain⟨S2,hk,h2,htm⟩:=Zwa h hk
  have hx:S2.opd x=some (.at (.ptr o off)):=by
   simp_all[PS.opd,PS.get]
  have hy:S2.get t=some (.at y):=by grind[PS.get]
  generalize S2=S at*
  have h:=h2
  split at hk
  ·rename_i ss hss
   split at hk
   ·rename_i a' i hs hone
    obtain⟨id,hid,e1⟩:=h.opd hx
    obtain⟨id',cs,q1,q2,q3⟩:=h.cob o ss hss
    have hty:AtS ι S.vals y (s.tm t) (s.own (.slot t)):=h.tm t _ hy
    have hsc:=hty.one hone
    obtain⟨c,hc,h1,h2,h3⟩:=Z07 q3 hs
    have hlt:off<cs.length:=(Xak.1 hc).1
    have hseg:=(Zm0 (ow':=fun j=>(s.stoOb id cs off t).own (.cell id j)) (ys:=[s.tm t]) (q:=[.one y]) q3 hs h3 ⟨s.tm t,[],rfl,by
      simp_all,hsc,rfl⟩ rfl (.inl fun s' hs'=>by simp at hs';rw[hs'];rfl) (fun j hj=>by
      grind[Zk3])).2
    have h4:Sat κ ((S.disown t).setOb o (spl ss i 1 [.one y])) ι (s.stoOb id cs off t):=by
     refine(h.disown t).objUpd (s':=s.stoOb id cs off t) hid rfl (fun u=> ?_) rfl (fun id' hne=>⟨by simp only[St.stoOb,upd,if_neg hne];rfl,fun j=>by rw[Zk3,if_neg (by omega),take_own,if_neg (by simp)]⟩) (by rw[Zn1,if_pos rfl]) (by rw[Zga];exact hseg)<;>simp_all
    exact⟨_,ι,(s.stoOb id cs off t).put d Nil false,hk,by simp_all,h4.put d (y:= .at .nil) rfl⟩
   ·cases hk
  ·cases hk
 ·cases hk
theorem Zsf {v:V}{kd:IntKind}(h:Zzc v=some kd):v= .int kd 0:=by
 unfold Zzc at h;split at h<;>cases h;rfl
theorem Zxo {kd:IntKind}:∀l:List V,l.take (zrun kd l)=List.replicate (zrun kd l) (.int kd 0)/\zrun kd l<=l.length
 | []=>⟨rfl,Xae _⟩
 |v::r=>by
  simp only[zrun]
  split
  ·rename_i j hj
   split
   ·rename_i he
    have:=of_decide_eq_true he
    subst this
    obtain⟨h1,h2⟩:=Zxo (kd:=j) r
    rw[Xc6,h1,Zsf hj]
    exact⟨rfl,by simp;omega⟩
   grind
  grind
theorem Zo5 {vs:List V}{ow':Nat->Bool}:∀{m:Nat} {z:List V} {ss:List Seg} {j:Nat},grp m z=some ss->SegsS ι vs ss z ow' j/\Zjy ss
 |0,_,_,_,h=>by cases h
 |_+1,[],_,_,h=>by cases h;exact⟨rfl,fun _ h=>by cases h⟩
 |m+1,v::z,ss,j,h=>by
  have one:∀{at':At} {q:List Seg},v.sc=true->(∀o,AtS ι vs at' v o)->(grp m z=some q)->SegsS ι vs (.one at'::q) (v::z) ow' j/\Zjy (.one at'::q):=by
   intro at' q hsc ha hq
   obtain⟨h1,h2⟩:=Zo5 (j:=j+1) hq
   exact⟨⟨v,z,rfl,ha _,hsc,h1⟩,fun s' hs'=>(Xap.1 hs').elim (fun e=>by rw[e];rfl) (fun hs'=>h2 s' hs')⟩
  simp only[grp]at h
  split at h
  ·rename_i kd hk
   have hv:=Zsf hk
   split at h
   ·simp only[Xaa]at h
    obtain⟨q,hq,rfl⟩:=h
    obtain⟨h1,h2⟩:=Zxo (kd:=kd) z
    obtain⟨h3,h4⟩:=Zo5 (j:=j+(zrun kd z+1)) hq
    have hl:(v::z.take (zrun kd z))=List.replicate (zrun kd z+1) (.int kd 0):=by rw[h1,hv];rfl
    refine⟨⟨v::z.take (zrun kd z),z.drop (zrun kd z), .agg (repl (zrun kd z+1) (.int kd 0)),by simp,fun m' hm'=>by(cases hm';simp;omega),fun h=>by(cases h), ?_,⟨rfl, ?_⟩, ?_, ?_⟩,fun s' hs'=> ?_⟩
    ·rw[hl,Xav];intro x hx;rw[(Xd9.1 hx).2];rfl
    ·exact Zaj.2 fun x hx=>by rw[(Xd9.1 hx).2];rfl
    ·rw[hl,Zcn,List.map_replicate];rfl
    ·have:(v::z.take (zrun kd z)).length=zrun kd z+1:=by simp;omega
     rw[this];exact h3
    ·rcases Xap.1 hs' with rfl|hs'
     ·rfl
     ·exact h4 s' hs'
   ·simp only[Xaa]at h
    obtain⟨q,hq,rfl⟩:=h
    subst hv
    exact one rfl (fun o=>⟨rfl,rfl,fun h=>nomatch h⟩) hq
  ·split at h
   ·rename_i a' hsc ha
    simp only[Xaa]at h
    obtain⟨q,hq,rfl⟩:=h
    exact one hsc (fun o=>Zku ha o vs) hq
   ·cases h
theorem Zwh (h:Sat κ S ι s){x:Opd}{at':At}(hx:Zoj (S.opd x)=some at'):(at'.isVal=true->AtV S.vals at' (evO s.tm x).nf)/\(((at'.isVal=true \/at'.one=true)/\S.opd x=some (.at at')) \/ ∃z,at'= .n z false false):=by
 unfold Zoj at hx
 split at hx
 ·rename_i b e
  split at hx
  ·rename_i hv
   cases hx
   have:=h.opd e
   refine⟨fun hv=> ?_, .inl ⟨by simpa using hv,e⟩⟩
   cases at'<;>simp[At.isVal]at hv
   ·exact⟨this.1.symm,this.2.1⟩
   ·exact this.1
  ·cases hx
 ·rename_i ss z e
  cases hx
  exact⟨fun _=>(h.opd e).2 z rfl, .inr ⟨z,rfl⟩⟩
 ·cases hx
theorem Zlb (h:Sat κ S ι s){x:Opd}{at':At}(hx:Zoj (S.opd x)=some at'){n:Nat}(hn:(evO s.tm x).cells.length=n)(hsc:(evO s.tm x).cells.all V.sc=true)(h1:n=1->(evO s.tm x).sc=true)(j:Nat)(ow':Nat->Bool):
  SegsS ι S.vals [Zgc n at'] (evO s.tm x).cells ow' j/\Zjy [Zgc n at']:=by
 obtain⟨hv,hc⟩:=Zwh h hx
 by_cases e:n=1
 ·subst e
  have hs:=h1 rfl
  rw[Zky hs]
  refine⟨⟨evO s.tm x,[],rfl, ?_,hs,rfl⟩,fun s' hs'=>by simp at hs';rw[hs'];rfl⟩
  rcases hc with⟨_,e2⟩|⟨z,rfl⟩
  ·exact AtS.noOwn (h.opd e2) _
  ·exact⟨hv rfl,fun h=>(nomatch h),fun h=>(nomatch h)⟩
 ·have e2:Zgc n at'= .many (some n) at'.plain:=by grind[Zgc]
  have hval:at'.isVal=true:=by
   rcases hc with⟨hv|ho,e3⟩|⟨z,rfl⟩
   ·exact hv
   ·have:=AtS.one (h.opd e3) ho
    grind[Zky]
   ·rfl
  have hv:=hv hval
  rw[e2]
  refine⟨⟨(evO s.tm x).cells,[],(evO s.tm x).nf,by simp,fun m hm=>by grind,fun h=>by(cases h),hsc, ?_,by rw[Zbs],rfl⟩,fun s' hs'=>by simp at hs';rw[hs'];rfl⟩
  cases at'<;>first|exact hv|exact hv.elim
def Zlq (tm:Nat->V)(ps:List (Nat×Nat×Opd)):Prop:=∀p∈ps,(evO tm p.2.2).cells.length=p.2.1/\(evO tm p.2.2).cells.all V.sc=true/\(p.2.1=1->(evO tm p.2.2).sc=true)
theorem Zi2 {tm:Nat->V}:∀{ps:List (Nat×Nat×Opd)} {l:List V},catV (ps.map fun p=>Zju p.2.1) (nfL ((ps.map (·.2.2)).map (evO tm)))=some l->Zlq tm ps/\l=nfL ((ps.map fun p=>(evO tm p.2.2).cells).flatten)
 | [],l,h=>by cases h;exact⟨fun _ h=>(by cases h),rfl⟩
 |p::ps,l,h=>by
  simp only[Xan,nfL]at h
  by_cases e:p.2.1=1
  ·rw[show Zju p.2.1=none by rw[e];rfl]at h
   simp only[catV]at h
   split at h
   ·rename_i hsc
    rw[Zni]at hsc
    simp only[Xaa]at h
    obtain⟨m,hm,rfl⟩:=h
    obtain⟨h1,rfl⟩:=Zi2 hm
    refine⟨fun q hq=> ?_, ?_⟩
    ·rcases Xap.1 hq with rfl|hq
     ·rw[Zky hsc];exact⟨by rw[e];rfl,by simp[hsc],fun _=>hsc⟩
     ·exact h1 q hq
    ·rw[Xan,Xcd,Zbv,Zky hsc];rfl
   ·cases h
  ·rw[show Zju p.2.1=some p.2.1 by unfold Zju;split<;>first|rfl|(exact absurd (by assumption) e)]at h
   simp only[catV]at h
   split at h
   ·rename_i hc
    rw[Zbs,Zaq,Zfc]at hc
    simp only[Xaa]at h
    obtain⟨m,hm,rfl⟩:=h
    obtain⟨h1,rfl⟩:=Zi2 hm
    refine⟨fun q hq=> ?_, ?_⟩
    ·rcases Xap.1 hq with rfl|hq
     ·exact⟨hc.1,hc.2,fun h=>absurd h e⟩
     ·exact h1 q hq
    ·rw[Xan,Xcd,Zbv,Zbs]
   ·cases h
theorem Zht {X:Type}{S:PS X}{p:Nat×Nat×Opd}{ps:List (Nat×Nat×Opd)}{ats:List At}(h:Zdq S (p::ps)=some ats):∃x l,ats=x::l/\Zoj (S.opd p.2.2)=some x/\Zdq S ps=some l:=by
 grind[Zdq]
theorem Zv2 (h:Sat κ S ι s):∀{ps:List (Nat×Nat×Opd)} {ats:List At} {pre rest:List V} {e:Nat},Zlq s.tm ps->Zdq S ps=some ats->Zng pre.length ps=some e->e=pre.length+rest.length->
  Zj4 (pre++rest) (ps.map fun p=>(p.1,p.2.1,evO s.tm p.2.2))=some (pre++(ps.map fun p=>(evO s.tm p.2.2).cells).flatten)/\SegsS ι S.vals (Zii ps ats) ((ps.map fun p=>(evO s.tm p.2.2).cells).flatten) (fun _=>false) 0
 | [],ats,pre,rest,e,_,_,he,hr=>by
  simp only[Zng,Xac]at he
  have:rest=[]:=Xa0 (by omega)
  subst this
  exact⟨rfl,by cases ats<;>rfl⟩
 |p::ps,ats,pre,rest,e,hp,ha,he,hr=>by
  obtain⟨x,l,rfl,h1,h2⟩:=Zht ha
  simp only[Zng]at he
  split at he
  ·obtain⟨q1,q2,q3⟩:=hp p (by simp)
   have mono:∀{ps:List (Nat×Nat×Opd)} {o e:Nat},Zng o ps=some e->o<=e:=by
    intro ps
    induction ps<;>grind[Zng]
   have hle:=mono he
   obtain⟨g1,g2⟩:=Zv2 h (ps:=ps) (ats:=l) (pre:=pre++(evO s.tm p.2.2).cells) (rest:=rest.drop p.2.1) (e:=e) (fun q hq=>hp q (by simp[hq])) h2 (by grind) (by simp;omega)
   obtain⟨g3,g4⟩:=Zlb h h1 q1 q2 q3 0 (fun _=>false)
   refine⟨?_, ?_⟩
   ·simp_all[Zas]
   ·exact SegsS.app (p:=[Zgc p.2.1 x]) (.inl g4) g3 (g2.shift fun i hi=>rfl)
  ·cases he
theorem Zpy (h:Sat κ S ι s):∀{ps:List (Nat×Nat×Opd)} {ats:List At} {ss q:List Seg} {z:List V},Zlq s.tm ps->Zdq S ps=some ats->SegsS ι S.vals ss z (fun _=>false) 0->Ztd ss ps ats=some q->
  ∃cs,Zj4 z (ps.map fun p=>(p.1,p.2.1,evO s.tm p.2.2))=some cs/\SegsS ι S.vals q cs (fun _=>false) 0
 | [],ats,ss,q,z,_,_,hs,hq=>by
  simp_all[Ztd]
 |p::ps,ats,ss,q,z,hp,ha,hs,hq=>by
  obtain⟨x,l,rfl,h1,h2⟩:=Zht ha
  simp only[Ztd]at hq
  split at hq
  ·rename_i sg i hsg
   split at hq
   ·rename_i m hm
    obtain⟨q1,q2,q3⟩:=hp p (by simp)
    obtain⟨g3,g4⟩:=Zlb h h1 q1 q2 q3 p.1 (fun _=>false)
    obtain⟨g5,g6⟩:=Zm0 (ow':=fun _=>false) (ys:=(evO s.tm p.2.2).cells) hs hsg hm g3 q1 (.inl g4) (fun _ _=>rfl)
    obtain⟨cs,g7,g8⟩:=Zpy h (fun q hq=>hp q (by simp[hq])) h2 g6 hq
    exact⟨cs,by simp only[Xan,Ztl];rw[if_pos ⟨q1,q2,g5⟩];exact g7,g8⟩
   ·cases hq
  ·cases hq
theorem Zyp (h:Sat κ S ι s){z:List V}{ps:List (Nat×Nat×Opd)}(hk:op1 (BV Γ f) ow d (.build z ps) S k=some r):Res1 κ GA gl d (.build z ps) g a s k r:=by
 simp only[op1,bldP]at hk
 split at hk
 ·rename_i ats hats
  split at hk
  ·unfold bldR at hk
   split at hk
   ·rename_i hall
    have hp:Zlq s.tm ps:=by
     intro p hp
     simp only[Z0q,Xav,Xai]at hall
     obtain⟨q1,q2⟩:=hall p hp
     have q1:=Xag q1
     split at q2
     ·rename_i a' ha'
      have hsc:=AtS.one (h.opd ha') q2
      grind[Zky]
     ·cases q2
    split at hk
    ·rename_i hm
     split at hm
     ·rename_i e he
      have hb:=Xag hm
      obtain⟨g1,g2⟩:=Zv2 h (pre:=[]) (rest:=z) hp hats he (by simp[hb])
      simp only[Xbl]at g1
      refine⟨_,ι,_,hk,by rw[Zpc,g1];rfl,h.put d (v:= .agg ((ps.map fun p=>(evO s.tm p.2.2).cells).flatten)) (o:=false) ⟨⟨_,rfl,g2⟩,fun i hi=> ?_⟩⟩<;>grind
     ·cases hm
    ·split at hk
     ·rename_i ss hss
      split at hk
      ·rename_i q hq
       obtain⟨cs,g1,g2⟩:=Zpy h hp hats (Zo5 hss).1 hq
       refine⟨_,ι,_,hk,by rw[Zpc,g1];rfl,h.put d (v:= .agg cs) (o:=false) ⟨⟨_,rfl,g2⟩,fun i hi=> ?_⟩⟩<;>grind
      ·cases hk
     ·cases hk
   ·cases hk
  ·
   obtain⟨ys,S1,h1,h2,h3,h4,h5⟩:=h.matL hk
   simp only[BV,evp,Xab,Xaa]at h1
   obtain⟨y,⟨l,hl,rfl⟩,h1⟩:=h1
   rw[<-h4]at hl
   obtain⟨hp,rfl⟩:=Zi2 hl
   have hats1:Zdq S1 ps=some ats:=by
    have:∀{ps:List (Nat×Nat×Opd)},Zdq S1 ps=Zdq S ps:=by
     intro ps
     induction ps with
     |nil=>rfl
     |cons p ps ih=>simp only[Zdq,ih,h3.opd]
    grind
   have hcl:(V.agg (nfL ((ps.map fun p=>(evO s.tm p.2.2).cells).flatten))).clean=true:=Ze7 hl (by grind)
   split at h1
   ·rename_i hm
    split at hm
    ·rename_i e he
     have hb:=Xag hm
     obtain⟨g1,g2⟩:=Zv2 h2 (pre:=[]) (rest:=z) hp hats1 he (by simp[hb])
     refine⟨_,ι,_,h1,by simp_all,(h2.push hcl).put d (v:= .agg ((ps.map fun p=>(evO s.tm p.2.2).cells).flatten)) (o:=false) ⟨⟨_,rfl,g2.mono (.refl _) (Ext.push S1 _).pre⟩,fun i hi=> ?_⟩⟩
     cases hi;rw[Zan];rfl
    ·cases hm
   ·split at h1
    ·rename_i ss hss
     split at h1
     ·rename_i q hq
      split at h1
      ·rename_i ns xs hsv
       simp only[Xab,Xaa]at h1
       obtain⟨y,⟨l,hl',rfl⟩,h1⟩:=h1
       obtain⟨cs,g1,g2⟩:=Zpy h2 hp hats1 (Zo5 hss).1 hq
       have h6:=h2.push hcl
       have g3:=g2.mono (PreN.refl ι) (Ext.push S1 (V.agg (nfL ((ps.map fun p=>(evO s.tm p.2.2).cells).flatten)))).pre
       obtain⟨rfl,hc⟩:=h6.segVals g3 hsv hl'
       refine⟨_,ι,_,h1,by rw[Zpc,g1];rfl,(h6.push (x:= .agg (nfL cs)) (Ze7 hl' hc)).put d (v:= .agg cs) (o:=false) ⟨⟨_,rfl,g3.mono (.refl _) (Ext.push _ _).pre⟩,fun i hi=> ?_⟩⟩
       cases hi;rw[Zan];rfl
      ·cases h1
     ·cases h1
    ·cases h1
 ·cases hk
theorem Sat.disown' (h:Sat κ S ι s)(t:Nat):Sat κ (S.disown t) ι s where
 tm u y hy:=by
  rw[Zga]
  unfold PS.disown at hy
  split at hy
  ·rename_i z hz
   simp only[PS.get,Zc5]at hy
   split at hy
   ·rename_i e;subst e;cases hy;exact(h.tm _ _ hz).noOwn _
   ·exact h.tm u y hy
  ·exact h.tm u y hy
 ob k ss hk:=by rw[Ztu]at hk;rw[Zga];exact h.ob k ss hk
 nd:=h.nd
 lt:=h.lt
 len:=(h.disown t).len
 lits:=(h.disown t).lits
 cln:=(h.disown t).cln
 g:=(h.disown t).g
 pre:=h.pre
 new:=(h.disown t).new
 nH:=h.nH
 fr:=h.fr
theorem Zr9 {H:Hp}{sz:Nat}{x:V}{ys:List V}(hc:x.nf.clean=true)(h:Zb2 noH sz x.nf=some ys):∃zs,Zb2 H sz x=some zs/\nfL zs=ys/\Zab ys=true:=by
 unfold Zb2 at h
 split at h
 ·rename_i b s' l e
  obtain⟨_,nl,rs,rfl,rfl,hn⟩:=Zgw e
  rw[e]at hc
  split at h
  ·rename_i hs
   cases h
   refine⟨rs, ?_,rfl,hc⟩
   have:s'=sz \/rs=[]:=by
    rcases hs with hs|hs
    ·exact .inl hs
    ·right;cases rs<;>first|rfl|cases hs
   grind[Zb2]
  ·cases h
 ·grind[Zdz,Zvi,Zpz,Zfd]
 ·grind[V.clean]
 ·cases h
theorem Z7e (h:Sat κ S ι s){sz:Nat}{x y:Opd}(hk:op1 (BV Γ f) ow d (.app sz x y) S k=some r):Res1 κ GA gl d (.app sz x y) g a s k r:=by
 simp only[op1]at hk
 split at hk
 ·rename_i a' hx
  split at hk
  ·rename_i ho
   obtain⟨ys,S1,h1,h2,h3,h4,h5⟩:=h.matL hk
   simp only[doX,BV,Xab]at h1
   obtain⟨z,hz,h1⟩:=h1
   subst h4
   simp only[Xan,Xa9,nfL,evp,Zyb]at hz
   simp only[Xan,Xa9,nfL,Zab,Xai,Xce]at h5
   have hown:Own (evO s.tm x) (ownO s.own x):=AtS.owned (h.opd hx) ho
   split at hz
   ·rename_i b s' xs zs e1 e2
    obtain⟨_,nl,rs,e3,rfl,hn⟩:=Zgw e1
    obtain⟨ws,e4,rfl,e5⟩:=Zr9 (H:=s.H) h5.2 e2
    have hcx:Zab (nfL rs)=true:=by simp_all
    split at hz
    ·rename_i hc
     obtain⟨hc,rfl⟩:=hc
     cases hz
     have hcl:(V.sl false s' (nfL rs++nfL ws)).clean=true:=Zbf hcx e5
     cases nl with
     |true=>
      obtain rfl:=hn rfl
      refine⟨_,ι,s.put d (.sl ws.isEmpty s' ws) true,h1, ?_, ?_⟩
      ·simp_all
      ·have hv:(V.sl ws.isEmpty s' ws).nf= .sl false s' (nfL []++nfL ws):=by
        grind[Z4w,nfL]
       cases x with
       |const v=>exact h2.putN hv hcl (fun _=> .inl rfl) (fun _=>rfl)
       |tmp t=>exact(h2.disown' t).putN hv hcl (fun _=> .inl rfl) (fun _=>rfl)
     |false=>
      have ho':ownO s.own x=true:=by
       rcases hown with h|⟨z,h⟩<;>grind
      cases x with
      |const v=>cases ho'
      |tmp t=>
       refine⟨_,ι,(s.take (some (.slot t))).put d (.sl false s' (rs++ws)) true,h1, ?_, ?_⟩
       ·simp_all
       ·exact(h2.disown t).putN (by show V.sl false s' (nfL (rs++ws))=_;rw[Zbv]) hcl (fun _=> .inl rfl) (fun _=>rfl)
    ·cases hz
   ·cases hz
  ·cases hk
 ·cases hk
theorem Z4t (h:Sat κ S ι s){x:Opd}(hk:op1 (BV Γ f) ow d (.b2s x) S k=some r):Res1 κ GA gl d (.b2s x) g a s k r:=by
 simp only[op1]at hk
 split at hk
 ·rename_i o j hx
  split at hk
  ·rename_i w n hw hn
   obtain⟨id,m,cap,hid,e2,e3,e1,_⟩:=h.opd hx
   rw[hn]at e2;cases e2
   obtain⟨cs,q1,q2,q3,q4⟩:=Zny h hid hw
   simp only[doX,BV,Xab]at hk
   obtain⟨z,hz,h1⟩:=hk
   simp only[evp]at hz
   unfold Z7x at hz
   simp only at hz
   split at hz
   ·rename_i hle
    simp only[Xaa]at hz
    obtain⟨b,hb,rfl⟩:=hz
    rw[<-q2, <-Zcb]at hb
    rw[<-q2,Zaq]at hle
    refine⟨_,ι,s.put d (.str b) false,h1, ?_,h.putN rfl rfl (fun h=>nomatch h) (fun _=>rfl)⟩
    have hb':=Zeh hb
    rw[Z6d,e1]
    simp only[vB2s,q1,Xaw,Xbq]
    by_cases h0:m.toNat=0
    ·rw[if_pos h0]
     rw[h0,Xcw]at hb'
     cases hb';rfl
    ·rw[if_neg h0,if_pos (by omega),hb'];rfl
   ·cases hz
  ·cases hk
 ·rename_i o off n cap hx
  split at hk
  ·rename_i ss hss
   split at hk
   ·rename_i sn a' q i hs
    obtain⟨id,hid,e1⟩:=h.opd hx
    obtain⟨id',cs,q1,q2,q3⟩:=h.cob o ss hss
    rw[hid]at q1;cases q1
    obtain⟨p,q',cp,cg,cq,e1',e2,e3,e4,e5,e6,e7,e8,e9⟩:=Zbk q3 hs
    obtain⟨l,cs',w,f1,f2,f3,f4,f5,f6,f7⟩:=e7
    rw[show cs'=[]from f7,Xax]at f1
    subst f1;subst e3
    obtain⟨h1,h2⟩:=h.matV f5 hk
    simp only[doX,BV,Xab]at h1
    obtain⟨z,hz,h1⟩:=h1
    simp only[evp,Zyc, <-f6,Zaq]at hz
    split at hz
    ·simp only[Xaa]at hz
     obtain⟨b,hb,rfl⟩:=hz
     rw[<-Zdf, <-Zcb]at hb
     refine⟨_,ι,s.put d (.str b) false,h1, ?_,h.putN rfl rfl (fun h=>nomatch h) (fun _=>rfl)⟩
     rw[Z6d,e1]
     simp only[vB2s,q2,Xaw]
     by_cases h0:n=0
     ·rw[if_pos h0]
      have hb':=Zeh hb
      rw[h0,Xcw]at hb'
      cases hb';rfl
     rw[if_neg h0,if_pos (by simp;omega),e4]
     have:((cp++(cg++cq)).drop (cp.length+q)).take n=(cg.drop q).take n:=by
      rw[Xdi,Xas (by omega),show cp.length+q-cp.length=q by omega,Xbl,Xbw (by omega),Xc8 (by simp;omega)]
     simp_all[Zeh]
    ·cases hz
   ·cases hk
  ·cases hk
 ·exact Za9 h rfl hk
theorem Z6y (h:Sat κ S ι s){sz:Nat}{x:Opd}{lo hi mx:Option Opd}(hk:op1 (BV Γ f) ow d (.slc sz x lo hi mx) S k=some r):Res1 κ GA gl d (.slc sz x lo hi mx) g a s k r:=by
 simp only[op1]at hk
 split at hk
 ·rename_i o i j s' hx
  split at hk
  ·rename_i lo' va vb hs ha hb
   obtain rfl:=Xag hs
   obtain⟨id,p,q,cap,hid,e2,e3,e4,e5,e1,e6⟩:=h.opd hx
   rw[ha]at e2;cases e2
   rw[hb]at e3;cases e3
   obtain⟨ys,S1,h1,h2,h3,h4,h5⟩:=h.matL hk
   simp only[BV,Xab]at h1
   obtain⟨z,hz,h1⟩:=h1
   obtain⟨kd,m,e7,rfl,h6,h7,h8⟩:=Zjx h4 hz
   refine⟨_,ι,_,h1, ?_,(h2.push (x:= .int .i64 (p+m)) rfl).put d (v:= .osl id ((p+m).toNat*s') (q.toNat-(p+m).toNat) (cap-m.toNat) s') (o:=false) ⟨id,p+m,q,cap-m.toNat,hid,Zan _ _,(h3.pre.trans (Ext.push S1 (.int .i64 (p+m))).pre) _ _ hb,by omega,h8,rfl,by omega⟩⟩
   rw[Ztm,e1]
   have r1:(p+m).toNat=p.toNat+m.toNat:=by omega
   simp only[Xde,Xay,e7,vSlc,vOpt,cut3,Xb0,Xbu,Xbo,Xat,false_implies,and_true]
   grind[putR,St.take]
  ·rename_i hi' va vb hs ha hb
   obtain rfl:=Xag hs
   obtain⟨id,p,q,cap,hid,e2,e3,e4,e5,e1,e6⟩:=h.opd hx
   rw[ha]at e2;cases e2
   rw[hb]at e3;cases e3
   obtain⟨ys,S1,h1,h2,h3,h4,h5⟩:=h.matL hk
   simp only[BV,Xab]at h1
   obtain⟨z,hz,h1⟩:=h1
   obtain⟨kd,m,e7,rfl,h6,h7,h8⟩:=Zjx h4 hz
   refine⟨_,ι,_,h1, ?_,(h2.push (x:= .int .i64 (p+m)) rfl).put d (v:= .osl id (p.toNat*s') ((p+m).toNat-p.toNat) cap s') (o:=false) ⟨id,p,p+m,cap,hid,(h3.pre.trans (Ext.push S1 (.int .i64 (p+m))).pre) _ _ ha,Zan _ _,e4,by omega,rfl,by omega⟩⟩
   rw[Ztm,e1]
   simp only[Xde,Xay,e7,vSlc,vOpt,cut3,Xb0,Xbu,Xbo,Xat,false_implies,and_true]
   grind[putR,St.take]
  ·cases hk
 ·rename_i o j s' hx
  split at hk
  ·rename_i lo' n hs hn
   split at hk
   rotate_left
   ·obtain rfl:=Xag hs
    obtain⟨id,q,cap,hid,e2,e3,e1,e4⟩:=h.opd hx
    rw[hn]at e2;cases e2
    obtain⟨ys,S1,h1,h2,h3,h4,h5⟩:=h.matL hk
    simp only[BV,Xab]at h1
    obtain⟨z,hz,h1⟩:=h1
    obtain⟨kd,m,e7,rfl,h6,h7,h8⟩:=Zjx h4 hz
    refine⟨_,ι,_,h1, ?_,(h2.push (x:= .int .i64 (0+m)) rfl).put d (v:= .osl id ((0+m).toNat*s') (q.toNat-(0+m).toNat) (cap-m.toNat) s') (o:=false) ⟨id,0+m,q,cap-m.toNat,hid,Zan _ _,(h3.pre.trans (Ext.push S1 (.int .i64 (0+m))).pre) _ _ hn,by omega,h8,rfl,by omega⟩⟩
    rw[Ztm,e1]
    simp only[Xde,Xay,e7,vSlc,vOpt,cut3,Xb0,Xbu,Xbo,Xat,false_implies,and_true]
    grind[putR,St.take]
   obtain rfl:=Xag hs
   obtain⟨id,m,cap,hid,e2,e3,e1,e4⟩:=h.opd hx
   rw[hn]at e2;cases e2
   obtain⟨ys,S1,h1,h2,h3,h4,h5⟩:=h.matL hk
   simp only[BV,Xab]at h1
   obtain⟨q,hq,h1⟩:=h1
   obtain⟨kd,p,e5,rfl,h6,h7⟩:=Zm8 h4 hq
   refine⟨_,ι,_,h1, ?_,(h2.push (x:= .int kd p) rfl).put d (v:= .osl id (p.toNat*s') (m.toNat-p.toNat) (cap-p.toNat) s') (o:=false) ⟨id,m,kd,p,cap-p.toNat,hid,(h3.pre.trans (Ext.push S1 (.int kd p)).pre) _ _ hn,Zan _ _,h6,h7,rfl⟩⟩
   rw[Ztm,e1]
   simp only[Xde,Xay,e5,vSlc,vOpt,cut3,Xb0,Xbu,Xbo,Xat,false_implies,and_true]
   grind[putR,St.take]
  ·rename_i hi' n hs hn
   obtain rfl:=Xag hs
   obtain⟨id,m,cap,hid,e2,e3,e1,e4⟩:=h.opd hx
   rw[hn]at e2;cases e2
   obtain⟨ys,S1,h1,h2,h3,h4,h5⟩:=h.matL hk
   simp only[BV,Xab]at h1
   obtain⟨q,hq,h1⟩:=h1
   obtain⟨kd,p,e5,rfl,h6,h7⟩:=Zug h4 hq
   refine⟨_,ι,_,h1, ?_,(h2.push (x:= .int .i64 p) rfl).put d (v:= .osl id 0 p.toNat cap s') (o:=false) ⟨id,p,cap,hid,Zan _ _,h6,rfl,by omega⟩⟩
   rw[Ztm,e1]
   simp only[Xde,Xay,e5,vSlc,vOpt,cut3,Xb0,Xbu,Xbo,Xat,false_implies,and_true]
   grind[putR,St.take]
  ·cases hk
 ·rename_i o off n c sz' hx
  split at hk
  ·rename_i l hb
   simp only[Xai]at hb
   obtain rfl:=Xag hb.1
   have hnc:n<=c:=Xa5 hb.2
   obtain⟨id,hid,e1⟩:=h.opd hx
   obtain⟨ys,S1,h1,h2,h3,h4,h5⟩:=h.matL hk
   simp only[BV,Xab]at h1
   obtain⟨q,hq,h1⟩:=h1
   obtain⟨kd,p,e5,rfl,h6,h7⟩:=Zil h4 hq
   refine⟨_,ι,_,h1, ?_,(h2.push (x:= .int kd p) rfl).put d (v:= .osl id (off+p.toNat*sz') (n-p.toNat) (c-p.toNat) sz') (o:=false) ⟨id,kd,p,c-p.toNat,hid,Zan _ _,h6,h7,rfl⟩⟩
   rw[Ztm,e1]
   simp only[Xde,Xay,e5,vSlc,vOpt,cut3,Xb0,Xbu,Xbo,Xat,false_implies,and_true]
   grind[putR,St.take]
  ·cases hk
 ·exact Za9 h rfl hk
theorem Z5c (h:Sat κ S ι s){sz:Nat}(hk:op1 (BV Γ f) ow d (.nro sz) S k=some r):Res1 κ GA gl d (.nro sz) g a s k r:=by
 have h1:=h.push (x:= .int .i64 0) rfl
 have h2:=h1.newOb (ss:=[.many none (.c (.agg []) false)]) (cs:=[]) ⟨[],[], .agg [],rfl,fun m hm=>(by cases hm),fun _=>rfl,rfl,⟨rfl,rfl⟩,rfl,rfl⟩
 refine⟨_,_,_,hk,Z9i sz,h2.1.put d (v:= .osl s.nH 0 0 0 sz) (o:=false) ⟨s.nH,0,0,h2.2,Zan S _,Int.le_refl _,rfl,Xae _⟩⟩
theorem Zlu {v:V}(h:v.flatR=true):v.nf=v/\v.clean=true/\v.sc=true:=by cases v<;>simp[V.flatR]at h<;>exact⟨rfl,rfl,rfl⟩
theorem Ze2 {v:V}(h:v.flatR=true)(n:Nat):nfL (List.replicate n v)=List.replicate n v/\Zab (List.replicate n v)=true/\(List.replicate n v).all V.sc=true:=by
 obtain⟨h1,h2,h3⟩:=Zlu h
 induction n<;>grind[nfL,Zab]
theorem Z63 (h:Sat κ S ι s){sz:Nat}{z:List V}{l c:Opd}(hk:op1 (BV Γ f) ow d (.mko sz z l c) S k=some r):Res1 κ GA gl d (.mko sz z l c) g a s k r:=by
 simp only[op1]at hk
 split at hk
 ·rename_i z0
  split at hk
  ·rename_i hfl
   obtain⟨ys,S1,h1,h2,h3,h4,h5⟩:=h.matL hk
   subst h4
   simp only[Xan,Xa9,nfL,BV,Xab]at h1
   obtain⟨y,hy,m,hm,h1⟩:=h1
   simp only[evp]at hy hm
   unfold vRmk at hy
   split at hy
   ·rename_i kn n kc cc e1 e2
    split at hy
    ·rename_i hc
     cases hy
     rw[e1]at hm
     simp only[Zqn,Zb2,true_or,if_true,Xaw]at hm
     rw[if_pos hc.1]at hm
     cases hm
     obtain⟨r1,r2,r3⟩:=Ze2 hfl n.toNat
     have hcl:(V.agg (List.replicate n.toNat z0)).clean=true:=r2
     have k1:=(h2.push hcl).push (x:= .int .i64 (n+0)) rfl
     have k2:=k1.newOb (ss:=[.many none (.n S1.nx false false)]) (cs:=List.replicate n.toNat z0) ⟨List.replicate n.toNat z0,[], .agg (List.replicate n.toNat z0),by simp,fun m hm=>(by cases hm),fun _=>rfl,r3,(Ext.push _ _).pre _ _ (Zan S1 _),r1,rfl⟩
     refine⟨_,ι++ [s.nH],(s.new (List.replicate n.toNat z0)).put d (.osl s.nH 0 n.toNat n.toNat 1) false,h1, ?_, ?_⟩
     ·rw[Qbd,Zb3 e1,Zb3 e2]
      simp_all[Zlu,St.mkOb]
     ·have hob:S.ob.length=((S1.push (V.agg (List.replicate n.toNat z0))).push (.int .i64 (n+0))).ob.length:=by simp only[PS.push,h3.ob]
      rw[hob]
      refine k2.1.put d (v:= .osl s.nH 0 n.toNat n.toNat 1) (o:=false) ⟨s.nH,n,n.toNat,k2.2, ?_,hc.1,rfl,Xae _⟩
      have:=Zan (S1.push (V.agg (List.replicate n.toNat z0))) (.int .i64 (n+0))
      rw[show(S1.push (V.agg (List.replicate n.toNat z0))).nx=S1.nx+1 by simp[PS.push,PS.nx]]at this
      exact this.trans (by grind)
    ·cases hy
   ·cases hy
  ·cases hk
 ·cases hk
theorem Zsv {X:Type}(S:PS X)(o k:Nat){qs:List Seg}(h:(S.dropOb o).obj k=some qs):k≠o/\S.obj k=some qs:=by
 grind[PS.obj,PS.dropOb]
theorem Sat.kill (h:Sat κ S ι s){o id:Nat}(hι:ι[o]? =some id):Sat κ (S.dropOb o) ι (s.kill id) where
 tm t y hy:=h.tm t y hy
 ob k qs hk:=by
  obtain⟨hne,hk⟩:=Zsv S o k hk
  obtain⟨id',h1,h2⟩:=h.ob k qs hk
  have hne':id'≠id:=fun he=>by
   subst he
   exact hne ((Xdw (Xak.1 h1).1 h.nd).1 (by rw[h1,hι]))
  exact⟨id',h1,h2.to (.refl _) (.refl _) (by simp_all[St.kill,upd]) fun j=>by grind[St.kill]⟩
 nd:=h.nd
 lt:=h.lt
 len:=by simpa[PS.dropOb]using h.len
 lits:=h.lits
 cln:=h.cln
 g:=h.g
 pre:=h.pre
 new:=h.new
 nH:=h.nH
 fr id' h1 h2:=by
  have hne:id'≠id:=by
   rcases h.given hι with h3|h3<;>grind
  obtain⟨k3,k4⟩:=h.fr id' h1 h2
  simp_all[St.kill,upd]
theorem Zye {sz:Nat}{ys fs:List V}(h:Zkg sz (nfL ys)=some fs):∃gs,Zkg sz ys=some gs/\nfL gs=fs/\gs.all V.sc=true:=by
 unfold Zkg at h⊢
 rw[Zin]at h
 split at h
 ·rename_i hf
  refine⟨_,if_pos hf, ?_, ?_⟩
  ·grind[Zcn,List.flatMap_map,Zbs]
  grind[fits]
 ·cases h
theorem Zta {H:Hp}{nl:Bool}{sz:Nat}{v u:V}{ts:List V}(h:Zf3 nl H v=some u)(hs:∀id off len cap s,v= .osl id off len cap s->s=sz)(ht:Zb2 H sz u=some ts):Zb2 H sz v=some ts:=by
 unfold Zf3 at h
 split at h
 ·simp only[Zb2]
  split at h
  ·grind[Zb2]
  ·simp only[Xab]at h
   grind[Zb2]
 grind
theorem Z2d (h:Sat κ S ι s){x:Opd}{sz:Nat}(hk:Z0a sz (S.opd x)=true){id off len cap s':Nat}(he:evO s.tm x= .osl id off len cap s'):s'=sz:=by
 cases hx:S.opd x with
 |none=>rw[hx]at hk;cases hk
 |some y=>
  rw[hx]at hk
  have ha:=h.opd hx
  rw[he]at ha
  cases y with
  |tup az=>cases hk
  |agg ss z=>
   obtain⟨⟨cs,hcs,_⟩,_⟩:=ha
   cases hcs
  | «at» b=>
   cases b with
   |osl o f n c s0=>obtain⟨i,_,e⟩:=ha;cases e;exact Xag hk
   |osc o f n i s0=>obtain⟨i',kd,m,cp,_,_,_,_,e⟩:=ha;simp only[V.osl.injEq]at e;rw[e.2.2.2.2];exact Xag hk
   |osx o i s0=>obtain⟨i',m,cp,_,_,_,e,_⟩:=ha;cases e;exact Xag hk
   |osv o i j s0=>obtain⟨i',m,m',cp,_,_,_,_,_,e,_⟩:=ha;cases e;exact Xag hk
   |n i own sc=>
    have h2:=h.cln _ (Xaj ha.1)
    grind[V.nf,V.clean]
   |c v own=>
    have h2:=ha.2.1
    have h1:=ha.1
    grind[V.nf,V.clean]
   |_=>cases hk
theorem Z1x (h:Sat κ S ι s){sz:Nat}{x y:Opd}(hk:op1 (BV Γ f) ow d (.appo sz x y) S k=some r):Res1 κ GA gl d (.appo sz x y) g a s k r:=by
 simp only[op1]at hk
 split at hk
 ·rename_i o j s' hx
  split at hk
  ·rename_i w n hs hw hn
   simp only[Xai]at hs
   obtain⟨hs,htl⟩:=hs
   obtain rfl:=Xag hs
   obtain⟨id,m,cap,hid,e2,e3,e1,e4⟩:=h.opd hx
   rw[hn]at e2;cases e2
   obtain⟨cs,q1,q2,q3,q4⟩:=Zny h hid hw
   obtain⟨ys,S1,u,h1,h2,h3,h4,h5,h6,_,_⟩:=Zrd h hk
   have h4:=h4 true
   have h6:=h6 true
   subst h4
   simp only[BV,Xab]at h1
   obtain⟨z,hz,l,hl,h1⟩:=h1
   simp only[evp,Ztc,Xab]at hz
   obtain⟨ts,ht,fs,hf,hz⟩:=hz
   split at hz
   ·rename_i hc
    cases hz
    obtain⟨zs,t1,rfl,t2⟩:=Zr9 (H:=s.H) h5 ht
    replace t1:=Zta h6 (fun _ _ _ _ _ he=>Z2d h htl he) t1
    obtain⟨gs,g1,rfl,g2⟩:=Zye hf
    simp only[evp,Zqn,ht,Xaw]at hl
    rw[if_pos e3]at hl
    cases hl
    rw[<-q2,Zaq]at hc
    have hcl:(V.agg (w.cells.take (m.toNat*s')++nfL gs)).clean=true:=by
     refine Zbf (Zbm (clean_cells q4) _) ?_<;>grind[clean_cells,Zaj,Zkg]
    have k1:=((h2.push hcl).push (x:= .int .i64 (m+(nfL zs).length)) rfl).kill hid
    have hall:(cs.take (m.toNat*s')++gs).all V.sc=true:=by
     grind
    have k2:=k1.newOb (ss:=[.many none (.n S1.nx false false)]) (cs:=cs.take (m.toNat*s')++gs) ⟨cs.take (m.toNat*s')++gs,[], .agg (w.cells.take (m.toNat*s')++nfL gs),by simp,fun m hm=>(by cases hm),fun _=>rfl,hall,(Ext.push _ _).pre _ _ (Zan S1 _),by simp_all[Zbv,Zcb],rfl⟩
    refine⟨_,ι++ [s.nH],(s.turnOb id (cs.take (m.toNat*s')++gs)).put d (.osl s.nH 0 (m.toNat+zs.length) (m.toNat+zs.length) s') false,h1, ?_, ?_⟩
    ·simp_all[Z6m,St.appOb]
    ·have hob:S.ob.length=(((S1.push (V.agg (w.cells.take (m.toNat*s')++nfL gs))).push (.int .i64 (m+(nfL zs).length))).dropOb o).ob.length:=by simp only[PS.push,PS.dropOb,h3.ob,List.length_set]
     rw[hob]
     refine k2.1.put d (v:= .osl s.nH 0 (m.toNat+zs.length) (m.toNat+zs.length) s') (o:=false) ⟨s.nH,m+(nfL zs).length,m.toNat+zs.length,k2.2, ?_,by omega, ?_, ?_⟩
     ·have:=Zan (S1.push (V.agg (w.cells.take (m.toNat*s')++nfL gs))) (.int .i64 (m+(nfL zs).length))
      rw[show(S1.push (V.agg (w.cells.take (m.toNat*s')++nfL gs))).nx=S1.nx+1 by simp[PS.push,PS.nx]]at this
      exact this
     ·grind[Zaq]
     grind[Zaq]
   ·cases hz
  ·cases hk
 ·cases hk
theorem Zoc (h:Sat κ S ι s){o id off n:Nat}{cs ys:List V}{q:List Seg}(hid:ι[o]? =some id)(hn:ys.length=n)(hq:SegsS ι S.vals q (Zas cs off ys) (fun j=>(s.setOb id cs off ys).own (.cell id j)) 0):Sat κ (S.setOb o q) ι (s.setOb id cs off ys):=
 h.objUpd (s':=s.setOb id cs off ys) hid rfl (fun t=>rfl) rfl (fun id' hne=>⟨by simp_all,fun j=>by simp_all⟩) (by simp_all) hq
theorem Zxc (h:Sat κ S ι s){S1:PS V}(h1:Sat κ S1 ι s)(he:Ext S S1){o id off q i n:Nat}{ss:List Seg}{sn:Option Nat}{a':At}{w:V}{ys:List V}(hid:ι[o]? =some id)(hss:S.cob o=some ss)(hs:Zc6 ss off 0=some (.many sn a',q,i))
  (hw:AtV S.vals a' w) (hwc:w.clean=true) (hle:q+n<=w.cells.length) (hn:ys.length=n) (hsc:ys.all V.sc=true) (hyc:Zab (nfL ys)=true):
  ∃cs,Zap s.H id=some cs/\off+n<=cs.length/\Sat κ ((S1.push (.agg (Zas w.cells q (nfL ys)))).setOb o (spl ss i 1 [.many sn (.n S1.nx false false)])) ι (s.setOb id cs off ys):=by
 obtain⟨id',cs,q1,q2,q3⟩:=h.cob o ss hss
 rw[hid]at q1;cases q1
 have hcl:(V.agg (Zas w.cells q (nfL ys))).clean=true:=Zdy (clean_cells hwc) hyc _
 have hpre:=he.pre.trans (Ext.push S1 (V.agg (Zas w.cells q (nfL ys)))).pre
 have:=Zra (ow':=fun j=>(s.setOb id cs off ys).own (.cell id j)) (ys:=ys) (i':=S1.nx) (x:=w) (q3.mono (.refl _) hpre) hs (fun w' hw'=>by
  have:=AtV.mono hpre hw
  cases a' with
  |c v o=>exact hw'.1.symm.trans this.1
  |n i o sc=>exact Option.some.inj (hw'.symm.trans this)
  |_=>exact hw'.elim) (by omega) hn hsc (Zan _ _) rfl (fun j hj=>by simp_all)
 exact⟨cs,q2,this.1,Zoc (h1.push hcl) hid hn this.2⟩
theorem Zje (b:Bytes)(n:Nat):(encB b).take n=encB (b.take n):=by simp only[encB,Xeo]
theorem Z4o (h:Sat κ S ι s){x y:Opd}(hk:op1 (BV Γ f) ow d (.cpy x y) S k=some r):Res1 κ GA gl d (.cpy x y) g a s k r:=by
 simp only[op1]at hk
 split at hk
 ·rename_i o off n cap hx
  split at hk
  ·rename_i ss hss hpos
   split at hk
   ·rename_i sn a' q i hs
    obtain⟨id,hid,e1⟩:=h.opd hx
    obtain⟨cs0,w,p1,p2,p3⟩:=Zlk h hid hss hs
    simp only[mat]at hk
    split at hk
    ·rename_i x' hx'
     obtain⟨rfl,hwc⟩:=h.valV p2 hx'
     obtain⟨ys,S1,h1,h2,h3,h4,h5⟩:=h.matL hk
     subst h4
     simp only[Xan,Xa9,nfL,BV,Xab]at h1
     obtain⟨z,hz,m,hm,h1⟩:=h1
     simp only[evp]at hz hm
     unfold Z4d at hz
     split at hz
     ·rename_i b e2
      split at hz
      ·cases hz
       rw[e2]at hm
       cases hm
       have hen:nfL ((encB b).take n)=(encB b).take n:=by rw[Zje,Zpz]
       have hec:Zab (nfL ((encB b).take n))=true:=by grind[Zje,Zfd]
       have hes:((encB b).take n).all V.sc=true:=by
        simp_all[Zje]
       have hel:((encB b).take n).length<=n:=by grind
       obtain⟨cs,q1,q2,q3⟩:=Zxc h h2 h3 (ys:=(encB b).take n) (n:=((encB b).take n).length) hid hss hs p2 hwc (by omega) rfl hes hec
       rw[p1]at q1;cases q1
       obtain⟨p4,_⟩:=p3 0 n (by omega)
       rw[hen]at q3
       have hb:(encB b).length=b.length:=by simp[encB]
       have h6:Sat κ (((S1.push (.agg (Zas x'.cells q ((encB b).take n)))).setOb o (spl ss i 1 [.many sn (.n S1.nx false false)])).push (.int .i64 (min (b.length:Int) n))) ι (s.setOb id cs0 off ((encB b).take n)):=q3.push rfl
       refine⟨_,ι,(s.setOb id cs0 off ((encB b).take n)).put d (.int .i64 (min ((encB b).length:Int) n)) false,h1, ?_, ?_⟩
       ·rw[Qbo,e1,Zdz e2]
        simp_all[St.cpyOb,vSrc]
       ·rw[hb]
        have h7:(S1.push (.agg (Zas x'.cells q ((encB b).take n)))).nx=S1.nx+1:=by simp[PS.push,PS.nx]
        have h8:=Zan ((S1.push (.agg (Zas x'.cells q ((encB b).take n)))).setOb o (spl ss i 1 [.many sn (.n S1.nx false false)])) (.int .i64 (min (b.length:Int) n))
        rw[show((S1.push (.agg (Zas x'.cells q ((encB b).take n)))).setOb o (spl ss i 1 [.many sn (.n S1.nx false false)])).nx=S1.nx+1 from h7]at h8
        exact h6.put d (y:= .at (.n (S1.nx+1) false true)) ⟨h8,(fun h=>nomatch h),fun _=>rfl⟩
      ·cases hz
     ·cases hz
    ·cases hk
   ·cases hk
  ·cases hk
 ·cases hk
theorem Z1o (h:Sat κ S ι s){o id off:Nat}{w:V}{ys:List V}(hid:ι[o]? =some id)(hw:rowVal (BV Γ f) S o=some w)(hle:off+ys.length<=w.cells.length)(hsc:ys.all V.sc=true)(hyc:Zab (nfL ys)=true):
  ∃cs,Zap s.H id=some cs/\off+ys.length<=cs.length/\Sat κ ((S.push (.agg (Zas w.cells off (nfL ys)))).setOb o [.many none (.n S.nx false false)]) ι (s.setOb id cs off ys):=by
 obtain⟨cs,q1,q2,q3,q4⟩:=Zny h hid hw
 have hcl:(V.agg (Zas w.cells off (nfL ys))).clean=true:=Zdy (clean_cells q4) hyc _
 have hl:off+ys.length<=cs.length:=by grind[Zaq]
 refine⟨cs,q1,hl,Zoc (h.push hcl) hid rfl ⟨Zas cs off ys,[], .agg (Zas w.cells off (nfL ys)),by simp,(fun m hm=>by cases hm),fun _=>rfl, ?_,Zan _ _, ?_,rfl⟩⟩
 ·grind[Zas]
 simp_all[Zoe]
theorem Z5g (h:Sat κ S ι s){z:List V}{x:Opd}(hk:op1 (BV Γ f) ow d (.clr z x) S k=some r):Res1 κ GA gl d (.clr z x) g a s k r:=by
 simp only[op1]at hk
 split at hk
 ·rename_i o j i z0 hx
  split at hk
  ·rename_i w n p hw hn hp hz0
   obtain⟨id,m,kd,p',cap,hid,e2,e3,e4,e5,e1⟩:=h.opd hx
   rw[hn]at e2;cases e2
   rw[hp]at e3;cases e3
   simp only[BV,Xab]at hk
   obtain⟨y,hy,hk⟩:=hk
   simp only[evp,Z4s]at hy
   obtain⟨r1,r2,r3⟩:=Ze2 hz0 (m.toNat-p'.toNat)
   split at hy
   ·cases hy
    obtain⟨cs,q1,q2,q3⟩:=Z1o h (off:=p'.toNat) (ys:=List.replicate (m.toNat-p'.toNat) z0) hid hw (by simp;omega) r3 (by grind)
    rw[r1]at q3
    refine⟨_,ι,(s.setOb id cs p'.toNat (List.replicate (m.toNat-p'.toNat) z0)).put d Nil false,hk, ?_,q3.put d (y:= .at .nil) rfl⟩
    rw[Z51,e1]
    grind[St.clrOb]
   ·cases hy
  ·cases hk
 ·rename_i o off n cap z0 hx
  split at hk
  ·rename_i ss hss hb
   simp only[Xai]at hb
   obtain⟨r1,r2,r3⟩:=Ze2 hb.2 n
   split at hk
   ·rename_i sn a' q i hs
    obtain⟨id,hid,e1⟩:=h.opd hx
    obtain⟨cs0,w,p1,p2,p3⟩:=Zlk h hid hss hs
    simp only[mat]at hk
    split at hk
    ·rename_i x' hx'
     obtain⟨rfl,hwc⟩:=h.valV p2 hx'
     simp only[BV,Xab]at hk
     obtain⟨y,hy,hk⟩:=hk
     simp only[evp]at hy
     unfold Z70 at hy
     split at hy
     ·rename_i hle
      cases hy
      obtain⟨cs,q1,q2,q3⟩:=Zxc h h (.refl S) (ys:=List.replicate n z0) hid hss hs p2 hwc hle (by simp) r3 (by grind)
      rw[r1]at q3
      refine⟨_,ι,(s.setOb id cs off (List.replicate n z0)).put d Nil false,hk, ?_,q3.put d (y:= .at .nil) rfl⟩<;>simp_all[Z51,Zlu,St.clrOb]
     ·cases hy
    ·cases hk
   ·cases hk
  ·cases hk
 ·cases hk
theorem Zw7 (xs:List V):nfL (xs.flatMap V.cells)=(nfL xs).flatMap V.cells:=by
 induction xs<;>grind[Zbv,Zbs,nfL]
theorem Z4i (h:Sat κ S ι s){n:Nat}{x:Opd}(hk:op1 (BV Γ f) ow d (.s2a n x) S k=some r):Res1 κ GA gl d (.s2a n x) g a s k r:=by
 obtain⟨ys,S1,h1,h2,h3,h4,h5⟩:=h.matL hk
 simp only[BV,Xab]at h1
 obtain⟨z,hz,h1⟩:=h1
 subst h4
 simp only[Xan,Xa9,nfL,evp,Zzj]at hz
 simp only[Xan,Xa9,nfL,Zab,Xce]at h5
 split at hz
 ·rename_i b xs e
  obtain⟨_,nl,rs,e3,rfl,hn⟩:=Zgw e
  split at hz
  ·rename_i hc
   cases hz
   rw[Zaq,Zin]at hc
   have hne:rs≠ []:=fun e=>hc.2.1 (by rw[e];rfl)
   have hnl:nl=false:=by grind
   rw[e]at h5
   have hcl:(V.agg ((nfL rs).flatMap V.cells)).clean=true:=by
    refine Zaj.2 fun v hv=> ?_
    obtain⟨w,hw,hv⟩:=Xb3.1 hv
    exact Zaj.1 (clean_cells (Zaj.1 (show Zab (nfL rs)=true from h5) w hw)) v hv
   refine⟨_,ι,s.put d (.el (rs.flatMap V.cells) 0) false,h1,by simp_all[vS2a],(h2.push hcl).put d (y:= .at (.el S1.nx 0)) ⟨_,Zan _ _, ?_⟩⟩
   show V.el (nfL (rs.flatMap V.cells)) 0=_
   rw[Zw7];rfl
  ·cases hz
 ·cases hz
theorem Z61 (h:Sat κ S ι s){cs:List V}(hk:op1 (BV Γ f) ow d (.new cs) S k=some r):Res1 κ GA gl d (.new cs) g a s k r:=by
 simp only[op1]at hk
 split at hk
 ·rename_i ss hss
  obtain⟨h1,h2⟩:=h.newOb (Zo5 (ι:=ι) (vs:=S.vals) (ow':=fun _=>false) (j:=0) hss).1
  exact⟨_,ι++ [s.nH],_,hk,Qae cs,h1.put d (y:= .at (.ptr S.ob.length 0)) (v:= .ptr s.nH 0) (o:=false) ⟨s.nH,h2,rfl⟩⟩
 ·cases hk
theorem Z7h (h:Sat κ S ι s){x:Opd}(hk:op1 (BV Γ f) ow d (.box x) S k=some r):Res1 κ GA gl d (.box x) g a s k r:=by
 simp only[op1]at hk
 split at hk
 ·rename_i ss z hx
  obtain⟨⟨cs,e1,h1⟩,_⟩:=h.opd hx
  obtain⟨h2,h3⟩:=h.newOb (h1.noOwn (fun _=>false) 0 0)
  exact⟨_,ι++ [s.nH],_,hk,by rw[Z64,e1,Zw4,if_pos h1.all_sc],h2.put d (y:= .at (.ptr S.ob.length 0)) (v:= .ptr s.nH 0) (o:=false) ⟨s.nH,h3,rfl⟩⟩
 ·cases hk
 ·rename_i a' hx
  have ha:=h.opd hx
  split at hk
  ·rename_i ho
   have hsc:=AtS.one ha ho
   have hseg:SegsS ι S.vals [.one a'.noOwn] (evO s.tm x).cells (fun _=>false) 0:=by rw[Zky hsc];exact⟨_,[],rfl,AtS.noOwn ha _,hsc,rfl⟩
   obtain⟨h2,h3⟩:=h.newOb hseg
   exact⟨_,ι++ [s.nH],_,hk,by rw[Z64,if_pos hseg.all_sc],h2.put d (y:= .at (.ptr S.ob.length 0)) (v:= .ptr s.nH 0) (o:=false) ⟨s.nH,h3,rfl⟩⟩
  ·obtain⟨S1,h1,h2,h3,h4⟩:=h.mat ha hk
   simp only[BV,Xab]at h1
   obtain⟨z,hz,h1⟩:=h1
   simp only[evp]at hz
   split at hz
   ·rename_i hsc
    cases hz
    rw[Zbs,Zfc]at hsc
    have h5:=h2.push h4
    have hseg:SegsS ι (S1.push (evO s.tm x).nf).vals [.many none (.n S1.nx false false)] (evO s.tm x).cells (fun _=>false) 0:=⟨_,[],(evO s.tm x).nf,by simp,fun m hm=>by(cases hm),fun _=>rfl,hsc,Zan _ _,by rw[Zbs],rfl⟩
    obtain⟨h6,h7⟩:=h5.newOb hseg
    have hob:(S1.push (evO s.tm x).nf).ob.length=S.ob.length:=by show S1.ob.length=_;rw[h3.ob]
    rw[hob]at h7
    exact⟨_,ι++ [s.nH],_,h1,by simp_all,h6.put d (y:= .at (.ptr S.ob.length 0)) (v:= .ptr s.nH 0) (o:=false) ⟨s.nH,h7,rfl⟩⟩
   ·cases hz
 ·cases hk
theorem Zih {q:KK}{a b:V}{p:Bool}(h:Zdr q a.nf b.nf=some p):Zdr q a b=some p:=by
 obtain⟨f,ks⟩:=q
 cases f with
 |true=>
  cases ha:a.nf<;>rw[ha]at h<;>simp only[Zdr,reduceCtorEq]at h
  cases hb:b.nf<;>rw[hb]at h<;>simp only[reduceCtorEq]at h
  obtain⟨xs,rfl,rfl⟩:=Zkj ha
  obtain⟨ys,rfl,rfl⟩:=Zkj hb
  exact Zg1 h
 |false=>
  have key:∀x y:V,Zdr (false,ks) x y=if x.sc=true/\y.sc=true then Zat ks [x] [y]else none:=fun x y=>by cases x<;>cases y<;>rfl
  rw[key]at h⊢
  rw[Zni,Zni]at h
  split at h
  ·rename_i hc
   rw[if_pos hc]
   exact Zg1 (a:=[a]) (b:=[b]) h
  ·cases h
def nfP (p:V×V):V×V:=(p.1.nf,p.2.nf)
theorem Zos (l:List (V×V)):(mpV l).nf=mpV (l.map nfP):=by
 simp only[mpV,V.nf]
 rw[Zcn,Xcg,Xcg]
 rfl
theorem Zz9 :∀l:List (V×V),unM (l.map fun p=> .tup [p.1,p.2])=some l
 | []=>rfl
 |(k,v)::r=>by simp only[Xan,unM,Zz9 r,Xay]
theorem Zma (l:List (V×V)):unMp (mpV l)=some l:=Zz9 l
theorem Zrq {q:KK}{k:V}:∀{l:List (V×V)} {r:Option V},Ze3 q k.nf (l.map nfP)=some r-> ∃r0,Ze3 q k l=some r0/\r=r0.map V.nf
 | [],r,h=>by grind[Ze3]
 |p::l,r,h=>by
  simp only[Xan,Ze3,Xab]at h
  obtain⟨b,hb,h⟩:=h
  have hb':=Zih (a:=k) (b:=p.1) hb
  cases b with
  |true=>
   simp only[if_true,Xac]at h
   exact⟨some p.2,by simp[Ze3,hb'],h.symm⟩
  |false=>
   obtain⟨r0,h1,h2⟩:=Zrq h
   exact⟨r0,by simp[Ze3,hb',h1],h2⟩
theorem Zv0 {q:KK}{k x:V}:∀{l l':List (V×V)},mPut q k.nf x.nf (l.map nfP)=some l'-> ∃l0,mPut q k x l=some l0/\l'=l0.map nfP
 | [],l',h=>by simp only[Xa9,mPut,Xac]at h;subst h;exact⟨[(k,x)],rfl,rfl⟩
 |p::l,l',h=>by
  simp only[Xan,mPut,Xab]at h
  obtain⟨b,hb,h⟩:=h
  have hb':=Zih (a:=k) (b:=p.1) hb
  cases b with
  |true=>
   simp only[if_true,Xac]at h
   subst h
   exact⟨(k,x)::l,by simp[mPut,hb'],rfl⟩
  |false=>
   simp only[Xat,if_false,Xaa]at h
   obtain⟨l1,h,rfl⟩:=h
   obtain⟨l0,h1,h2⟩:=Zv0 h
   exact⟨p::l0,by simp[mPut,hb',h1],by rw[h2];rfl⟩
def Zsn (l:List (V×V)):Prop:=∀p∈l,p.1.clean=true/\p.2.clean=true
theorem Zi4 {l:List (V×V)}:(mpV l).clean=true<->Zsn l:=by
 simp only[mpV,V.clean,Zaj,Xa7]
 constructor
 ·intro h p hp
  have:=h _ ⟨p,hp,rfl⟩
  simp_all
 ·rintro h v ⟨p,hp,rfl⟩
  simp only[V.clean,Zab,Xce,Xai]
  exact h p hp
theorem Zis {q:KK}{k:V}:∀{l:List (V×V)} {r:Option V},Ze3 q k l=some r->Zsn l-> ∀v,r=some v->v.clean=true
 | [],r,h,_,v,hv=>by grind[Ze3]
 |p::l,r,h,hc,v,hv=>by
  simp only[Ze3,Xab]at h
  obtain⟨b,_,h⟩:=h
  cases b with
  |true=>
   simp only[if_true,Xac]at h
   subst h;cases hv
   exact(hc p (by simp)).2
  |false=>
   exact Zis h (fun p hp=>hc p (Xbb _ hp)) v hv
theorem Zkl {q:KK}{k x:V}(hk:k.clean=true)(hx:x.clean=true):∀{l l':List (V×V)},mPut q k x l=some l'->Zsn l->Zsn l'
 | [],l',h,_=>by
  simp only[mPut,Xac]at h;intro p hp
  grind
 |p::l,l',h,hc=>by
  simp only[mPut,Xab]at h
  obtain⟨b,_,h⟩:=h
  cases b with
  |true=>
   simp only[if_true,Xac]at h
   subst h
   intro p' hp'
   rcases Xap.1 hp' with rfl|hp'
   ·exact⟨hk,hx⟩
   ·exact hc p' (Xbb _ hp')
  |false=>
   simp only[Xat,if_false,Xaa]at h
   obtain⟨l1,h,rfl⟩:=h
   intro p' hp'
   rcases Xap.1 hp' with rfl|hp'
   ·exact hc _ (by simp)
   ·exact Zkl hk hx h (fun p hp=>hc p (Xbb _ hp)) p' hp'
theorem Zxq {v:V}(h:v.nf= .nilmap):v= .nilmap:=by
 cases v<;>simp_all[V.nf]
 all_goals (rename_i nl sz xs;cases nl<;>cases xs<;>simp[V.nf]at h)
theorem Zua (h:Sat κ S ι s){m:Opd}{M:V}(hm:mapV (BV Γ f) S (S.opd m)=some M):∃l,Zjz s.H (evO s.tm m)=some l/\M=(mpV l).nf/\M.clean=true:=by
 unfold mapV at hm
 split at hm
 ·rename_i o ho
  simp only[Xab]at hm
  obtain⟨i,hi,hm⟩:=hm
  obtain⟨id,l,h1,h2,h3⟩:=h.mpo hi
  obtain⟨id',h4,h5⟩:=h.opd ho
  rw[h1]at h4;cases h4
  rw[hm]at h3;cases h3
  exact⟨l,by rw[h5];exact h2,rfl,h.cln _ (Xaj hm)⟩
 ·rename_i w ho
  cases hm
  have h1:=h.opd ho
  exact⟨[],by rw[Zxq h1.1];rfl,rfl,rfl⟩
 ·cases hm
theorem Qa2 :exec1 GA gl ⟨d, .nmp,g,a⟩ s=some (s.newMp.put d (.map s.nH) false):=rfl
theorem Qal (q:KK)(z:V)(ok:Bool)(m k:Opd):exec1 GA gl ⟨d, .mlk q z ok m k,g,a⟩ s=putV s d (vMlk s.H q z ok (evO s.tm m) (evO s.tm k)):=Zax _
theorem Qbf (m:Opd):exec1 GA gl ⟨d, .mln m,g,a⟩ s=putV s d (vMln s.H (evO s.tm m)):=Zax _
theorem Qbg (q:KK)(m k x:Opd):exec1 GA gl ⟨d, .mup q m k x,g,a⟩ s=(s.upMp q (evO s.tm m) (evO s.tm k) (evO s.tm x)).map fun s=>s.put d Nil false:=rfl
theorem Z7n (h:Sat κ S ι s)(hk:op1 (BV Γ f) ow d .nmp S k=some r):Res1 κ GA gl d .nmp g a s k r:=by
 have h1:=h.push (x:=mpV []) rfl
 have h2:=h1.newObS (s':=s.newMp) (ss:=[.one (.mpc S.nx)]) rfl (fun _=>rfl) rfl (fun id' hne=>⟨by simp_all[St.newMp,upd],fun j=>by grind[St.newMp]⟩)
  (.mp [] (by simp[hMap,St.newMp,upd]) (Zan S _))
 exact⟨_,_,_,hk,Qa2,h2.1.put d (v:= .map s.nH) (o:=false) ⟨s.nH,h2.2,rfl⟩⟩
theorem Z6n (h:Sat κ S ι s){q:KK}{z:V}{ok:Bool}{m x:Opd}(hk:op1 (BV Γ f) ow d (.mlk q z ok m x) S k=some r):Res1 κ GA gl d (.mlk q z ok m x) g a s k r:=by
 simp only[op1]at hk
 split at hk
 ·rename_i M hM hz
  obtain⟨l,hl,rfl,hc⟩:=Zua h hM
  cases hx:S.opd x with
  |none=>grind[mat,BV]
  |some y=>
   rw[hx]at hk
   obtain⟨S1,h1,h2,h3,h4⟩:=h.mat (h.opd hx) hk
   simp only[doX,BV,Xab]at h1
   obtain⟨w,hw,h1⟩:=h1
   rw[Zos]at hw hc
   simp only[evp,Ztj,Zma,Xaw]at hw
   split at hw
   ·simp only[Xab]at hw
    obtain⟨r1,hr1,hw⟩:=hw
    obtain⟨r0,hr0,rfl⟩:=Zrq hr1
    have hcl:=Zis hr1 (Zi4.1 hc)
    have hg:(r0.map V.nf).getD z.nf=(r0.getD z).nf:=by cases r0<;>rfl
    have hgc:((r0.map V.nf).getD z.nf).clean=true:=by
     cases r0<;>grind
    rw[hg]at hw hgc
    have hex:vMlk s.H q z ok (evO s.tm m) (evO s.tm x)=some (if ok then .tup [r0.getD z, .bool r0.isSome]else r0.getD z):=by
     grind[Zih,vMlk]
    have hsome:(r0.map V.nf).isSome=r0.isSome:=by cases r0<;>rfl
    have key:(if ok=true then V.tup [r0.getD z, .bool r0.isSome]else r0.getD z).nf=w/\w.clean=true/\(Prim.one (.mlk q z.nf ok)=true->(if ok=true then V.tup [r0.getD z, .bool r0.isSome]else r0.getD z).sc=true):=by
     cases ok with
     |true=>
      simp only[if_true,Xac,hsome]at hw⊢
      subst hw
      refine⟨rfl, ?_,fun h=>by simp[Prim.one]at h⟩<;>simp_all
     |false=>
      simp_all[Zni,Prim.one]
    exact⟨_,ι,_,h1,by rw[Qal,hex];rfl,h2.putN key.1 key.2.1 (fun h=>nomatch h) key.2.2⟩
   ·cases hw
 ·cases hk
theorem Z7c (h:Sat κ S ι s){m:Opd}(hk:op1 (BV Γ f) ow d (.mln m) S k=some r):Res1 κ GA gl d (.mln m) g a s k r:=by
 simp only[op1]at hk
 split at hk
 ·rename_i M hM
  obtain⟨l,hl,rfl,hc⟩:=Zua h hM
  simp only[doX,BV,Xab]at hk
  obtain⟨w,hw,h1⟩:=hk
  rw[Zos]at hw
  simp only[evp,Z7z,Zma,Xay,Xb2,Xac]at hw
  subst hw
  exact⟨_,ι,s.put d (.int .i64 l.length) false,h1,by simp_all[Qbf,vMln],h.putN rfl rfl (fun h=>nomatch h) (fun _=>rfl)⟩
 ·cases hk
theorem Z5a (h:Sat κ S ι s){q:KK}{m x y:Opd}(hk:op1 (BV Γ f) ow d (.mup q m x y) S k=some r):Res1 κ GA gl d (.mup q m x y) g a s k r:=by
 simp only[op1]at hk
 split at hk
 ·rename_i o ho
  split at hk
  ·rename_i M hM
   rw[ho]at hM
   unfold mapV at hM
   simp only[Xab]at hM
   obtain⟨i,hi,hM⟩:=hM
   obtain⟨id,l,g1,g2,g3⟩:=h.mpo hi
   obtain⟨id',g4,g5⟩:=h.opd ho
   rw[g1]at g4;rw[hM]at g3;cases g3
   have hc:=h.cln _ (Xaj hM)
   obtain⟨ys,S1,h1,h2,h3,h4,h5⟩:=h.matL hk
   simp only[Xan,Xa9,nfL]at h4
   subst h4
   simp only[BV,Xab]at h1
   obtain⟨w,hw,h1⟩:=h1
   simp only[Zab,Xce,Xai]at h5
   rw[Zos]at hw hc
   simp only[evp,Zsz,Zma,Xaw]at hw
   split at hw
   ·simp only[Xaa]at hw
    obtain⟨l1,hl1,rfl⟩:=hw
    obtain⟨l0,hl0,rfl⟩:=Zv0 hl1
    have hcl:=Zkl h5.1 h5.2 hl1 (Zi4.1 hc)
    rw[<-Zos]at h1
    have hcl2:(mpV l0).nf.clean=true:=by grind[Zos,Zi4]
    have hu:s.upMp q (evO s.tm m) (evO s.tm x) (evO s.tm y)=some (s.setMp id l0):=by
     grind[Zih,St.upMp]
    have hid:ι[o]? =some id:=g1
    have h6:=(h2.push hcl2).objUpdS (o:=o) (s':=s.setMp id l0) (ss:=[.one (.mpc S1.nx)]) hid rfl (fun _=>rfl) rfl (fun id' hne=>⟨by simp_all[St.setMp,upd],fun j=>by grind[St.setMp]⟩)
     (.mp l0 (by simp[hMap,St.setMp,upd]) (Zan S1 _))
    exact⟨_,ι,_,h1,by grind[Qbg],h6.put d (y:= .at .nil) (v:=Nil) (o:=false) rfl⟩
   ·cases hw
  ·cases hk
 ·cases hk
theorem Zz3 (h:Sat κ S ι s)(hΓ:GamOK GA gl Γ ow){op:AOp}(hk:op1 (BV Γ f) ow d op S k=some r):Res1 κ GA gl d op g a s k r:=by
 cases op with
 |mv x=>exact Qaa h hk
 |mvo t=>exact Z4l h hk
 |pick c x y=>exact Z3p h hk
 |un op x=>exact Z9y h hk
 |bin op q x y=>exact Z6b h hk
 |len sb x=>exact Z6s h hk
 |iaddr sz x i=>exact Zxw h hk
 |iarr n sz x i=>exact Z3e h hk
 |faddr off x=>exact Zxz h hk
 |load n x=>grind[Z2u]
 |ldp n x=>grind[Z4b]
 |ldo x=>exact Z6e h hk
 |fld n off x=>exact Z6t h hk
 |slca n sz x lo hi mx=>exact Z1i h hk
 |slc sz x lo hi mx=>exact Z6y h hk
 |nro sz=>exact Z5c h hk
 |mko sz z l c=>exact Z63 h hk
 |appo sz x y=>exact Z1x h hk
 |cpy x y=>exact Z4o h hk
 |clr z x=>exact Z5g h hk
 |build z ps=>exact Zyp h hk
 |app sz x y=>exact Z7e h hk
 |b2s x=>exact Z4t h hk
 |s2a n x=>exact Z4i h hk
 |nilck x=>exact Zyi h hk
 |call f' xs=>grind[Z2q]
 |callh f' xs=>grind[Zzq]
 |callvh x xs=>grind[Zxs]
 |new cs=>exact Z61 h hk
 |box x=>exact Z7h h hk
 |store n x y=>exact Zzl h hk
 |sto x t=>exact Z5u h hk
 |ext t i=>exact Z66 h hk
 |callv x xs=>cases hk
 |mnx m x y=>exact Za9 h rfl hk
 |idx x i=>exact Za9 h rfl hk
 |idxa l sz n x i=>exact Za9 h rfl hk
 |sls x lo hi=>exact Za9 h rfl hk
 |bsl sz xs=>exact Za9 h rfl hk
 |mks sz z l c=>
  cases hp:Zi8 (.mks sz z l c)with
  |none=>
   have hk':(match Zi8 (.mks sz z l c)with|some (p,os,own)=>doP (BV Γ f) S p os d own k|none=>(BV Γ f).fail)=some r:=hk
   rw[hp]at hk';cases hk'
  |some q=>
   have hk':(match Zi8 (.mks sz z l c)with|some (p,os,own)=>doP (BV Γ f) S p os d own k|none=>(BV Γ f).fail)=some r:=hk
   grind[Za9]
 |s2b x=>exact Za9 h rfl hk
 |i2i kd x=>exact Za9 h rfl hk
 |s2s x=>exact Za9 h rfl hk
 |mkf f' xs=>exact Z4u h hk
 |mkm f' xs=>exact Z7o h hk
 |nmp=>exact Z7n h hk
 |mlk q z ok x y=>exact Z6n h hk
 |mup q x y z=>exact Z5a h hk
 |mln x=>exact Z7c h hk
end Go.Abs
namespace Go.Abs
variable {GA:Abs.Spec}{gl:Glob}{Γ:Gam}{f:Nat}{ow:Cfg}{κ:Fc}{ι:List Nat}{s:St}{S:PS V}{r:V}{k:PS V->Option V}
theorem Zgm {x:V}{a b:Option V}(h:vif x a b=some r):(x= .bool true/\a=some r) \/(x= .bool false/\b=some r):=by
 unfold vif at h
 grind
theorem Sat.know (h:Sat κ S ι s){i:Nat}{b:Bool}(hb:S.vals[i]? =some (.bool b)):Sat κ (S.know i b) ι s where
 tm:=h.tm
 ob:=h.ob
 nd:=h.nd
 lt:=h.lt
 len:=h.len
 lits j c hc:=by
  simp only[PS.know,Zc5]at hc
  split at hc
  ·rename_i e;subst e;cases hc;exact hb
  ·exact h.lits j c hc
 cln:=h.cln
 g:=h.g
 pre:=h.pre
 new:=h.new
 nH:=h.nH
 fr:=h.fr
theorem Sat.skip (h:Sat κ S ι s)(d:Option Nat):Sat κ (S.put d (.at .nil)) ι (s.put d Nil false):=h.put d (y:= .at .nil) rfl
theorem Z2f {X:Type}(S:PS X)(t:Nat):S.opd (.tmp t)=S.get t:=rfl
theorem Z5j (h:Sat κ S ι s)(hΓ:GamOK GA gl Γ ow){o:AOper}(hk:opG (BV Γ f) ow o S k=some r):∃S' ι' s',k S'=some r/\exec GA gl o s=some s'/\Sat κ S' ι' s':=by
 obtain⟨d,op,g,a⟩:=o
 unfold opG at hk
 cases g with
 |none=>exact Zz3 h hΓ hk
 |some p=>
  obtain⟨t,w⟩:=p
  simp only at hk
  have skip:∀{S1:PS V},Sat κ S1 ι s->(∀b,s.tm t= .bool b->(b==w)=false)->k (S1.put d (.at .nil))=some r-> ∃S' ι' s',k S'=some r/\exec GA gl ⟨d,op,some (t,w),a⟩ s=some s'/\Sat κ S' ι' s':=by
   intro S1 h1 h2 h3
   refine⟨_,ι,s.put d Nil false,h3, ?_,h1.skip d⟩<;>grind[Zou]
  have run:∀{S1:PS V},Sat κ S1 ι s->s.tm t= .bool w->op1 (BV Γ f) ow d op S1 k=some r-> ∃S' ι' s',k S'=some r/\exec GA gl ⟨d,op,some (t,w),a⟩ s=some s'/\Sat κ S' ι' s':=by
   intro S1 h1 h2 h3
   obtain⟨S',ι',s',q1,q2,q3⟩:=Zz3 (gl:=gl) (g:=some (t,w)) (a:=a) h1 hΓ h3
   grind[Zou]
  split at hk
  ·rename_i hn
   have:s.tm t=Nil:=h.tm t _ hn
   grind
  ·split at hk
   ·rename_i b hb
    have hb':s.tm t= .bool b:=Zfr (x:= .tmp t) h (by grind[Z2f])
    grind
   ·split at hk
    ·rename_i i o' sc hi
     have hat:=h.tm t _ hi
     split at hk
     ·rename_i x hx
      have hxe:x=(s.tm t).nf:=by have:=hat.1;grind
      split at hk
      ·rcases Zgm hk with⟨e,h1⟩|⟨e,h1⟩
       ·exact run (h.know (by rw[hx,e])) (Zci (hxe.symm.trans e)) h1
       ·exact skip (h.know (by rw[hx,e])) (fun b hb=>by grind[Zci]) h1
      ·rcases Zgm hk with⟨e,h1⟩|⟨e,h1⟩
       ·exact skip (h.know (by rw[hx,e])) (fun b hb=>by grind[Zci]) h1
       ·exact run (h.know (by rw[hx,e])) (Zci (hxe.symm.trans e)) h1
     ·cases hk
    ·cases hk
theorem Zu8 (hΓ:GamOK GA gl Γ ow):∀{os:List AOper} {S:PS V} {ι:List Nat} {s:St},Sat κ S ι s->opsG (BV Γ f) ow os S k=some r-> ∃S' ι' s',k S'=some r/\execs GA gl os s=some s'/\Sat κ S' ι' s'
 | [],S,ι,s,h,hk=>⟨S,ι,s,hk,rfl,h⟩
 |o::os,S,ι,s,h,hk=>by
  obtain⟨S1,ι1,s1,h1,h2,h3⟩:=Z5j (gl:=gl) h hΓ hk
  obtain⟨S2,ι2,s2,h4,h5,h6⟩:=Zu8 hΓ h3 h1
  exact⟨S2,ι2,s2,h4,by simp only[execs,h2];exact h5,h6⟩
theorem Zc7 :∀{n k o:Nat},(k,o)∈idR n<->k=o/\k<n
 |0,k,o=>by simp[idR]
 |n+1,k,o=>by
  simp only[idR,Xaz,Zc7 (n:=n),Xbp,Xen]
  omega
theorem Zz6 :∀{n k:Nat},k<n->lk (idR n) k=some k:=by
 have app:∀{l m:List (Nat×Nat)} {k:Nat},lk (l++m) k=match lk l k with|some x=>some x|none=>lk m k:=by
  intro l
  induction l with
  |nil=>intro m k;rfl
  |cons p l ih=>
   grind[Zc5]
 intro n
 induction n with
 |zero=>omega
 |succ n ih=>
  intro k h
  rw[idR,app]
  by_cases hk:k<n
  ·rw[ih hk]
  ·have:k=n:=by omega
   cases he:lk (idR k) k with
   |some x=>have:=(Zc7.1 (Zc3 he)).2;omega
   |none=>grind[Zc5]
theorem Zz7 {α:Type}:∀{l:List (Nat×α)} {t:Nat} {a:α},lk l t=some a->(t,a)∈l
 |(k,b)::l,t,a,h=>by
  rw[Zc5]at h
  split at h
  ·rename_i e;cases h;rw[e];simp
  ·exact Xbb _ (Zz7 h)
theorem Zvu (h:Sat κ S ι s){no:Nat}:∀{tm:List (Nat×Sy)} {ρ ρ':List (Nat×Nat)} {acc acc':List V},mTm (BV Γ f) S no tm ρ acc=some (ρ',acc')->RI no ρ->
  RI no ρ'/\(∀p∈ρ,p∈ρ')/\(∃l,acc'=acc++l)/\(Zab acc=true->Zab acc'=true)/\ ∀ι' vs,Agree ρ' ι ι'->Pre acc' vs-> ∀p∈tm,SyS ι' vs p.2 (s.tm p.1) (s.own (.slot p.1))
 | [],ρ,ρ',acc,acc',hg,hr=>by cases hg<;>simp_all
 |(t, .at a)::tm,ρ,ρ',acc,acc',hg,hr=>by
  simp only[mTm]at hg
  have go:∀{b:At} {v:V} {o:Bool} {ρ1:List (Nat×Nat)} {acc1:List V},mAt (BV Γ f) S no a b ρ acc=some (ρ1,acc1)->v=s.tm t->o=s.own (.slot t)->AtS ι S.vals b v o->mTm (BV Γ f) S no tm ρ1 acc1=some (ρ',acc')->
    RI no ρ'/\(∀p∈ρ,p∈ρ')/\(∃l,acc'=acc++l)/\(Zab acc=true->Zab acc'=true)/\ ∀ι' vs,Agree ρ' ι ι'->Pre acc' vs-> ∀p∈(t,Sy.at a)::tm,SyS ι' vs p.2 (s.tm p.1) (s.own (.slot p.1)):=by
   rintro b v o ρ1 acc1 hq rfl rfl hb hg
   obtain⟨q1,q2,⟨l1,e1⟩,q4,_⟩:=Zkp h hq hr
   obtain⟨q5,q6⟩:=q4 _ _ hb
   obtain⟨r1,r2,⟨l2,e2⟩,r4,r5⟩:=Zvu h hg q1
   refine⟨r1,fun p hp=>r2 p (q2 p hp),⟨l1++l2,by rw[e2,e1,Xar]⟩,fun hc=>r4 (q5 hc),fun ι' vs ha hv p hp=> ?_⟩
   rcases Xap.1 hp with rfl|hp
   ·exact q6 ι' vs (ha.sub r2) (fun i x hi=>hv i x (by rw[e2];exact Pre.app _ _ i x hi))
   ·exact r5 ι' vs ha hv p hp
  split at hg
  ·rename_i b hb
   split at hg
   ·rename_i ρ1 acc1 hq
    exact go hq rfl rfl (h.tm t _ hb) hg
   ·cases hg
  ·rename_i ss z hb
   split at hg
   ·rename_i ρ1 acc1 hq
    exact go (b:= .n z false false) hq rfl rfl ⟨(h.tm t _ hb).2 z rfl,(fun h=>nomatch h),(fun h=>nomatch h)⟩ hg
   ·cases hg
  ·cases hg
 |(t, .agg ss none)::tm,ρ,ρ',acc,acc',hg,hr=>by
  simp only[mTm]at hg
  split at hg
  ·rename_i qs z hb
   split at hg
   ·rename_i ρ1 acc1 h1
    obtain⟨⟨cs,e,q1⟩,_⟩:=h.tm t _ hb
    obtain⟨p1,p2,⟨l1,e1⟩,p4,p5⟩:=Zg0 h h1 hr q1
    obtain⟨r1,r2,⟨l2,e2⟩,r4,r5⟩:=Zvu h hg p1
    refine⟨r1,fun p hp=>r2 p (p2 p hp),⟨l1++l2,by rw[e2,e1,Xar]⟩,fun hc=>r4 (p4 hc),fun ι' vs ha hv p hp=> ?_⟩
    rcases Xap.1 hp with rfl|hp
    ·exact⟨⟨cs,e,p5 ι' vs (ha.sub r2) (fun i x hi=>hv i x (by rw[e2];exact Pre.app _ _ i x hi))⟩,fun i hi=>by cases hi⟩
    ·exact r5 ι' vs ha hv p hp
   ·cases hg
  ·cases hg
 |(_, .agg _ (some _))::_,_,_,_,_,hg,_=>by cases hg
 |(_, .tup _)::_,_,_,_,_,hg,_=>by cases hg
theorem Zjs (h:Sat κ S ι s){m:Nat}{T:PT}(hk:jump (BV Γ f) m T S=some r):∃xs ι',Γ f m xs=some r/\xs.length=T.n/\Sat κ (T.start xs) ι' s:=by
 unfold jump at hk
 split at hk
 ·rename_i ρ1 acc1 h1
  split at hk
  ·rename_i ρ xs h2
   split at hk
   ·rename_i hn0
    simp only[Xai]at hn0
    obtain⟨hn,⟨hg1,hg2⟩,hg3⟩:=hn0
    have hg1:=Xag hg1
    have hg2:=Xa5 hg2
    have hr0:RI T.ob.length (idR S.g):=⟨fun k o hm=>by grind[Zc7,Zz6],fun k k' o h1 h2=>(Zc7.1 h1).1.trans (Zc7.1 h2).1.symm,fun k o hm=>by grind[Zc7]⟩
    obtain⟨r1,r2,⟨l1,e1⟩,r4,r5⟩:=Zvu h h1 hr0
    obtain⟨u1,u2,⟨l2,e2⟩,u4,u5,u6⟩:=Zja h h2 r1
    have hcov:Cov T.ob.length ρ ι:=fun k hk=>by
     obtain⟨o,h3,h4⟩:=u5 k hk
     rw[Xao]at h3
     rw[<-h.len]at h4
     exact⟨o,_,h3,Xad h4⟩
    have hag:=Zhh (ι:=ι) u1
    have hid:∀k,k<S.g->(k,k)∈ρ:=fun k hk=>u2 _ (r2 _ (Zc7.2 ⟨rfl,hk⟩))
    refine⟨xs,ιOf T.ob.length ρ ι,hk,Xag hn, ?_⟩
    exact{
     tm:=fun t y hy=>r5 _ xs (hag.sub u2) (by grind[Pre.app]) (t,y) (Zz7 hy)
     ob:=fun k ss hs=>by
      have hs':T.ob[k]? =some (some ss):=by
       grind[PS.obj,PT.start]
      obtain⟨o,id,f1,f2,f4⟩:=u6 k ss hs'
      rw[Xao]at f1
      exact⟨id,hag _ _ _ f1 f2,f4 _ xs hag (.refl _)⟩
     nd:=Zwc u1 hcov h.nd
     lt:=fun id hid=>by
      obtain⟨k,hk⟩:=Xbv.1 hid
      obtain⟨o,_,h4⟩:=Zff u1 hcov hk
      exact h.lt id (Xaj h4)
     len:=Zfo _ _ _
     lits:=fun i b hb=>by cases hb
     cln:=fun x hx=>Zaj.1 (u4 (r4 rfl)) x hx
     g:=by show κ.ids.length=T.g;rw[hg1];exact h.g
     pre:=fun k id hk=>by
      have hkg:k<S.g:=by rw[<-h.g];grind
      exact hag _ _ _ (hid k hkg) (h.pre k id hk)
     new:=fun k id hk hgk=>by
      obtain⟨o',h3,h4⟩:=Zff u1 hcov hk
      have hgk:S.g<=k:=by rw[<-hg1];exact hgk
      refine h.new o' id h4 ?_
      rcases Xa6 o' S.g with h5|h5
      ·have:=u1.inj _ _ _ (hid o' h5) h3;omega
      ·exact h5
     nH:=h.nH
     fr:=h.fr}
   ·cases hk
  ·cases hk
 ·cases hk
def labQ (GA:Abs.Spec)(gl:Glob)(m:Nat):ACode->Nat->(Ex->St->Prop)->St->Prop
 | .seq a b,n,Q,s=>if m<n+1+a.size then labQ GA gl m a (n+1) (Zeq (awp GA gl b Q) Q) s else if m=n+1+a.size then awp GA gl b Q s else labQ GA gl m b (n+1+a.size) Q s
 | .cond _ a b,n,Q,s=>if m<n+1+a.size then labQ GA gl m a (n+1) Q s else labQ GA gl m b (n+1+a.size) Q s
 | .block id b,n,Q,s=>labQ GA gl m b (n+1) (fun e s=>Q (e.inBlock id) s) s
 | .loop b,n,Q,s=>if m=n then awp GA gl (.loop b) Q s else labQ GA gl m b (n+1) (Zeq (awp GA gl (.loop b) Q) Q) s
 |_,_,_,_=>False
def ACode.isLoop :ACode->Bool
 | .loop _=>true
 |_=>false
def JOK (κ:Fc)(GA:Abs.Spec)(gl:Glob)(Γ:Gam)(f:Nat)(L:List (Nat×PT))(c:ACode)(n:Nat)(Q:Ex->St->Prop)(r:V):Prop:=
 ∀m T xs ι s,n<=m->(n<m \/c.isLoop=true)->m<n+c.size->lk L m=some T->Γ f m xs=some r->xs.length=T.n->Sat κ (T.start xs) ι s->labQ GA gl m c n Q s
theorem Zmf (c:ACode):1<=c.size:=by cases c<;>simp[ACode.size]
theorem Zu7 {b:ACode}{Q:Ex->St->Prop}(h:awp GA gl b (Zeq (awp GA gl (.loop b) Q) Q) s):awp GA gl (.loop b) Q s:=by
 obtain⟨e,t,h1,h2⟩:=Zhl h
 cases e with
 |normal=>
  obtain⟨k,hk⟩:awp GA gl (.loop b) Q t:=h1
  exact⟨k+1,h2 _ hk⟩
 |exit i=>exact⟨1,h2 _ h1⟩
 |ret=>exact⟨1,h2 _ h1⟩
theorem JOK.seqA {L:List (Nat×PT)}{a b:ACode}{n:Nat}{Q:Ex->St->Prop}(h:JOK κ GA gl Γ f L (.seq a b) n Q r):JOK κ GA gl Γ f L a (n+1) (Zeq (awp GA gl b Q) Q) r:=fun m T xs ι s h1 _ h2 h3 h4 h5 h6=>by
 have:=h m T xs ι s (by omega) (.inl (by omega)) (by grind[ACode.size]) h3 h4 h5 h6
 grind[labQ]
theorem JOK.seqB {L:List (Nat×PT)}{a b:ACode}{n:Nat}{Q:Ex->St->Prop}(h:JOK κ GA gl Γ f L (.seq a b) n Q r):JOK κ GA gl Γ f L b (n+1+a.size) Q r:=fun m T xs ι s h1 h7 h2 h3 h4 h5 h6=>by
 have:=h m T xs ι s (by omega) (.inl (by omega)) (by grind[ACode.size]) h3 h4 h5 h6
 simp only[labQ]at this
 rw[if_neg (by omega)]at this
 split at this
 ·rename_i e
  rcases h7 with h7|h7
  ·omega
  ·cases b<;>first|(cases h7)|skip
   grind[labQ]
 ·exact this
theorem JOK.condA {L:List (Nat×PT)}{c:Opd}{a b:ACode}{n:Nat}{Q:Ex->St->Prop}(h:JOK κ GA gl Γ f L (.cond c a b) n Q r):JOK κ GA gl Γ f L a (n+1) Q r:=fun m T xs ι s h1 _ h2 h3 h4 h5 h6=>by
 have:=h m T xs ι s (by omega) (.inl (by omega)) (by grind[ACode.size]) h3 h4 h5 h6
 grind[labQ]
theorem JOK.condB {L:List (Nat×PT)}{c:Opd}{a b:ACode}{n:Nat}{Q:Ex->St->Prop}(h:JOK κ GA gl Γ f L (.cond c a b) n Q r):JOK κ GA gl Γ f L b (n+1+a.size) Q r:=fun m T xs ι s h1 _ h2 h3 h4 h5 h6=>by
 have:=h m T xs ι s (by omega) (.inl (by omega)) (by grind[ACode.size]) h3 h4 h5 h6
 grind[labQ]
theorem JOK.block {L:List (Nat×PT)}{i:Nat}{b:ACode}{n:Nat}{Q:Ex->St->Prop}(h:JOK κ GA gl Γ f L (.block i b) n Q r):JOK κ GA gl Γ f L b (n+1) (fun e s=>Q (e.inBlock i) s) r:=fun m T xs ι s h1 _ h2 h3 h4 h5 h6=>by
 have:=h m T xs ι s (by omega) (.inl (by omega)) (by grind[ACode.size]) h3 h4 h5 h6
 grind[labQ]
theorem JOK.loop {L:List (Nat×PT)}{b:ACode}{n:Nat}{Q:Ex->St->Prop}(h:JOK κ GA gl Γ f L (.loop b) n Q r):JOK κ GA gl Γ f L b (n+1) (Zeq (awp GA gl (.loop b) Q) Q) r:=fun m T xs ι s h1 _ h2 h3 h4 h5 h6=>by
 have:=h m T xs ι s (by omega) (.inl (by omega)) (by grind[ACode.size]) h3 h4 h5 h6
 grind[labQ]
theorem Zid (hΓ:GamOK GA gl Γ ow){L:List (Nat×PT)}:∀{c:ACode} {n:Nat} {S:PS V} {k:Ex->PS V->Option V} {Q:Ex->St->Prop} {ι:List Nat} {s:St},JOK κ GA gl Γ f L c n Q r->Sat κ S ι s->pe (BV Γ f) ow L c n S k=some r->
  (∀e S' ι' s',k e S'=some r->Sat κ S' ι' s'->Q e s')->awp GA gl c Q s
 | .skip,n,S,k,Q,ι,s,_,h,hk,hQ=>hQ .normal S ι s hk h
 | .region os d,n,S,k,Q,ι,s,_,h,hk,hQ=>by
  obtain⟨S',ι',s',h1,h2,h3⟩:=Zu8 (gl:=gl) hΓ h hk
  simp only[awp,h2]
  exact hQ .normal S' ι' s' h1 h3
 | .seq a b,n,S,k,Q,ι,s,hJ,h,hk,hQ=>by
  show awp GA gl a (Zeq (awp GA gl b Q) Q) s
  refine Zid hΓ hJ.seqA h hk fun e S' ι' s' h1 h2=> ?_
  cases e with
  |normal=>
   simp only at h1
   split at h1
   ·rename_i T hT
    obtain⟨xs,ιj,q1,q2,q3⟩:=Zjs h2 h1
    have:=hJ _ T xs _ s' (by omega) (.inl (by omega)) (by simp only[ACode.size];have:=Zmf b;omega) hT q1 q2 q3
    simp only[labQ]at this
    simpa using this
   ·exact Zid hΓ hJ.seqB h2 h1 hQ
  |exit i=>exact hQ (.exit i) S' ι' s' h1 h2
  |ret=>exact hQ .ret S' ι' s' h1 h2
 | .cond c a b,n,S,k,Q,ι,s,hJ,h,hk,hQ=>by
  simp only[pe]at hk
  split at hk
  ·rename_i hb
   simp only[awp,Zfr h hb]
   exact Zid hΓ hJ.condA h hk hQ
  ·rename_i hb
   simp only[awp,Zfr h hb]
   exact Zid hΓ hJ.condB h hk hQ
  ·split at hk
   ·rename_i i o' sc hi
    have hat:=h.opd hi
    split at hk
    ·rename_i x hx
     have hxe:x=(evO s.tm c).nf:=by have:=hat.1;rw[hx]at this;exact Option.some.inj this
     rcases Zgm hk with⟨e,h1⟩|⟨e,h1⟩
     ·simp only[awp,Zci (hxe.symm.trans e)]
      exact Zid hΓ hJ.condA (h.know (by rw[hx,e])) h1 hQ
     ·simp only[awp,Zci (hxe.symm.trans e)]
      exact Zid hΓ hJ.condB (h.know (by rw[hx,e])) h1 hQ
    ·cases hk
   ·cases hk
 | .block i b,n,S,k,Q,ι,s,hJ,h,hk,hQ=>by
  show awp GA gl b (fun e s=>Q (e.inBlock i) s) s
  exact Zid hΓ hJ.block h hk fun e S' ι' s' h1 h2=>hQ _ S' ι' s' h1 h2
 | .loop b,n,S,k,Q,ι,s,hJ,h,hk,hQ=>by
  simp only[pe]at hk
  split at hk
  ·rename_i T hT
   obtain⟨xs,ιj,q1,q2,q3⟩:=Zjs h hk
   have:=hJ _ T xs _ s (Xae _) (.inr rfl) (by grind[ACode.size]) hT q1 q2 q3
   grind[labQ]
  ·cases hk
 | .exit i,n,S,k,Q,ι,s,_,h,hk,hQ=>hQ (.exit i) S ι s hk h
 | .ret,n,S,k,Q,ι,s,_,h,hk,hQ=>hQ .ret S ι s hk h
 | .fail,_,_,_,_,_,_,_,_,hk,_=>by cases hk
theorem Z03 (hΓ:GamOK GA gl Γ ow){L:List (Nat×PT)}{c:ACode}{n:Nat}{S:PS V}{k:Ex->PS V->Option V}{Q:Ex->St->Prop}{ι:List Nat}{s:St}
  (hJ:∀m T xs ι s,n<m->m<n+c.size->lk L m=some T->Γ f m xs=some r->xs.length=T.n->Sat κ (T.start xs) ι s->labQ GA gl m c n Q s)
  (hL:∀T xs ι s,lk L n=some T->Γ f n xs=some r->xs.length=T.n->Sat κ (T.start xs) ι s->awp GA gl c Q s) (h:Sat κ S ι s) (hk:peL (BV Γ f) ow L c n S k=some r)
  (hQ:∀e S' ι' s',k e S'=some r->Sat κ S' ι' s'->Q e s'):awp GA gl c Q s:=by
 unfold peL at hk
 split at hk
 ·rename_i b
  have hJ2:JOK κ GA gl Γ f L (.loop b) n Q r:=fun m T xs ι s h1 _ h2 h3 h4 h5 h6=>by
   grind[labQ]
  refine Zu7 (Zid hΓ hJ2.loop h hk fun e S' ι' s' h1 h2=> ?_)
  cases e with
  |normal=>
   simp only at h1
   split at h1
   ·rename_i T hT
    obtain⟨xs,ιj,q1,q2,q3⟩:=Zjs h2 h1
    exact hL T xs _ s' hT q1 q2 q3
   ·cases h1
  |exit i=>exact hQ (.exit i) S' ι' s' h1 h2
  |ret=>exact hQ .ret S' ι' s' h1 h2
 ·rename_i hno
  refine Zid hΓ (fun m T xs ι s h1 h7 h2 h3 h4 h5 h6=> ?_) h hk hQ
  rcases h7 with h7|h7
  ·grind
  ·cases c<;>first|exact absurd rfl (hno _)|(cases h7)
theorem Zge (hΓ:GamOK GA gl Γ ow){L:List (Nat×PT)}{m:Nat}:∀{c:ACode} {n:Nat} {S:PS V} {k:Ex->PS V->Option V} {Q:Ex->St->Prop} {ι:List Nat} {s:St},JOK κ GA gl Γ f L c n Q r->Sat κ S ι s->peAt (BV Γ f) ow L m c n S k=some r->
  (∀e S' ι' s',k e S'=some r->Sat κ S' ι' s'->Q e s')->labQ GA gl m c n Q s
 | .seq a b,n,S,k,Q,ι,s,hJ,h,hk,hQ=>by
  simp only[peAt]at hk
  simp only[labQ]
  split at hk
  ·rename_i hlt
   have hlt':m<n+1+a.size:=Xa5 hlt
   rw[if_pos hlt']
   refine Zge hΓ hJ.seqA h hk fun e S' ι' s' h1 h2=> ?_
   cases e with
   |normal=>
    simp only at h1
    split at h1
    ·rename_i T hT
     obtain⟨xs,ιj,q1,q2,q3⟩:=Zjs h2 h1
     have:=hJ _ T xs _ s' (by omega) (.inl (by omega)) (by simp only[ACode.size];have:=Zmf b;omega) hT q1 q2 q3
     simp only[labQ]at this
     simpa using this
    ·exact Zid hΓ hJ.seqB h2 h1 hQ
   |exit i=>exact hQ (.exit i) S' ι' s' h1 h2
   |ret=>exact hQ .ret S' ι' s' h1 h2
  ·rename_i hlt
   have hlt': ¬m<n+1+a.size:=fun e=>by rw[show Nat.blt m (n+1+a.size)=true from Xdz e]at hlt;cases hlt
   rw[if_neg hlt']
   split at hk
   ·rename_i he
    have he:=Xag he
    rw[if_pos he]
    refine Z03 hΓ (fun m' T xs ι s h1 h2 h3 h4 h5 h6=> ?_) (fun T xs ι s h3 h4 h5 h6=> ?_) h hk hQ
    ·exact hJ.seqB m' T xs ι s (by omega) (.inl h1) h2 h3 h4 h5 h6
    ·have:=hJ _ T xs ι s (by omega) (.inl (by omega)) (by simp only[ACode.size];have:=Zmf b;omega) h3 h4 h5 h6
     simp only[labQ]at this
     simpa using this
   ·rename_i he
    rw[if_neg (fun e=>by rw[e,Xeb]at he;cases he)]
    exact Zge hΓ hJ.seqB h hk hQ
 | .cond c a b,n,S,k,Q,ι,s,hJ,h,hk,hQ=>by
  simp only[peAt]at hk
  simp only[labQ]
  split at hk
  ·rename_i hlt
   rw[if_pos (show m<n+1+a.size from Xa5 hlt)]
   exact Zge hΓ hJ.condA h hk hQ
  ·rename_i hlt
   rw[if_neg (fun e:m<n+1+a.size=>by rw[show Nat.blt m (n+1+a.size)=true from Xdz e]at hlt;cases hlt)]
   exact Zge hΓ hJ.condB h hk hQ
 | .block i b,n,S,k,Q,ι,s,hJ,h,hk,hQ=>by
  simp only[labQ]
  exact Zge hΓ hJ.block h hk fun e S' ι' s' h1 h2=>hQ _ S' ι' s' h1 h2
 | .loop b,n,S,k,Q,ι,s,hJ,h,hk,hQ=>by
  simp only[peAt]at hk
  simp only[labQ]
  split at hk
  ·rename_i he
   rw[if_pos (Xag he)]
   refine Z03 hΓ (fun m' T xs ι s h1 h2 h3 h4 h5 h6=> ?_) (fun T xs ι s h3 h4 h5 h6=> ?_) h hk hQ
   ·exact hJ m' T xs ι s (by omega) (.inl h1) h2 h3 h4 h5 h6
   ·have:=hJ _ T xs ι s (Xae _) (.inr rfl) (by grind[ACode.size]) h3 h4 h5 h6
    grind[labQ]
  ·rw[if_neg (fun e=>by simp_all)]
   refine Zge hΓ hJ.loop h hk fun e S' ι' s' h1 h2=> ?_
   cases e with
   |normal=>
    simp only at h1
    split at h1
    ·rename_i T hT
     obtain⟨xs,ιj,q1,q2,q3⟩:=Zjs h2 h1
     have:=hJ _ T xs _ s' (Xae _) (.inr rfl) (by grind[ACode.size]) hT q1 q2 q3
     simp_all[labQ]
    ·cases h1
   |exit i=>exact hQ (.exit i) S' ι' s' h1 h2
   |ret=>exact hQ .ret S' ι' s' h1 h2
 | .skip,_,_,_,_,_,_,_,_,hk,_=>by cases hk
 | .region _ _,_,_,_,_,_,_,_,_,hk,_=>by cases hk
 | .exit _,_,_,_,_,_,_,_,_,hk,_=>by cases hk
 | .ret,_,_,_,_,_,_,_,_,hk,_=>by cases hk
 | .fail,_,_,_,_,_,_,_,_,hk,_=>by cases hk
theorem Zo7 (h:Sat κ S ι s):∀{rs:List RS} {S:PS V} {acc:List V},Sat κ S ι s->resL (BV Γ f) S rs acc=some r->Zab acc=true-> ∃vs,rvs s rs=some vs/\r=oneV (acc++nfL vs)/\Zab (acc++nfL vs)=true/\vs.length=rs.length
 | [],S,acc,_,hk,hc=>⟨[],rfl,by grind[resL,BV,nfL],by grind[nfL],rfl⟩
 | .t t::rs,S,acc,h1,hk,hc=>by
  simp only[resL,resR]at hk
  cases hg:S.get t with
  |none=>rw[hg]at hk;cases hk
  |some y=>
   rw[hg]at hk
   obtain⟨S1,h2,h3,_,h4⟩:=h1.mat (h1.tm t _ hg) hk
   obtain⟨vs,q1,q2,q3,q4⟩:=Zo7 h h3 h2 (Zbf hc (by simp only[Zab,h4,Xcv]))
   exact⟨s.tm t::vs,by simp only[rvs,rv,Xaw,q1,Xay],by rw[q2];simp[nfL],by simpa[nfL]using q3,by simp[q4]⟩
 | .c t n::rs,S,acc,h1,hk,hc=>by
  simp only[resL,resR]at hk
  split at hk
  ·rename_i o off hg
   split at hk
   ·rename_i ss hss
    obtain⟨id,hid,e1⟩:=h1.tm t _ hg
    obtain⟨id',cs,q1,q2,q3⟩:=h1.cob o ss hss
    rw[hid]at q1;cases q1
    obtain⟨v,y,S1,f1,f2,f3,_,f5⟩:=Zvz h1 q3 hk
    obtain⟨S2,h2,h3,_,h4⟩:=f3.mat f5 f2
    obtain⟨vs,q5,q6,q7,q8⟩:=Zo7 h h3 h2 (Zbf hc (by simp only[Zab,h4,Xcv]))
    exact⟨v::vs,by simp only[rvs,rv,e1,q2,Xaw,f1,Xay,q5],by rw[q6];simp[nfL],by simpa[nfL]using q7,by simp[q8]⟩
   ·cases hk
  ·cases hk
def endY (res:List RS)(own:Bool)(r:V)(e:Ex)(s:St):Prop:=endQ res own r e s/\r.clean=true
theorem Z1r (h:Sat κ S ι s){own:Bool}{res:List RS}{e:Ex}(hk:resK (BV Γ f) own res e S=some r):endY res own r e s:=by
 have main:resL (BV Γ f) S res []=some r->(own=true-> ∃t,res=[.t t]/\Own (s.tm t) (s.own (.slot t)))->Zxu res own r s/\r.clean=true:=by
  intro hk ho
  obtain⟨vs,h1,h2,h3,h4⟩:=Zo7 h h hk rfl
  by_cases h6:∃t n,res=[.c t n]
  ·obtain⟨t,n,rfl⟩:=h6
   have hown:own=false:=by
    grind
   subst hown
   simp only[rvs]at h1
   cases hv:rv s (.c t n)with
   |none=>grind
   |some p=>
    rw[hv]at h1
    simp only[Xaw,Xay,Xac]at h1
    subst h1
    exact⟨⟨p,hv,h2.symm,fun h=>nomatch h⟩,by have e:r=p.1.nf:=h2;grind[nfL,Zab]⟩
  by_cases h5:∃t,res=[.t t]
  ·obtain⟨t,rfl⟩:=h5
   simp only[rvs,rv,Xaw,Xay,Xac]at h1
   subst h1
   have hr:r=(s.tm t).nf:=h2
   refine⟨⟨(s.tm t,s.own (.slot t)),rfl,hr.symm,fun h=> ?_⟩, ?_⟩<;>grind[nfL,Zab]
  ·have hown:own=false:=by
    grind
   have hl:vs.length≠1:=by
    intro hl
    rw[h4]at hl
    match res,hl with
    | [.t t],_=>grind
    | [.c t n],_=>grind
   have hr:r= .tup (nfL vs):=by
    rw[h2]
    match vs,hl with
    | [],_=>rfl
    |x::y::l,_=>rfl
   have hres:Zdw res s=some (.tup vs,false):=by
    unfold Zdw
    grind
   subst hown
   exact⟨⟨_,hres,by rw[hr];rfl,fun h=>nomatch h⟩,by rw[hr];exact h3⟩
 have main2:∀e',resK (BV Γ f) own res e' S=some r->(∀i,e'≠ .exit i)->Zxu res own r s/\r.clean=true:=by
  intro e' hk' hne
  unfold resK at hk'
  split at hk'
  ·grind
  ·split at hk'
   ·grind
   ·split at hk'
    ·rename_i t
     split at hk'
     ·rename_i a hg
      split at hk'
      ·rename_i ho
       exact main hk' fun _=>⟨t,rfl,AtS.owned (h.tm t _ hg) ho⟩
      ·cases hk'
     ·cases hk'
    ·cases hk'
 cases e with
 |exit i=>cases hk
 |normal=>exact main2 _ hk fun _ h=>nomatch h
 |ret=>exact main2 _ hk fun _ h=>nomatch h
theorem Zk5 :∀{n t:Nat} {y:Sy},lk (params n) t=some y->t<n/\y= .at (.n t false false)
 |0,_,_,h=>by cases h
 |n+1,t,y,h=>by
  have app:∀{l m:List (Nat×Sy)},lk (l++m) t=some y->lk l t=some y \/lk m t=some y:=by
   intro l
   induction l<;>grind[Zc5]
  rcases app h with h|h
  ·obtain⟨h1,h2⟩:=Zk5 h;grind
  ·rw[Zc5]at h
   split at h
   ·grind
   ·cases h
theorem Zyr {args:List V}{n:Nat}(hl:args.length=n)(hc:Zab (nfL args)=true):Sat ⟨[],⟨fun _=>none,0,fun _ _=>false⟩⟩ ((Z1n n).start (nfL args)) [] (St.init args) where
 tm t y hy:=by
  obtain⟨h1,rfl⟩:=Zk5 hy
  refine⟨?_,fun h=>(nomatch h),fun h=>(nomatch h)⟩
  show(nfL args)[t]? =_
  grind[Zfg,Z1h]
 ob k ss hk:=by grind[PS.obj,PT.start,Z1n]
 nd:=List.nodup_nil
 lt _ h:=by cases h
 len:=rfl
 lits _ _ h:=by cases h
 cln x hx:=Zaj.1 hc x hx
 g:=rfl
 pre _ _ h:=by simp at h
 new _ _ h:=by simp at h
 nH:=Xbz _
 fr _ h:=absurd h (Nat.not_lt_zero _)
def rvps (s:St):List RS->Option (List (V×Bool))
 | []=>some []
 |r::rs=>(rv s r).bind fun p=>(rvps s rs).map (p:: ·)
theorem Zri {s:St}:∀{rs:List RS} {ps:List (V×Bool)},rvps s rs=some ps->rvs s rs=some (ps.map (·.1))
 | [],ps,h=>by cases h;rfl
 |r::rs,ps,h=>by
  simp only[rvps,Xab,Xaa]at h
  obtain⟨p,h1,ps',h2,rfl⟩:=h
  simp only[rvs,h1,Xaw,Zri h2,Xay,Xan]
theorem Zo9 :∀{rs:List RS} {S:PS V} {kk:List At->PS V->Option V},Sat κ S ι s->resA (BV Γ f) S rs kk=some r-> ∃az S' ps,kk az S'=some r/\Sat κ S' ι s/\Ext S S'/\rvps s rs=some ps/\AtsO ι S'.vals az ps
 | [],S,kk,h,hk=>⟨[],S,[],hk,h, .refl S,rfl,rfl⟩
 | .t t::rs,S,kk,h,hk=>by
  obtain⟨a,S1,h1,h2,h3,h4⟩:=Zu3 h (v:=s.tm t) (o:=s.own (.slot t)) (fun z hz=>h.tm t z hz) hk
  obtain⟨az,S2,ps,h5,h6,h7,h8,h9⟩:=Zo9 h2 h1
  exact⟨_,S2,(s.tm t,s.own (.slot t))::ps,h5,h6,h3.trans h7,by grind[rvps,rv],_,_,rfl,h4.mono (.refl _) h7.pre,h9⟩
 | .c t n::rs,S,kk,h,hk=>by
  simp only[resA]at hk
  split at hk
  ·rename_i o off hg
   split at hk
   ·rename_i ss hss
    obtain⟨id,hid,e1⟩:=h.tm t _ hg
    obtain⟨id',cs,q1,q2,q3⟩:=h.cob o ss hss
    obtain⟨v,y,S1,f1,f2,f3,f4,f5⟩:=Zvz h q3 hk
    obtain⟨a,S2,h1,h2,h3,h4⟩:=Zu3 f3 (v:=v) (o:=false) (fun z hz=>by grind) f2
    obtain⟨az,S3,ps,h5,h6,h7,h8,h9⟩:=Zo9 h2 h1
    exact⟨_,S3,(v,false)::ps,h5,h6,f4.trans (h3.trans h7),by grind[rvps,rv],_,_,rfl,h4.mono (.refl _) h7.pre,h9⟩
   ·cases hk
  ·cases hk
theorem Ztz (h:Sat κ S ι s){az:List At}{ps:List (V×Bool)}(ha:AtsO ι S.vals az ps){rt:RT}{xs:List V}(hf:fitR (BV Γ f) S az rt=some xs){v:V}{o:Bool}
  (hvo:(∃p,ps=[p]/\v=p.1/\o=p.2) \/(ps.length≠1/\v= .tup (ps.map (·.1))/\ ∀p∈ps,p.2=false)):∃ι',RetS κ rt xs v o s.hs ι':=by
 unfold fitR at hf
 split at hf
 ·rename_i hb
  simp only[Xai]at hb
  have hg1:=Xa5 hb.1
  split at hf
  ·rename_i ρ1 acc1 h1
   split at hf
   ·rename_i ρ xs2 h2
    split at hf
    ·rename_i hx
     cases hf
     have hr0:RI rt.ob.length (idR S.g):=⟨fun k o hm=>by grind[Zc7,Zz6],fun k k' o h1 h2=>(Zc7.1 h1).1.trans (Zc7.1 h2).1.symm,fun k o hm=>by grind[Zc7]⟩
     obtain⟨r1,r2,⟨l1,e1⟩,r4,r5⟩:=Zt7 h h1 hr0 ha
     obtain⟨u1,u2,⟨l2,e2⟩,u4,u5,u6⟩:=Zja h h2 r1
     have hcov:Cov rt.ob.length ρ ι:=fun k hk=>by
      obtain⟨o,h3,h4⟩:=u5 k hk
      rw[Xao]at h3
      rw[<-h.len]at h4
      exact⟨o,_,h3,Xad h4⟩
     have hag:=Zhh (ι:=ι) u1
     have hid:∀k,k<S.g->(k,k)∈ρ:=fun k hk=>u2 _ (r2 _ (Zc7.2 ⟨rfl,hk⟩))
     have hres:=r5 _ xs (hag.sub u2) (by grind[Pre.app])
     refine⟨ιOf rt.ob.length ρ ι, ?_⟩
     exact{
      n:=Xag hx
      cl:=u4 (r4 rfl)
      pre:=fun k id hk=>by
       have hkg:k<S.g:=by rw[<-h.g];grind
       exact hag _ _ _ (hid k hkg) (h.pre k id hk)
      len:=Zfo _ _ _
      nd:=Zwc u1 hcov h.nd
      lt:=fun id hid=>by
       obtain⟨k,hk⟩:=Xbv.1 hid
       obtain⟨o,_,h4⟩:=Zff u1 hcov hk
       exact h.lt id (Xaj h4)
      new:=fun k id hk hgk=>by
       obtain⟨o',h3,h4⟩:=Zff u1 hcov hk
       rw[h.g]at hgk
       refine h.new o' id h4 ?_
       rcases Xa6 o' S.g with h5|h5
       ·have:=u1.inj _ _ _ (hid o' h5) h3;omega
       ·exact h5
      nH:=h.nH
      res:=by
       rcases hvo with⟨p,rfl,rfl,rfl⟩|⟨h3,rfl,h5⟩
       ·have hl:=hres.len
        match hrt:rt.res,hl with
        | [T],_=>
         rw[hrt]at hres
         obtain⟨p',ps',e,h6,_⟩:=hres
         cases e
         exact h6
       ·have hl:=hres.len
        have key:=hres.ats h5
        unfold ResS
        grind
      ob:=fun k ss hk=>by
       obtain⟨o',id,h3,h4,h6⟩:=u6 k ss hk
       rw[Xao]at h3
       exact⟨id,hag _ _ _ h3 h4,h6 _ xs hag (.refl _)⟩
      fr:=h.fr}
    ·cases hf
   ·cases hf
  ·cases hf
 ·cases hf
def endH (κ:Fc)(rts:List RT)(res:List RS)(r:V):Ex->St->Prop
 | .exit _,_=>False
 |_,s=> ∃v o,Zdw res s=some (v,o)/\RetR κ rts r v o s.hs
theorem Zwo {az:List At}:∀{l:List RT} {j:Nat},retT (BV Γ f) S az j l=some r-> ∃m rt xs,l[m]? =some rt/\fitR (BV Γ f) S az rt=some xs/\r=oneV (.int .i64 ((j+m:Nat):Int)::dumV xs)
 | [],j,h=>by cases h
 |rt::l,j,h=>by
  simp only[retT]at h
  split at h
  ·rename_i xs hf
   cases h
   exact⟨0,rt,xs,rfl,hf,by cases xs<;>rfl⟩
  ·obtain⟨m,rt',xs,h1,h2,h3⟩:=Zwo (j:=j+1) (by exact_mod_cast h)
   exact⟨m+1,rt',xs,by simpa using h1,h2,by rw[h3,show j+1+m=j+(m+1)by omega]⟩
theorem Z29 (h:Sat κ S ι s){rts:List RT}{res:List RS}{e:Ex}(hk:resH (BV Γ f) rts res e S=some r):endH κ rts res r e s:=by
 have main:(resA (BV Γ f) S res fun az S1=>retP (BV Γ f) S1 (oneA az) rts)=some r-> ∃v o,Zdw res s=some (v,o)/\RetR κ rts r v o s.hs:=by
  intro hk
  obtain⟨az,S1,ps,h1,h2,_,h3,h4⟩:=Zo9 h hk
  have hl:rvps s res=some ps->res.length=ps.length:=by
   have:∀{rs:List RS} {ps:List (V×Bool)},rvps s rs=some ps->rs.length=ps.length:=by
    intro rs
    induction rs<;>grind[Option.bind_eq_some_iff,Option.map_eq_some_iff,rvps]
   exact this
  have hl:=hl h3
  obtain⟨az',ps',v,o,e1,hat,hvo,hres⟩:∃az' ps' v o,oneA az=az'/\AtsO ι S1.vals az' ps'/\((∃p,ps'=[p]/\v=p.1/\o=p.2) \/(ps'.length≠1/\v= .tup (ps'.map (·.1))/\ ∀p∈ps',p.2=false))/\Zdw res s=some (v,o):=by
   by_cases hp1:ps.length=1
   ·match ps,hp1,hl with
    | [p],_,hl=>
     match res,hl,h3 with
     | [rr],_,h3=>
      simp only[rvps,Xab,Xaa]at h3
      obtain⟨p',h5,ps',h6,h7⟩:=h3
      cases h7
      match az,h4.len,h4 with
      | [a],_,h4=>exact⟨_,_,p.1,p.2,rfl,h4, .inl ⟨p,rfl,rfl,rfl⟩,h5⟩
   ·refine⟨az.map At.noOwn,ps.map fun p=>(p.1,false), .tup (ps.map (·.1)),false, ?_,h4.noOwn, .inr ⟨by simpa using hp1,by simp_all,fun p hp=> ?_⟩, ?_⟩
    ·match az,h4.len with
     | [a],hl2=>grind
     | [],_=>rfl
     |_::_::_,_=>rfl
    ·grind
    ·unfold Zdw
     split<;>simp_all[Zri]
  rw[e1]at h1
  refine⟨v,o,hres, ?_⟩
  unfold retP at h1
  split at h1
  ·split at h1
   ·rename_i xs hf
    cases h1
    obtain⟨ι',hR⟩:=Ztz h2 hat hf hvo
    exact⟨0,_,xs,ι',rfl,rfl,hR⟩
   ·cases h1
  ·rename_i hno
   obtain⟨m,rt,xs,h5,h6,h7⟩:=Zwo (j:=0) h1
   obtain⟨ι',hR⟩:=Ztz h2 hat h6 hvo
   refine⟨m,rt,xs,ι',h5, ?_,hR⟩
   rw[h7,Xao]
   unfold Zum
   split
   ·rename_i hl1
    match rts,hl1,hno with
    | [rt],_,hno=>grind
   ·rfl
 cases e with
 |exit i=>cases hk
 |normal=>exact main hk
 |ret=>exact main hk
def endF (κ:Fc)(E:FE)(res:List RS)(r:V):Ex->St->Prop:=match E.ret with|none=>endY res E.own r|some rts=>endH κ rts res r
theorem Zpv (h:Sat κ S ι s){E:FE}{res:List RS}{e:Ex}(hk:resE (BV Γ f) E res e S=some r):endF κ E res r e s:=by
 unfold resE at hk
 unfold endF
 split at hk
 ·rename_i he;rw[he];exact Z1r h hk
 ·rename_i rts he;rw[he];exact Z29 h hk
def Zyn (GA:Abs.Spec)(gl:Glob)(F:AFn)(E:FE)(l:Nat)(xs:List V)(r:V):Prop:=∀κ T ι s,lk E.lab l=some T->xs.length=T.n->Sat κ (T.start xs) ι s->labQ GA gl l F.body 2 (endF κ E F.res r) s
theorem Z5e (hΓ:GamOK GA gl Γ ow){F:AFn}{E:FE}(hf:E.k=f)(hJ:∀l xs,2<=l->Γ f l xs=some r->Zyn GA gl F E l xs r){l:Nat}{xs:List V}(hk:peF (BV Γ f) ow F E l xs=some r):
  (l=0->E.k=E.f/\E.ret=none/\ ∀args,nfL args=xs->Zab xs=true->args.length<=F.n/\awp GA gl F.body (endY F.res E.own r) (St.init args))/\
  (l=1-> ∀rts,E.ret=some rts-> ∀args ι hs,args.length=E.ar->Sat ⟨ι,hs⟩ (E.ent.start xs) ι (St.initH args hs)->args.length<=F.n/\awp GA gl F.body (endH ⟨ι,hs⟩ rts F.res r) (St.initH args hs))/\
  (2<=l->Zyn GA gl F E l xs r):=by
 have J:∀κ,JOK κ GA gl Γ f E.lab F.body 2 (endF κ E F.res r) r:=fun κ m T xs ι s h1 _ h2 h3 h4 h5 h6=>hJ m xs h1 h4 κ T ι s h3 h5 h6
 unfold peF at hk
 split at hk
 ·refine⟨fun _=> ?_,(fun h=>by cases h),fun h=>absurd h (by omega)⟩
  split at hk
  ·rename_i hb
   simp only[Xai]at hb
   obtain⟨⟨⟨b1,b2⟩,b3⟩,b4⟩:=hb
   have h1:=Xag b1
   have h2:=Xa5 b2
   have hret:E.ret=none:=by simp_all
   refine⟨Xag b3,hret,fun args ha hc=> ?_⟩
   subst ha
   rw[Zaq]at h1
   have:=Zid hΓ (J ⟨[],⟨fun _=>none,0,fun _ _=>false⟩⟩) (Zyr h1 hc) hk fun e S' ι' s' q1 q2=>Zpv q2 q1
   grind[endF]
  ·cases hk
 ·refine⟨(fun h=>by cases h),fun _ rts hret args ι hs hl hS=> ?_,fun h=>absurd h (by omega)⟩
  split at hk
  ·rename_i hb
   simp only[Xai]at hb
   obtain⟨⟨b1,b2⟩,b3⟩:=hb
   have h2:=Xa5 b2
   have:=Zid hΓ (J ⟨ι,hs⟩) hS hk fun e S' ι' s' q1 q2=>Zpv q2 q1
   grind[endF]
  ·cases hk
 ·refine⟨fun h=>(by cases h),fun h=>absurd h (by omega),fun _ κ T ι s hT hn hs=> ?_⟩<;>grind[Nat.beq_refl,Zge,Zpv]
end Go.Abs
namespace Go.Abs
structure RelB {X D1 D2:Type}(B1:Bld X D1)(B2:Bld X D2)(R:D1->D2->Prop):Prop where
 c:B1.c=B2.c
 fail:R B1.fail B2.fail
 prim:∀p xs i k1 k2,(∀x,R (k1 x) (k2 x))->R (B1.prim p xs i k1) (B2.prim p xs i k2)
 ite:∀x a1 a2 b1 b2,R a1 a2->R b1 b2->R (B1.ite x a1 b1) (B2.ite x a2 b2)
 call:∀f xs i k1 k2,(∀x,R (k1 x) (k2 x))->R (B1.call f xs i k1) (B2.call f xs i k2)
 callv:∀v xs i k1 k2,(∀x,R (k1 x) (k2 x))->R (B1.callv v xs i k1) (B2.callv v xs i k2)
 callh:∀f xs i k1 k2,(∀x,R (k1 x) (k2 x))->R (B1.callh f xs i k1) (B2.callh f xs i k2)
 jmp:∀l xs,R (B1.jmp l xs) (B2.jmp l xs)
 ret:∀xs,R (B1.ret xs) (B2.ret xs)
 amb:∀x a1 a2 b1 b2,R a1 a2->R b1 b2->R (B1.amb x a1 b1) (B2.amb x a2 b2)
variable {X D1 D2:Type}{B1:Bld X D1}{B2:Bld X D2}{R:D1->D2->Prop}{S:PS X}
theorem RelB.valA (h:RelB B1 B2 R)(S:PS X)(a:At):S.valA B1 a=S.valA B2 a:=by
 cases a<;>simp only[PS.valA,h.c]
theorem RelB.segVals (h:RelB B1 B2 R)(S:PS X):∀ss:List Seg,segVals B1 S ss=segVals B2 S ss
 | []=>rfl
 | .one a::r=>by simp only[Abs.segVals,h.valA,RelB.segVals h S r]
 | .many (some n) a::r=>by simp only[Abs.segVals,h.valA,RelB.segVals h S r]
 | .many none a::r=>rfl
theorem RelB.mat (h:RelB B1 B2 R){S:PS X}{y:Option Sy}{k1:X->PS X->D1}{k2:X->PS X->D2}(hk:∀x S,R (k1 x S) (k2 x S)):R (mat B1 S y k1) (mat B2 S y k2):=by
 unfold Abs.mat
 split
 ·rw[h.valA];split<;>first|exact hk _ _|exact h.fail
 ·split<;>first|exact hk _ _|exact h.fail
 ·rw[h.segVals];split
  ·exact h.prim _ _ _ _ _ fun x=>hk _ _
  ·exact h.fail
 ·exact h.fail
 ·exact h.fail
theorem RelB.matL (h:RelB B1 B2 R):∀{xs:List Opd} {S:PS X} {k1:List X->PS X->D1} {k2:List X->PS X->D2},(∀x S,R (k1 x S) (k2 x S))->R (matL B1 S xs k1) (matL B2 S xs k2)
 | [],_,_,_,hk=>hk _ _
 |o::xs,S,k1,k2,hk=>by
  exact h.mat fun x S1=>RelB.matL h fun ys S2=>hk _ _
theorem RelB.doX (h:RelB B1 B2 R){S:PS X}{p:Prim}{xs:List X}{d:Option Nat}{own:Bool}{k1:PS X->D1}{k2:PS X->D2}(hk:∀S,R (k1 S) (k2 S)):R (doX B1 S p xs d own k1) (doX B2 S p xs d own k2):=
 h.prim _ _ _ _ _ fun _=>hk _
theorem RelB.doP (h:RelB B1 B2 R){S:PS X}{p:Prim}{xs:List Opd}{d:Option Nat}{own:Bool}{k1:PS X->D1}{k2:PS X->D2}(hk:∀S,R (k1 S) (k2 S)):R (doP B1 S p xs d own k1) (doP B2 S p xs d own k2):=
 h.matL fun _ _=>h.doX hk
theorem RelB.ldIn (h:RelB B1 B2 R){S:PS X}{a:At}{n:Option Nat}{r:Nat}{k1:Sy->PS X->D1}{k2:Sy->PS X->D2}(hk:∀y S,R (k1 y S) (k2 y S)):R (ldIn B1 S a n r k1) (ldIn B2 S a n r k2):=
 h.mat fun _ _=>h.prim _ _ _ _ _ fun _=>hk _ _
theorem RelB.ldSegs (h:RelB B1 B2 R){S:PS X}{ss:List Seg}{i m:Nat}{k1:Sy->PS X->D1}{k2:Sy->PS X->D2}{a1:D1}{a2:D2}(hk:∀y S,R (k1 y S) (k2 y S))(ha:R a1 a2):R (ldSegs B1 S ss i m k1 a1) (ldSegs B2 S ss i m k2 a2):=by
 unfold Abs.ldSegs
 split
 ·rw[h.segVals];split
  ·exact h.prim _ _ _ _ _ fun _=>hk _ _
  ·exact hk _ _
 ·exact ha
theorem RelB.ldY (h:RelB B1 B2 R){S:PS X}{ss:List Seg}{off:Nat}{n:Option Nat}{k1:Sy->PS X->D1}{k2:Sy->PS X->D2}(hk:∀y S,R (k1 y S) (k2 y S)):R (ldY B1 S ss off n k1) (ldY B2 S ss off n k2):=by
 unfold Abs.ldY
 repeat' first|exact hk _ _|exact h.fail|exact h.ldIn hk|exact h.ldSegs hk h.fail|exact h.ldSegs hk (h.ldIn hk)|split
theorem RelB.ldAt (h:RelB B1 B2 R){S:PS X}{ss:List Seg}{off:Nat}{n:Option Nat}{d:Option Nat}{k1:PS X->D1}{k2:PS X->D2}(hk:∀S,R (k1 S) (k2 S)):R (ldAt B1 S ss off n d k1) (ldAt B2 S ss off n d k2):=
 h.ldY fun _ _=>hk _
theorem RelB.asSegs (h:RelB B1 B2 R){S:PS X}{n:Nat}{y:Sy}{mny:Bool}{k1:List Seg->PS X->D1}{k2:List Seg->PS X->D2}(hk:∀q S,R (k1 q S) (k2 q S)):R (asSegs B1 S n y mny k1) (asSegs B2 S n y mny k2):=by
 unfold Abs.asSegs
 repeat' first|exact hk _ _|exact h.fail|exact h.mat fun _ _=>h.prim _ _ _ _ _ fun _=>hk _ _|split
theorem RelB.stAt (h:RelB B1 B2 R){S:PS X}{o:Nat}{ss:List Seg}{off n:Nat}{y:Sy}{d:Option Nat}{k1:PS X->D1}{k2:PS X->D2}(hk:∀S,R (k1 S) (k2 S)):R (stAt B1 S o ss off n y d k1) (stAt B2 S o ss off n y d k2):=by
 unfold Abs.stAt
 split
 ·split
  ·exact h.asSegs fun _ _=>hk _
  ·split
   ·exact h.mat fun _ _=>h.mat fun _ _=>h.prim _ _ _ _ _ fun _=>hk _
   ·exact h.fail
 ·exact h.fail
theorem RelB.bldP (h:RelB B1 B2 R){S:PS X}{z:List V}{ps:List (Nat×Nat×Opd)}{d:Option Nat}{k1:PS X->D1}{k2:PS X->D2}(hk:∀S,R (k1 S) (k2 S)):R (bldP B1 S z ps d k1) (bldP B2 S z ps d k2):=by
 unfold Abs.bldP
 split
 ·split
  ·unfold Abs.bldR
   repeat' first|exact hk _|exact h.fail|split
  refine h.matL fun _ _=>h.prim _ _ _ _ _ fun _=> ?_
  split
  ·exact hk _
  ·split
   ·split
    ·rw[h.segVals];split
     ·exact h.prim _ _ _ _ _ fun _=>hk _
     ·exact h.fail
    ·exact h.fail
   ·exact h.fail
 ·exact h.fail
theorem RelB.onO (h:RelB B1 B2 R){S:PS X}{x:Opd}{k1:Sy->D1}{k2:Sy->D2}(hk:∀y,R (k1 y) (k2 y)):R (onO B1 S x k1) (onO B2 S x k2):=by
 unfold Abs.onO
 split
 ·exact hk _
 ·exact h.fail
theorem RelB.mAt (h:RelB B1 B2 R)(S:PS X)(no:Nat)(T y:At)(ρ:List (Nat×Nat))(acc:List X):mAt B1 S no T y ρ acc=mAt B2 S no T y ρ acc:=by
 unfold Abs.mAt
 simp only[h.valA,h.c]
theorem RelB.mSegs (h:RelB B1 B2 R)(S:PS X)(no:Nat):∀(ss qs:List Seg) (ρ:List (Nat×Nat)) (acc:List X),mSegs B1 S no ss qs ρ acc=mSegs B2 S no ss qs ρ acc
 | [],[],_,_=>rfl
 | .one a::r, .one b::q,ρ,acc=>by simp only[Abs.mSegs,h.mAt,RelB.mSegs h S no r q]
 | .many (some n) a::r, .many (some m) b::q,ρ,acc=>by simp only[Abs.mSegs,h.mAt,RelB.mSegs h S no r q]
 | .many none a::r, .many none b::q,ρ,acc=>by simp only[Abs.mSegs,h.mAt,RelB.mSegs h S no r q]
 | [],_::_,_,_=>by simp[Abs.mSegs]
 |_::_,[],_,_=>by simp[Abs.mSegs]
 | .one _::_, .many _ _::_,_,_=>by simp[Abs.mSegs]
 | .many _ _::_, .one _::_,_,_=>by simp[Abs.mSegs]
 | .many none _::_, .many (some _) _::_,_,_=>by simp[Abs.mSegs]
 | .many (some _) _::_, .many none _::_,_,_=>by simp[Abs.mSegs]
theorem RelB.mObs (h:RelB B1 B2 R)(S:PS X)(no:Nat):∀(T:List (Option (List Seg))) (k:Nat) (ρ:List (Nat×Nat)) (acc:List X),mObs B1 S no T k ρ acc=mObs B2 S no T k ρ acc
 | [],_,_,_=>rfl
 |q::r,k,ρ,acc=>by simp only[Abs.mObs,h.mSegs,RelB.mObs h S no r]
theorem RelB.mAts (h:RelB B1 B2 R)(S:PS X)(no:Nat):∀(T az:List At) (ρ:List (Nat×Nat)) (acc:List X),mAts B1 S no T az ρ acc=mAts B2 S no T az ρ acc
 | [],[],_,_=>rfl
 |a::r,b::q,ρ,acc=>by simp only[Abs.mAts,h.mAt,RelB.mAts h S no r q]
 | [],_::_,_,_=>rfl
 |_::_,[],_,_=>rfl
theorem RelB.mArgs (h:RelB B1 B2 R)(S:PS X)(no:Nat)(az:List At):∀(tm:List (Nat×Sy)) (ρ:List (Nat×Nat)) (acc:List X),mArgs B1 S no az tm ρ acc=mArgs B2 S no az tm ρ acc
 | [],_,_=>rfl
 |(t, .at a)::r,ρ,acc=>by simp only[Abs.mArgs,h.mAt,RelB.mArgs h S no az r]
 |(_, .agg _ _)::_,_,_=>rfl
 |(_, .tup _)::_,_,_=>rfl
theorem RelB.fitE (h:RelB B1 B2 R)(S:PS X)(E:FE)(az:List At):fitE B1 S E az=fitE B2 S E az:=by
 unfold Abs.fitE
 simp only[h.mArgs,h.mObs]
theorem RelB.pickE (h:RelB B1 B2 R)(S:PS X)(az:List At):∀l:List FE,pickE B1 S az l=pickE B2 S az l
 | []=>rfl
 |E::l=>by simp only[Abs.pickE,h.fitE,RelB.pickE h S az l]
theorem RelB.unp (h:RelB B1 B2 R){v:X}:∀{n i nx:Nat} {k1:List X->D1} {k2:List X->D2},(∀l,R (k1 l) (k2 l))->R (unp B1 v n i nx k1) (unp B2 v n i nx k2)
 |0,_,_,_,_,hk=>hk _
 |n+1,i,nx,k1,k2,hk=>h.prim _ _ _ _ _ fun x=>RelB.unp h fun xs=>hk _
theorem RelB.unpR (h:RelB B1 B2 R){tag:Bool}{v:X}{n nx:Nat}{k1:List X->D1}{k2:List X->D2}(hk:∀l,R (k1 l) (k2 l)):R (unpR B1 tag v n nx k1) (unpR B2 tag v n nx k2):=by
 unfold Abs.unpR
 repeat' first|exact hk _|exact h.unp hk|split
theorem RelB.putRs (h:RelB B1 B2 R){S:PS X}{d:Option Nat}{k1:PS X->D1}{k2:PS X->D2}(hk:∀S,R (k1 S) (k2 S))(o:Option (List At)):R (putRs B1 S d k1 o) (putRs B2 S d k2 o):=by
 unfold Abs.putRs
 repeat' first|exact hk _|exact h.fail|split
theorem RelB.callRs (h:RelB B1 B2 R){S:PS X}{g:Nat}{ρ:List (Nat×Nat)}{d:Option Nat}{tag:Bool}{v:X}{rt:RT}{k1:PS X->D1}{k2:PS X->D2}(hk:∀S,R (k1 S) (k2 S)):R (callRs B1 S g ρ d tag v rt k1) (callRs B2 S g ρ d tag v rt k2):=by
 unfold Abs.callRs
 split
 ·exact h.unpR fun _=>h.putRs hk _
 ·exact h.fail
theorem RelB.swR (h:RelB B1 B2 R){t:X}{k1:PS X->RT->D1}{k2:PS X->RT->D2}(hk:∀S rt,R (k1 S rt) (k2 S rt)):∀{l:List RT} {S:PS X} {j:Int},R (swR B1 t k1 S j l) (swR B2 t k2 S j l)
 | [],_,_=>h.fail
 | [_],_,_=>hk _ _
 |x::y::l,S,j=>by
  simp only[Abs.swR]
  rw[h.c]
  exact h.prim _ _ _ _ _ fun b=>h.ite _ _ _ _ _ (hk _ _) (RelB.swR h hk (l:=y::l))
theorem RelB.callE (h:RelB B1 B2 R){S:PS X}{d:Option Nat}{k1:PS X->D1}{k2:PS X->D2}(hk:∀S,R (k1 S) (k2 S))(q:Option (FE×List (Nat×Nat)×List X)):R (callE B1 S d k1 q) (callE B2 S d k2 q):=by
 unfold Abs.callE
 split
 ·split
  ·exact h.callh _ _ _ _ _ fun _=>h.callRs hk
  ·exact h.callh _ _ _ _ _ fun _=>h.prim _ _ _ _ _ fun _=>h.swR fun _ _=>h.callRs hk
  ·exact h.fail
 ·exact h.fail
theorem RelB.atO (h:RelB B1 B2 R){S:PS X}{y:Option Sy}{k1:At->PS X->D1}{k2:At->PS X->D2}(hk:∀a S,R (k1 a S) (k2 a S)):R (atO B1 S y k1) (atO B2 S y k2):=by
 unfold Abs.atO
 split
 ·exact hk _ _
 ·exact hk _ _
 ·rw[h.segVals];split
  ·exact h.prim _ _ _ _ _ fun _=>hk _ _
  ·exact h.fail
 ·exact h.fail
theorem RelB.atsO (h:RelB B1 B2 R):∀{xs:List Opd} {S:PS X} {k1:List At->PS X->D1} {k2:List At->PS X->D2},(∀a S,R (k1 a S) (k2 a S))->R (atsO B1 S xs k1) (atsO B2 S xs k2)
 | [],_,_,_,hk=>hk _ _
 |x::xs,_,_,_,hk=>by
  exact h.atO fun _ _=>RelB.atsO h fun _ _=>hk _ _
theorem RelB.coal (h:RelB B1 B2 R){S:PS X}{o off n:Nat}{k1:PS X->D1}{k2:PS X->D2}(hk:∀S,R (k1 S) (k2 S)):R (coal B1 S o off n k1) (coal B2 S o off n k2):=by
 unfold Abs.coal
 repeat' first|exact hk _|exact h.fail|exact h.prim _ _ _ _ _ fun _=>hk _|(rw[h.segVals])|split
theorem RelB.splitO (h:RelB B1 B2 R){S:PS X}{o off:Nat}{k1:PS X->D1}{k2:PS X->D2}(hk:∀S,R (k1 S) (k2 S)):R (splitO B1 S o off k1) (splitO B2 S o off k2):=by
 unfold Abs.splitO
 repeat' first|exact hk _|exact h.fail|exact h.prim _ _ _ _ _ fun _=>h.prim _ _ _ _ _ fun _=>h.prim _ _ _ _ _ fun _=>hk _|(rw[h.valA])|split
theorem RelB.rowVal (h:RelB B1 B2 R)(S:PS X)(o:Nat):rowVal B1 S o=rowVal B2 S o:=by
 unfold Abs.rowVal
 simp only[h.valA]
theorem RelB.snapO (h:RelB B1 B2 R){S:PS X}{y:Option Sy}{k1:X->PS X->D1}{k2:X->PS X->D2}(hk:∀x S,R (k1 x S) (k2 x S)):R (snapO B1 S y k1) (snapO B2 S y k2):=by
 unfold Abs.snapO
 repeat' first
  |exact h.fail
  |exact h.mat fun _ _=>h.prim _ _ _ _ _ fun _=>hk _ _
  |exact h.mat fun _ _=>hk _ _
  |exact h.prim _ _ _ _ _ fun _=>hk _ _
  |(rw[h.c])
  |(rw[h.rowVal])
  |split
theorem RelB.snapA (h:RelB B1 B2 R):∀{xs:List Opd} {fl:Bool} {S:PS X} {k1:List X->PS X->D1} {k2:List X->PS X->D2},(∀x S,R (k1 x S) (k2 x S))->R (snapA B1 fl S xs k1) (snapA B2 fl S xs k2)
 | [],_,_,_,_,hk=>hk _ _
 |o::xs,fl,S,_,_,hk=>by
  simp only[Abs.snapA]
  split
  ·exact h.fail
  ·exact h.snapO fun _ _=>RelB.snapA h fun _ _=>hk _ _
theorem RelB.mapV (h:RelB B1 B2 R)(S:PS X)(y:Option Sy):mapV B1 S y=mapV B2 S y:=by
 unfold Abs.mapV
 split<;>simp only[h.c]
theorem RelB.op1 (h:RelB B1 B2 R){ow:Cfg}{S:PS X}{d:Option Nat}{op:AOp}{k1:PS X->D1}{k2:PS X->D2}(hk:∀S,R (k1 S) (k2 S)):R (op1 B1 ow d op S k1) (op1 B2 ow d op S k2):=by
 cases op<;>simp only[Abs.op1]<;>repeat' first
  |exact hk _
  |exact h.fail
  |exact h.onO fun _=>hk _
  |exact h.doP hk
  |exact h.bldP hk
  |exact h.ldAt hk
  |exact h.stAt hk
  |exact h.mat fun _ _=>h.amb _ _ _ _ _ (hk _) (hk _)
  |exact h.snapO fun _ _=>h.prim _ _ _ _ _ fun _=>h.prim _ _ _ _ _ fun _=>hk _
  |exact h.mat fun _ _=>h.doX hk
  |exact h.doX hk
  |exact h.atsO fun _ _=>by exact h.callE hk _
  |refine h.splitO fun _=> ?_
  |(rw[h.c])
  |exact h.coal fun _=>h.matL fun _ _=>h.prim _ _ _ _ _ fun _=>hk _
  |exact h.mat fun _ _=>h.prim _ _ _ _ _ fun _=>hk _
  |exact h.mat fun _ _=>h.mat fun _ _=>h.prim _ _ _ _ _ fun _=>hk _
  |exact h.matL fun _ _=>h.prim _ _ _ _ _ fun _=>hk _
  |exact h.matL fun _ _=>h.call _ _ _ _ _ fun _=>hk _
  |exact h.matL fun _ _=>h.doX hk
  |exact h.call _ _ _ _ _ fun _=>hk _
  |exact h.callv _ _ _ _ _ fun _=>hk _
  |(rw[h.pickE];exact h.callE hk _)
  |exact h.snapA fun _ _=>h.call _ _ _ _ _ fun _=>h.prim _ _ _ _ _ fun _=>hk _
  |(rw[h.valA])
  |(rw[h.rowVal])
  |(rw[h.mapV])
  |(rw[h.c])
  |split
  |refine h.matL fun _ _=> ?_
  |refine h.atsO fun _ _=> ?_
  |refine h.mat fun _ _=> ?_
  |(rw[h.c])
  |refine h.prim _ _ _ _ _ fun _=> ?_
theorem RelB.opG (h:RelB B1 B2 R){ow:Cfg}{S:PS X}{o:AOper}{k1:PS X->D1}{k2:PS X->D2}(hk:∀S,R (k1 S) (k2 S)):R (opG B1 ow o S k1) (opG B2 ow o S k2):=by
 unfold Abs.opG
 repeat' first
  |exact hk _
  |exact h.fail
  |exact h.op1 hk
  |exact h.ite _ _ _ _ _ (h.op1 hk) (hk _)
  |exact h.ite _ _ _ _ _ (hk _) (h.op1 hk)
  |split
theorem RelB.opsG (h:RelB B1 B2 R){ow:Cfg}:∀{os:List AOper} {S:PS X} {k1:PS X->D1} {k2:PS X->D2},(∀S,R (k1 S) (k2 S))->R (opsG B1 ow os S k1) (opsG B2 ow os S k2)
 | [],_,_,_,hk=>hk _
 |o::os,_,_,_,hk=>h.opG fun _=>RelB.opsG h hk
theorem RelB.mTm (h:RelB B1 B2 R)(S:PS X)(no:Nat):∀(tm:List (Nat×Sy)) (ρ:List (Nat×Nat)) (acc:List X),mTm B1 S no tm ρ acc=mTm B2 S no tm ρ acc
 | [],_,_=>rfl
 |(t, .at a)::r,ρ,acc=>by simp only[Abs.mTm,h.mAt,RelB.mTm h S no r]
 |(t, .agg ss none)::r,ρ,acc=>by simp only[Abs.mTm,h.mSegs,RelB.mTm h S no r]
 |(_, .agg _ (some _))::_,_,_=>rfl
 |(_, .tup _)::_,_,_=>rfl
theorem RelB.jump (h:RelB B1 B2 R){m:Nat}{T:PT}{S:PS X}:R (jump B1 m T S) (jump B2 m T S):=by
 unfold Abs.jump
 rw[h.mTm]
 split
 ·rw[h.mObs]
  split
  ·split
   ·exact h.jmp _ _
   ·exact h.fail
  ·exact h.fail
 ·exact h.fail
theorem RelB.pe (h:RelB B1 B2 R){ow:Cfg}{L:List (Nat×PT)}:∀{c:ACode} {n:Nat} {S:PS X} {k1:Ex->PS X->D1} {k2:Ex->PS X->D2},(∀e S,R (k1 e S) (k2 e S))->R (pe B1 ow L c n S k1) (pe B2 ow L c n S k2)
 | .skip,_,_,_,_,hk=>hk _ _
 | .region _ _,_,_,_,_,hk=>h.opsG fun _=>hk _ _
 | .seq a b,n,S,k1,k2,hk=>by
  simp only[Abs.pe]
  refine RelB.pe h fun e S'=> ?_
  cases e with
  |normal=>
   simp only
   split
   ·exact h.jump
   ·exact RelB.pe h hk
  |exit i=>exact hk _ _
  |ret=>exact hk _ _
 | .cond c a b,n,S,k1,k2,hk=>by
  simp only[Abs.pe]
  split
  ·exact RelB.pe h hk
  ·exact RelB.pe h hk
  ·split
   ·split
    ·exact h.ite _ _ _ _ _ (RelB.pe h hk) (RelB.pe h hk)
    ·exact h.fail
   ·exact h.fail
 | .block i b,n,S,k1,k2,hk=>by
  exact RelB.pe h (c:=b) fun e S'=>hk (e.inBlock i) S'
 | .loop b,n,S,k1,k2,hk=>by
  simp only[Abs.pe]
  split
  ·exact h.jump
  ·exact h.fail
 | .exit i,_,_,_,_,hk=>hk _ _
 | .ret,_,_,_,_,hk=>hk _ _
 | .fail,_,_,_,_,_=>h.fail
theorem RelB.peL (h:RelB B1 B2 R){ow:Cfg}{L:List (Nat×PT)}{c:ACode}{n:Nat}{S:PS X}{k1:Ex->PS X->D1}{k2:Ex->PS X->D2}(hk:∀e S,R (k1 e S) (k2 e S)):R (peL B1 ow L c n S k1) (peL B2 ow L c n S k2):=by
 unfold Abs.peL
 split
 ·refine h.pe fun e S'=> ?_
  cases e with
  |normal=>
   simp only
   split
   ·exact h.jump
   ·exact h.fail
  |exit i=>exact hk _ _
  |ret=>exact hk _ _
 ·exact h.pe hk
theorem RelB.peAt (h:RelB B1 B2 R){ow:Cfg}{L:List (Nat×PT)}{m:Nat}:∀{c:ACode} {n:Nat} {S:PS X} {k1:Ex->PS X->D1} {k2:Ex->PS X->D2},(∀e S,R (k1 e S) (k2 e S))->R (peAt B1 ow L m c n S k1) (peAt B2 ow L m c n S k2)
 | .seq a b,n,S,k1,k2,hk=>by
  simp only[Abs.peAt]
  split
  ·refine RelB.peAt h fun e S'=> ?_
   cases e with
   |normal=>
    simp only
    split
    ·exact h.jump
    ·exact h.pe hk
   |exit i=>exact hk _ _
   |ret=>exact hk _ _
  ·split
   ·exact h.peL hk
   ·exact RelB.peAt h hk
 | .cond _ a b,n,S,k1,k2,hk=>by
  simp only[Abs.peAt]
  split
  ·exact RelB.peAt h hk
  ·exact RelB.peAt h hk
 | .block i b,n,S,k1,k2,hk=>by
  exact RelB.peAt h (c:=b) fun e S'=>hk (e.inBlock i) S'
 | .loop b,n,S,k1,k2,hk=>by
  simp only[Abs.peAt]
  split
  ·exact h.peL hk
  ·refine RelB.peAt h fun e S'=> ?_
   cases e with
   |normal=>
    simp only
    split
    ·exact h.jump
    ·exact h.fail
   |exit i=>exact hk _ _
   |ret=>exact hk _ _
 | .skip,_,_,_,_,_=>h.fail
 | .region _ _,_,_,_,_,_=>h.fail
 | .exit _,_,_,_,_,_=>h.fail
 | .ret,_,_,_,_,_=>h.fail
 | .fail,_,_,_,_,_=>h.fail
theorem RelB.resL (h:RelB B1 B2 R):∀{rs:List RS} {S:PS X} {acc:List X},R (resL B1 S rs acc) (resL B2 S rs acc)
 | [],_,_=>h.ret _
 | .t t::rs,S,acc=>by
  simp only[Abs.resL,resR]
  exact h.mat fun _ _=>RelB.resL h
 | .c t n::rs,S,acc=>by
  simp only[Abs.resL,resR]
  split
  ·split
   ·exact h.ldY fun _ _=>h.mat fun _ _=>RelB.resL h
   ·exact h.fail
  ·exact h.fail
theorem RelB.resK (h:RelB B1 B2 R){own:Bool}{res:List RS}(e:Ex)(S:PS X):R (resK B1 own res e S) (resK B2 own res e S):=by
 unfold Abs.resK
 repeat' first|exact h.fail|exact h.resL|split
theorem RelB.resA (h:RelB B1 B2 R):∀{rs:List RS} {S:PS X} {k1:List At->PS X->D1} {k2:List At->PS X->D2},(∀a S,R (k1 a S) (k2 a S))->R (resA B1 S rs k1) (resA B2 S rs k2)
 | [],_,_,_,hk=>hk _ _
 | .t t::rs,S,_,_,hk=>by
  exact h.atO fun _ _=>RelB.resA h fun _ _=>hk _ _
 | .c t n::rs,S,_,_,hk=>by
  simp only[Abs.resA]
  split
  ·split
   ·exact h.ldY fun _ _=>h.atO fun _ _=>RelB.resA h fun _ _=>hk _ _
   ·exact h.fail
  ·exact h.fail
theorem RelB.fitR (h:RelB B1 B2 R)(S:PS X)(az:List At)(rt:RT):fitR B1 S az rt=fitR B2 S az rt:=by
 unfold Abs.fitR
 simp only[h.mAts,h.mObs]
theorem RelB.retT (h:RelB B1 B2 R){S:PS X}{az:List At}:∀{l:List RT} {j:Int},R (retT B1 S az j l) (retT B2 S az j l)
 | [],_=>h.fail
 |rt::l,j=>by
  have hd:∀xs,dum B1 xs=dum B2 xs:=fun xs=>by cases xs<;>simp only[dum,h.c]
  simp only[Abs.retT]
  rw[h.fitR]
  split
  ·rw[h.c,hd];exact h.ret _
  ·exact RelB.retT h
theorem RelB.retP (h:RelB B1 B2 R){S:PS X}{az:List At}{l:List RT}:R (retP B1 S az l) (retP B2 S az l):=by
 unfold Abs.retP
 split
 ·rw[h.fitR]
  split
  ·exact h.ret _
  ·exact h.fail
 ·exact h.retT
theorem RelB.resE (h:RelB B1 B2 R){E:FE}{res:List RS}(e:Ex)(S:PS X):R (resE B1 E res e S) (resE B2 E res e S):=by
 unfold Abs.resE
 split
 ·exact h.resK e S
 ·unfold Abs.resH
  split
  ·exact h.fail
  ·exact h.resA fun _ _=>h.retP
theorem RelB.peF (h:RelB B1 B2 R){ow:Cfg}{F:AFn}{E:FE}{l:Nat}{xs:List X}:R (peF B1 ow F E l xs) (peF B2 ow F E l xs):=by
 unfold Abs.peF
 repeat' first|exact h.fail|exact h.pe h.resE|exact h.peAt h.resE|split
noncomputable def step (P:Program)(tabs:List FE)(ext:Nat->List V->Option V)(ow:Cfg)(Γ:Gam):Gam:=fun f l xs=>
 match tabs.find? (fun E=>Nat.beq E.k f)with
 |some E=>match cFnR P (E.pl&&E.ret.isNone) E.ret.isSome E.f with
  |some F=>peF (BV Γ f) ow F E l xs
  |none=>none
 |none=>match l with
  |0=>ext f xs
  |_+1=>none
variable {P:Program}{tabs:List FE}{ext:Nat->List V->Option V}{ow:Cfg}
noncomputable def rounds (P:Program)(tabs:List FE)(ext:Nat->List V->Option V)(ow:Cfg):Nat->Gam
 |0=>fun _ _ _=>none
 |n+1=>step P tabs ext ow (rounds P tabs ext ow n)
open Classical in
noncomputable def val (P:Program)(tabs:List FE)(ext:Nat->List V->Option V)(ow:Cfg):Gam:=fun f l xs=>
 if h:∃n r,rounds P tabs ext ow n f l xs=some r then some h.choose_spec.choose else none
def Le (Γ Γ':Gam):Prop:=∀f l xs r,Γ f l xs=some r->Γ' f l xs=some r
theorem Zy3 {Γ Γ':Gam}(h:Le Γ Γ')(f:Nat):RelB (BV Γ f) (BV Γ' f) (fun a b=> ∀r,a=some r->b=some r) where
 c:=rfl
 fail _ h:=by cases h
 prim p xs i k1 k2 hk r hr:=by
  grind[Option.bind_eq_some_iff,BV]
 ite x a1 a2 b1 b2 h1 h2 r hr:=by
  rcases Zgm hr with⟨rfl,h3⟩|⟨rfl,h3⟩
  ·exact h1 r h3
  ·exact h2 r h3
 call g xs i k1 k2 hk r hr:=by
  simp only[BV,Xab]at hr⊢
  obtain⟨x,h1,h2⟩:=hr
  exact⟨x,h _ _ _ _ h1,hk x r h2⟩
 callv v xs i k1 k2 hk r hr:=by
  simp only[BV,Xab]at hr⊢
  obtain⟨x,h1,h2⟩:=hr
  refine⟨x, ?_,hk x r h2⟩
  unfold Ze4 at h1⊢
  split at h1
  ·exact h _ _ _ _ h1
  ·cases h1
 callh g xs i k1 k2 hk r hr:=by
  simp only[BV,Xab]at hr⊢
  obtain⟨x,h1,h2⟩:=hr
  exact⟨x,h _ _ _ _ h1,hk x r h2⟩
 jmp l xs r hr:=h _ _ _ _ hr
 ret xs r hr:=hr
 amb x a1 a2 b1 b2 h1 h2 r hr:=by
  simp only[BV]at hr⊢
  grind[Zj2,vamb]
theorem Zgx {Γ Γ':Gam}(h:Le Γ Γ'):Le (step P tabs ext ow Γ) (step P tabs ext ow Γ'):=fun f l xs r hr=>by
 unfold step at hr⊢
 split at hr
 ·split at hr
  ·exact(Zy3 h f).peF r hr
  ·cases hr
 omega
theorem Zjk :∀n,Le (rounds P tabs ext ow n) (rounds P tabs ext ow (n+1))
 |0=>fun _ _ _ _ h=>by cases h
 |n+1=>Zgx (Zjk n)
theorem Zec {n m:Nat}(h:n<=m):Le (rounds P tabs ext ow n) (rounds P tabs ext ow m):=by
 induction h with
 |refl=>exact fun _ _ _ _ h=>h
 |step _ ih=>exact fun f l xs r hr=>Zjk _ f l xs r (ih f l xs r hr)
theorem Zd2 {f l:Nat}{xs:List V}{r:V}:val P tabs ext ow f l xs=some r<-> ∃n,rounds P tabs ext ow n f l xs=some r:=by
 unfold val
 constructor
 ·intro h
  split at h<;>grind
 ·rintro⟨n,hn⟩
  have hex:∃n r,rounds P tabs ext ow n f l xs=some r:=⟨n,r,hn⟩
  have h1:=hex.choose_spec.choose_spec
  have h2:=Zec (Xdq n hex.choose) _ _ _ _ hn
  have h3:=Zec (Xdl n hex.choose) _ _ _ _ h1
  grind
noncomputable def BN (G:Nat->Gam)(f:Nat):Bld V (Nat->Option V) where
 c v:=v
 fail _:=none
 prim p xs _ k n:=(evp p xs).bind fun x=>k x n
 ite x a b n:=vif x (a n) (b n)
 call g xs _ k n:=(G n g 0 xs).bind fun x=>k x n
 callv x xs _ k n:=(Ze4 (G n) x xs).bind fun x=>k x n
 callh g xs _ k n:=(G n g 1 xs).bind fun x=>k x n
 jmp l xs n:=G n f l xs
 ret xs _:=some (oneV xs)
 amb x a b n:=vamb x (a n) (b n)
theorem Z4j (G:Nat->Gam)(f n:Nat):RelB (BN G f) (BV (G n) f) (fun a b=>a n=b) where
 c:=rfl
 fail:=rfl
 prim p xs i k1 k2 hk:=by show(evp p xs).bind _=(evp p xs).bind _;simp_all
 ite x a1 a2 b1 b2 h1 h2:=by show vif x (a1 n) (b1 n)=vif x a2 b2;rw[h1,h2]
 call g xs i k1 k2 hk:=by show(G n g 0 xs).bind _=(G n g 0 xs).bind _;simp_all
 callv v xs i k1 k2 hk:=by show(Ze4 (G n) v xs).bind _=(Ze4 (G n) v xs).bind _;simp_all
 callh g xs i k1 k2 hk:=by show(G n g 1 xs).bind _=(G n g 1 xs).bind _;simp_all
 jmp l xs:=rfl
 ret xs:=rfl
 amb x a1 a2 b1 b2 h1 h2:=by show vamb x (a1 n) (b1 n)=vamb x a2 b2;rw[h1,h2]
theorem Z3l (f:Nat):RelB (BV (val P tabs ext ow) f) (BN (rounds P tabs ext ow) f) (fun a b=> ∀r,a=some r-> ∃N, ∀n,N<=n->b n=some r) where
 c:=rfl
 fail _ h:=by cases h
 prim p xs i k1 k2 hk r hr:=by
  simp only[BV,Xab]at hr
  obtain⟨x,h1,h2⟩:=hr
  simp_all[BN]
 ite x a1 a2 b1 b2 h1 h2 r hr:=by
  rcases Zgm hr with⟨rfl,h3⟩|⟨rfl,h3⟩
  ·exact h1 r h3
  ·exact h2 r h3
 call g xs i k1 k2 hk r hr:=by
  simp only[BV,Xab]at hr
  obtain⟨x,h1,h2⟩:=hr
  obtain⟨N,hN⟩:=hk x r h2
  obtain⟨M,hM⟩:=Zd2.1 h1
  exact⟨max N M,fun n hn=>by simp only[BN,Zec (show M<=n by omega) _ _ _ _ hM];grind⟩
 callv v xs i k1 k2 hk r hr:=by
  simp only[BV,Xab]at hr
  obtain⟨x,h1,h2⟩:=hr
  obtain⟨N,hN⟩:=hk x r h2
  unfold Ze4 at h1
  split at h1
  ·obtain⟨M,hM⟩:=Zd2.1 h1
   exact⟨max N M,fun n hn=>by simp only[BN,Ze4,Zec (show M<=n by omega) _ _ _ _ hM];grind⟩
  ·cases h1
 callh g xs i k1 k2 hk r hr:=by
  simp only[BV,Xab]at hr
  obtain⟨x,h1,h2⟩:=hr
  obtain⟨N,hN⟩:=hk x r h2
  obtain⟨M,hM⟩:=Zd2.1 h1
  exact⟨max N M,fun n hn=>by simp only[BN,Zec (show M<=n by omega) _ _ _ _ hM];grind⟩
 jmp l xs r hr:=by
  obtain⟨M,hM⟩:=Zd2.1 hr
  exact⟨M,fun n hn=>Zec hn _ _ _ _ hM⟩
 ret xs r hr:=⟨0,fun n _=>hr⟩
 amb x a1 a2 b1 b2 h1 h2 r hr:=by
  simp only[BV]at hr
  rcases Zj2 hr with⟨c,sz,rfl,h3,h4⟩|⟨c,sz,y,l,rfl,h3⟩
  ·obtain⟨N,hN⟩:=h1 r h3
   obtain⟨M,hM⟩:=h2 r h4
   exact⟨max N M,fun n hn=>by show vamb (.sl c sz []) (a2 n) (b2 n)=some r;grind⟩
  ·obtain⟨M,hM⟩:=h2 r h3
   exact⟨M,fun n hn=>by show vamb (.sl c sz (y::l)) (a2 n) (b2 n)=some r;rw[hM n hn];rfl⟩
theorem Zl6 :val P tabs ext ow=step P tabs ext ow (val P tabs ext ow):=by
 funext f l xs
 apply Option.ext
 intro r
 constructor
 ·intro h
  obtain⟨n,hn⟩:=Zd2.1 h
  cases n with
  |zero=>cases hn
  |succ n=>exact Zgx (fun f l xs r h=>Zd2.2 ⟨n,h⟩) f l xs r hn
 ·intro h
  unfold step at h
  split at h
  ·rename_i E hE
   split at h
   ·rename_i F hF
    obtain⟨N,hN⟩:=(Z3l f).peF r h
    refine Zd2.2 ⟨N+1, ?_⟩
    show step P tabs ext ow (rounds P tabs ext ow N) f l xs=some r
    unfold step
    rw[hE];simp only[hF]
    rw[<-(Z4j (rounds P tabs ext ow) f N).peF];grind
   ·cases h
  ·split at h
   ·refine Zd2.2 ⟨1, ?_⟩
    show step P tabs ext ow _ f 0 xs=some r
    grind[step]
   ·cases h
end Go.Abs
namespace Go.Abs
def Good (cx:Cx)(ow:Cfg)(f:Nat)(xs:List V)(r:V):Prop:=Zab xs=true-> ∀args,nfL args=xs->r.clean=true/\ ∃v o,PC cx f args (v,o)/\v.nf=r/\(ow.ow f=true->Own v o)
def Zx8 (cx:Cx)(ext:Nat->List V->Option V)(ow:Cfg):Prop:=∀f xs r,ext f xs=some r->Good cx ow f xs r
open Classical in
noncomputable def Zpa (cx:Cx)(Γ:Gam)(ow:Cfg):Nat->List V->Option (V×Bool):=fun f args=>
 if h:∃p:V×Bool,Zab args=true/\PC cx f args p/\Γ f 0 (nfL args)=some p.1.nf/\(ow.ow f=true->Own p.1 p.2)then some h.choose else none
theorem Zp4 (cx:Cx)(Γ:Gam)(ow:Cfg):∀f args r,Zpa cx Γ ow f args=some r->PC cx f args r:=by
 intro f args p hp
 unfold Zpa at hp
 split at hp<;>grind
variable {cx:Cx}{tabs:List FE}{ext:Nat->List V->Option V}{ow:Cfg}
noncomputable def Zv8 (cx:Cx)(tabs:List FE)(ext:Nat->List V->Option V)(ow:Cfg):Abs.Spec:=hL cx.P cx.gl (Zpa cx (val cx.P tabs ext ow) ow)
structure TabOK (cx:Cx)(tabs:List FE)(ow:Cfg):Prop where
 own:∀E∈tabs,E.ret=none->ow.ow E.k=E.own
 he:∀f, ∀E∈ow.he f,tabs.find? (fun E'=>Nat.beq E'.k E.k)=some E/\E.f=f
 gl:∀g cs,ow.gl g=some cs->cx.gl g=some cs/\nfL cs=cs/\Zab cs=true
theorem Z5n {tabs:List FE}{k:Nat}{E:FE}(h:tabs.find? (fun E=>Nat.beq E.k k)=some E):E.k=k/\E∈tabs:=
 ⟨Xag (by grind),Xdh h⟩
def Qbn (cx:Cx)(tabs:List FE)(ext:Nat->List V->Option V)(ow:Cfg)(E:FE)(xs:List V)(r:V):Prop:=
 ∀rts,E.ret=some rts-> ∀args ι hs,args.length=E.ar->Sat ⟨ι,hs⟩ (E.ent.start xs) ι (St.initH args hs)-> ∃v o hs',(Zv8 cx tabs ext ow).h E.f args hs=some (v,o,hs')/\RetR ⟨ι,hs⟩ rts r v o hs'
theorem Zog (hgl:GlOK cx)(hm:cx.P.follows .mixedOrders=true)(hext:Zx8 cx ext ow)(hT:TabOK cx tabs ow):∀(n k l:Nat) (xs:List V) (r:V),rounds cx.P tabs ext ow n k l xs=some r->
  (l=0->Good cx ow k xs r)/\(l=1-> ∀E,tabs.find? (fun E=>Nat.beq E.k k)=some E->Qbn cx tabs ext ow E xs r)/\
  (2<=l-> ∀E F,tabs.find? (fun E=>Nat.beq E.k k)=some E->cFnR cx.P (E.pl&&E.ret.isNone) E.ret.isSome E.f=some F->Zyn (Zv8 cx tabs ext ow) cx.gl F E l xs r)
 |0,_,_,_,_,h=>by cases h
 |n+1,k,l,xs,r,h=>by
  have ih:=Zog hgl hm hext hT n
  have hle:Le (rounds cx.P tabs ext ow n) (val cx.P tabs ext ow):=fun f l xs r h=>Zd2.2 ⟨n,h⟩
  have hsound:Sound cx (Zv8 cx tabs ext ow):=Zyj hgl hm (Zp4 cx _ ow)
  have hΓ:GamOK (Zv8 cx tabs ext ow) cx.gl (rounds cx.P tabs ext ow n) ow:=by
   refine⟨fun f args r hc hr=> ?_,fun f args r hr=> ?_,fun f E hE rts hret xs r hr args ι hs hl _ hS=> ?_,hT.gl⟩
   ·obtain⟨h1,v,o,h3,h4,h5⟩:=(ih f 0 _ r hr).1 rfl hc args rfl
    have hv:=hle f 0 _ r hr
    have hex:∃p:V×Bool,Zab args=true/\PC cx f args p/\val cx.P tabs ext ow f 0 (nfL args)=some p.1.nf/\(ow.ow f=true->Own p.1 p.2):=⟨(v,o),Zca hc,h3,by rw[hv,h4],h5⟩
    have h6:=hex.choose_spec
    refine⟨hex.choose.1,hex.choose.2,by show Zpa cx _ ow f args=_;unfold Zpa;rw[dif_pos hex], ?_,h1,h6.2.2.2⟩<;>grind
   ·have hr':Zpa cx (val cx.P tabs ext ow) ow f args=some r:=hr
    grind[Zpa]
   ·obtain⟨h1,h2⟩:=hT.he f E hE
    rw[<-h2]
    exact(ih E.k 1 xs r hr).2.1 rfl E h1 rts hret args ι hs hl hS
  have h':step cx.P tabs ext ow (rounds cx.P tabs ext ow n) k l xs=some r:=h
  unfold step at h'
  split at h'
  ·rename_i E hE
   obtain⟨hEk,hEm⟩:=Z5n hE
   split at h'
   ·rename_i F hF
    have hJ:∀l xs,2<=l->rounds cx.P tabs ext ow n k l xs=some r->Zyn (Zv8 cx tabs ext ow) cx.gl F E l xs r:=fun l xs hl hr=>(ih k l xs r hr).2.2 hl E F hE hF
    obtain⟨q1,q2,q3⟩:=Z5e (gl:=cx.gl) hΓ hEk hJ h'
    refine⟨fun hl hc=> ?_,fun hl E' hE' rts hret args ι hs hlen hS=> ?_,fun hl E' F' hE' hF'=> ?_⟩
    ·obtain⟨e1,e2,e3⟩:=q1 hl
     intro args ha
     obtain⟨h1,h2⟩:=e3 args ha hc
     obtain⟨e,t,h3,h4⟩:=Zhl h2
     obtain⟨h5,h6⟩:=h3
     have he:Zxu F.res E.own r t:=by cases e<;>first|exact h5|exact h5.elim
     obtain⟨p,hp,hp1,hp2⟩:=he
     have hca:Zab args=true:=Zca (by grind)
     have hk:k=E.f:=hEk.symm.trans e1
     subst hk
     refine⟨h6,p.1,p.2,Zt2 hgl hm hsound (show cFnR cx.P (E.pl&&true) false E.f=some F by grind) h1 hca (Zlg (by grind)) (h4 _ ?_),hp1,fun ho=>hp2 (by rw[<-hT.own E hEm e2,hEk];exact ho)⟩
     cases e with
     |normal=>simp_all
     |ret=>simp_all
     |exit i=>exact h5.elim
    ·rw[hE]at hE';cases hE'
     obtain⟨h1,h2⟩:=q2 hl rts hret args ι hs hlen hS
     obtain⟨e,t,h3,h4⟩:=Zhl h2
     have h5:∃v o,Zdw F.res t=some (v,o)/\RetR ⟨ι,hs⟩ rts r v o t.hs:=by cases e<;>first|exact h3|exact h3.elim
     obtain⟨v,o,h6,h7⟩:=h5
     refine⟨v,o,t.hs,Qa4 ⟨F,by have:=hF;rw[hret,show(E.pl&&(some rts).isNone)=false from Xem _]at this;exact this,h1,h4 _ ?_⟩,h7⟩
     cases e with
     |normal=>exact⟨h6,rfl⟩
     |ret=>exact⟨h6,rfl⟩
     |exit i=>exact h3.elim
    grind
   ·cases h'
  ·split at h'
   ·exact⟨fun _=>hext k xs r h',fun hl=>(by cases hl),fun hl=>absurd hl (by omega)⟩
   ·cases h'
theorem Zzh (hgl:GlOK cx)(hm:cx.P.follows .mixedOrders=true)(hext:Zx8 cx ext ow)(hT:TabOK cx tabs ow){f:Nat}{xs:List V}{r:V}(h:val cx.P tabs ext ow f 0 xs=some r):Good cx ow f xs r:=by
 obtain⟨n,hn⟩:=Zd2.1 h
 exact(Zog hgl hm hext hT n f 0 xs r hn).1 rfl
theorem Zdk {P:Program}{f l:Nat}{xs:List V}{r:Option V}(h:step P tabs ext ow (val P tabs ext ow) f l xs=r):val P tabs ext ow f l xs=r:=by rw[<-h, <-Zl6]
def Znm :List FE->Bool
 | []=>true
 |E::r=> !(r.any fun E'=>Nat.beq E'.k E.k)&&Znm r
def Z5x (tabs:List FE)(eo:Nat->Bool)(gl:Nat->Option (List V)):Cfg where
 ow f:=match tabs.find? (fun E=>Nat.beq E.k f)with|some E=>E.own|none=>eo f
 he f:=tabs.filter fun E=>Nat.beq E.f f&&E.ret.isSome
 gl:=gl
theorem Zl0 :∀{tabs:List FE},Znm tabs=true-> ∀E∈tabs,tabs.find? (fun E'=>Nat.beq E'.k E.k)=some E
 | [],_,E,h=>by cases h
 |A::r,hk,E,h=>by
  simp only[Znm,Xai,Xb6]at hk
  rw[List.find?_cons]
  rcases Xap.1 h with rfl|h
  ·rw[Xeb]
  ·cases hb:Nat.beq A.k E.k with
   |true=>
    have:=Xcy.1 hk.1 E h
    rw[Xag hb,Xeb]at this
    exact absurd rfl this
   |false=>exact Zl0 hk.2 E h
theorem Zzo {eo:Nat->Bool}{gl:Nat->Option (List V)}(hk:Znm tabs=true)(hg:∀g cs,gl g=some cs->cx.gl g=some cs/\nfL cs=cs/\Zab cs=true):TabOK cx tabs (Z5x tabs eo gl) where
 own E hE _:=by show(match tabs.find? _ with|some E=>E.own|none=>eo _)=_;rw[Zl0 hk E hE]
 he f E hE:=by
  obtain⟨h1,h2⟩:=Xdp.1 hE
  simp_all[Zl0]
 gl:=hg
abbrev pr (p:Prim)(xs:List V)(k:V->Option V):Option V:=(evp p xs).bind k
abbrev ca (Γ:Gam)(f:Nat)(xs:List V)(k:V->Option V):Option V:=(Γ f 0 xs).bind k
abbrev cv (Γ:Gam)(v:V)(xs:List V)(k:V->Option V):Option V:=(Ze4 Γ v xs).bind k
abbrev ch (Γ:Gam)(f:Nat)(xs:List V)(k:V->Option V):Option V:=(Γ f 1 xs).bind k
end Go.Abs
namespace Go.Abs
open Go.RowKit
open Classical in
noncomputable def Zs6 (cs:List FC):Nat->List V->Option V:=fun f xs=>
 match cs.find? (fun c=>c.f==f&&c.mt xs)with
 |some c=>if h:∃y,c.rel xs y then some h.choose else none
 |none=>none
theorem Zys {cx:Cx}{cs:List FC}{ow:Cfg}(h:∀c∈cs,c.Holds cx)(ho:∀c∈cs,ow.ow c.f=true->c.own=true):Zx8 cx (Zs6 cs) ow:=by
 intro f xs r hr
 unfold Zs6 at hr
 split at hr
 ·rename_i c hc
  have hm:=Xdh hc
  have h2:=List.find?_some hc
  simp only[Xai,beq_iff_eq]at h2
  obtain⟨rfl,_⟩:=h2
  split at hr
  ·rename_i hex
   cases hr
   have h3:=hex.choose_spec
   intro _ args ha
   subst ha
   obtain⟨v,o,q1,q2,q3⟩:=h c hm args _ h3
   exact⟨(c.clean _ _ h3).2,v,o,q1,q2,fun hw=>q3 (ho c hm hw)⟩
  ·cases hr
 ·cases hr
theorem Zdc {cs:List FC}{c:FC}{xs:List V}{y:V}(hf:cs.find? (fun d=>d.f==c.f&&d.mt xs)=some c)(hr:c.rel xs y):Zs6 cs c.f xs=some y:=by
 unfold Zs6
 rw[hf]
 have hex:∃y,c.rel xs y:=⟨y,hr⟩
 simp only[dif_pos hex]
 exact congrArg some (c.fn _ _ _ hex.choose_spec hr)
variable {P:Program}{tabs:List FE}{ow:Cfg}{ext:Nat->List V->Option V}
theorem Zd5 {f:Nat}{xs:List V}{r:V}(hn:tabs.find? (fun E=>Nat.beq E.k f)=none)(h:ext f xs=some r):val P tabs ext ow f 0 xs=some r:=by
 apply Zdk
 grind[step]
theorem Zy1 {cx:Cx}(hgl:GlOK cx)(hm:cx.P.follows .mixedOrders=true)(hext:Zx8 cx ext ow)(hT:TabOK cx tabs ow){f:Nat}{args:List V}{ys:List V}{xs:Array Value}(ha:nfL args=ys)(hc:Zab ys=true)
  (h:val cx.P tabs ext ow f 0 ys=some (.bool true)) (hx:RepL cx.w0 (G0 cx.w0) (fun _=>none) args xs):Calls cx.P f xs cx.w0 fun e W'=>e= .returned (.bool true)/\Below cx.w0.heap.size cx.w0 W':=by
 obtain⟨_,v,o,h1,h2,_⟩:=Zzh hgl hm hext hT h hc args ha
 grind[Zci,Zw0]
section
variable {k:IntKind}{a b:Int}{s t:Bytes}
theorem Qao :evp (.bin .lss .no) [.int k a, .int k b]=some (.bool (decide (a<b))):=by simp[evp,aint]
theorem Z9f :evp (.bin .leq .no) [.int k a, .int k b]=some (.bool (decide (a<=b))):=by simp[evp,aint]
theorem Qah :evp (.bin .gtr .no) [.int k a, .int k b]=some (.bool (decide (b<a))):=by simp[evp,aint]
theorem Z97 :evp (.bin .geq .no) [.int k a, .int k b]=some (.bool (decide (b<=a))):=by simp[evp,aint]
theorem Qbr :evp (.bin .eql .no) [.int k a, .int k b]=some (.bool (decide (a=b))):=by simp[evp,aint]
theorem Qak :evp (.bin .neq .no) [.int k a, .int k b]=some (.bool (!decide (a=b))):=by simp[evp,aint]
theorem Qbk :evp (.bin .add .no) [.int k a, .int k b]=some (.int k (k.wrap (a+b))):=by simp[evp,aint]
theorem Qa8 :evp (.bin .sub .no) [.int k a, .int k b]=some (.int k (k.wrap (a-b))):=by simp[evp,aint]
theorem Z5s :evp (.bin .eql .no) [.str s, .str t]=some (.bool (decide (s=t))):=by simp[evp,astr]
theorem Z50 :evp (.bin .neq .no) [.str s, .str t]=some (.bool (!decide (s=t))):=by simp[evp,astr]
theorem Z76 :evp (.bin .lss .no) [.str s, .str t]=some (.bool (Op.bytesLess s t)):=by simp[evp,astr]
theorem Zj6 (h:s.length+t.length<=4611686018427387904):evp (.bin .add .no) [.str s, .str t]=some (.str (s++t)):=by grind[evp,abin,astr]
theorem Z6a {x y:Bool}:evp (.bin .eql .bool) [.bool x, .bool y]=some (.bool (x==y)):=by cases x<;>cases y<;>rfl
theorem Z5b {x y:Bool}:evp (.bin .neq .bool) [.bool x, .bool y]=some (.bool (!(x==y))):=by cases x<;>cases y<;>rfl
theorem Z9z {x:Bool}:evp (.un .not) [.bool x]=some (.bool !x):=rfl
theorem Z6q :evp (.len true) [.str s]=some (.int .i64 s.length):=rfl
theorem Zsr {n:Bool}{sz:Nat}{xs:List V}:evp (.len false) [.sl n sz xs]=some (.int .i64 xs.length):=rfl
theorem Qau {x y:Option V}:vif (.bool true) x y=x:=rfl
theorem Z92 {x y:Option V}:vif (.bool false) x y=y:=rfl
theorem Qaw {p:Prop} [Decidable p]{x y:Option V}:vif (.bool (decide p)) x y=if p then x else y:=by by_cases h:p<;>simp[h,vif]
theorem Qbc {p:Prop} [Decidable p]{x y:Option V}:vif (.bool (!decide p)) x y=if p then y else x:=by by_cases h:p<;>simp[h,vif]
theorem Qa5 {c:Bool}{x y:Option V}:vif (.bool c) x y=if c=true then x else y:=by cases c<;>rfl
theorem Z90 {i:Nat}{xs:List V}:evp (.ext i) [.tup xs]=xs[i]? :=rfl
theorem Zh9 {h:Nat}(hh:h<=s.length):evp (.sls false true) [.str s, .int .i64 h]=some (.str (s.take h)):=by
 simp_all[evp,Zuz]
theorem Zh6 {l:Nat}(hl:l<=s.length):evp (.sls true false) [.str s, .int .i64 l]=some (.str (s.drop l)):=by
 simp_all[evp,Zuz]
theorem Zt9 {l h:Nat}(hl:l<=h)(hh:h<=s.length):evp (.sls true true) [.str s, .int .i64 l, .int .i64 h]=some (.str ((s.take h).drop l)):=by
 simp_all[evp,Zuz]
theorem Zib {i:Nat}{c:UInt8}(h:s[i]? =some c):evp .idx [.str s, .int .i64 i]=some (byteV c):=by simp_all[evp]
theorem Zf6 {n:Bool}{sz i:Nat}{xs:List V}{x:V}(h:xs[i]? =some x):evp (.elem sz) [.sl n sz xs, .int .i64 i]=some x:=by simp[evp,Z2n,h]
theorem Zl1 {n:Bool}{sz:Nat}{xs ys:List V}{m:Bool}(h:xs.length+ys.length<=Lim):evp (.app sz) [.sl n sz xs, .sl m sz ys]=some (.sl false sz (xs++ys)):=by simp_all[evp,Zyb]
theorem Z7l {p:Prop} [Decidable p](h: ¬p):some (V.bool false)=some (V.bool (decide p)):=by simp[h]
end
theorem yy :
  (∀{p:Prim} {xs:List V} {k:V->Option V},pr p xs k=(evp p xs).bind k)/\(∀{Γ:Gam} {f:Nat} {xs:List V} {k:V->Option V},ca Γ f xs k=(Γ f 0 xs).bind k)/\(∀{Γ:Gam} {f:Nat} {xs:List V} {k:V->Option V},ch Γ f xs k=(Γ f 1 xs).bind k)/\
  (∀{v:V} {k:V->Option V},(some v).bind k=k v)/\
  (∀{k:IntKind} {a b:Int},evp (.bin .lss .no) [.int k a, .int k b]=some (.bool (decide (a<b))))/\(∀{k:IntKind} {a b:Int},evp (.bin .leq .no) [.int k a, .int k b]=some (.bool (decide (a<=b))))/\
  (∀{k:IntKind} {a b:Int},evp (.bin .gtr .no) [.int k a, .int k b]=some (.bool (decide (b<a))))/\(∀{k:IntKind} {a b:Int},evp (.bin .geq .no) [.int k a, .int k b]=some (.bool (decide (b<=a))))/\
  (∀{k:IntKind} {a b:Int},evp (.bin .eql .no) [.int k a, .int k b]=some (.bool (decide (a=b))))/\(∀{k:IntKind} {a b:Int},evp (.bin .neq .no) [.int k a, .int k b]=some (.bool (!decide (a=b))))/\
  (∀{k:IntKind} {a b:Int},evp (.bin .add .no) [.int k a, .int k b]=some (.int k (k.wrap (a+b))))/\(∀{k:IntKind} {a b:Int},evp (.bin .sub .no) [.int k a, .int k b]=some (.int k (k.wrap (a-b))))/\
  (∀{s t:Bytes},evp (.bin .eql .no) [.str s, .str t]=some (.bool (decide (s=t))))/\(∀{s t:Bytes},evp (.bin .neq .no) [.str s, .str t]=some (.bool (!decide (s=t))))/\(∀{s t:Bytes},evp (.bin .lss .no) [.str s, .str t]=some (.bool (Op.bytesLess s t)))/\
  (∀{x y:Bool},evp (.bin .eql .bool) [.bool x, .bool y]=some (.bool (x==y)))/\(∀{x y:Bool},evp (.bin .neq .bool) [.bool x, .bool y]=some (.bool (!(x==y))))/\(∀{x:Bool},evp (.un .not) [.bool x]=some (.bool !x))/\
  (∀{s:Bytes},evp (.len true) [.str s]=some (.int .i64 s.length))/\(∀{n:Bool} {sz:Nat} {xs:List V},evp (.len false) [.sl n sz xs]=some (.int .i64 xs.length))/\(∀{i:Nat} {xs:List V},evp (.ext i) [.tup xs]=xs[i]?)/\
  (∀{x y:Option V},vif (.bool true) x y=x)/\(∀{x y:Option V},vif (.bool false) x y=y)/\(∀{p:Prop} [Decidable p] {x y:Option V},vif (.bool (decide p)) x y=if p then x else y)/\(∀{p:Prop} [Decidable p] {x y:Option V},vif (.bool (!decide p)) x y=if p then y else x)/\
  (!true)=false/\(!false)=true/\(∀{α:Type} {f:α->V} {l:List α},(l.map f).length=l.length)/\(∀{x:V} {l:List V},(x::l)[0]? =some x)/\(∀{x:V} {l:List V} {i:Nat},(x::l)[i+1]? =l[i]?):=
 ⟨rfl,rfl,rfl,rfl,Qao,Z9f,Qah,Z97,Qbr,Qak,Qbk,Qa8,Z5s,Z50,Z76,Z6a,Z5b,Z9z,Z6q,Zsr,Z90,Qau,Z92,Qaw,Qbc,rfl,rfl,Xb2 ..,rfl,rfl⟩
end Go.Abs
