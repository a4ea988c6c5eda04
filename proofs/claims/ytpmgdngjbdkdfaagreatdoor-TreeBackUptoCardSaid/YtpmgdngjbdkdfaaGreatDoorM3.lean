/-
  Parts of the proof, one behind the other. Own work of this seat; some printed by its programs.
-/
import Derived.Test.YtpmgdngjbdkdfaaGreatDoorM2
namespace Go.Abs
variable {GA:Abs.Spec}{gl:Glob}{Γ:Gam}{f:Nat}{ow:Cfg}{κ:Fc}{ι:List Nat}{s:St}{S:PS V}{r:V}{k:PS V->Option V}
theorem Zhd {x:V}{a b:Option V}(h:vif x a b=some r):(x= .bool true/\a=some r) \/(x= .bool false/\b=some r):=by
 unfold vif at h
 split at h
 ·exact .inl ⟨rfl,h⟩
 ·exact .inr ⟨rfl,h⟩
 ·cases h
theorem Sat.know (h:Sat κ S ι s){i:Nat}{b:Bool}(hb:S.vals[i]? =some (.bool b)):Sat κ (S.know i b) ι s where
 tm:=h.tm
 ob:=h.ob
 nd:=h.nd
 lt:=h.lt
 len:=h.len
 lits j c hc:=by
  simp only[PS.know,Zcp]at hc
  split at hc
  ·rename_i e;subst e;cases hc;exact hb
  ·exact h.lits j c hc
 cln:=h.cln
 g:=h.g
 pre:=h.pre
 new:=h.new
 nH:=h.nH
 fr:=h.fr
theorem Sat.skip (h:Sat κ S ι s)(d:Option Nat):Sat κ (S.put d (.at .nil)) ι (s.put d Nil false):=h.put d (y:= .at .nil) rfl
theorem Z1h {X:Type}(S:PS X)(t:Nat):S.opd (.tmp t)=S.get t:=rfl
theorem Z3b (h:Sat κ S ι s)(hΓ:GamOK GA gl Γ ow){o:AOper}(hk:opG (BV Γ f) ow o S k=some r):∃S' ι' s',k S'=some r/\exec GA gl o s=some s'/\Sat κ S' ι' s':=by
 obtain⟨d,op,g,a⟩:=o
 unfold opG at hk
 cases g with
 |none=>exact Zy3 h hΓ hk
 |some p=>
  obtain⟨t,w⟩:=p
  simp only at hk
  have skip:∀{S1:PS V},Sat κ S1 ι s->(∀b,s.tm t= .bool b->(b==w)=false)->k (S1.put d (.at .nil))=some r-> ∃S' ι' s',k S'=some r/\exec GA gl ⟨d,op,some (t,w),a⟩ s=some s'/\Sat κ S' ι' s':=by
   intro S1 h1 h2 h3
   refine⟨_,ι,s.put d Nil false,h3, ?_,h1.skip d⟩
   rw[Zno,if_neg]
   cases e:s.tm t<;>simp
   exact fun h=>by have:=h2 _ e;simp[h]at this
  have run:∀{S1:PS V},Sat κ S1 ι s->s.tm t= .bool w->op1 (BV Γ f) ow d op S1 k=some r-> ∃S' ι' s',k S'=some r/\exec GA gl ⟨d,op,some (t,w),a⟩ s=some s'/\Sat κ S' ι' s':=by
   intro S1 h1 h2 h3
   obtain⟨S',ι',s',q1,q2,q3⟩:=Zy3 (gl:=gl) (g:=some (t,w)) (a:=a) h1 hΓ h3
   refine⟨S',ι',s',q1, ?_,q3⟩
   rw[Zno,h2,if_pos (by simp)];exact q2
  split at hk
  ·rename_i hn
   have:s.tm t=Nil:=h.tm t _ hn
   exact skip h (fun b hb=>by rw[this]at hb;cases hb) hk
  ·rename_i y hy
   split at hk
   ·rename_i b hb
    have hb':s.tm t= .bool b:=Zf4 (x:= .tmp t) h (by rw[Z1h];exact hb)
    split at hk
    ·rename_i hx
     have:b=w:=by cases b<;>cases w<;>first|rfl|cases hx
     exact run h (by rw[hb',this]) hk
    ·rename_i hx
     exact skip h (fun c hc=>by rw[hb']at hc;cases hc;cases b<;>cases w<;>first|rfl|cases hx) hk
   ·split at hk
    ·rename_i i o' sc hi
     have hat:=h.tm t _ hi
     split at hk
     ·rename_i x hx
      have hxe:x=(s.tm t).nf:=by have:=hat.1;rw[hx]at this;exact Option.some.inj this
      split at hk
      ·rcases Zhd hk with⟨e,h1⟩|⟨e,h1⟩
       ·exact run (h.know (by rw[hx,e])) (Zcd (hxe.symm.trans e)) h1
       ·exact skip (h.know (by rw[hx,e])) (fun b hb=>by rw[Zcd (hxe.symm.trans e)]at hb;cases hb;rfl) h1
      ·rcases Zhd hk with⟨e,h1⟩|⟨e,h1⟩
       ·exact skip (h.know (by rw[hx,e])) (fun b hb=>by rw[Zcd (hxe.symm.trans e)]at hb;cases hb;rfl) h1
       ·exact run (h.know (by rw[hx,e])) (Zcd (hxe.symm.trans e)) h1
     ·cases hk
    ·cases hk
theorem Zt0 (hΓ:GamOK GA gl Γ ow):∀{os:List AOper} {S:PS V} {ι:List Nat} {s:St},Sat κ S ι s->opsG (BV Γ f) ow os S k=some r-> ∃S' ι' s',k S'=some r/\execs GA gl os s=some s'/\Sat κ S' ι' s'
 | [],S,ι,s,h,hk=>⟨S,ι,s,hk,rfl,h⟩
 |o::os,S,ι,s,h,hk=>by
  obtain⟨S1,ι1,s1,h1,h2,h3⟩:=Z3b (gl:=gl) h hΓ hk
  obtain⟨S2,ι2,s2,h4,h5,h6⟩:=Zt0 hΓ h3 h1
  exact⟨S2,ι2,s2,h4,by simp only[execs,h2];exact h5,h6⟩
theorem Zdi :∀{n k o:Nat},(k,o)∈idR n<->k=o/\k<n
 |0,k,o=>by simp[idR]
 |n+1,k,o=>by
  simp only[idR,Xay,Zdi (n:=n),Xa1,Xc3]
  omega
theorem Zzs :∀{n k:Nat},k<n->lk (idR n) k=some k:=by
 have app:∀{l m:List (Nat×Nat)} {k:Nat},lk (l++m) k=match lk l k with|some x=>some x|none=>lk m k:=by
  intro l
  induction l with
  |nil=>intro m k;rfl
  |cons p l ih=>
   intro m k
   obtain⟨a,b⟩:=p
   rw[Xbq,Zcp,Zcp]
   split
   ·rfl
   ·exact ih
 intro n
 induction n with
 |zero=>intro k h;omega
 |succ n ih=>
  intro k h
  rw[idR,app]
  by_cases hk:k<n
  ·rw[ih hk]
  ·have:k=n:=by omega
   subst this
   cases he:lk (idR k) k with
   |some x=>have:=(Zdi.1 (Zdh he)).2;omega
   |none=>simp only[Zcp,if_true]
theorem Zzc {α:Type}:∀{l:List (Nat×α)} {t:Nat} {a:α},lk l t=some a->(t,a)∈l
 |(k,b)::l,t,a,h=>by
  rw[Zcp]at h
  split at h
  ·rename_i e;cases h;rw[e];simp
  ·exact Xbk _ (Zzc h)
theorem Zu1 (h:Sat κ S ι s){no:Nat}:∀{tm:List (Nat×Sy)} {ρ ρ':List (Nat×Nat)} {acc acc':List V},mTm (BV Γ f) S no tm ρ acc=some (ρ',acc')->RI no ρ->
  RI no ρ'/\(∀p∈ρ,p∈ρ')/\(∃l,acc'=acc++l)/\(Zac acc=true->Zac acc'=true)/\ ∀ι' vs,Agree ρ' ι ι'->Pre acc' vs-> ∀p∈tm,SyS ι' vs p.2 (s.tm p.1) (s.own (.slot p.1))
 | [],ρ,ρ',acc,acc',hg,hr=>by cases hg;exact⟨hr,fun _ h=>h,⟨[],by simp⟩,id,fun _ _ _ _ p hp=>by cases hp⟩
 |(t, .at a)::tm,ρ,ρ',acc,acc',hg,hr=>by
  simp only[mTm]at hg
  have go:∀{b:At} {v:V} {o:Bool} {ρ1:List (Nat×Nat)} {acc1:List V},mAt (BV Γ f) S no a b ρ acc=some (ρ1,acc1)->v=s.tm t->o=s.own (.slot t)->AtS ι S.vals b v o->mTm (BV Γ f) S no tm ρ1 acc1=some (ρ',acc')->
    RI no ρ'/\(∀p∈ρ,p∈ρ')/\(∃l,acc'=acc++l)/\(Zac acc=true->Zac acc'=true)/\ ∀ι' vs,Agree ρ' ι ι'->Pre acc' vs-> ∀p∈(t,Sy.at a)::tm,SyS ι' vs p.2 (s.tm p.1) (s.own (.slot p.1)):=by
   rintro b v o ρ1 acc1 hq rfl rfl hb hg
   obtain⟨q1,q2,⟨l1,e1⟩,q4,_⟩:=Zkt h hq hr
   obtain⟨q5,q6⟩:=q4 _ _ hb
   obtain⟨r1,r2,⟨l2,e2⟩,r4,r5⟩:=Zu1 h hg q1
   refine⟨r1,fun p hp=>r2 p (q2 p hp),⟨l1++l2,by rw[e2,e1,Xaj]⟩,fun hc=>r4 (q5 hc),fun ι' vs ha hv p hp=> ?_⟩
   rcases Xa0.1 hp with rfl|hp
   ·exact q6 ι' vs (ha.sub r2) (fun i x hi=>hv i x (by rw[e2];exact Pre.app _ _ i x hi))
   ·exact r5 ι' vs ha hv p hp
  split at hg
  ·rename_i b hb
   split at hg
   ·rename_i ρ1 acc1 hq
    exact go hq rfl rfl (h.tm t _ hb) hg
   ·cases hg
  ·rename_i ss z hb
   split at hg
   ·rename_i ρ1 acc1 hq
    exact go (b:= .n z false false) hq rfl rfl ⟨(h.tm t _ hb).2 z rfl,(fun h=>nomatch h),(fun h=>nomatch h)⟩ hg
   ·cases hg
  ·cases hg
 |(t, .agg ss none)::tm,ρ,ρ',acc,acc',hg,hr=>by
  simp only[mTm]at hg
  split at hg
  ·rename_i qs z hb
   split at hg
   ·rename_i ρ1 acc1 h1
    obtain⟨⟨cs,e,q1⟩,_⟩:=h.tm t _ hb
    obtain⟨p1,p2,⟨l1,e1⟩,p4,p5⟩:=Zhf h h1 hr q1
    obtain⟨r1,r2,⟨l2,e2⟩,r4,r5⟩:=Zu1 h hg p1
    refine⟨r1,fun p hp=>r2 p (p2 p hp),⟨l1++l2,by rw[e2,e1,Xaj]⟩,fun hc=>r4 (p4 hc),fun ι' vs ha hv p hp=> ?_⟩
    rcases Xa0.1 hp with rfl|hp
    ·exact⟨⟨cs,e,p5 ι' vs (ha.sub r2) (fun i x hi=>hv i x (by rw[e2];exact Pre.app _ _ i x hi))⟩,fun i hi=>by cases hi⟩
    ·exact r5 ι' vs ha hv p hp
   ·cases hg
  ·cases hg
 |(_, .agg _ (some _))::_,_,_,_,_,hg,_=>by cases hg
 |(_, .tup _)::_,_,_,_,_,hg,_=>by cases hg
theorem Zjb (h:Sat κ S ι s){m:Nat}{T:PT}(hk:jump (BV Γ f) m T S=some r):∃xs ι',Γ f m xs=some r/\xs.length=T.n/\Sat κ (T.start xs) ι' s:=by
 unfold jump at hk
 split at hk
 ·rename_i ρ1 acc1 h1
  split at hk
  ·rename_i ρ xs h2
   split at hk
   ·rename_i hn0
    simp only[Xai]at hn0
    obtain⟨hn,⟨hg1,hg2⟩,hg3⟩:=hn0
    have hg1:=Xah hg1
    have hg2:=Xa6 hg2
    have hg3:=Xa6 hg3
    have hr0:RI T.ob.length (idR S.g):=⟨fun k o hm=>by obtain⟨rfl,hk⟩:=Zdi.1 hm;exact Zzs hk,fun k k' o h1 h2=>(Zdi.1 h1).1.trans (Zdi.1 h2).1.symm,fun k o hm=>by have:=(Zdi.1 hm).2;omega⟩
    obtain⟨r1,r2,⟨l1,e1⟩,r4,r5⟩:=Zu1 h h1 hr0
    obtain⟨u1,u2,⟨l2,e2⟩,u4,u5,u6⟩:=Zi9 h h2 r1
    have hcov:Cov T.ob.length ρ ι:=fun k hk=>by
     obtain⟨o,h3,h4⟩:=u5 k hk
     rw[Xan]at h3
     rw[<-h.len]at h4
     exact⟨o,_,h3,Xad h4⟩
    have hag:=Zhg (ι:=ι) u1
    have hid:∀k,k<S.g->(k,k)∈ρ:=fun k hk=>u2 _ (r2 _ (Zdi.2 ⟨rfl,hk⟩))
    refine⟨xs,ιOf T.ob.length ρ ι,hk,Xah hn, ?_⟩
    exact{
     tm:=fun t y hy=>r5 _ xs (hag.sub u2) (by rw[e2];exact Pre.app _ _) (t,y) (Zzc hy)
     ob:=fun k ss hs=>by
      have hs':T.ob[k]? =some (some ss):=by
       simp only[PS.obj,PT.start]at hs
       split at hs
       ·rename_i e;cases hs;exact e
       ·cases hs
      obtain⟨o,id,f1,f2,f4⟩:=u6 k ss hs'
      rw[Xan]at f1
      exact⟨id,hag _ _ _ f1 f2,f4 _ xs hag (.refl _)⟩
     nd:=Zwb u1 hcov h.nd
     lt:=fun id hid=>by
      obtain⟨k,hk⟩:=Xc0.1 hid
      obtain⟨o,_,h4⟩:=Zfc u1 hcov hk
      exact h.lt id (Xam h4)
     len:=Zfq _ _ _
     lits:=fun i b hb=>by cases hb
     cln:=fun x hx=>Zal.1 (u4 (r4 rfl)) x hx
     g:=by show κ.ids.length=T.g;rw[hg1];exact h.g
     pre:=fun k id hk=>by
      have hkg:k<S.g:=by rw[<-h.g];exact(Xae.1 hk).1
      exact hag _ _ _ (hid k hkg) (h.pre k id hk)
     new:=fun k id hk hgk=>by
      obtain⟨o',h3,h4⟩:=Zfc u1 hcov hk
      have hgk:S.g<=k:=by rw[<-hg1];exact hgk
      refine h.new o' id h4 ?_
      rcases Xa4 o' S.g with h5|h5
      ·have:=u1.inj _ _ _ (hid o' h5) h3;omega
      ·exact h5
     nH:=h.nH
     fr:=h.fr}
   ·cases hk
  ·cases hk
 ·cases hk
def labQ (GA:Abs.Spec)(gl:Glob)(m:Nat):ACode->Nat->(Ex->St->Prop)->St->Prop
 | .seq a b,n,Q,s=>if m<n+1+a.size then labQ GA gl m a (n+1) (Ze0 (awp GA gl b Q) Q) s else if m=n+1+a.size then awp GA gl b Q s else labQ GA gl m b (n+1+a.size) Q s
 | .cond _ a b,n,Q,s=>if m<n+1+a.size then labQ GA gl m a (n+1) Q s else labQ GA gl m b (n+1+a.size) Q s
 | .block id b,n,Q,s=>labQ GA gl m b (n+1) (fun e s=>Q (e.inBlock id) s) s
 | .loop b,n,Q,s=>if m=n then awp GA gl (.loop b) Q s else labQ GA gl m b (n+1) (Ze0 (awp GA gl (.loop b) Q) Q) s
 |_,_,_,_=>False
def ACode.isLoop :ACode->Bool
 | .loop _=>true
 |_=>false
def JOK (κ:Fc)(GA:Abs.Spec)(gl:Glob)(Γ:Gam)(f:Nat)(L:List (Nat×PT))(c:ACode)(n:Nat)(Q:Ex->St->Prop)(r:V):Prop:=
 ∀m T xs ι s,n<=m->(n<m \/c.isLoop=true)->m<n+c.size->lk L m=some T->Γ f m xs=some r->xs.length=T.n->Sat κ (T.start xs) ι s->labQ GA gl m c n Q s
theorem Zle (c:ACode):1<=c.size:=by cases c<;>simp[ACode.size]
theorem Zvz {b:ACode}{Q:Ex->St->Prop}(h:awp GA gl b (Ze0 (awp GA gl (.loop b) Q) Q) s):awp GA gl (.loop b) Q s:=by
 obtain⟨e,t,h1,h2⟩:=Zhu h
 cases e with
 |normal=>
  obtain⟨k,hk⟩:awp GA gl (.loop b) Q t:=h1
  exact⟨k+1,h2 _ hk⟩
 |exit i=>exact⟨1,h2 _ h1⟩
 |ret=>exact⟨1,h2 _ h1⟩
theorem JOK.seqA {L:List (Nat×PT)}{a b:ACode}{n:Nat}{Q:Ex->St->Prop}(h:JOK κ GA gl Γ f L (.seq a b) n Q r):JOK κ GA gl Γ f L a (n+1) (Ze0 (awp GA gl b Q) Q) r:=fun m T xs ι s h1 _ h2 h3 h4 h5 h6=>by
 have:=h m T xs ι s (by omega) (.inl (by omega)) (by simp only[ACode.size];omega) h3 h4 h5 h6
 simp only[labQ]at this
 rwa[if_pos (by omega)]at this
theorem JOK.seqB {L:List (Nat×PT)}{a b:ACode}{n:Nat}{Q:Ex->St->Prop}(h:JOK κ GA gl Γ f L (.seq a b) n Q r):JOK κ GA gl Γ f L b (n+1+a.size) Q r:=fun m T xs ι s h1 h7 h2 h3 h4 h5 h6=>by
 have:=h m T xs ι s (by omega) (.inl (by omega)) (by simp only[ACode.size];omega) h3 h4 h5 h6
 simp only[labQ]at this
 rw[if_neg (by omega)]at this
 split at this
 ·rename_i e
  subst e
  rcases h7 with h7|h7
  ·omega
  ·cases b<;>first|(cases h7;done)|skip
   simpa only[labQ,if_true]using this
 ·exact this
theorem JOK.condA {L:List (Nat×PT)}{c:Opd}{a b:ACode}{n:Nat}{Q:Ex->St->Prop}(h:JOK κ GA gl Γ f L (.cond c a b) n Q r):JOK κ GA gl Γ f L a (n+1) Q r:=fun m T xs ι s h1 _ h2 h3 h4 h5 h6=>by
 have:=h m T xs ι s (by omega) (.inl (by omega)) (by simp only[ACode.size];omega) h3 h4 h5 h6
 simp only[labQ]at this
 rwa[if_pos (by omega)]at this
theorem JOK.condB {L:List (Nat×PT)}{c:Opd}{a b:ACode}{n:Nat}{Q:Ex->St->Prop}(h:JOK κ GA gl Γ f L (.cond c a b) n Q r):JOK κ GA gl Γ f L b (n+1+a.size) Q r:=fun m T xs ι s h1 _ h2 h3 h4 h5 h6=>by
 have:=h m T xs ι s (by omega) (.inl (by omega)) (by simp only[ACode.size];omega) h3 h4 h5 h6
 simp only[labQ]at this
 rwa[if_neg (by omega)]at this
theorem JOK.block {L:List (Nat×PT)}{i:Nat}{b:ACode}{n:Nat}{Q:Ex->St->Prop}(h:JOK κ GA gl Γ f L (.block i b) n Q r):JOK κ GA gl Γ f L b (n+1) (fun e s=>Q (e.inBlock i) s) r:=fun m T xs ι s h1 _ h2 h3 h4 h5 h6=>by
 have:=h m T xs ι s (by omega) (.inl (by omega)) (by simp only[ACode.size];omega) h3 h4 h5 h6
 simpa only[labQ]using this
theorem JOK.loop {L:List (Nat×PT)}{b:ACode}{n:Nat}{Q:Ex->St->Prop}(h:JOK κ GA gl Γ f L (.loop b) n Q r):JOK κ GA gl Γ f L b (n+1) (Ze0 (awp GA gl (.loop b) Q) Q) r:=fun m T xs ι s h1 _ h2 h3 h4 h5 h6=>by
 have:=h m T xs ι s (by omega) (.inl (by omega)) (by simp only[ACode.size];omega) h3 h4 h5 h6
 simp only[labQ]at this
 rwa[if_neg (by omega)]at this
theorem Zh9 (hΓ:GamOK GA gl Γ ow){L:List (Nat×PT)}:∀{c:ACode} {n:Nat} {S:PS V} {k:Ex->PS V->Option V} {Q:Ex->St->Prop} {ι:List Nat} {s:St},JOK κ GA gl Γ f L c n Q r->Sat κ S ι s->pe (BV Γ f) ow L c n S k=some r->
  (∀e S' ι' s',k e S'=some r->Sat κ S' ι' s'->Q e s')->awp GA gl c Q s
 | .skip,n,S,k,Q,ι,s,_,h,hk,hQ=>hQ .normal S ι s hk h
 | .region os d,n,S,k,Q,ι,s,_,h,hk,hQ=>by
  obtain⟨S',ι',s',h1,h2,h3⟩:=Zt0 (gl:=gl) hΓ h hk
  simp only[awp,h2]
  exact hQ .normal S' ι' s' h1 h3
 | .seq a b,n,S,k,Q,ι,s,hJ,h,hk,hQ=>by
  simp only[pe]at hk
  show awp GA gl a (Ze0 (awp GA gl b Q) Q) s
  refine Zh9 hΓ hJ.seqA h hk fun e S' ι' s' h1 h2=> ?_
  cases e with
  |normal=>
   simp only at h1
   split at h1
   ·rename_i T hT
    obtain⟨xs,ιj,q1,q2,q3⟩:=Zjb h2 h1
    have:=hJ _ T xs _ s' (by omega) (.inl (by omega)) (by simp only[ACode.size];have:=Zle b;omega) hT q1 q2 q3
    simp only[labQ]at this
    rw[if_neg (by omega)]at this
    simpa using this
   ·rename_i hT
    exact Zh9 hΓ hJ.seqB h2 h1 hQ
  |exit i=>exact hQ (.exit i) S' ι' s' h1 h2
  |ret=>exact hQ .ret S' ι' s' h1 h2
 | .cond c a b,n,S,k,Q,ι,s,hJ,h,hk,hQ=>by
  simp only[pe]at hk
  split at hk
  ·rename_i hb
   simp only[awp,Zf4 h hb]
   exact Zh9 hΓ hJ.condA h hk hQ
  ·rename_i hb
   simp only[awp,Zf4 h hb]
   exact Zh9 hΓ hJ.condB h hk hQ
  ·split at hk
   ·rename_i i o' sc hi
    have hat:=h.opd hi
    split at hk
    ·rename_i x hx
     have hxe:x=(evO s.tm c).nf:=by have:=hat.1;rw[hx]at this;exact Option.some.inj this
     rcases Zhd hk with⟨e,h1⟩|⟨e,h1⟩
     ·simp only[awp,Zcd (hxe.symm.trans e)]
      exact Zh9 hΓ hJ.condA (h.know (by rw[hx,e])) h1 hQ
     ·simp only[awp,Zcd (hxe.symm.trans e)]
      exact Zh9 hΓ hJ.condB (h.know (by rw[hx,e])) h1 hQ
    ·cases hk
   ·cases hk
 | .block i b,n,S,k,Q,ι,s,hJ,h,hk,hQ=>by
  show awp GA gl b (fun e s=>Q (e.inBlock i) s) s
  exact Zh9 hΓ hJ.block h hk fun e S' ι' s' h1 h2=>hQ _ S' ι' s' h1 h2
 | .loop b,n,S,k,Q,ι,s,hJ,h,hk,hQ=>by
  simp only[pe]at hk
  split at hk
  ·rename_i T hT
   obtain⟨xs,ιj,q1,q2,q3⟩:=Zjb h hk
   have:=hJ _ T xs _ s (Xag _) (.inr rfl) (by simp only[ACode.size];omega) hT q1 q2 q3
   simpa only[labQ,if_true]using this
  ·cases hk
 | .exit i,n,S,k,Q,ι,s,_,h,hk,hQ=>hQ (.exit i) S ι s hk h
 | .ret,n,S,k,Q,ι,s,_,h,hk,hQ=>hQ .ret S ι s hk h
 | .fail,_,_,_,_,_,_,_,_,hk,_=>by cases hk
theorem Zy7 (hΓ:GamOK GA gl Γ ow){L:List (Nat×PT)}{c:ACode}{n:Nat}{S:PS V}{k:Ex->PS V->Option V}{Q:Ex->St->Prop}{ι:List Nat}{s:St}
  (hJ:∀m T xs ι s,n<m->m<n+c.size->lk L m=some T->Γ f m xs=some r->xs.length=T.n->Sat κ (T.start xs) ι s->labQ GA gl m c n Q s)
  (hL:∀T xs ι s,lk L n=some T->Γ f n xs=some r->xs.length=T.n->Sat κ (T.start xs) ι s->awp GA gl c Q s) (h:Sat κ S ι s) (hk:peL (BV Γ f) ow L c n S k=some r)
  (hQ:∀e S' ι' s',k e S'=some r->Sat κ S' ι' s'->Q e s'):awp GA gl c Q s:=by
 unfold peL at hk
 split at hk
 ·rename_i b
  have hJ2:JOK κ GA gl Γ f L (.loop b) n Q r:=fun m T xs ι s h1 _ h2 h3 h4 h5 h6=>by
   rcases Xa4 n m with h7|h7
   ·exact hJ m T xs ι s h7 h2 h3 h4 h5 h6
   ·have:m=n:=by omega
    subst this
    simp only[labQ,if_true];exact hL T xs ι s h3 h4 h5 h6
  refine Zvz (Zh9 hΓ hJ2.loop h hk fun e S' ι' s' h1 h2=> ?_)
  cases e with
  |normal=>
   simp only at h1
   split at h1
   ·rename_i T hT
    obtain⟨xs,ιj,q1,q2,q3⟩:=Zjb h2 h1
    exact hL T xs _ s' hT q1 q2 q3
   ·cases h1
  |exit i=>exact hQ (.exit i) S' ι' s' h1 h2
  |ret=>exact hQ .ret S' ι' s' h1 h2
 ·rename_i hno
  refine Zh9 hΓ (fun m T xs ι s h1 h7 h2 h3 h4 h5 h6=> ?_) h hk hQ
  rcases h7 with h7|h7
  ·exact hJ m T xs ι s h7 h2 h3 h4 h5 h6
  ·cases c<;>first|exact absurd rfl (hno _)|(cases h7;done)
theorem Zgm (hΓ:GamOK GA gl Γ ow){L:List (Nat×PT)}{m:Nat}:∀{c:ACode} {n:Nat} {S:PS V} {k:Ex->PS V->Option V} {Q:Ex->St->Prop} {ι:List Nat} {s:St},JOK κ GA gl Γ f L c n Q r->Sat κ S ι s->peAt (BV Γ f) ow L m c n S k=some r->
  (∀e S' ι' s',k e S'=some r->Sat κ S' ι' s'->Q e s')->labQ GA gl m c n Q s
 | .seq a b,n,S,k,Q,ι,s,hJ,h,hk,hQ=>by
  simp only[peAt]at hk
  simp only[labQ]
  split at hk
  ·rename_i hlt
   have hlt':m<n+1+a.size:=Xa6 hlt
   rw[if_pos hlt']
   refine Zgm hΓ hJ.seqA h hk fun e S' ι' s' h1 h2=> ?_
   cases e with
   |normal=>
    simp only at h1
    split at h1
    ·rename_i T hT
     obtain⟨xs,ιj,q1,q2,q3⟩:=Zjb h2 h1
     have:=hJ _ T xs _ s' (by omega) (.inl (by omega)) (by simp only[ACode.size];have:=Zle b;omega) hT q1 q2 q3
     simp only[labQ]at this
     rw[if_neg (by omega)]at this
     simpa using this
    ·rename_i hT
     exact Zh9 hΓ hJ.seqB h2 h1 hQ
   |exit i=>exact hQ (.exit i) S' ι' s' h1 h2
   |ret=>exact hQ .ret S' ι' s' h1 h2
  ·rename_i hlt
   have hlt': ¬m<n+1+a.size:=fun e=>by rw[show Nat.blt m (n+1+a.size)=true from Xet e]at hlt;cases hlt
   rw[if_neg hlt']
   split at hk
   ·rename_i he
    have he:=Xah he
    rw[if_pos he]
    refine Zy7 hΓ (fun m' T xs ι s h1 h2 h3 h4 h5 h6=> ?_) (fun T xs ι s h3 h4 h5 h6=> ?_) h hk hQ
    ·exact hJ.seqB m' T xs ι s (by omega) (.inl h1) h2 h3 h4 h5 h6
    ·have:=hJ _ T xs ι s (by omega) (.inl (by omega)) (by simp only[ACode.size];have:=Zle b;omega) h3 h4 h5 h6
     simp only[labQ]at this
     rw[if_neg (by omega)]at this
     simpa using this
   ·rename_i he
    rw[if_neg (fun e=>by rw[e,Xeu]at he;cases he)]
    exact Zgm hΓ hJ.seqB h hk hQ
 | .cond c a b,n,S,k,Q,ι,s,hJ,h,hk,hQ=>by
  simp only[peAt]at hk
  simp only[labQ]
  split at hk
  ·rename_i hlt
   rw[if_pos (show m<n+1+a.size from Xa6 hlt)]
   exact Zgm hΓ hJ.condA h hk hQ
  ·rename_i hlt
   rw[if_neg (fun e:m<n+1+a.size=>by rw[show Nat.blt m (n+1+a.size)=true from Xet e]at hlt;cases hlt)]
   exact Zgm hΓ hJ.condB h hk hQ
 | .block i b,n,S,k,Q,ι,s,hJ,h,hk,hQ=>by
  simp only[peAt]at hk
  simp only[labQ]
  exact Zgm hΓ hJ.block h hk fun e S' ι' s' h1 h2=>hQ _ S' ι' s' h1 h2
 | .loop b,n,S,k,Q,ι,s,hJ,h,hk,hQ=>by
  simp only[peAt]at hk
  simp only[labQ]
  split at hk
  ·rename_i he
   rw[if_pos (Xah he)]
   refine Zy7 hΓ (fun m' T xs ι s h1 h2 h3 h4 h5 h6=> ?_) (fun T xs ι s h3 h4 h5 h6=> ?_) h hk hQ
   ·exact hJ m' T xs ι s (by omega) (.inl h1) h2 h3 h4 h5 h6
   ·have:=hJ _ T xs ι s (Xag _) (.inr rfl) (by simp only[ACode.size];omega) h3 h4 h5 h6
    simpa only[labQ,if_true]using this
  ·rename_i he
   rw[if_neg (fun e=>by rw[e,Xeu]at he;cases he)]
   refine Zgm hΓ hJ.loop h hk fun e S' ι' s' h1 h2=> ?_
   cases e with
   |normal=>
    simp only at h1
    split at h1
    ·rename_i T hT
     obtain⟨xs,ιj,q1,q2,q3⟩:=Zjb h2 h1
     have:=hJ _ T xs _ s' (Xag _) (.inr rfl) (by simp only[ACode.size];omega) hT q1 q2 q3
     show awp GA gl (.loop b) Q s'
     simpa only[labQ,if_true]using this
    ·cases h1
   |exit i=>exact hQ (.exit i) S' ι' s' h1 h2
   |ret=>exact hQ .ret S' ι' s' h1 h2
 | .skip,_,_,_,_,_,_,_,_,hk,_=>by cases hk
 | .region _ _,_,_,_,_,_,_,_,_,hk,_=>by cases hk
 | .exit _,_,_,_,_,_,_,_,_,hk,_=>by cases hk
 | .ret,_,_,_,_,_,_,_,_,hk,_=>by cases hk
 | .fail,_,_,_,_,_,_,_,_,hk,_=>by cases hk
theorem Zo9 (h:Sat κ S ι s):∀{rs:List RS} {S:PS V} {acc:List V},Sat κ S ι s->resL (BV Γ f) S rs acc=some r->Zac acc=true-> ∃vs,rvs s rs=some vs/\r=oneV (acc++nfL vs)/\Zac (acc++nfL vs)=true/\vs.length=rs.length
 | [],S,acc,_,hk,hc=>⟨[],rfl,by simp only[resL,BV,Xac]at hk;rw[<-hk];simp[nfL],by simpa[nfL]using hc,rfl⟩
 | .t t::rs,S,acc,h1,hk,hc=>by
  simp only[resL,resR]at hk
  cases hg:S.get t with
  |none=>rw[hg]at hk;cases hk
  |some y=>
   rw[hg]at hk
   obtain⟨S1,h2,h3,_,h4⟩:=h1.mat (h1.tm t _ hg) hk
   obtain⟨vs,q1,q2,q3,q4⟩:=Zo9 h h3 h2 (Zbh hc (by simp only[Zac,h4,Xcc]))
   exact⟨s.tm t::vs,by simp only[rvs,rv,Xak,q1,Xas],by rw[q2];simp[nfL],by simpa[nfL]using q3,by simp[q4]⟩
 | .c t n::rs,S,acc,h1,hk,hc=>by
  simp only[resL,resR]at hk
  split at hk
  ·rename_i o off hg
   split at hk
   ·rename_i ss hss
    obtain⟨id,hid,e1⟩:=h1.tm t _ hg
    obtain⟨id',cs,q1,q2,q3⟩:=h1.cob o ss hss
    rw[hid]at q1;cases q1
    obtain⟨v,y,S1,f1,f2,f3,_,f5⟩:=Zvf h1 q3 hk
    obtain⟨S2,h2,h3,_,h4⟩:=f3.mat f5 f2
    obtain⟨vs,q5,q6,q7,q8⟩:=Zo9 h h3 h2 (Zbh hc (by simp only[Zac,h4,Xcc]))
    exact⟨v::vs,by simp only[rvs,rv,e1,q2,Xak,f1,Xas,q5],by rw[q6];simp[nfL],by simpa[nfL]using q7,by simp[q8]⟩
   ·cases hk
  ·cases hk
def endY (res:List RS)(own:Bool)(r:V)(e:Ex)(s:St):Prop:=endQ res own r e s/\r.clean=true
theorem Z2n (h:Sat κ S ι s){own:Bool}{res:List RS}{e:Ex}(hk:resK (BV Γ f) own res e S=some r):endY res own r e s:=by
 have main:resL (BV Γ f) S res []=some r->(own=true-> ∃t,res=[.t t]/\Own (s.tm t) (s.own (.slot t)))->Zyu res own r s/\r.clean=true:=by
  intro hk ho
  obtain⟨vs,h1,h2,h3,h4⟩:=Zo9 h h hk rfl
  simp only[Xba]at h2 h3
  by_cases h6:∃t n,res=[.c t n]
  ·obtain⟨t,n,rfl⟩:=h6
   have hown:own=false:=by
    cases own with
    |false=>rfl
    |true=>obtain⟨t,e,_⟩:=ho rfl;cases e
   subst hown
   simp only[rvs]at h1
   cases hv:rv s (.c t n)with
   |none=>rw[hv]at h1;cases h1
   |some p=>
    rw[hv]at h1
    simp only[Xak,Xas,Xac]at h1
    subst h1
    exact⟨⟨p,hv,h2.symm,fun h=>nomatch h⟩,by have e:r=p.1.nf:=h2;rw[e];simpa[nfL,Zac]using h3⟩
  by_cases h5:∃t,res=[.t t]
  ·obtain⟨t,rfl⟩:=h5
   simp only[rvs,rv,Xak,Xas,Xac]at h1
   subst h1
   have hr:r=(s.tm t).nf:=h2
   refine⟨⟨(s.tm t,s.own (.slot t)),rfl,hr.symm,fun h=> ?_⟩, ?_⟩
   ·obtain⟨t',e,h6⟩:=ho h
    cases e;exact h6
   ·rw[hr];simpa[nfL,Zac]using h3
  ·have hown:own=false:=by
    cases own with
    |false=>rfl
    |true=>obtain⟨t,e,_⟩:=ho rfl;exact absurd ⟨t,e⟩ h5
   have hl:vs.length≠1:=by
    intro hl
    rw[h4]at hl
    match res,hl with
    | [.t t],_=>exact h5 ⟨t,rfl⟩
    | [.c t n],_=>exact h6 ⟨t,n,rfl⟩
   have hr:r= .tup (nfL vs):=by
    rw[h2]
    match vs,hl with
    | [],_=>rfl
    |x::y::l,_=>rfl
   have hres:Zdo res s=some (.tup vs,false):=by
    unfold Zdo
    split
    ·exact absurd h4 (by simp;omega)
    ·rw[h1];rfl
   subst hown
   exact⟨⟨_,hres,by rw[hr];rfl,fun h=>nomatch h⟩,by rw[hr];exact h3⟩
 have main2:∀e',resK (BV Γ f) own res e' S=some r->(∀i,e'≠ .exit i)->Zyu res own r s/\r.clean=true:=by
  intro e' hk' hne
  unfold resK at hk'
  split at hk'
  ·exact absurd rfl (hne _)
  ·split at hk'
   ·exact main hk' fun h=>nomatch h
   ·split at hk'
    ·rename_i t
     split at hk'
     ·rename_i a hg
      split at hk'
      ·rename_i ho
       exact main hk' fun _=>⟨t,rfl,AtS.owned (h.tm t _ hg) ho⟩
      ·cases hk'
     ·cases hk'
    ·cases hk'
 cases e with
 |exit i=>cases hk
 |normal=>exact main2 _ hk fun _ h=>nomatch h
 |ret=>exact main2 _ hk fun _ h=>nomatch h
theorem Zk8 :∀{n t:Nat} {y:Sy},lk (params n) t=some y->t<n/\y= .at (.n t false false)
 |0,_,_,h=>by cases h
 |n+1,t,y,h=>by
  have app:∀{l m:List (Nat×Sy)},lk (l++m) t=some y->lk l t=some y \/lk m t=some y:=by
   intro l
   induction l with
   |nil=>intro m h;exact .inr h
   |cons p l ih=>
    intro m h
    obtain⟨k,b⟩:=p
    rw[Xbq,Zcp]at h
    rw[Zcp]
    split at h
    ·rename_i e;rw[if_pos e];exact .inl h
    ·rename_i e;rw[if_neg e];exact ih h
  rcases app h with h|h
  ·obtain⟨h1,h2⟩:=Zk8 h;exact⟨by omega,h2⟩
  ·rw[Zcp]at h
   split at h
   ·rename_i e;cases h;subst e;exact⟨by omega,rfl⟩
   ·cases h
theorem Zyp {args:List V}{n:Nat}(hl:args.length=n)(hc:Zac (nfL args)=true):Sat ⟨[],⟨fun _=>none,0,fun _ _=>false⟩⟩ ((Z1g n).start (nfL args)) [] (St.init args) where
 tm t y hy:=by
  obtain⟨h1,rfl⟩:=Zk8 hy
  refine⟨?_,fun h=>(nomatch h),fun h=>(nomatch h)⟩
  show(nfL args)[t]? =_
  rw[Zfa,Z0l,Xad (by omega)]
  simp[List.getD,hl,h1]
 ob k ss hk:=by simp[PS.obj,PT.start,Z1g]at hk
 nd:=List.nodup_nil
 lt _ h:=by cases h
 len:=rfl
 lits _ _ h:=by cases h
 cln x hx:=Zal.1 hc x hx
 g:=rfl
 pre _ _ h:=by simp at h
 new _ _ h:=by simp at h
 nH:=Xbw _
 fr _ h:=absurd h (Nat.not_lt_zero _)
def rvps (s:St):List RS->Option (List (V×Bool))
 | []=>some []
 |r::rs=>(rv s r).bind fun p=>(rvps s rs).map (p:: ·)
theorem Zri {s:St}:∀{rs:List RS} {ps:List (V×Bool)},rvps s rs=some ps->rvs s rs=some (ps.map (·.1))
 | [],ps,h=>by cases h;rfl
 |r::rs,ps,h=>by
  simp only[rvps,Xab,Xaa]at h
  obtain⟨p,h1,ps',h2,rfl⟩:=h
  simp only[rvs,h1,Xak,Zri h2,Xas,Xaq]
theorem Zpz :∀{rs:List RS} {S:PS V} {kk:List At->PS V->Option V},Sat κ S ι s->resA (BV Γ f) S rs kk=some r-> ∃az S' ps,kk az S'=some r/\Sat κ S' ι s/\Ext S S'/\rvps s rs=some ps/\AtsO ι S'.vals az ps
 | [],S,kk,h,hk=>⟨[],S,[],hk,h, .refl S,rfl,rfl⟩
 | .t t::rs,S,kk,h,hk=>by
  simp only[resA]at hk
  obtain⟨a,S1,h1,h2,h3,h4⟩:=Zvl h (v:=s.tm t) (o:=s.own (.slot t)) (fun z hz=>h.tm t z hz) hk
  obtain⟨az,S2,ps,h5,h6,h7,h8,h9⟩:=Zpz h2 h1
  exact⟨_,S2,(s.tm t,s.own (.slot t))::ps,h5,h6,h3.trans h7,by simp only[rvps,rv,Xak,h8,Xas],_,_,rfl,h4.mono (.refl _) h7.pre,h9⟩
 | .c t n::rs,S,kk,h,hk=>by
  simp only[resA]at hk
  split at hk
  ·rename_i o off hg
   split at hk
   ·rename_i ss hss
    obtain⟨id,hid,e1⟩:=h.tm t _ hg
    obtain⟨id',cs,q1,q2,q3⟩:=h.cob o ss hss
    rw[hid]at q1;cases q1
    obtain⟨v,y,S1,f1,f2,f3,f4,f5⟩:=Zvf h q3 hk
    obtain⟨a,S2,h1,h2,h3,h4⟩:=Zvl f3 (v:=v) (o:=false) (fun z hz=>by cases hz;exact f5) f2
    obtain⟨az,S3,ps,h5,h6,h7,h8,h9⟩:=Zpz h2 h1
    exact⟨_,S3,(v,false)::ps,h5,h6,f4.trans (h3.trans h7),by simp only[rvps,rv,e1,q2,Xak,f1,Xas,h8],_,_,rfl,h4.mono (.refl _) h7.pre,h9⟩
   ·cases hk
  ·cases hk
theorem Ztf (h:Sat κ S ι s){az:List At}{ps:List (V×Bool)}(ha:AtsO ι S.vals az ps){rt:RT}{xs:List V}(hf:fitR (BV Γ f) S az rt=some xs){v:V}{o:Bool}
  (hvo:(∃p,ps=[p]/\v=p.1/\o=p.2) \/(ps.length≠1/\v= .tup (ps.map (·.1))/\ ∀p∈ps,p.2=false)):∃ι',RetS κ rt xs v o s.hs ι':=by
 unfold fitR at hf
 split at hf
 ·rename_i hb
  simp only[Xai]at hb
  have hg1:=Xa6 hb.1
  have hg2:=Xa6 hb.2
  split at hf
  ·rename_i ρ1 acc1 h1
   split at hf
   ·rename_i ρ xs2 h2
    split at hf
    ·rename_i hx
     cases hf
     have hr0:RI rt.ob.length (idR S.g):=⟨fun k o hm=>by obtain⟨rfl,hk⟩:=Zdi.1 hm;exact Zzs hk,fun k k' o h1 h2=>(Zdi.1 h1).1.trans (Zdi.1 h2).1.symm,fun k o hm=>by have:=(Zdi.1 hm).2;omega⟩
     obtain⟨r1,r2,⟨l1,e1⟩,r4,r5⟩:=Zu7 h h1 hr0 ha
     obtain⟨u1,u2,⟨l2,e2⟩,u4,u5,u6⟩:=Zi9 h h2 r1
     have hcov:Cov rt.ob.length ρ ι:=fun k hk=>by
      obtain⟨o,h3,h4⟩:=u5 k hk
      rw[Xan]at h3
      rw[<-h.len]at h4
      exact⟨o,_,h3,Xad h4⟩
     have hag:=Zhg (ι:=ι) u1
     have hid:∀k,k<S.g->(k,k)∈ρ:=fun k hk=>u2 _ (r2 _ (Zdi.2 ⟨rfl,hk⟩))
     have hres:=r5 _ xs (hag.sub u2) (by rw[e2];exact Pre.app _ _)
     refine⟨ιOf rt.ob.length ρ ι, ?_⟩
     exact{
      n:=Xah hx
      cl:=u4 (r4 rfl)
      pre:=fun k id hk=>by
       have hkg:k<S.g:=by rw[<-h.g];exact(Xae.1 hk).1
       exact hag _ _ _ (hid k hkg) (h.pre k id hk)
      len:=Zfq _ _ _
      nd:=Zwb u1 hcov h.nd
      lt:=fun id hid=>by
       obtain⟨k,hk⟩:=Xc0.1 hid
       obtain⟨o,_,h4⟩:=Zfc u1 hcov hk
       exact h.lt id (Xam h4)
      new:=fun k id hk hgk=>by
       obtain⟨o',h3,h4⟩:=Zfc u1 hcov hk
       rw[h.g]at hgk
       refine h.new o' id h4 ?_
       rcases Xa4 o' S.g with h5|h5
       ·have:=u1.inj _ _ _ (hid o' h5) h3;omega
       ·exact h5
      nH:=h.nH
      res:=by
       rcases hvo with⟨p,rfl,rfl,rfl⟩|⟨h3,rfl,h5⟩
       ·have hl:=hres.len
        match hrt:rt.res,hl with
        | [T],_=>
         rw[hrt]at hres
         obtain⟨p',ps',e,h6,_⟩:=hres
         cases e
         exact h6
       ·have hl:=hres.len
        have key:=hres.ats h5
        unfold ResS
        split
        ·rename_i T e;rw[e]at hl;exact absurd hl.symm h3
        ·exact⟨_,rfl,key⟩
      ob:=fun k ss hk=>by
       obtain⟨o',id,h3,h4,h6⟩:=u6 k ss hk
       rw[Xan]at h3
       exact⟨id,hag _ _ _ h3 h4,h6 _ xs hag (.refl _)⟩
      fr:=h.fr}
    ·cases hf
   ·cases hf
  ·cases hf
 ·cases hf
def endH (κ:Fc)(rts:List RT)(res:List RS)(r:V):Ex->St->Prop
 | .exit _,_=>False
 |_,s=> ∃v o,Zdo res s=some (v,o)/\RetR κ rts r v o s.hs
theorem Zvh {az:List At}:∀{l:List RT} {j:Nat},retT (BV Γ f) S az j l=some r-> ∃m rt xs,l[m]? =some rt/\fitR (BV Γ f) S az rt=some xs/\r=oneV (.int .i64 ((j+m:Nat):Int)::dumV xs)
 | [],j,h=>by cases h
 |rt::l,j,h=>by
  simp only[retT]at h
  split at h
  ·rename_i xs hf
   cases h
   exact⟨0,rt,xs,rfl,hf,by cases xs<;>rfl⟩
  ·obtain⟨m,rt',xs,h1,h2,h3⟩:=Zvh (j:=j+1) (by exact_mod_cast h)
   exact⟨m+1,rt',xs,by simpa using h1,h2,by rw[h3,show j+1+m=j+(m+1)by omega]⟩
theorem Z1j (h:Sat κ S ι s){rts:List RT}{res:List RS}{e:Ex}(hk:resH (BV Γ f) rts res e S=some r):endH κ rts res r e s:=by
 have main:(resA (BV Γ f) S res fun az S1=>retP (BV Γ f) S1 (oneA az) rts)=some r-> ∃v o,Zdo res s=some (v,o)/\RetR κ rts r v o s.hs:=by
  intro hk
  obtain⟨az,S1,ps,h1,h2,_,h3,h4⟩:=Zpz h hk
  have hl:rvps s res=some ps->res.length=ps.length:=by
   have:∀{rs:List RS} {ps:List (V×Bool)},rvps s rs=some ps->rs.length=ps.length:=by
    intro rs
    induction rs with
    |nil=>intro ps h;cases h;rfl
    |cons r rs ih=>
     intro ps h
     simp only[rvps,Xab,Xaa]at h
     obtain⟨p,_,ps',h2,rfl⟩:=h
     simp[ih h2]
   exact this
  have hl:=hl h3
  obtain⟨az',ps',v,o,e1,hat,hvo,hres⟩:∃az' ps' v o,oneA az=az'/\AtsO ι S1.vals az' ps'/\((∃p,ps'=[p]/\v=p.1/\o=p.2) \/(ps'.length≠1/\v= .tup (ps'.map (·.1))/\ ∀p∈ps',p.2=false))/\Zdo res s=some (v,o):=by
   by_cases hp1:ps.length=1
   ·match ps,hp1,hl with
    | [p],_,hl=>
     match res,hl,h3 with
     | [rr],_,h3=>
      simp only[rvps,Xab,Xaa]at h3
      obtain⟨p',h5,ps',h6,h7⟩:=h3
      cases h6;cases h7
      match az,h4.len,h4 with
      | [a],_,h4=>exact⟨_,_,p.1,p.2,rfl,h4, .inl ⟨p,rfl,rfl,rfl⟩,h5⟩
   ·refine⟨az.map At.noOwn,ps.map fun p=>(p.1,false), .tup (ps.map (·.1)),false, ?_,h4.noOwn, .inr ⟨by simpa using hp1,by simp[Function.comp_def],fun p hp=> ?_⟩, ?_⟩
    ·match az,h4.len with
     | [a],hl2=>exact absurd hl2.symm hp1
     | [],_=>rfl
     |_::_::_,_=>rfl
    ·obtain⟨q,_,rfl⟩:=Xa9.1 hp;rfl
    ·unfold Zdo
     split
     ·exact absurd hl (by simpa using Ne.symm hp1)
     ·rw[Zri h3];rfl
  rw[e1]at h1
  refine⟨v,o,hres, ?_⟩
  unfold retP at h1
  split at h1
  ·rename_i rt
   split at h1
   ·rename_i xs hf
    cases h1
    obtain⟨ι',hR⟩:=Ztf h2 hat hf hvo
    exact⟨0,_,xs,ι',rfl,rfl,hR⟩
   ·cases h1
  ·rename_i hno
   obtain⟨m,rt,xs,h5,h6,h7⟩:=Zvh (j:=0) h1
   obtain⟨ι',hR⟩:=Ztf h2 hat h6 hvo
   refine⟨m,rt,xs,ι',h5, ?_,hR⟩
   rw[h7,Xan]
   unfold Zth
   split
   ·rename_i hl1
    match rts,hl1,hno with
    | [rt],_,hno=>exact absurd rfl (hno rt)
   ·rfl
 cases e with
 |exit i=>cases hk
 |normal=>exact main hk
 |ret=>exact main hk
def endF (κ:Fc)(E:FE)(res:List RS)(r:V):Ex->St->Prop:=match E.ret with|none=>endY res E.own r|some rts=>endH κ rts res r
theorem Zpx (h:Sat κ S ι s){E:FE}{res:List RS}{e:Ex}(hk:resE (BV Γ f) E res e S=some r):endF κ E res r e s:=by
 unfold resE at hk
 unfold endF
 split at hk
 ·rename_i he;rw[he];exact Z2n h hk
 ·rename_i rts he;rw[he];exact Z1j h hk
def Zw7 (GA:Abs.Spec)(gl:Glob)(F:AFn)(E:FE)(l:Nat)(xs:List V)(r:V):Prop:=∀κ T ι s,lk E.lab l=some T->xs.length=T.n->Sat κ (T.start xs) ι s->labQ GA gl l F.body 2 (endF κ E F.res r) s
theorem Z52 (hΓ:GamOK GA gl Γ ow){F:AFn}{E:FE}(hf:E.k=f)(hJ:∀l xs,2<=l->Γ f l xs=some r->Zw7 GA gl F E l xs r){l:Nat}{xs:List V}(hk:peF (BV Γ f) ow F E l xs=some r):
  (l=0->E.k=E.f/\E.ret=none/\ ∀args,nfL args=xs->Zac xs=true->args.length<=F.n/\awp GA gl F.body (endY F.res E.own r) (St.init args))/\
  (l=1-> ∀rts,E.ret=some rts-> ∀args ι hs,args.length=E.ar->Sat ⟨ι,hs⟩ (E.ent.start xs) ι (St.initH args hs)->args.length<=F.n/\awp GA gl F.body (endH ⟨ι,hs⟩ rts F.res r) (St.initH args hs))/\
  (2<=l->Zw7 GA gl F E l xs r):=by
 have J:∀κ,JOK κ GA gl Γ f E.lab F.body 2 (endF κ E F.res r) r:=fun κ m T xs ι s h1 _ h2 h3 h4 h5 h6=>hJ m xs h1 h4 κ T ι s h3 h5 h6
 unfold peF at hk
 split at hk
 ·refine⟨fun _=> ?_,(fun h=>by cases h),fun h=>absurd h (by omega)⟩
  split at hk
  ·rename_i hb
   simp only[Xai]at hb
   obtain⟨⟨⟨b1,b2⟩,b3⟩,b4⟩:=hb
   have h1:=Xah b1
   have h2:=Xa6 b2
   have hret:E.ret=none:=by cases he:E.ret with
    |none=>rfl
    |some _=>rw[he]at b4;cases b4
   refine⟨Xah b3,hret,fun args ha hc=> ?_⟩
   subst ha
   rw[Zap]at h1
   refine⟨by omega, ?_⟩
   have:=Zh9 hΓ (J ⟨[],⟨fun _=>none,0,fun _ _=>false⟩⟩) (Zyp h1 hc) hk fun e S' ι' s' q1 q2=>Zpx q2 q1
   unfold endF at this
   rw[hret]at this
   exact this
  ·cases hk
 ·refine⟨(fun h=>by cases h),fun _ rts hret args ι hs hl hS=> ?_,fun h=>absurd h (by omega)⟩
  split at hk
  ·rename_i hb
   simp only[Xai]at hb
   obtain⟨⟨b1,b2⟩,b3⟩:=hb
   have h2:=Xa6 b2
   refine⟨by omega, ?_⟩
   have:=Zh9 hΓ (J ⟨ι,hs⟩) hS hk fun e S' ι' s' q1 q2=>Zpx q2 q1
   unfold endF at this
   rw[hret]at this
   exact this
  ·cases hk
 ·rename_i l
  refine⟨fun h=>(by cases h),fun h=>absurd h (by omega),fun _ κ T ι s hT hn hs=> ?_⟩
  rw[hT]at hk
  simp only[hn,Xeu]at hk
  exact Zgm hΓ (J κ) hs hk fun e S' ι' s' q1 q2=>Zpx q2 q1
end Go.Abs
namespace Go.Abs
structure RelB {X D1 D2:Type}(B1:Bld X D1)(B2:Bld X D2)(R:D1->D2->Prop):Prop where
 c:B1.c=B2.c
 fail:R B1.fail B2.fail
 prim:∀p xs i k1 k2,(∀x,R (k1 x) (k2 x))->R (B1.prim p xs i k1) (B2.prim p xs i k2)
 ite:∀x a1 a2 b1 b2,R a1 a2->R b1 b2->R (B1.ite x a1 b1) (B2.ite x a2 b2)
 call:∀f xs i k1 k2,(∀x,R (k1 x) (k2 x))->R (B1.call f xs i k1) (B2.call f xs i k2)
 callv:∀v xs i k1 k2,(∀x,R (k1 x) (k2 x))->R (B1.callv v xs i k1) (B2.callv v xs i k2)
 callh:∀f xs i k1 k2,(∀x,R (k1 x) (k2 x))->R (B1.callh f xs i k1) (B2.callh f xs i k2)
 jmp:∀l xs,R (B1.jmp l xs) (B2.jmp l xs)
 ret:∀xs,R (B1.ret xs) (B2.ret xs)
 amb:∀x a1 a2 b1 b2,R a1 a2->R b1 b2->R (B1.amb x a1 b1) (B2.amb x a2 b2)
variable {X D1 D2:Type}{B1:Bld X D1}{B2:Bld X D2}{R:D1->D2->Prop}{S:PS X}
theorem RelB.valA (h:RelB B1 B2 R)(S:PS X)(a:At):S.valA B1 a=S.valA B2 a:=by
 cases a<;>simp only[PS.valA,h.c]
theorem RelB.segVals (h:RelB B1 B2 R)(S:PS X):∀ss:List Seg,segVals B1 S ss=segVals B2 S ss
 | []=>rfl
 | .one a::r=>by simp only[Abs.segVals,h.valA,RelB.segVals h S r]
 | .many (some n) a::r=>by simp only[Abs.segVals,h.valA,RelB.segVals h S r]
 | .many none a::r=>rfl
theorem RelB.mat (h:RelB B1 B2 R){S:PS X}{y:Option Sy}{k1:X->PS X->D1}{k2:X->PS X->D2}(hk:∀x S,R (k1 x S) (k2 x S)):R (mat B1 S y k1) (mat B2 S y k2):=by
 unfold Abs.mat
 split
 ·rw[h.valA];split<;>first|exact hk _ _|exact h.fail
 ·split<;>first|exact hk _ _|exact h.fail
 ·rw[h.segVals];split
  ·exact h.prim _ _ _ _ _ fun x=>hk _ _
  ·exact h.fail
 ·exact h.fail
 ·exact h.fail
theorem RelB.matL (h:RelB B1 B2 R):∀{xs:List Opd} {S:PS X} {k1:List X->PS X->D1} {k2:List X->PS X->D2},(∀x S,R (k1 x S) (k2 x S))->R (matL B1 S xs k1) (matL B2 S xs k2)
 | [],_,_,_,hk=>hk _ _
 |o::xs,S,k1,k2,hk=>by
  simp only[Abs.matL]
  exact h.mat fun x S1=>RelB.matL h fun ys S2=>hk _ _
theorem RelB.doX (h:RelB B1 B2 R){S:PS X}{p:Prim}{xs:List X}{d:Option Nat}{own:Bool}{k1:PS X->D1}{k2:PS X->D2}(hk:∀S,R (k1 S) (k2 S)):R (doX B1 S p xs d own k1) (doX B2 S p xs d own k2):=
 h.prim _ _ _ _ _ fun _=>hk _
theorem RelB.doP (h:RelB B1 B2 R){S:PS X}{p:Prim}{xs:List Opd}{d:Option Nat}{own:Bool}{k1:PS X->D1}{k2:PS X->D2}(hk:∀S,R (k1 S) (k2 S)):R (doP B1 S p xs d own k1) (doP B2 S p xs d own k2):=
 h.matL fun _ _=>h.doX hk
theorem RelB.ldIn (h:RelB B1 B2 R){S:PS X}{a:At}{n:Option Nat}{r:Nat}{k1:Sy->PS X->D1}{k2:Sy->PS X->D2}(hk:∀y S,R (k1 y S) (k2 y S)):R (ldIn B1 S a n r k1) (ldIn B2 S a n r k2):=
 h.mat fun _ _=>h.prim _ _ _ _ _ fun _=>hk _ _
theorem RelB.ldSegs (h:RelB B1 B2 R){S:PS X}{ss:List Seg}{i m:Nat}{k1:Sy->PS X->D1}{k2:Sy->PS X->D2}{a1:D1}{a2:D2}(hk:∀y S,R (k1 y S) (k2 y S))(ha:R a1 a2):R (ldSegs B1 S ss i m k1 a1) (ldSegs B2 S ss i m k2 a2):=by
 unfold Abs.ldSegs
 split
 ·rw[h.segVals];split
  ·exact h.prim _ _ _ _ _ fun _=>hk _ _
  ·exact hk _ _
 ·exact ha
theorem RelB.ldY (h:RelB B1 B2 R){S:PS X}{ss:List Seg}{off:Nat}{n:Option Nat}{k1:Sy->PS X->D1}{k2:Sy->PS X->D2}(hk:∀y S,R (k1 y S) (k2 y S)):R (ldY B1 S ss off n k1) (ldY B2 S ss off n k2):=by
 unfold Abs.ldY
 repeat' first|exact hk _ _|exact h.fail|exact h.ldIn hk|exact h.ldSegs hk h.fail|exact h.ldSegs hk (h.ldIn hk)|split
theorem RelB.ldAt (h:RelB B1 B2 R){S:PS X}{ss:List Seg}{off:Nat}{n:Option Nat}{d:Option Nat}{k1:PS X->D1}{k2:PS X->D2}(hk:∀S,R (k1 S) (k2 S)):R (ldAt B1 S ss off n d k1) (ldAt B2 S ss off n d k2):=
 h.ldY fun _ _=>hk _
theorem RelB.asSegs (h:RelB B1 B2 R){S:PS X}{n:Nat}{y:Sy}{mny:Bool}{k1:List Seg->PS X->D1}{k2:List Seg->PS X->D2}(hk:∀q S,R (k1 q S) (k2 q S)):R (asSegs B1 S n y mny k1) (asSegs B2 S n y mny k2):=by
 unfold Abs.asSegs
 repeat' first|exact hk _ _|exact h.fail|exact h.mat fun _ _=>h.prim _ _ _ _ _ fun _=>hk _ _|split
theorem RelB.stAt (h:RelB B1 B2 R){S:PS X}{o:Nat}{ss:List Seg}{off n:Nat}{y:Sy}{d:Option Nat}{k1:PS X->D1}{k2:PS X->D2}(hk:∀S,R (k1 S) (k2 S)):R (stAt B1 S o ss off n y d k1) (stAt B2 S o ss off n y d k2):=by
 unfold Abs.stAt
 split
 ·split
  ·exact h.asSegs fun _ _=>hk _
  ·split
   ·exact h.mat fun _ _=>h.mat fun _ _=>h.prim _ _ _ _ _ fun _=>hk _
   ·exact h.fail
 ·exact h.fail
theorem RelB.bldP (h:RelB B1 B2 R){S:PS X}{z:List V}{ps:List (Nat×Nat×Opd)}{d:Option Nat}{k1:PS X->D1}{k2:PS X->D2}(hk:∀S,R (k1 S) (k2 S)):R (bldP B1 S z ps d k1) (bldP B2 S z ps d k2):=by
 unfold Abs.bldP
 split
 ·split
  ·unfold Abs.bldR
   repeat' first|exact hk _|exact h.fail|split
  refine h.matL fun _ _=>h.prim _ _ _ _ _ fun _=> ?_
  split
  ·exact hk _
  ·split
   ·split
    ·rw[h.segVals];split
     ·exact h.prim _ _ _ _ _ fun _=>hk _
     ·exact h.fail
    ·exact h.fail
   ·exact h.fail
 ·exact h.fail
theorem RelB.onO (h:RelB B1 B2 R){S:PS X}{x:Opd}{k1:Sy->D1}{k2:Sy->D2}(hk:∀y,R (k1 y) (k2 y)):R (onO B1 S x k1) (onO B2 S x k2):=by
 unfold Abs.onO
 split
 ·exact hk _
 ·exact h.fail
theorem RelB.mAt (h:RelB B1 B2 R)(S:PS X)(no:Nat)(T y:At)(ρ:List (Nat×Nat))(acc:List X):mAt B1 S no T y ρ acc=mAt B2 S no T y ρ acc:=by
 unfold Abs.mAt
 simp only[h.valA,h.c]
theorem RelB.mSegs (h:RelB B1 B2 R)(S:PS X)(no:Nat):∀(ss qs:List Seg) (ρ:List (Nat×Nat)) (acc:List X),mSegs B1 S no ss qs ρ acc=mSegs B2 S no ss qs ρ acc
 | [],[],_,_=>rfl
 | .one a::r, .one b::q,ρ,acc=>by simp only[Abs.mSegs,h.mAt,RelB.mSegs h S no r q]
 | .many (some n) a::r, .many (some m) b::q,ρ,acc=>by simp only[Abs.mSegs,h.mAt,RelB.mSegs h S no r q]
 | .many none a::r, .many none b::q,ρ,acc=>by simp only[Abs.mSegs,h.mAt,RelB.mSegs h S no r q]
 | [],_::_,_,_=>by simp[Abs.mSegs]
 |_::_,[],_,_=>by simp[Abs.mSegs]
 | .one _::_, .many _ _::_,_,_=>by simp[Abs.mSegs]
 | .many _ _::_, .one _::_,_,_=>by simp[Abs.mSegs]
 | .many none _::_, .many (some _) _::_,_,_=>by simp[Abs.mSegs]
 | .many (some _) _::_, .many none _::_,_,_=>by simp[Abs.mSegs]
theorem RelB.mObs (h:RelB B1 B2 R)(S:PS X)(no:Nat):∀(T:List (Option (List Seg))) (k:Nat) (ρ:List (Nat×Nat)) (acc:List X),mObs B1 S no T k ρ acc=mObs B2 S no T k ρ acc
 | [],_,_,_=>rfl
 |q::r,k,ρ,acc=>by simp only[Abs.mObs,h.mSegs,RelB.mObs h S no r]
theorem RelB.mAts (h:RelB B1 B2 R)(S:PS X)(no:Nat):∀(T az:List At) (ρ:List (Nat×Nat)) (acc:List X),mAts B1 S no T az ρ acc=mAts B2 S no T az ρ acc
 | [],[],_,_=>rfl
 |a::r,b::q,ρ,acc=>by simp only[Abs.mAts,h.mAt,RelB.mAts h S no r q]
 | [],_::_,_,_=>rfl
 |_::_,[],_,_=>rfl
theorem RelB.mArgs (h:RelB B1 B2 R)(S:PS X)(no:Nat)(az:List At):∀(tm:List (Nat×Sy)) (ρ:List (Nat×Nat)) (acc:List X),mArgs B1 S no az tm ρ acc=mArgs B2 S no az tm ρ acc
 | [],_,_=>rfl
 |(t, .at a)::r,ρ,acc=>by simp only[Abs.mArgs,h.mAt,RelB.mArgs h S no az r]
 |(_, .agg _ _)::_,_,_=>rfl
 |(_, .tup _)::_,_,_=>rfl
theorem RelB.fitE (h:RelB B1 B2 R)(S:PS X)(E:FE)(az:List At):fitE B1 S E az=fitE B2 S E az:=by
 unfold Abs.fitE
 simp only[h.mArgs,h.mObs]
theorem RelB.pickE (h:RelB B1 B2 R)(S:PS X)(az:List At):∀l:List FE,pickE B1 S az l=pickE B2 S az l
 | []=>rfl
 |E::l=>by simp only[Abs.pickE,h.fitE,RelB.pickE h S az l]
theorem RelB.unp (h:RelB B1 B2 R){v:X}:∀{n i nx:Nat} {k1:List X->D1} {k2:List X->D2},(∀l,R (k1 l) (k2 l))->R (unp B1 v n i nx k1) (unp B2 v n i nx k2)
 |0,_,_,_,_,hk=>hk _
 |n+1,i,nx,k1,k2,hk=>h.prim _ _ _ _ _ fun x=>RelB.unp h fun xs=>hk _
theorem RelB.unpR (h:RelB B1 B2 R){tag:Bool}{v:X}{n nx:Nat}{k1:List X->D1}{k2:List X->D2}(hk:∀l,R (k1 l) (k2 l)):R (unpR B1 tag v n nx k1) (unpR B2 tag v n nx k2):=by
 unfold Abs.unpR
 repeat' first|exact hk _|exact h.unp hk|split
theorem RelB.putRs (h:RelB B1 B2 R){S:PS X}{d:Option Nat}{k1:PS X->D1}{k2:PS X->D2}(hk:∀S,R (k1 S) (k2 S))(o:Option (List At)):R (putRs B1 S d k1 o) (putRs B2 S d k2 o):=by
 unfold Abs.putRs
 repeat' first|exact hk _|exact h.fail|split
theorem RelB.callRs (h:RelB B1 B2 R){S:PS X}{g:Nat}{ρ:List (Nat×Nat)}{d:Option Nat}{tag:Bool}{v:X}{rt:RT}{k1:PS X->D1}{k2:PS X->D2}(hk:∀S,R (k1 S) (k2 S)):R (callRs B1 S g ρ d tag v rt k1) (callRs B2 S g ρ d tag v rt k2):=by
 unfold Abs.callRs
 split
 ·exact h.unpR fun _=>h.putRs hk _
 ·exact h.fail
theorem RelB.swR (h:RelB B1 B2 R){t:X}{k1:PS X->RT->D1}{k2:PS X->RT->D2}(hk:∀S rt,R (k1 S rt) (k2 S rt)):∀{l:List RT} {S:PS X} {j:Int},R (swR B1 t k1 S j l) (swR B2 t k2 S j l)
 | [],_,_=>h.fail
 | [_],_,_=>hk _ _
 |x::y::l,S,j=>by
  simp only[Abs.swR]
  rw[h.c]
  exact h.prim _ _ _ _ _ fun b=>h.ite _ _ _ _ _ (hk _ _) (RelB.swR h hk (l:=y::l))
theorem RelB.callE (h:RelB B1 B2 R){S:PS X}{d:Option Nat}{k1:PS X->D1}{k2:PS X->D2}(hk:∀S,R (k1 S) (k2 S))(q:Option (FE×List (Nat×Nat)×List X)):R (callE B1 S d k1 q) (callE B2 S d k2 q):=by
 unfold Abs.callE
 split
 ·split
  ·exact h.callh _ _ _ _ _ fun _=>h.callRs hk
  ·exact h.callh _ _ _ _ _ fun _=>h.prim _ _ _ _ _ fun _=>h.swR fun _ _=>h.callRs hk
  ·exact h.fail
 ·exact h.fail
theorem RelB.atO (h:RelB B1 B2 R){S:PS X}{y:Option Sy}{k1:At->PS X->D1}{k2:At->PS X->D2}(hk:∀a S,R (k1 a S) (k2 a S)):R (atO B1 S y k1) (atO B2 S y k2):=by
 unfold Abs.atO
 split
 ·exact hk _ _
 ·exact hk _ _
 ·rw[h.segVals];split
  ·exact h.prim _ _ _ _ _ fun _=>hk _ _
  ·exact h.fail
 ·exact h.fail
theorem RelB.atsO (h:RelB B1 B2 R):∀{xs:List Opd} {S:PS X} {k1:List At->PS X->D1} {k2:List At->PS X->D2},(∀a S,R (k1 a S) (k2 a S))->R (atsO B1 S xs k1) (atsO B2 S xs k2)
 | [],_,_,_,hk=>hk _ _
 |x::xs,_,_,_,hk=>by
  simp only[Abs.atsO]
  exact h.atO fun _ _=>RelB.atsO h fun _ _=>hk _ _
theorem RelB.coal (h:RelB B1 B2 R){S:PS X}{o off n:Nat}{k1:PS X->D1}{k2:PS X->D2}(hk:∀S,R (k1 S) (k2 S)):R (coal B1 S o off n k1) (coal B2 S o off n k2):=by
 unfold Abs.coal
 repeat' first|exact hk _|exact h.fail|exact h.prim _ _ _ _ _ fun _=>hk _|(rw[h.segVals];split)|split
theorem RelB.splitO (h:RelB B1 B2 R){S:PS X}{o off:Nat}{k1:PS X->D1}{k2:PS X->D2}(hk:∀S,R (k1 S) (k2 S)):R (splitO B1 S o off k1) (splitO B2 S o off k2):=by
 unfold Abs.splitO
 repeat' first|exact hk _|exact h.fail|exact h.prim _ _ _ _ _ fun _=>h.prim _ _ _ _ _ fun _=>h.prim _ _ _ _ _ fun _=>hk _|(rw[h.valA];split)|split
theorem RelB.rowVal (h:RelB B1 B2 R)(S:PS X)(o:Nat):rowVal B1 S o=rowVal B2 S o:=by
 unfold Abs.rowVal
 simp only[h.valA]
theorem RelB.snapO (h:RelB B1 B2 R){S:PS X}{y:Option Sy}{k1:X->PS X->D1}{k2:X->PS X->D2}(hk:∀x S,R (k1 x S) (k2 x S)):R (snapO B1 S y k1) (snapO B2 S y k2):=by
 unfold Abs.snapO
 repeat' first
  |exact h.fail
  |exact h.mat fun _ _=>h.prim _ _ _ _ _ fun _=>hk _ _
  |exact h.mat fun _ _=>hk _ _
  |exact h.prim _ _ _ _ _ fun _=>hk _ _
  |(rw[h.c];exact h.prim _ _ _ _ _ fun _=>hk _ _)
  |(rw[h.rowVal];split)
  |split
theorem RelB.snapA (h:RelB B1 B2 R):∀{xs:List Opd} {fl:Bool} {S:PS X} {k1:List X->PS X->D1} {k2:List X->PS X->D2},(∀x S,R (k1 x S) (k2 x S))->R (snapA B1 fl S xs k1) (snapA B2 fl S xs k2)
 | [],_,_,_,_,hk=>hk _ _
 |o::xs,fl,S,_,_,hk=>by
  simp only[Abs.snapA]
  split
  ·exact h.fail
  ·exact h.snapO fun _ _=>RelB.snapA h fun _ _=>hk _ _
theorem RelB.mapV (h:RelB B1 B2 R)(S:PS X)(y:Option Sy):mapV B1 S y=mapV B2 S y:=by
 unfold Abs.mapV
 split<;>simp only[h.c]
theorem RelB.op1 (h:RelB B1 B2 R){ow:Cfg}{S:PS X}{d:Option Nat}{op:AOp}{k1:PS X->D1}{k2:PS X->D2}(hk:∀S,R (k1 S) (k2 S)):R (op1 B1 ow d op S k1) (op1 B2 ow d op S k2):=by
 cases op<;>simp only[Abs.op1]<;>repeat' first
  |exact hk _
  |exact h.fail
  |exact h.onO fun _=>hk _
  |exact h.doP hk
  |exact h.bldP hk
  |exact h.ldAt hk
  |exact h.stAt hk
  |exact h.mat fun _ _=>h.amb _ _ _ _ _ (hk _) (hk _)
  |exact h.snapO fun _ _=>h.prim _ _ _ _ _ fun _=>h.prim _ _ _ _ _ fun _=>hk _
  |exact h.mat fun _ _=>h.doX hk
  |exact h.doX hk
  |exact h.atsO fun _ _=>by rw[h.pickE];exact h.callE hk _
  |refine h.splitO fun _=> ?_
  |(rw[h.c];exact h.doX hk)
  |exact h.coal fun _=>h.matL fun _ _=>h.prim _ _ _ _ _ fun _=>hk _
  |exact h.mat fun _ _=>h.prim _ _ _ _ _ fun _=>hk _
  |exact h.mat fun _ _=>h.mat fun _ _=>h.prim _ _ _ _ _ fun _=>hk _
  |exact h.matL fun _ _=>h.prim _ _ _ _ _ fun _=>hk _
  |exact h.matL fun _ _=>h.call _ _ _ _ _ fun _=>hk _
  |exact h.matL fun _ _=>h.doX hk
  |exact h.call _ _ _ _ _ fun _=>hk _
  |exact h.callv _ _ _ _ _ fun _=>hk _
  |(rw[h.pickE];exact h.callE hk _)
  |exact h.snapA fun _ _=>h.call _ _ _ _ _ fun _=>h.prim _ _ _ _ _ fun _=>hk _
  |(rw[h.valA];split)
  |(rw[h.rowVal];split)
  |(rw[h.mapV];split)
  |(rw[h.c];exact hk _)
  |split
  |refine h.matL fun _ _=> ?_
  |refine h.atsO fun _ _=> ?_
  |refine h.mat fun _ _=> ?_
  |(rw[h.c];refine h.prim _ _ _ _ _ fun _=> ?_)
  |refine h.prim _ _ _ _ _ fun _=> ?_
theorem RelB.opG (h:RelB B1 B2 R){ow:Cfg}{S:PS X}{o:AOper}{k1:PS X->D1}{k2:PS X->D2}(hk:∀S,R (k1 S) (k2 S)):R (opG B1 ow o S k1) (opG B2 ow o S k2):=by
 unfold Abs.opG
 repeat' first
  |exact hk _
  |exact h.fail
  |exact h.op1 hk
  |exact h.ite _ _ _ _ _ (h.op1 hk) (hk _)
  |exact h.ite _ _ _ _ _ (hk _) (h.op1 hk)
  |split
theorem RelB.opsG (h:RelB B1 B2 R){ow:Cfg}:∀{os:List AOper} {S:PS X} {k1:PS X->D1} {k2:PS X->D2},(∀S,R (k1 S) (k2 S))->R (opsG B1 ow os S k1) (opsG B2 ow os S k2)
 | [],_,_,_,hk=>hk _
 |o::os,_,_,_,hk=>h.opG fun _=>RelB.opsG h hk
theorem RelB.mTm (h:RelB B1 B2 R)(S:PS X)(no:Nat):∀(tm:List (Nat×Sy)) (ρ:List (Nat×Nat)) (acc:List X),mTm B1 S no tm ρ acc=mTm B2 S no tm ρ acc
 | [],_,_=>rfl
 |(t, .at a)::r,ρ,acc=>by simp only[Abs.mTm,h.mAt,RelB.mTm h S no r]
 |(t, .agg ss none)::r,ρ,acc=>by simp only[Abs.mTm,h.mSegs,RelB.mTm h S no r]
 |(_, .agg _ (some _))::_,_,_=>rfl
 |(_, .tup _)::_,_,_=>rfl
theorem RelB.jump (h:RelB B1 B2 R){m:Nat}{T:PT}{S:PS X}:R (jump B1 m T S) (jump B2 m T S):=by
 unfold Abs.jump
 rw[h.mTm]
 split
 ·rw[h.mObs]
  split
  ·split
   ·exact h.jmp _ _
   ·exact h.fail
  ·exact h.fail
 ·exact h.fail
theorem RelB.pe (h:RelB B1 B2 R){ow:Cfg}{L:List (Nat×PT)}:∀{c:ACode} {n:Nat} {S:PS X} {k1:Ex->PS X->D1} {k2:Ex->PS X->D2},(∀e S,R (k1 e S) (k2 e S))->R (pe B1 ow L c n S k1) (pe B2 ow L c n S k2)
 | .skip,_,_,_,_,hk=>hk _ _
 | .region _ _,_,_,_,_,hk=>h.opsG fun _=>hk _ _
 | .seq a b,n,S,k1,k2,hk=>by
  simp only[Abs.pe]
  refine RelB.pe h fun e S'=> ?_
  cases e with
  |normal=>
   simp only
   split
   ·exact h.jump
   ·exact RelB.pe h hk
  |exit i=>exact hk _ _
  |ret=>exact hk _ _
 | .cond c a b,n,S,k1,k2,hk=>by
  simp only[Abs.pe]
  split
  ·exact RelB.pe h hk
  ·exact RelB.pe h hk
  ·split
   ·split
    ·exact h.ite _ _ _ _ _ (RelB.pe h hk) (RelB.pe h hk)
    ·exact h.fail
   ·exact h.fail
 | .block i b,n,S,k1,k2,hk=>by
  simp only[Abs.pe]
  exact RelB.pe h (c:=b) fun e S'=>hk (e.inBlock i) S'
 | .loop b,n,S,k1,k2,hk=>by
  simp only[Abs.pe]
  split
  ·exact h.jump
  ·exact h.fail
 | .exit i,_,_,_,_,hk=>hk _ _
 | .ret,_,_,_,_,hk=>hk _ _
 | .fail,_,_,_,_,_=>h.fail
theorem RelB.peL (h:RelB B1 B2 R){ow:Cfg}{L:List (Nat×PT)}{c:ACode}{n:Nat}{S:PS X}{k1:Ex->PS X->D1}{k2:Ex->PS X->D2}(hk:∀e S,R (k1 e S) (k2 e S)):R (peL B1 ow L c n S k1) (peL B2 ow L c n S k2):=by
 unfold Abs.peL
 split
 ·refine h.pe fun e S'=> ?_
  cases e with
  |normal=>
   simp only
   split
   ·exact h.jump
   ·exact h.fail
  |exit i=>exact hk _ _
  |ret=>exact hk _ _
 ·exact h.pe hk
theorem RelB.peAt (h:RelB B1 B2 R){ow:Cfg}{L:List (Nat×PT)}{m:Nat}:∀{c:ACode} {n:Nat} {S:PS X} {k1:Ex->PS X->D1} {k2:Ex->PS X->D2},(∀e S,R (k1 e S) (k2 e S))->R (peAt B1 ow L m c n S k1) (peAt B2 ow L m c n S k2)
 | .seq a b,n,S,k1,k2,hk=>by
  simp only[Abs.peAt]
  split
  ·refine RelB.peAt h fun e S'=> ?_
   cases e with
   |normal=>
    simp only
    split
    ·exact h.jump
    ·exact h.pe hk
   |exit i=>exact hk _ _
   |ret=>exact hk _ _
  ·split
   ·exact h.peL hk
   ·exact RelB.peAt h hk
 | .cond _ a b,n,S,k1,k2,hk=>by
  simp only[Abs.peAt]
  split
  ·exact RelB.peAt h hk
  ·exact RelB.peAt h hk
 | .block i b,n,S,k1,k2,hk=>by
  simp only[Abs.peAt]
  exact RelB.peAt h (c:=b) fun e S'=>hk (e.inBlock i) S'
 | .loop b,n,S,k1,k2,hk=>by
  simp only[Abs.peAt]
  split
  ·exact h.peL hk
  ·refine RelB.peAt h fun e S'=> ?_
   cases e with
   |normal=>
    simp only
    split
    ·exact h.jump
    ·exact h.fail
   |exit i=>exact hk _ _
   |ret=>exact hk _ _
 | .skip,_,_,_,_,_=>h.fail
 | .region _ _,_,_,_,_,_=>h.fail
 | .exit _,_,_,_,_,_=>h.fail
 | .ret,_,_,_,_,_=>h.fail
 | .fail,_,_,_,_,_=>h.fail
theorem RelB.resL (h:RelB B1 B2 R):∀{rs:List RS} {S:PS X} {acc:List X},R (resL B1 S rs acc) (resL B2 S rs acc)
 | [],_,_=>h.ret _
 | .t t::rs,S,acc=>by
  simp only[Abs.resL,resR]
  exact h.mat fun _ _=>RelB.resL h
 | .c t n::rs,S,acc=>by
  simp only[Abs.resL,resR]
  split
  ·split
   ·exact h.ldY fun _ _=>h.mat fun _ _=>RelB.resL h
   ·exact h.fail
  ·exact h.fail
theorem RelB.resK (h:RelB B1 B2 R){own:Bool}{res:List RS}(e:Ex)(S:PS X):R (resK B1 own res e S) (resK B2 own res e S):=by
 unfold Abs.resK
 repeat' first|exact h.fail|exact h.resL|split
theorem RelB.resA (h:RelB B1 B2 R):∀{rs:List RS} {S:PS X} {k1:List At->PS X->D1} {k2:List At->PS X->D2},(∀a S,R (k1 a S) (k2 a S))->R (resA B1 S rs k1) (resA B2 S rs k2)
 | [],_,_,_,hk=>hk _ _
 | .t t::rs,S,_,_,hk=>by
  simp only[Abs.resA]
  exact h.atO fun _ _=>RelB.resA h fun _ _=>hk _ _
 | .c t n::rs,S,_,_,hk=>by
  simp only[Abs.resA]
  split
  ·split
   ·exact h.ldY fun _ _=>h.atO fun _ _=>RelB.resA h fun _ _=>hk _ _
   ·exact h.fail
  ·exact h.fail
theorem RelB.fitR (h:RelB B1 B2 R)(S:PS X)(az:List At)(rt:RT):fitR B1 S az rt=fitR B2 S az rt:=by
 unfold Abs.fitR
 simp only[h.mAts,h.mObs]
theorem RelB.retT (h:RelB B1 B2 R){S:PS X}{az:List At}:∀{l:List RT} {j:Int},R (retT B1 S az j l) (retT B2 S az j l)
 | [],_=>h.fail
 |rt::l,j=>by
  have hd:∀xs,dum B1 xs=dum B2 xs:=fun xs=>by cases xs<;>simp only[dum,h.c]
  simp only[Abs.retT]
  rw[h.fitR]
  split
  ·rw[h.c,hd];exact h.ret _
  ·exact RelB.retT h
theorem RelB.retP (h:RelB B1 B2 R){S:PS X}{az:List At}{l:List RT}:R (retP B1 S az l) (retP B2 S az l):=by
 unfold Abs.retP
 split
 ·rw[h.fitR]
  split
  ·exact h.ret _
  ·exact h.fail
 ·exact h.retT
theorem RelB.resE (h:RelB B1 B2 R){E:FE}{res:List RS}(e:Ex)(S:PS X):R (resE B1 E res e S) (resE B2 E res e S):=by
 unfold Abs.resE
 split
 ·exact h.resK e S
 ·unfold Abs.resH
  split
  ·exact h.fail
  ·exact h.resA fun _ _=>h.retP
theorem RelB.peF (h:RelB B1 B2 R){ow:Cfg}{F:AFn}{E:FE}{l:Nat}{xs:List X}:R (peF B1 ow F E l xs) (peF B2 ow F E l xs):=by
 unfold Abs.peF
 repeat' first|exact h.fail|exact h.pe h.resE|exact h.peAt h.resE|split
noncomputable def step (P:Program)(tabs:List FE)(ext:Nat->List V->Option V)(ow:Cfg)(Γ:Gam):Gam:=fun f l xs=>
 match tabs.find? (fun E=>Nat.beq E.k f)with
 |some E=>match cFnR P (E.pl&&E.ret.isNone) E.ret.isSome E.f with
  |some F=>peF (BV Γ f) ow F E l xs
  |none=>none
 |none=>match l with
  |0=>ext f xs
  |_+1=>none
variable {P:Program}{tabs:List FE}{ext:Nat->List V->Option V}{ow:Cfg}
noncomputable def rounds (P:Program)(tabs:List FE)(ext:Nat->List V->Option V)(ow:Cfg):Nat->Gam
 |0=>fun _ _ _=>none
 |n+1=>step P tabs ext ow (rounds P tabs ext ow n)
open Classical in
noncomputable def val (P:Program)(tabs:List FE)(ext:Nat->List V->Option V)(ow:Cfg):Gam:=fun f l xs=>
 if h:∃n r,rounds P tabs ext ow n f l xs=some r then some h.choose_spec.choose else none
def Le (Γ Γ':Gam):Prop:=∀f l xs r,Γ f l xs=some r->Γ' f l xs=some r
theorem Zw5 {Γ Γ':Gam}(h:Le Γ Γ')(f:Nat):RelB (BV Γ f) (BV Γ' f) (fun a b=> ∀r,a=some r->b=some r) where
 c:=rfl
 fail _ h:=by cases h
 prim p xs i k1 k2 hk r hr:=by
  simp only[BV,Xab]at hr⊢
  obtain⟨x,h1,h2⟩:=hr
  exact⟨x,h1,hk x r h2⟩
 ite x a1 a2 b1 b2 h1 h2 r hr:=by
  simp only[BV]at hr⊢
  rcases Zhd hr with⟨rfl,h3⟩|⟨rfl,h3⟩
  ·exact h1 r h3
  ·exact h2 r h3
 call g xs i k1 k2 hk r hr:=by
  simp only[BV,Xab]at hr⊢
  obtain⟨x,h1,h2⟩:=hr
  exact⟨x,h _ _ _ _ h1,hk x r h2⟩
 callv v xs i k1 k2 hk r hr:=by
  simp only[BV,Xab]at hr⊢
  obtain⟨x,h1,h2⟩:=hr
  refine⟨x, ?_,hk x r h2⟩
  unfold Ze6 at h1⊢
  split at h1
  ·exact h _ _ _ _ h1
  ·cases h1
 callh g xs i k1 k2 hk r hr:=by
  simp only[BV,Xab]at hr⊢
  obtain⟨x,h1,h2⟩:=hr
  exact⟨x,h _ _ _ _ h1,hk x r h2⟩
 jmp l xs r hr:=h _ _ _ _ hr
 ret xs r hr:=hr
 amb x a1 a2 b1 b2 h1 h2 r hr:=by
  simp only[BV]at hr⊢
  rcases Zjp hr with⟨c,sz,rfl,h3,h4⟩|⟨c,sz,y,l,rfl,h3⟩
  ·rw[h1 r h3,h2 r h4];simp[vamb]
  ·exact h2 r h3
theorem Znd {Γ Γ':Gam}(h:Le Γ Γ'):Le (step P tabs ext ow Γ) (step P tabs ext ow Γ'):=fun f l xs r hr=>by
 unfold step at hr⊢
 split at hr
 ·split at hr
  ·exact(Zw5 h f).peF r hr
  ·cases hr
 ·split at hr
  ·exact hr
  ·cases hr
theorem Ziz :∀n,Le (rounds P tabs ext ow n) (rounds P tabs ext ow (n+1))
 |0=>fun _ _ _ _ h=>by cases h
 |n+1=>Znd (Ziz n)
theorem Zer {n m:Nat}(h:n<=m):Le (rounds P tabs ext ow n) (rounds P tabs ext ow m):=by
 induction h with
 |refl=>exact fun _ _ _ _ h=>h
 |step _ ih=>exact fun f l xs r hr=>Ziz _ f l xs r (ih f l xs r hr)
theorem Zeg {f l:Nat}{xs:List V}{r:V}:val P tabs ext ow f l xs=some r<-> ∃n,rounds P tabs ext ow n f l xs=some r:=by
 unfold val
 constructor
 ·intro h
  split at h
  ·rename_i hex
   cases h
   exact⟨hex.choose,hex.choose_spec.choose_spec⟩
  ·cases h
 ·rintro⟨n,hn⟩
  have hex:∃n r,rounds P tabs ext ow n f l xs=some r:=⟨n,r,hn⟩
  rw[dif_pos hex]
  have h1:=hex.choose_spec.choose_spec
  have h2:=Zer (Xef n hex.choose) _ _ _ _ hn
  have h3:=Zer (Xdy n hex.choose) _ _ _ _ h1
  rw[h2]at h3
  exact h3.symm
noncomputable def BN (G:Nat->Gam)(f:Nat):Bld V (Nat->Option V) where
 c v:=v
 fail _:=none
 prim p xs _ k n:=(evp p xs).bind fun x=>k x n
 ite x a b n:=vif x (a n) (b n)
 call g xs _ k n:=(G n g 0 xs).bind fun x=>k x n
 callv x xs _ k n:=(Ze6 (G n) x xs).bind fun x=>k x n
 callh g xs _ k n:=(G n g 1 xs).bind fun x=>k x n
 jmp l xs n:=G n f l xs
 ret xs _:=some (oneV xs)
 amb x a b n:=vamb x (a n) (b n)
theorem Z3v (G:Nat->Gam)(f n:Nat):RelB (BN G f) (BV (G n) f) (fun a b=>a n=b) where
 c:=rfl
 fail:=rfl
 prim p xs i k1 k2 hk:=by show(evp p xs).bind _=(evp p xs).bind _;congr 1;funext x;exact hk x
 ite x a1 a2 b1 b2 h1 h2:=by show vif x (a1 n) (b1 n)=vif x a2 b2;rw[h1,h2]
 call g xs i k1 k2 hk:=by show(G n g 0 xs).bind _=(G n g 0 xs).bind _;congr 1;funext x;exact hk x
 callv v xs i k1 k2 hk:=by show(Ze6 (G n) v xs).bind _=(Ze6 (G n) v xs).bind _;congr 1;funext x;exact hk x
 callh g xs i k1 k2 hk:=by show(G n g 1 xs).bind _=(G n g 1 xs).bind _;congr 1;funext x;exact hk x
 jmp l xs:=rfl
 ret xs:=rfl
 amb x a1 a2 b1 b2 h1 h2:=by show vamb x (a1 n) (b1 n)=vamb x a2 b2;rw[h1,h2]
theorem Z01 (f:Nat):RelB (BV (val P tabs ext ow) f) (BN (rounds P tabs ext ow) f) (fun a b=> ∀r,a=some r-> ∃N, ∀n,N<=n->b n=some r) where
 c:=rfl
 fail _ h:=by cases h
 prim p xs i k1 k2 hk r hr:=by
  simp only[BV,Xab]at hr
  obtain⟨x,h1,h2⟩:=hr
  obtain⟨N,hN⟩:=hk x r h2
  exact⟨N,fun n hn=>by simp only[BN,h1,Xak];exact hN n hn⟩
 ite x a1 a2 b1 b2 h1 h2 r hr:=by
  simp only[BV]at hr
  rcases Zhd hr with⟨rfl,h3⟩|⟨rfl,h3⟩
  ·exact h1 r h3
  ·exact h2 r h3
 call g xs i k1 k2 hk r hr:=by
  simp only[BV,Xab]at hr
  obtain⟨x,h1,h2⟩:=hr
  obtain⟨N,hN⟩:=hk x r h2
  obtain⟨M,hM⟩:=Zeg.1 h1
  exact⟨max N M,fun n hn=>by simp only[BN,Zer (show M<=n by omega) _ _ _ _ hM,Xak];exact hN n (by omega)⟩
 callv v xs i k1 k2 hk r hr:=by
  simp only[BV,Xab]at hr
  obtain⟨x,h1,h2⟩:=hr
  obtain⟨N,hN⟩:=hk x r h2
  unfold Ze6 at h1
  split at h1
  ·obtain⟨M,hM⟩:=Zeg.1 h1
   exact⟨max N M,fun n hn=>by simp only[BN,Ze6,Zer (show M<=n by omega) _ _ _ _ hM,Xak];exact hN n (by omega)⟩
  ·cases h1
 callh g xs i k1 k2 hk r hr:=by
  simp only[BV,Xab]at hr
  obtain⟨x,h1,h2⟩:=hr
  obtain⟨N,hN⟩:=hk x r h2
  obtain⟨M,hM⟩:=Zeg.1 h1
  exact⟨max N M,fun n hn=>by simp only[BN,Zer (show M<=n by omega) _ _ _ _ hM,Xak];exact hN n (by omega)⟩
 jmp l xs r hr:=by
  obtain⟨M,hM⟩:=Zeg.1 hr
  exact⟨M,fun n hn=>Zer hn _ _ _ _ hM⟩
 ret xs r hr:=⟨0,fun n _=>hr⟩
 amb x a1 a2 b1 b2 h1 h2 r hr:=by
  simp only[BV]at hr
  rcases Zjp hr with⟨c,sz,rfl,h3,h4⟩|⟨c,sz,y,l,rfl,h3⟩
  ·obtain⟨N,hN⟩:=h1 r h3
   obtain⟨M,hM⟩:=h2 r h4
   exact⟨max N M,fun n hn=>by show vamb (.sl c sz []) (a2 n) (b2 n)=some r;rw[hN n (by omega),hM n (by omega)];simp[vamb]⟩
  ·obtain⟨M,hM⟩:=h2 r h3
   exact⟨M,fun n hn=>by show vamb (.sl c sz (y::l)) (a2 n) (b2 n)=some r;rw[hM n hn];rfl⟩
theorem Zxw :val P tabs ext ow=step P tabs ext ow (val P tabs ext ow):=by
 funext f l xs
 apply Option.ext
 intro r
 constructor
 ·intro h
  obtain⟨n,hn⟩:=Zeg.1 h
  cases n with
  |zero=>cases hn
  |succ n=>exact Znd (fun f l xs r h=>Zeg.2 ⟨n,h⟩) f l xs r hn
 ·intro h
  unfold step at h
  split at h
  ·rename_i E hE
   split at h
   ·rename_i F hF
    obtain⟨N,hN⟩:=(Z01 f).peF r h
    refine Zeg.2 ⟨N+1, ?_⟩
    show step P tabs ext ow (rounds P tabs ext ow N) f l xs=some r
    unfold step
    rw[hE];simp only[hF]
    rw[<-(Z3v (rounds P tabs ext ow) f N).peF];exact hN N (Xag _)
   ·cases h
  ·rename_i hE
   split at h
   ·refine Zeg.2 ⟨1, ?_⟩
    show step P tabs ext ow _ f 0 xs=some r
    unfold step
    rw[hE];exact h
   ·cases h
end Go.Abs
namespace Go.Abs
def Good (cx:Cx)(ow:Cfg)(f:Nat)(xs:List V)(r:V):Prop:=Zac xs=true-> ∀args,nfL args=xs->r.clean=true/\ ∃v o,PC cx f args (v,o)/\v.nf=r/\(ow.ow f=true->Own v o)
def Zwy (cx:Cx)(ext:Nat->List V->Option V)(ow:Cfg):Prop:=∀f xs r,ext f xs=some r->Good cx ow f xs r
open Classical in
noncomputable def Zp3 (cx:Cx)(Γ:Gam)(ow:Cfg):Nat->List V->Option (V×Bool):=fun f args=>
 if h:∃p:V×Bool,Zac args=true/\PC cx f args p/\Γ f 0 (nfL args)=some p.1.nf/\(ow.ow f=true->Own p.1 p.2)then some h.choose else none
theorem Zpr (cx:Cx)(Γ:Gam)(ow:Cfg):∀f args r,Zp3 cx Γ ow f args=some r->PC cx f args r:=by
 intro f args p hp
 unfold Zp3 at hp
 split at hp
 ·rename_i hex
  cases hp
  exact hex.choose_spec.2.1
 ·cases hp
variable {cx:Cx}{tabs:List FE}{ext:Nat->List V->Option V}{ow:Cfg}
noncomputable def Ztb (cx:Cx)(tabs:List FE)(ext:Nat->List V->Option V)(ow:Cfg):Abs.Spec:=hL cx.P cx.gl (Zp3 cx (val cx.P tabs ext ow) ow)
structure TabOK (cx:Cx)(tabs:List FE)(ow:Cfg):Prop where
 own:∀E∈tabs,E.ret=none->ow.ow E.k=E.own
 he:∀f, ∀E∈ow.he f,tabs.find? (fun E'=>Nat.beq E'.k E.k)=some E/\E.f=f
 gl:∀g cs,ow.gl g=some cs->cx.gl g=some cs/\nfL cs=cs/\Zac cs=true
theorem Z5u {tabs:List FE}{k:Nat}{E:FE}(h:tabs.find? (fun E=>Nat.beq E.k k)=some E):E.k=k/\E∈tabs:=
 ⟨Xah (by simpa using Xe4 h),Xdq h⟩
def Z7t (cx:Cx)(tabs:List FE)(ext:Nat->List V->Option V)(ow:Cfg)(E:FE)(xs:List V)(r:V):Prop:=
 ∀rts,E.ret=some rts-> ∀args ι hs,args.length=E.ar->Sat ⟨ι,hs⟩ (E.ent.start xs) ι (St.initH args hs)-> ∃v o hs',(Ztb cx tabs ext ow).h E.f args hs=some (v,o,hs')/\RetR ⟨ι,hs⟩ rts r v o hs'
theorem Znj (hgl:GlOK cx)(hm:cx.P.follows .mixedOrders=true)(hext:Zwy cx ext ow)(hT:TabOK cx tabs ow):∀(n k l:Nat) (xs:List V) (r:V),rounds cx.P tabs ext ow n k l xs=some r->
  (l=0->Good cx ow k xs r)/\(l=1-> ∀E,tabs.find? (fun E=>Nat.beq E.k k)=some E->Z7t cx tabs ext ow E xs r)/\
  (2<=l-> ∀E F,tabs.find? (fun E=>Nat.beq E.k k)=some E->cFnR cx.P (E.pl&&E.ret.isNone) E.ret.isSome E.f=some F->Zw7 (Ztb cx tabs ext ow) cx.gl F E l xs r)
 |0,_,_,_,_,h=>by cases h
 |n+1,k,l,xs,r,h=>by
  have ih:=Znj hgl hm hext hT n
  have hle:Le (rounds cx.P tabs ext ow n) (val cx.P tabs ext ow):=fun f l xs r h=>Zeg.2 ⟨n,h⟩
  have hsound:Sound cx (Ztb cx tabs ext ow):=Zxy hgl hm (Zpr cx _ ow)
  have hΓ:GamOK (Ztb cx tabs ext ow) cx.gl (rounds cx.P tabs ext ow n) ow:=by
   refine⟨fun f args r hc hr=> ?_,fun f args r hr=> ?_,fun f E hE rts hret xs r hr args ι hs hl _ hS=> ?_,hT.gl⟩
   ·obtain⟨h1,v,o,h3,h4,h5⟩:=(ih f 0 _ r hr).1 rfl hc args rfl
    have hv:=hle f 0 _ r hr
    have hex:∃p:V×Bool,Zac args=true/\PC cx f args p/\val cx.P tabs ext ow f 0 (nfL args)=some p.1.nf/\(ow.ow f=true->Own p.1 p.2):=⟨(v,o),Zcg hc,h3,by rw[hv,h4],h5⟩
    have h6:=hex.choose_spec
    refine⟨hex.choose.1,hex.choose.2,by show Zp3 cx _ ow f args=_;unfold Zp3;rw[dif_pos hex], ?_,h1,h6.2.2.2⟩
    exact(Option.some.inj (hv.symm.trans h6.2.2.1)).symm
   ·have hr':Zp3 cx (val cx.P tabs ext ow) ow f args=some r:=hr
    unfold Zp3 at hr'
    split at hr'
    ·rename_i hex;exact hex.choose_spec.1
    ·cases hr'
   ·obtain⟨h1,h2⟩:=hT.he f E hE
    rw[<-h2]
    exact(ih E.k 1 xs r hr).2.1 rfl E h1 rts hret args ι hs hl hS
  have h':step cx.P tabs ext ow (rounds cx.P tabs ext ow n) k l xs=some r:=h
  unfold step at h'
  split at h'
  ·rename_i E hE
   obtain⟨hEk,hEm⟩:=Z5u hE
   split at h'
   ·rename_i F hF
    have hJ:∀l xs,2<=l->rounds cx.P tabs ext ow n k l xs=some r->Zw7 (Ztb cx tabs ext ow) cx.gl F E l xs r:=fun l xs hl hr=>(ih k l xs r hr).2.2 hl E F hE hF
    obtain⟨q1,q2,q3⟩:=Z52 (gl:=cx.gl) hΓ hEk hJ h'
    refine⟨fun hl hc=> ?_,fun hl E' hE' rts hret args ι hs hlen hS=> ?_,fun hl E' F' hE' hF'=> ?_⟩
    ·obtain⟨e1,e2,e3⟩:=q1 hl
     intro args ha
     obtain⟨h1,h2⟩:=e3 args ha hc
     obtain⟨e,t,h3,h4⟩:=Zhu h2
     obtain⟨h5,h6⟩:=h3
     have he:Zyu F.res E.own r t:=by cases e<;>first|exact h5|exact h5.elim
     obtain⟨p,hp,hp1,hp2⟩:=he
     have hca:Zac args=true:=Zcg (by rw[ha];exact hc)
     have hk:k=E.f:=hEk.symm.trans e1
     subst hk
     refine⟨h6,p.1,p.2,Zvr hgl hm hsound (show cFnR cx.P (E.pl&&true) false E.f=some F by have:=hF;rw[e2]at this;exact this) h1 hca (Zmc (by rw[hp1];exact h6)) (h4 _ ?_),hp1,fun ho=>hp2 (by rw[<-hT.own E hEm e2,hEk];exact ho)⟩
     cases e with
     |normal=>exact⟨p,hp,rfl,fun h=>h⟩
     |ret=>exact⟨p,hp,rfl,fun h=>h⟩
     |exit i=>exact h5.elim
    ·rw[hE]at hE';cases hE'
     obtain⟨h1,h2⟩:=q2 hl rts hret args ι hs hlen hS
     obtain⟨e,t,h3,h4⟩:=Zhu h2
     have h5:∃v o,Zdo F.res t=some (v,o)/\RetR ⟨ι,hs⟩ rts r v o t.hs:=by cases e<;>first|exact h3|exact h3.elim
     obtain⟨v,o,h6,h7⟩:=h5
     refine⟨v,o,t.hs,Z9b ⟨F,by have:=hF;rw[hret,show(E.pl&&(some rts).isNone)=false from Xeq _]at this;exact this,h1,h4 _ ?_⟩,h7⟩
     cases e with
     |normal=>exact⟨h6,rfl⟩
     |ret=>exact⟨h6,rfl⟩
     |exit i=>exact h3.elim
    ·rw[hE]at hE';cases hE'
     rw[hF]at hF';cases hF'
     exact q3 hl
   ·cases h'
  ·rename_i hE
   split at h'
   ·exact⟨fun _=>hext k xs r h',fun hl=>(by cases hl),fun hl=>absurd hl (by omega)⟩
   ·cases h'
theorem Zye (hgl:GlOK cx)(hm:cx.P.follows .mixedOrders=true)(hext:Zwy cx ext ow)(hT:TabOK cx tabs ow){f:Nat}{xs:List V}{r:V}(h:val cx.P tabs ext ow f 0 xs=some r):Good cx ow f xs r:=by
 obtain⟨n,hn⟩:=Zeg.1 h
 exact(Znj hgl hm hext hT n f 0 xs r hn).1 rfl
theorem Zab {P:Program}{f l:Nat}{xs:List V}{r:Option V}(h:step P tabs ext ow (val P tabs ext ow) f l xs=r):val P tabs ext ow f l xs=r:=by rw[<-h, <-Zxw]
def Zm7 :List FE->Bool
 | []=>true
 |E::r=> !(r.any fun E'=>Nat.beq E'.k E.k)&&Zm7 r
def Z6q (tabs:List FE)(eo:Nat->Bool)(gl:Nat->Option (List V)):Cfg where
 ow f:=match tabs.find? (fun E=>Nat.beq E.k f)with|some E=>E.own|none=>eo f
 he f:=tabs.filter fun E=>Nat.beq E.f f&&E.ret.isSome
 gl:=gl
theorem Zlx :∀{tabs:List FE},Zm7 tabs=true-> ∀E∈tabs,tabs.find? (fun E'=>Nat.beq E'.k E.k)=some E
 | [],_,E,h=>by cases h
 |A::r,hk,E,h=>by
  simp only[Zm7,Xai,Xbh]at hk
  rw[List.find?_cons]
  rcases Xa0.1 h with rfl|h
  ·rw[Xeu]
  ·cases hb:Nat.beq A.k E.k with
   |true=>
    have:=Xcz.1 hk.1 E h
    rw[Xah hb,Xeu]at this
    exact absurd rfl this
   |false=>exact Zlx hk.2 E h
theorem Zxc {eo:Nat->Bool}{gl:Nat->Option (List V)}(hk:Zm7 tabs=true)(hg:∀g cs,gl g=some cs->cx.gl g=some cs/\nfL cs=cs/\Zac cs=true):TabOK cx tabs (Z6q tabs eo gl) where
 own E hE _:=by show(match tabs.find? _ with|some E=>E.own|none=>eo _)=_;rw[Zlx hk E hE]
 he f E hE:=by
  obtain⟨h1,h2⟩:=Xdt.1 hE
  simp only[Xai]at h2
  exact⟨Zlx hk E h1,Xah h2.1⟩
 gl:=hg
abbrev pr (p:Prim)(xs:List V)(k:V->Option V):Option V:=(evp p xs).bind k
abbrev ca (Γ:Gam)(f:Nat)(xs:List V)(k:V->Option V):Option V:=(Γ f 0 xs).bind k
abbrev cv (Γ:Gam)(v:V)(xs:List V)(k:V->Option V):Option V:=(Ze6 Γ v xs).bind k
abbrev ch (Γ:Gam)(f:Nat)(xs:List V)(k:V->Option V):Option V:=(Γ f 1 xs).bind k
end Go.Abs
namespace Go.Abs
open Go.RowKit
open Classical in
noncomputable def Zsh (cs:List FC):Nat->List V->Option V:=fun f xs=>
 match cs.find? (fun c=>c.f==f&&c.mt xs)with
 |some c=>if h:∃y,c.rel xs y then some h.choose else none
 |none=>none
theorem Zx9 {cx:Cx}{cs:List FC}{ow:Cfg}(h:∀c∈cs,c.Holds cx)(ho:∀c∈cs,ow.ow c.f=true->c.own=true):Zwy cx (Zsh cs) ow:=by
 intro f xs r hr
 unfold Zsh at hr
 split at hr
 ·rename_i c hc
  have hm:=Xdq hc
  have h2:=Xe4 hc
  simp only[Xai,beq_iff_eq]at h2
  obtain⟨rfl,_⟩:=h2
  split at hr
  ·rename_i hex
   cases hr
   have h3:=hex.choose_spec
   intro _ args ha
   subst ha
   obtain⟨v,o,q1,q2,q3⟩:=h c hm args _ h3
   exact⟨(c.clean _ _ h3).2,v,o,q1,q2,fun hw=>q3 (ho c hm hw)⟩
  ·cases hr
 ·cases hr
theorem Zmg {cs:List FC}{c:FC}{xs:List V}{y:V}(hf:cs.find? (fun d=>d.f==c.f&&d.mt xs)=some c)(hr:c.rel xs y):Zsh cs c.f xs=some y:=by
 unfold Zsh
 rw[hf]
 have hex:∃y,c.rel xs y:=⟨y,hr⟩
 simp only[dif_pos hex]
 exact congrArg some (c.fn _ _ _ hex.choose_spec hr)
variable {P:Program}{tabs:List FE}{ow:Cfg}{ext:Nat->List V->Option V}
theorem Zp4 {f:Nat}{xs:List V}{r:V}(hn:tabs.find? (fun E=>Nat.beq E.k f)=none)(h:ext f xs=some r):val P tabs ext ow f 0 xs=some r:=by
 apply Zab
 unfold step
 rw[hn];exact h
theorem Zxz {cx:Cx}(hgl:GlOK cx)(hm:cx.P.follows .mixedOrders=true)(hext:Zwy cx ext ow)(hT:TabOK cx tabs ow){f:Nat}{args:List V}{ys:List V}{xs:Array Value}(ha:nfL args=ys)(hc:Zac ys=true)
  (h:val cx.P tabs ext ow f 0 ys=some (.bool true)) (hx:RepL cx.w0 (G0 cx.w0) (fun _=>none) args xs):Calls cx.P f xs cx.w0 fun e W'=>e= .returned (.bool true)/\Below cx.w0.heap.size cx.w0 W':=by
 obtain⟨_,v,o,h1,h2,_⟩:=Zye hgl hm hext hT h hc args ha
 rw[Zcd h2]at h1
 exact Zuf h1 hx
section
variable {k:IntKind}{a b:Int}{s t:Bytes}
theorem Z99 :evp (.bin .lss .no) [.int k a, .int k b]=some (.bool (decide (a<b))):=by simp[evp,abin,aint]
theorem Z8v :evp (.bin .leq .no) [.int k a, .int k b]=some (.bool (decide (a<=b))):=by simp[evp,abin,aint]
theorem Z74 :evp (.bin .gtr .no) [.int k a, .int k b]=some (.bool (decide (b<a))):=by simp[evp,abin,aint]
theorem Z8c :evp (.bin .geq .no) [.int k a, .int k b]=some (.bool (decide (b<=a))):=by simp[evp,abin,aint]
theorem Z79 :evp (.bin .eql .no) [.int k a, .int k b]=some (.bool (decide (a=b))):=by simp[evp,abin,aint]
theorem Qaa :evp (.bin .neq .no) [.int k a, .int k b]=some (.bool (!decide (a=b))):=by simp[evp,abin,aint]
theorem Z9i :evp (.bin .add .no) [.int k a, .int k b]=some (.int k (k.wrap (a+b))):=by simp[evp,abin,aint]
theorem Z98 :evp (.bin .sub .no) [.int k a, .int k b]=some (.int k (k.wrap (a-b))):=by simp[evp,abin,aint]
theorem Z3p :evp (.bin .eql .no) [.str s, .str t]=some (.bool (decide (s=t))):=by simp[evp,abin,astr]
theorem Z3y :evp (.bin .neq .no) [.str s, .str t]=some (.bool (!decide (s=t))):=by simp[evp,abin,astr]
theorem Z4i :evp (.bin .lss .no) [.str s, .str t]=some (.bool (Op.bytesLess s t)):=by simp[evp,abin,astr]
theorem Ziq (h:s.length+t.length<=4611686018427387904):evp (.bin .add .no) [.str s, .str t]=some (.str (s++t)):=by simp[evp,abin,astr,h]
theorem Z35 {x y:Bool}:evp (.bin .eql .bool) [.bool x, .bool y]=some (.bool (x==y)):=by cases x<;>cases y<;>rfl
theorem Z6d {x y:Bool}:evp (.bin .neq .bool) [.bool x, .bool y]=some (.bool (!(x==y))):=by cases x<;>cases y<;>rfl
theorem Z9o {x:Bool}:evp (.un .not) [.bool x]=some (.bool !x):=rfl
theorem Z5a :evp (.len true) [.str s]=some (.int .i64 s.length):=rfl
theorem Zs1 {n:Bool}{sz:Nat}{xs:List V}:evp (.len false) [.sl n sz xs]=some (.int .i64 xs.length):=rfl
theorem Z7v {x y:Option V}:vif (.bool true) x y=x:=rfl
theorem Z78 {x y:Option V}:vif (.bool false) x y=y:=rfl
theorem Qab {p:Prop} [Decidable p]{x y:Option V}:vif (.bool (decide p)) x y=if p then x else y:=by by_cases h:p<;>simp[h,vif]
theorem Z8s {p:Prop} [Decidable p]{x y:Option V}:vif (.bool (!decide p)) x y=if p then y else x:=by by_cases h:p<;>simp[h,vif]
theorem Z9e {c:Bool}{x y:Option V}:vif (.bool c) x y=if c=true then x else y:=by cases c<;>rfl
theorem Z93 {i:Nat}{xs:List V}:evp (.ext i) [.tup xs]=xs[i]? :=rfl
theorem Zk1 {h:Nat}(hh:h<=s.length):evp (.sls false true) [.str s, .int .i64 h]=some (.str (s.take h)):=by
 simp only[evp,Zwh,vSls,vOpt]
 simp[cut3,hh]
theorem Zk5 {l:Nat}(hl:l<=s.length):evp (.sls true false) [.str s, .int .i64 l]=some (.str (s.drop l)):=by
 simp only[evp,Zwh,vSls,vOpt]
 simp[cut3,hl]
theorem Zvk {l h:Nat}(hl:l<=h)(hh:h<=s.length):evp (.sls true true) [.str s, .int .i64 l, .int .i64 h]=some (.str ((s.take h).drop l)):=by
 simp only[evp,Zwh,vSls,vOpt]
 simp[cut3,hl,hh]
theorem Zj3 {i:Nat}{c:UInt8}(h:s[i]? =some c):evp .idx [.str s, .int .i64 i]=some (byteV c):=by simp[evp,vIdx,h]
theorem Zgf {n:Bool}{sz i:Nat}{xs:List V}{x:V}(h:xs[i]? =some x):evp (.elem sz) [.sl n sz xs, .int .i64 i]=some x:=by simp[evp,Z0m,h]
theorem Zlm {n:Bool}{sz:Nat}{xs ys:List V}{m:Bool}(h:xs.length+ys.length<=Lim):evp (.app sz) [.sl n sz xs, .sl m sz ys]=some (.sl false sz (xs++ys)):=by simp[evp,Zyd,Zb2,h]
theorem Z5i {p:Prop} [Decidable p](h: ¬p):some (V.bool false)=some (V.bool (decide p)):=by simp[h]
end
theorem yy :
  (∀{p:Prim} {xs:List V} {k:V->Option V},pr p xs k=(evp p xs).bind k)/\(∀{Γ:Gam} {f:Nat} {xs:List V} {k:V->Option V},ca Γ f xs k=(Γ f 0 xs).bind k)/\(∀{Γ:Gam} {f:Nat} {xs:List V} {k:V->Option V},ch Γ f xs k=(Γ f 1 xs).bind k)/\
  (∀{v:V} {k:V->Option V},(some v).bind k=k v)/\
  (∀{k:IntKind} {a b:Int},evp (.bin .lss .no) [.int k a, .int k b]=some (.bool (decide (a<b))))/\(∀{k:IntKind} {a b:Int},evp (.bin .leq .no) [.int k a, .int k b]=some (.bool (decide (a<=b))))/\
  (∀{k:IntKind} {a b:Int},evp (.bin .gtr .no) [.int k a, .int k b]=some (.bool (decide (b<a))))/\(∀{k:IntKind} {a b:Int},evp (.bin .geq .no) [.int k a, .int k b]=some (.bool (decide (b<=a))))/\
  (∀{k:IntKind} {a b:Int},evp (.bin .eql .no) [.int k a, .int k b]=some (.bool (decide (a=b))))/\(∀{k:IntKind} {a b:Int},evp (.bin .neq .no) [.int k a, .int k b]=some (.bool (!decide (a=b))))/\
  (∀{k:IntKind} {a b:Int},evp (.bin .add .no) [.int k a, .int k b]=some (.int k (k.wrap (a+b))))/\(∀{k:IntKind} {a b:Int},evp (.bin .sub .no) [.int k a, .int k b]=some (.int k (k.wrap (a-b))))/\
  (∀{s t:Bytes},evp (.bin .eql .no) [.str s, .str t]=some (.bool (decide (s=t))))/\(∀{s t:Bytes},evp (.bin .neq .no) [.str s, .str t]=some (.bool (!decide (s=t))))/\(∀{s t:Bytes},evp (.bin .lss .no) [.str s, .str t]=some (.bool (Op.bytesLess s t)))/\
  (∀{x y:Bool},evp (.bin .eql .bool) [.bool x, .bool y]=some (.bool (x==y)))/\(∀{x y:Bool},evp (.bin .neq .bool) [.bool x, .bool y]=some (.bool (!(x==y))))/\(∀{x:Bool},evp (.un .not) [.bool x]=some (.bool !x))/\
  (∀{s:Bytes},evp (.len true) [.str s]=some (.int .i64 s.length))/\(∀{n:Bool} {sz:Nat} {xs:List V},evp (.len false) [.sl n sz xs]=some (.int .i64 xs.length))/\(∀{i:Nat} {xs:List V},evp (.ext i) [.tup xs]=xs[i]?)/\
  (∀{x y:Option V},vif (.bool true) x y=x)/\(∀{x y:Option V},vif (.bool false) x y=y)/\(∀{p:Prop} [Decidable p] {x y:Option V},vif (.bool (decide p)) x y=if p then x else y)/\(∀{p:Prop} [Decidable p] {x y:Option V},vif (.bool (!decide p)) x y=if p then y else x)/\
  (!true)=false/\(!false)=true/\(∀{α:Type} {f:α->V} {l:List α},(l.map f).length=l.length)/\(∀{x:V} {l:List V},(x::l)[0]? =some x)/\(∀{x:V} {l:List V} {i:Nat},(x::l)[i+1]? =l[i]?):=
 ⟨rfl,rfl,rfl,rfl,Z99,Z8v,Z74,Z8c,Z79,Qaa,Z9i,Z98,Z3p,Z3y,Z4i,Z35,Z6d,Z9o,Z5a,Zs1,Z93,Z7v,Z78,Qab,Z8s,rfl,rfl,Xcf ..,rfl,rfl⟩
end Go.Abs
