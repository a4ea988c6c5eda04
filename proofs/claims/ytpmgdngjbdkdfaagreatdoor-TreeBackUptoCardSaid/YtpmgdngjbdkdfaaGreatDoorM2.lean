/-
  Parts of the proof, one behind the other. Own work of this seat; some printed by its programs.
-/
import Derived.Test.YtpmgdngjbdkdfaaGreatDoorM1
namespace Go.Abs
structure Spec.Le (Γ Γ':Abs.Spec):Prop where
 p:Γ.p=Γ'.p
 h:∀f a hs r,Γ.h f a hs=some r->Γ'.h f a hs=some r
theorem Spec.Le.refl (Γ:Abs.Spec):Γ.Le Γ:=⟨rfl,fun _ _ _ _ h=>h⟩
variable {Γ Γ':Abs.Spec}{gl:Glob}
theorem Zuc (hp:Γ.p=Γ'.p)(H:Hp)(own:Pos->Bool)(tm:Nat->V)(op:AOp):Zbr Γ gl H own tm op=Zbr Γ' gl H own tm op:=by
 cases op<;>first|rfl|(simp only[Zbr,Zos,Zj4,hp];done)|(simp only[Zbr,Zos];split<;>simp only[hp])
theorem Znc (hle:Γ.Le Γ'){s s':St}{d:Option Nat}{f:Nat}{a:List V}(h:s.doCall Γ d f a=some s'):s.doCall Γ' d f a=some s':=by
 unfold St.doCall at h⊢
 simp only[Xaa]at h⊢
 obtain⟨r,h1,h2⟩:=h
 exact⟨r,hle.h _ _ _ _ h1,h2⟩
theorem Zrc (hle:Γ.Le Γ'){o:AOper}{s s':St}(h:exec1 Γ gl o s=some s'):exec1 Γ' gl o s=some s':=by
 unfold exec1 at h⊢
 split at h<;>first|exact h|exact Znc hle h|skip
 ·split at h
  ·rename_i ga e
   rw[<-hle.p]
   split at h
   ·rename_i r hr
    exact h
   ·rename_i hr
    exact Znc hle h
  ·cases h
 ·rw[<-Zuc hle.p];exact h
theorem Zlo (hle:Γ.Le Γ'):∀{os:List AOper} {s s':St},execs Γ gl os s=some s'->execs Γ' gl os s=some s'
 | [],s,s',h=>h
 |o::os,s,s',h=>by
  simp only[execs]at h⊢
  split at h
  ·rename_i s1 h1
   have:exec Γ' gl o s=some s1:=by
    unfold exec at h1⊢
    by_cases hw:s.wants o=true
    ·rw[if_pos hw]at h1⊢
     exact Zrc hle h1
    ·rw[if_neg hw]at h1⊢
     exact h1
   rw[this];exact Zlo hle h
  ·cases h
theorem awp_le (hle:Γ.Le Γ'):∀{c:ACode} {Q:Ex->St->Prop} {s:St},awp Γ gl c Q s->awp Γ' gl c Q s:=by
 intro c
 induction c with
 |skip=>intro Q s h;exact h
 |region ops d=>
  intro Q s h
  simp only[awp]at h⊢
  unfold Zjg at h
  split at h
  ·rename_i s' hs
   rw[Zlo hle hs];exact h
  ·exact h.elim
 |seq a b iha ihb=>intro Q s h;exact iha (Zf9 (Zcu (fun _ h=>ihb h) fun _ _ h=>h) h)
 |cond c a b iha ihb=>
  intro Q s h
  simp only[awp]at h⊢
  unfold Zng at h⊢
  split at h
  ·exact iha h
  ·exact ihb h
  ·exact h.elim
 |block id b ih=>intro Q s h;exact ih h
 |loop b ih=>
  intro Q s h
  obtain⟨k,h⟩:=h
  refine⟨k, ?_⟩
  induction k generalizing s with
  |zero=>exact h.elim
  |succ k ihk=>exact ih (Zf9 (Zcu (fun _ h=>ihk h) fun _ _ h=>h) h)
 |exit id=>intro Q s h;exact h
 |ret=>intro Q s h;exact h
 |fail=>intro Q s h;exact h.elim
theorem Zyt :∀{c:ACode} {Q R:Ex->St->Prop} {s:St},awp Γ gl c Q s->awp Γ gl c R s->awp Γ gl c (fun e t=>Q e t/\R e t) s:=by
 have tq:∀{K K':St->Prop} {Q R:Ex->St->Prop} (e:Ex) (t:St),(Ze0 K Q e t/\Ze0 K' R e t)->Ze0 (fun t=>K t/\K' t) (fun e t=>Q e t/\R e t) e t:=by
  intro K K' Q R e t h
  cases e<;>exact h
 intro c
 induction c with
 |skip=>intro Q R s h k;exact⟨h,k⟩
 |region ops d=>
  intro Q R s h k
  simp only[awp]at h k⊢
  unfold Zjg at h k⊢
  split at h
  ·rename_i s' hs
   simp only[hs]at k⊢
   exact⟨h,k⟩
  ·exact h.elim
 |seq a b iha ihb=>
  intro Q R s h k
  exact Zf9 (c:=a) (fun e t q=>Zcu (K:=fun t=>awp Γ gl b Q t/\awp Γ gl b R t) (Q:=fun e t=>Q e t/\R e t) (fun _ h=>ihb h.1 h.2) (fun _ _ h=>h) e t (tq e t q)) (iha h k)
 |cond c a b iha ihb=>
  intro Q R s h k
  simp only[awp]at h k⊢
  unfold Zng at h k⊢
  split at h
  ·rename_i e
   simp only[e]at k
   exact iha h k
  ·rename_i e
   simp only[e]at k
   exact ihb h k
  ·exact h.elim
 |block id b ih=>intro Q R s h k;exact ih h k
 |loop b ih=>
  intro Q R s h k
  obtain⟨n,h⟩:=h
  obtain⟨m,k⟩:=k
  refine⟨n, ?_⟩
  induction n generalizing s m with
  |zero=>exact h.elim
  |succ n ihn=>
   cases m with
   |zero=>exact k.elim
   |succ m=>exact Zf9 (c:=b) (fun e t q=>Zcu (K:=fun t=>Zj7 (awp Γ gl b) Q n t/\Zj7 (awp Γ gl b) R m t) (Q:=fun e t=>Q e t/\R e t) (fun _ h=>ihn h.1 m h.2) (fun _ _ h=>h) e t (tq e t q)) (ih h k)
 |exit id=>intro Q R s h k;exact⟨h,k⟩
 |ret=>intro Q R s h k;exact⟨h,k⟩
 |fail=>intro Q R s h k;exact h.elim
section
variable {G:Nat->Abs.Spec}{Γl:Abs.Spec}
structure Lm (G:Nat->Abs.Spec)(Γl:Abs.Spec):Prop where
 up:∀n,(G n).Le (G (n+1))
 to:∀n,(G n).Le Γl
 of:∀f a hs r,Γl.h f a hs=some r-> ∃n,(G n).h f a hs=some r
theorem Spec.Le.trans {a b c:Abs.Spec}(h:a.Le b)(k:b.Le c):a.Le c:=⟨h.p.trans k.p,fun f x hs r e=>k.h f x hs r (h.h f x hs r e)⟩
theorem Lm.le (h:Lm G Γl){n m:Nat}(hn:n<=m):(G n).Le (G m):=by
 induction hn with
 |refl=>exact .refl _
 |step _ ih=>exact ih.trans (h.up _)
theorem Lm.exec1 (h:Lm G Γl){o:AOper}{s s':St}(he:exec1 Γl gl o s=some s'):∃n,exec1 (G n) gl o s=some s':=by
 have call:∀{d:Option Nat} {f:Nat} {a:List V},s.doCall Γl d f a=some s'-> ∃n,s.doCall (G n) d f a=some s':=by
  intro d f a hc
  unfold St.doCall at hc
  simp only[Xaa]at hc
  obtain⟨r,h1,h2⟩:=hc
  obtain⟨n,hn⟩:=h.of _ _ _ _ h1
  exact⟨n,by unfold St.doCall;rw[hn, <-h2];rfl⟩
 unfold Abs.exec1 at he⊢
 split at he<;>first|exact⟨0,he⟩|exact call he|skip
 ·split at he
  ·rename_i ga e
   split at he
   ·rename_i r hr
    exact⟨0,by simp only[(h.to 0).p,hr];exact he⟩
   ·rename_i hr
    obtain⟨n,hn⟩:=call he
    exact⟨n,by simp only[(h.to n).p,hr];exact hn⟩
  ·cases he
 ·exact⟨0,by rw[Zuc (h.to 0).p];exact he⟩
theorem Lm.execs (h:Lm G Γl):∀{os:List AOper} {s s':St},execs Γl gl os s=some s'-> ∃n,execs (G n) gl os s=some s'
 | [],s,s',he=>⟨0,he⟩
 |o::os,s,s',he=>by
  simp only[Abs.execs]at he
  split at he
  ·rename_i s1 h1
   have h2:∃n,exec (G n) gl o s=some s1:=by
    unfold exec at h1⊢
    by_cases hw:s.wants o=true
    ·rw[if_pos hw]at h1
     obtain⟨n,hn⟩:=h.exec1 h1
     exact⟨n,by rw[if_pos hw];exact hn⟩
    ·rw[if_neg hw]at h1
     exact⟨0,by rw[if_neg hw];exact h1⟩
   obtain⟨n,hn⟩:=h2
   obtain⟨m,hm⟩:=Lm.execs h he
   refine⟨max n m, ?_⟩
   have hn':exec (G (max n m)) gl o s=some s1:=by
    unfold exec at hn⊢
    by_cases hw:s.wants o=true
    ·rw[if_pos hw]at hn⊢
     exact Zrc (h.le (Xef n m)) hn
    ·rw[if_neg hw]at hn⊢
     exact hn
   simp only[Abs.execs,hn']
   exact Zlo (h.le (Xdy n m)) hm
  ·cases he
theorem Lm.awp (h:Lm G Γl):∀{c:ACode} {Q:Ex->St->Prop} {s:St},Abs.awp Γl gl c Q s-> ∃n,Abs.awp (G n) gl c Q s:=by
 intro c
 induction c with
 |skip=>intro Q s hq;exact⟨0,hq⟩
 |region ops d=>
  intro Q s hq
  simp only[Abs.awp]at hq⊢
  unfold Zjg at hq
  split at hq
  ·rename_i s' hs
   obtain⟨n,hn⟩:=h.execs hs
   exact⟨n,by rw[hn];exact hq⟩
  ·exact hq.elim
 |seq a b iha ihb=>
  intro Q s hq
  obtain⟨n,hn⟩:=iha hq
  obtain⟨e,t,h1,h2⟩:=Zhu hn
  cases e with
  |normal=>
   obtain⟨m,hm⟩:=ihb h1
   refine⟨max n m, ?_⟩
   exact awp_le (c:=a) (h.le (Xef n m)) (h2 (Ze0 (Abs.awp (G (max n m)) gl b Q) Q) (show Abs.awp (G (max n m)) gl b Q t from awp_le (h.le (Xdy n m)) hm))
  |exit i=>exact⟨n,h2 _ h1⟩
  |ret=>exact⟨n,h2 _ h1⟩
 |cond c a b iha ihb=>
  intro Q s hq
  simp only[Abs.awp]at hq⊢
  unfold Zng at hq⊢
  split at hq
  ·exact iha hq
  ·exact ihb hq
  ·exact hq.elim
 |block id b ih=>intro Q s hq;exact ih hq
 |loop b ih=>
  intro Q s hq
  obtain⟨k,hq⟩:=hq
  induction k generalizing s with
  |zero=>exact hq.elim
  |succ k ihk=>
   obtain⟨n,hn⟩:=ih hq
   obtain⟨e,t,h1,h2⟩:=Zhu hn
   cases e with
   |normal=>
    obtain⟨m,j,hm⟩:=ihk h1
    refine⟨max n m,j+1, ?_⟩
    have hm':Abs.awp (G (max n m)) gl (.loop b) Q t:=awp_le (h.le (Xdy n m)) ⟨j,hm⟩
    have:Abs.awp (G (max n m)) gl b (Ze0 (Zj7 (Abs.awp (G (max n m)) gl b) Q j) Q) s:=by
     refine Abs.awp_le (h.le (Xef n m)) (h2 _ ?_)
     show Zj7 (Abs.awp (G (max n m)) gl b) Q j t
     have key:∀(j:Nat) (t:St),Zj7 (Abs.awp (G m) gl b) Q j t->Zj7 (Abs.awp (G (max n m)) gl b) Q j t:=by
      intro j
      induction j with
      |zero=>exact fun _ h=>h
      |succ j ihj=>exact fun t ht=>awp_le (h.le (Xdy n m)) (Zf9 (Zcu (fun _ h=>ihj _ h) fun _ _ h=>h) ht)
     exact key j t hm
    exact this
   |exit i=>exact⟨n,1,h2 _ h1⟩
   |ret=>exact⟨n,1,h2 _ h1⟩
 |exit id=>intro Q s hq;exact⟨0,hq⟩
 |ret=>intro Q s hq;exact⟨0,hq⟩
 |fail=>intro Q s hq;exact hq.elim
end
def endE (res:List RS)(p:V×Bool×HS):Ex->St->Prop
 | .exit _,_=>False
 |_,s=>Zdo res s=some (p.1,p.2.1)/\s.hs=p.2.2
def CallE (P:Program)(gl:Glob)(Γ:Abs.Spec)(f:Nat)(args:List V)(hs:HS)(p:V×Bool×HS):Prop:=
 ∃F,cFnW P true f=some F/\args.length<=F.n/\awp Γ gl F.body (endE F.res p) (St.initH args hs)
theorem CallE.one {P:Program}{f:Nat}{args:List V}{hs:HS}{p q:V×Bool×HS}(h:CallE P gl Γ f args hs p)(k:CallE P gl Γ f args hs q):p=q:=by
 obtain⟨F,h1,_,h2⟩:=h
 obtain⟨F',k1,_,k2⟩:=k
 rw[h1]at k1;cases k1
 obtain⟨e,t,h3,_⟩:=Zhu (Zyt h2 k2)
 obtain⟨p1,p2,p3⟩:=p
 obtain⟨q1,q2,q3⟩:=q
 have:(Zdo F.res t=some (p1,p2)/\t.hs=p3)/\(Zdo F.res t=some (q1,q2)/\t.hs=q3):=by
  cases e with
  |exit i=>exact h3.1.elim
  |normal=>exact h3
  |ret=>exact h3
 obtain⟨⟨a1,a2⟩,b1,b2⟩:=this
 rw[a1]at b1;cases b1;rw[<-a2, <-b2]
open Classical in
noncomputable def hN (P:Program)(gl:Glob)(p:Nat->List V->Option (V×Bool)):Nat->Abs.Spec
 |0=>⟨p,fun _ _ _=>none⟩
 |n+1=>⟨p,fun f args hs=>if h:∃q,CallE P gl (hN P gl p n) f args hs q then some h.choose else none⟩
variable {P:Program}{p:Nat->List V->Option (V×Bool)}
open Classical in
theorem Zl4 {n f:Nat}{args:List V}{hs:HS}{r:V×Bool×HS}:(hN P gl p (n+1)).h f args hs=some r<->CallE P gl (hN P gl p n) f args hs r:=by
 show(if h:∃q,CallE P gl (hN P gl p n) f args hs q then some h.choose else none)=some r<->_
 constructor
 ·intro h
  split at h
  ·rename_i hex
   cases h;exact hex.choose_spec
  ·cases h
 ·intro h
  have hex:∃q,CallE P gl (hN P gl p n) f args hs q:=⟨r,h⟩
  rw[dif_pos hex,hex.choose_spec.one h]
theorem CallE.le (hle:Γ.Le Γ'){f:Nat}{args:List V}{hs:HS}{r:V×Bool×HS}(h:CallE P gl Γ f args hs r):CallE P gl Γ' f args hs r:=by
 obtain⟨F,h1,h2,h3⟩:=h
 exact⟨F,h1,h2,awp_le hle h3⟩
theorem Z0f :∀n,(hN P gl p n).Le (hN P gl p (n+1))
 |0=>⟨rfl,fun _ _ _ _ h=>by cases h⟩
 |n+1=>⟨rfl,fun f a hs r h=>Zl4.2 ((Zl4.1 h).le (Z0f n))⟩
open Classical in
noncomputable def hL (P:Program)(gl:Glob)(p:Nat->List V->Option (V×Bool)):Abs.Spec:=
 ⟨p,fun f args hs=>if h:∃r n,(hN P gl p n).h f args hs=some r then some h.choose else none⟩
theorem hN_p :∀n,(hN P gl p n).p=p
 |0=>rfl
 |_+1=>rfl
theorem Z3a {n m:Nat}(h:n<=m):(hN P gl p n).Le (hN P gl p m):=by
 induction h with
 |refl=>exact .refl _
 |step _ ih=>exact ih.trans (Z0f _)
open Classical in
theorem Zq0 {f:Nat}{args:List V}{hs:HS}{r:V×Bool×HS}:(hL P gl p).h f args hs=some r<-> ∃n,(hN P gl p n).h f args hs=some r:=by
 show(if h:∃r n,(hN P gl p n).h f args hs=some r then some h.choose else none)=some r<->_
 constructor
 ·intro h
  split at h
  ·rename_i hex
   cases h;exact hex.choose_spec
  ·cases h
 ·rintro⟨n,hn⟩
  have hex:∃r n,(hN P gl p n).h f args hs=some r:=⟨r,n,hn⟩
  rw[dif_pos hex]
  obtain⟨m,hm⟩:=hex.choose_spec
  have h1:=(Z3a (Xef n m)).h _ _ _ _ hn
  have h2:=(Z3a (Xdy n m)).h _ _ _ _ hm
  rw[h1]at h2;exact h2.symm
theorem hL_lim :Lm (hN P gl p) (hL P gl p) where
 up:=Z0f
 to n:=⟨hN_p n,fun _ _ _ _ h=>Zq0.2 ⟨n,h⟩⟩
 of _ _ _ _ h:=Zq0.1 h
theorem Z9b {f:Nat}{args:List V}{hs:HS}{r:V×Bool×HS}(h:CallE P gl (hL P gl p) f args hs r):(hL P gl p).h f args hs=some r:=by
 obtain⟨F,h1,h2,h3⟩:=h
 obtain⟨n,hn⟩:=hL_lim.awp h3
 exact Zq0.2 ⟨n+1,Zl4.2 ⟨F,h1,h2,hn⟩⟩
theorem Zr9 {cx:Cx}(hgl:GlOK cx)(hm:cx.P.follows .mixedOrders=true)(hp:∀f args r,p f args=some r->PC cx f args r):∀n,Sound cx (hN cx.P cx.gl p n)
 |0=>⟨hp,fun _ _ _ _ h=>by cases h⟩
 |n+1=>⟨hp,fun f args hs r h=>by
  obtain⟨F,h1,h2,h3⟩:=Zl4.1 h
  exact Zs2 hgl hm (Zr9 hgl hm hp n) h1 h2 (Zf9 (fun e s q=>by
   cases e with
   |exit i=>exact q.elim
   |normal=>exact⟨⟨_,q.1,rfl,fun h=>h⟩,q.2⟩
   |ret=>exact⟨⟨_,q.1,rfl,fun h=>h⟩,q.2⟩) h3)⟩
theorem Zxy {cx:Cx}(hgl:GlOK cx)(hm:cx.P.follows .mixedOrders=true)(hp:∀f args r,p f args=some r->PC cx f args r):Sound cx (hL cx.P cx.gl p) where
 p:=hp
 h f args hs r h:=by
  obtain⟨n,hn⟩:=Zq0.1 h
  exact(Zr9 hgl hm hp n).h f args hs r hn
end Go.Abs
namespace Go.Abs
inductive Prim where
 |pick
 |ext (i:Nat)
 |bin (op:BinOp) (q:EqK)
 |un (op:UnOp)
 |len (s:Bool)
 |mnx (mx:Bool)
 |elem (sz:Nat)
 |ld (n:Option Nat) (off:Nat)
 |fld (n:Option Nat) (off:Nat)
 |idx
 |idxa (len sz:Nat) (n:Option Nat)
 |sls (lo hi:Bool)
 |slc (sz:Nat) (lo hi mx:Bool)
 |cat (ss:List (Option Nat))
 |bsl (sz:Nat)
 |app (sz:Nat)
 |mks (sz:Nat)
 |mkz (z:V)
 |s2b|b2s
 |i2i (k:IntKind)
 |s2s
 |s2a (n:Nat)
 |nilck
 |chk (n:Nat)
 |ldd (n:Option Nat) (base sz:Nat)
 |std (n base sz:Nat)
 |set (n off:Nat)
 |chkd
 |chkl
 |rapp (sz:Nat)
 |rlen (sz:Nat)
 |rmk (z:V)
 |b2sx
 |cpya (r n:Nat)
 |cpyn (n:Nat)
 |clra (z:V) (r n:Nat)
 |snap (r n:Nat)
 |snapd (r n:Nat)
 |snapx
 |clrx (z:V)
 |flr
 |b2so (off len:Nat)
 |sc|scs
 |vlen|vadd|vidx
 |snapv (sz:Nat)
 |mlk (q:KK) (z:V) (ok:Bool)
 |mup (q:KK)
 |mln
 |fn (f:Nat)
 deriving Inhabited
def Z0m (sz:Nat):V->V->Option V
 | .sl _ s xs, .int _ n=>if 0<=n/\s=sz then xs[n.toNat]? else none
 |_,_=>none
def Zwh :Bool->Bool->V->List V->Option V
 |true,true,x,[l,h]=>vSls x (some l) (some h)
 |true,false,x,[l]=>vSls x (some l) none
 |false,true,x,[h]=>vSls x none (some h)
 |false,false,x,[]=>vSls x none none
 |_,_,_,_=>none
def Zts (sz:Nat):Bool->Bool->Bool->V->List V->Option V
 |true,true,true,x,[l,h,m]=>(vSlc sz x (some l) (some h) (some m)).map (·.v)
 |false,true,true,x,[h,m]=>(vSlc sz x none (some h) (some m)).map (·.v)
 |true,true,false,x,[l,h]=>(vSlc sz x (some l) (some h) none).map (·.v)
 |true,false,false,x,[l]=>(vSlc sz x (some l) none none).map (·.v)
 |false,true,false,x,[h]=>(vSlc sz x none (some h) none).map (·.v)
 |false,false,false,x,[]=>(vSlc sz x none none none).map (·.v)
 |_,_,_,_,_=>none
def catV :List (Option Nat)->List V->Option (List V)
 | [],[]=>some []
 |none::ss,x::xs=>if x.sc=true then(catV ss xs).map (x:: ·)else none
 |some n::ss,x::xs=>if x.cells.length=n/\x.cells.all V.sc=true then(catV ss xs).map (x.cells++ ·)else none
 |_,_=>none
def noH :Hp:=fun _=>none
def Zyd (sz:Nat)(s x:V):Option V:=
 match s,Zb2 noH sz x with
 | .sl _ s' xs,some ys=>if xs.length+ys.length<=Lim/\s'=sz then some (.sl false sz (xs++ys))else none
 |_,_=>none
def Zyn (n:Nat):V->Option V
 | .sl _ 1 xs=>if n<=xs.length/\xs≠ []/\fits 1 xs=true then some (.agg (xs.flatMap V.cells))else none
 |_=>none
def vChk (n:Nat):V->Option V
 | .int k j=>if 0<=j/\j<n then some (.int k j)else none
 |_=>none
def vLdd (n:Option Nat)(base sz:Nat):V->V->Option V
 |x, .int _ j=>Zak n x.cells (base+j.toNat*sz)
 |_,_=>none
def vSet (n off:Nat)(x y:V):Option V:=
 if y.cells.length=n/\y.cells.all V.sc=true/\off+n<=x.cells.length then some (.agg (Zav x.cells off y.cells))else none
def vStd (n base sz:Nat):V->V->V->Option V
 |x, .int _ j,y=>vSet n (base+j.toNat*sz) x y
 |_,_,_=>none
def Zxt (off len:Nat)(x:V):Option V:=
 if off+len<=x.cells.length then(Zb0 ((x.cells.drop off).take len)).map .str else none
def Z4t :V->V->Option V
 | .int .i64 n, .int k i=>if 0<=i/\i<n then some (.int k i)else none
 |_,_=>none
def Z5y :V->V->Option V
 | .int .i64 n, .int _ i=>if 0<=i/\i<=n then some (.int .i64 i)else none
 |_,_=>none
def Zsg (sz:Nat)(c:V):V->V->Option V
 | .int .i64 n,x=>(Zb2 noH sz x).bind fun ys=>(Zj6 sz ys).bind fun fs=>if 0<=n/\0<sz/\n.toNat*sz<=c.cells.length/\n.toNat+ys.length<=Lim then some (.agg (c.cells.take (n.toNat*sz)++fs))else none
 |_,_=>none
def Zpk (sz:Nat):V->V->Option V
 | .int _ n,x=>(Zb2 noH sz x).bind fun ys=>if 0<=n then some (.int .i64 (n+ys.length))else none
 |_,_=>none
def vRmk (z:V):V->V->Option V
 | .int _ n, .int _ c=>if 0<=n/\n<=c/\c<=Lim then some (.agg (List.replicate n.toNat z))else none
 |_,_=>none
def Z29 (c:V):V->Option V
 | .int .i64 n=>if 0<=n/\n.toNat<=c.cells.length then(Zb0 (c.cells.take n.toNat)).map .str else none
 |_=>none
def Z6g (r n:Nat)(x:V):V->Option V
 | .str b=>if r+n<=x.cells.length then some (.agg (Zav x.cells r ((encB b).take n)))else none
 |_=>none
def Z3z (n:Nat):V->Option V
 | .str b=>some (.int .i64 (min (b.length:Int) n))
 |_=>none
def Z5p (z:V)(r n:Nat)(x:V):Option V:=if r+n<=x.cells.length then some (.agg (Zav x.cells r (List.replicate n z)))else none
def Z54 (r n:Nat)(x:V):Option V:=if r+n<=x.cells.length then some (.sl false 1 ((x.cells.drop r).take n))else none
def Zz4 (r n:Nat)(x:V):V->Option V
 | .int _ k=>if 0<=k/\k<n/\r+n<=x.cells.length then some (.sl false 1 ((x.cells.drop (r+k.toNat)).take (n-k.toNat)))else none
 |_=>none
def Zzz (c:V):V->Option V
 | .int .i64 n=>if 0<=n/\n.toNat<=c.cells.length then some (.sl false 1 (c.cells.take n.toNat))else none
 |_=>none
def Z4n (z c:V):V->V->Option V
 | .int .i64 n, .int _ i=>if 0<=i/\i<n/\n.toNat<=c.cells.length then some (.agg (Zav c.cells i.toNat (List.replicate (n.toNat-i.toNat) z)))else none
 |_,_=>none
def Z6s :V->V->Option V
 | .int .i64 a, .int .i64 b=>if 0<=a/\a<=b then some (.int .i64 (b-a))else none
 |_,_=>none
def Z4y :V->V->V->Option V
 | .int .i64 a, .int .i64 b, .int _ l=>if 0<=a/\0<=l/\a+l<=b then some (.int .i64 (a+l))else none
 |_,_,_=>none
def Z4s :V->V->V->Option V
 | .int .i64 a, .int .i64 b, .int _ l=>if 0<=a/\0<=l/\a+l<b then some (.int .i64 (a+l))else none
 |_,_,_=>none
def Zt3 (sz:Nat)(c:V):V->V->Option V
 | .int .i64 a, .int .i64 b=>if 0<=a/\a<=b/\b.toNat*sz<=c.cells.length then some (.sl false sz (vRow sz (b.toNat-a.toNat) (c.cells.drop (a.toNat*sz))))else none
 |_,_=>none
def mpV (l:List (V×V)):V:= .iface 0 (.tup (l.map fun p=> .tup [p.1,p.2]))
def unM :List V->Option (List (V×V))
 | []=>some []
 | .tup [k,v]::r=>(unM r).map ((k,v):: ·)
 |_=>none
def unMp :V->Option (List (V×V))
 | .iface 0 (.tup ps)=>unM ps
 |_=>none
def Zxe (q:KK)(z:V)(ok:Bool)(M k:V):Option V:=
 (unMp M).bind fun l=>if Zd4 q k k=some true then(Zfv q k l).bind fun r=>if ok then some (.tup [r.getD z, .bool r.isSome])else if z.sc=true/\(r.getD z).sc=false then none else some (r.getD z)else none
def Zyv (q:KK)(M k x:V):Option V:=(unMp M).bind fun l=>if Zd4 q k k=some true then(mPut q k x l).map mpV else none
def Zxa (M:V):Option V:=(unMp M).map fun l=> .int .i64 l.length
def evp :Prim->List V->Option V
 | .pick,[c,a,b]=>Zpy c a b
 | .ext i,[t]=>vExt t i
 | .bin op q,[x,y]=>abin op q x y
 | .un op,[x]=>aun op x
 | .len s,[x]=>vLen s x
 | .mnx m,[x,y]=>vMnx m x y
 | .elem sz,[x,i]=>Z0m sz x i
 | .ld n off,[x]=>Zak n x.cells off
 | .fld n off,[x]=>vFld n off x
 | .idx,[x,i]=>vIdx x i
 | .idxa l sz n,[x,i]=>Zp6 l sz n x i
 | .sls lo hi,x::r=>Zwh lo hi x r
 | .slc sz lo hi mx,x::r=>Zts sz lo hi mx x r
 | .cat ss,xs=>(catV ss xs).map .agg
 | .bsl sz,xs=>if fits sz xs then some (.sl false sz xs)else none
 | .app sz,[s,x]=>Zyd sz s x
 | .mks sz,[l,c]=>(vMks sz l c).map (·.v)
 | .mkz z,[l,c]=>(vMkz 1 [z] l c).map (·.v)
 | .s2b,[x]=>(vS2b x).map (·.v)
 | .b2s,[x]=>vB2s noH x
 | .i2i k,[x]=>vI2i k x
 | .s2s,[x]=>vS2s x
 | .s2a n,[x]=>Zyn n x
 | .nilck,[x]=>Zoq x
 | .chk n,[i]=>vChk n i
 | .ldd n base sz,[x,i]=>vLdd n base sz x i
 | .std n base sz,[x,i,y]=>vStd n base sz x i y
 | .set n off,[x,y]=>vSet n off x y
 | .b2so off len,[x]=>Zxt off len x
 | .chkd,[n,i]=>Z4t n i
 | .chkl,[n,i]=>Z5y n i
 | .rapp sz,[c,n,x]=>Zsg sz c n x
 | .rlen sz,[n,x]=>Zpk sz n x
 | .rmk z,[n,m]=>vRmk z n m
 | .b2sx,[c,n]=>Z29 c n
 | .cpya r n,[x,y]=>Z6g r n x y
 | .cpyn n,[y]=>Z3z n y
 | .clra z r n,[x]=>Z5p z r n x
 | .snap r n,[x]=>Z54 r n x
 | .snapd r n,[x,k]=>Zz4 r n x k
 | .flr,[x]=>if x.flatT=true then some x else none
 | .snapx,[c,n]=>Zzz c n
 | .clrx z,[c,n,i]=>Z4n z c n i
 | .vlen,[a,b]=>Z6s a b
 | .vadd,[a,b,l]=>Z4y a b l
 | .vidx,[a,b,l]=>Z4s a b l
 | .snapv sz,[c,a,b]=>Zt3 sz c a b
 | .mlk q z ok,[M,k]=>Zxe q z ok M k
 | .mup q,[M,k,x]=>Zyv q M k x
 | .mln,[M]=>Zxa M
 | .fn f,xs=>some (.fn f xs)
 | .sc,[x]=>if x.sc=true then some x else none
 | .scs,[x]=>if x.cells.all V.sc=true then some x else none
 |_,_=>none
inductive At where
 |osx (o i sz:Nat)
 |osc (o off n i sz:Nat)
 |osr (o j i sz:Nat)
 |c (v:V) (own:Bool)
 |n (i:Nat) (own sc:Bool)
 |ptr (o off:Nat)
 |ptd (o base i sz:Nat)
 |gp (g off:Nat)
 |gpd (g base i sz:Nat)
 |el (i off:Nat)
 |osl (o off len cap sz:Nat)
 |fp (m:Bool) (f:Nat) (ps:List (Nat×Nat))
 |osv (o i j sz:Nat)
 |mpp (o:Nat)
 |mpc (i:Nat)
 |nil
 deriving Inhabited
inductive Seg where
 |one (a:At)
 |many (n:Option Nat) (a:At)
 deriving Inhabited
inductive Sy where
 |at (a:At)
 |agg (ss:List Seg) (z:Option Nat)
 |tup (az:List At)
 deriving Inhabited
structure PS (X:Type) where
 vals:List X
 lits:List (Nat×Bool)
 tm:List (Nat×Sy)
 ob:List (Option (List Seg))
 g:Nat
structure PT where
 n:Nat
 tm:List (Nat×Sy)
 ob:List (Option (List Seg))
 g:Nat
 deriving Inhabited
structure RT where
 n:Nat
 res:List At
 ob:List (Option (List Seg))
 deriving Inhabited
structure FE where
 k:Nat
 f:Nat
 own:Bool
 ar:Nat
 ent:PT
 ret:Option (List RT)
 lab:List (Nat×PT)
 pl:Bool
 deriving Inhabited
structure Cfg where
 ow:Nat->Bool
 he:Nat->List FE
 gl:Nat->Option (List V)
structure Bld (X D:Type) where
 c:V->X
 fail:D
 prim:Prim->List X->Nat->(X->D)->D
 ite:X->D->D->D
 call:Nat->List X->Nat->(X->D)->D
 callv:X->List X->Nat->(X->D)->D
 callh:Nat->List X->Nat->(X->D)->D
 jmp:Nat->List X->D
 ret:List X->D
 amb:X->D->D->D
def vif (x:V)(a b:Option V):Option V:=match x with| .bool true=>a| .bool false=>b|_=>none
open Classical in
noncomputable def vamb (x:V)(a b:Option V):Option V:=match x with| .sl _ _ []=>if a=b then a else none| .sl _ _ (_::_)=>b|_=>none
abbrev Gam :=Nat->Nat->List V->Option V
def Ze6 (Γ:Gam):V->List V->Option V
 | .fn f caps,args=>Γ f 0 (args++caps)
 |_,_=>none
def oneV :List V->V
 | [x]=>x
 |xs=> .tup xs
noncomputable def BV (Γ:Gam)(f:Nat):Bld V (Option V) where
 c v:=v
 fail:=none
 prim p xs _ k:=(evp p xs).bind k
 ite:=vif
 call g xs _ k:=(Γ g 0 xs).bind k
 callv x xs _ k:=(Ze6 Γ x xs).bind k
 callh g xs _ k:=(Γ g 1 xs).bind k
 jmp l xs:=Γ f l xs
 ret xs:=some (oneV xs)
 amb:=vamb
def lk {α:Type}:List (Nat×α)->Nat->Option α
 | [],_=>none
 |(k,a)::r,t=>match Nat.beq k t with|true=>some a|false=>lk r t
def V.isNilSl :V->Bool
 | .sl true _ []=>true
 |_=>false
def At.noOwn :At->At
 | .n i _ s=> .n i false s
 |a=>a
def At.plain :At->At
 | .c v _=> .c v false
 | .n i _ _=> .n i false false
 |a=>a
def Seg.noOwn :Seg->Seg
 | .one a=> .one a.noOwn
 | .many n a=> .many n a.noOwn
def Sy.noOwn :Sy->Sy
 | .at a=> .at a.noOwn
 | .agg ss z=> .agg (ss.map Seg.noOwn) z
 | .tup az=> .tup (az.map At.noOwn)
def At.owned :At->Bool
 | .c _ o=>o
 | .n _ o _=>o
 |_=>false
def At.one :At->Bool
 | .c v _=>v.sc
 | .n _ _ s=>s
 | .ptr _ _=>true
 | .gp _ _=>true
 | .fp _ _ _=>true
 | .mpp _=>true
 |_=>false
section
variable {X D:Type}
def PS.get (S:PS X)(t:Nat):Option Sy:=lk S.tm t
def PS.put (S:PS X)(d:Option Nat)(y:Sy):PS X:=match d with|none=>S|some d=> {S with tm:=(d,y)::S.tm}
def PS.push (S:PS X)(x:X):PS X:= {S with vals:=S.vals++ [x]}
def PS.nx (S:PS X):Nat:=S.vals.length
def PS.disown (S:PS X)(t:Nat):PS X:=match S.get t with|some y=> {S with tm:=(t,y.noOwn)::S.tm}|none=>S
def PS.know (S:PS X)(i:Nat)(b:Bool):PS X:= {S with lits:=(i,b)::S.lits}
def PS.setOb (S:PS X)(o:Nat)(ss:List Seg):PS X:= {S with ob:=S.ob.set o (some ss)}
def PS.obj (S:PS X)(o:Nat):Option (List Seg):=match S.ob[o]? with|some (some ss)=>some ss|_=>none
def PS.mpo (S:PS X)(o:Nat):Option Nat:=match S.obj o with|some [.one (.mpc i)]=>some i|_=>none
def PS.cob (S:PS X)(o:Nat):Option (List Seg):=match S.obj o with|some [.one (.mpc _)]=>none|r=>r
def Zlu (v:V):Option At:=
 match v with
 | .gp g off=>some (.gp g off)
 |v=>match v.nf.clean with|true=>some (.c v.nf v.isNilSl)|false=>none
def PS.opd (S:PS X):Opd->Option Sy
 | .tmp t=>S.get t
 | .const v=>(Zlu v).map .at
def PS.valA (B:Bld X D)(S:PS X):At->Option X
 | .c v _=>some (B.c v)
 | .n i _ _=>match lk S.lits i with|some b=>some (B.c (.bool b))|none=>S.vals[i]?
 |_=>none
def segVals (B:Bld X D)(S:PS X):List Seg->Option (List (Option Nat)×List X)
 | []=>some ([],[])
 | .one a::r=>match S.valA B a,segVals B S r with|some x,some (ns,xs)=>some (none::ns,x::xs)|_,_=>none
 | .many (some n) a::r=>match S.valA B a,segVals B S r with|some x,some (ns,xs)=>some (some n::ns,x::xs)|_,_=>none
 | .many none _::_=>none
def mat (B:Bld X D)(S:PS X)(y:Option Sy)(k:X->PS X->D):D:=
 match y with
 |some (.at a)=>match S.valA B a with|some x=>k x S|none=>B.fail
 |some (.agg _ (some z))=>match S.vals[z]? with|some x=>k x S|none=>B.fail
 |some (.agg ss none)=>match segVals B S ss with|some (ns,xs)=>B.prim (.cat ns) xs S.nx fun x=>k x (S.push x)|none=>B.fail
 |some (.tup _)=>B.fail
 |none=>B.fail
def matL (B:Bld X D)(S:PS X):List Opd->(List X->PS X->D)->D
 | [],k=>k [] S
 |o::r,k=>mat B S (S.opd o) fun x S1=>matL B S1 r fun xs S2=>k (x::xs) S2
def Prim.one :Prim->Bool
 | .bin _ _| .un _| .len _| .mnx _| .idx| .sls _ _| .slc _ _ _ _| .bsl _| .app _| .mks _| .mkz _| .s2b| .b2s| .i2i _| .s2s| .chk _| .b2so _ _| .fn _| .sc| .chkd| .chkl| .rlen _| .b2sx| .cpyn _| .snapx| .mln| .vlen| .vadd| .vidx| .snapv _=>true
 | .mlk _ z ok=> !ok&&z.sc
 |_=>false
def doX (B:Bld X D)(S:PS X)(p:Prim)(xs:List X)(d:Option Nat)(own:Bool)(k:PS X->D):D:=
 B.prim p xs S.nx fun x=>k ((S.push x).put d (.at (.n S.nx own p.one)))
def doP (B:Bld X D)(S:PS X)(p:Prim)(os:List Opd)(d:Option Nat)(own:Bool)(k:PS X->D):D:=
 matL B S os fun xs S1=>doX B S1 p xs d own k
def optL :Option Opd->List Opd
 |none=> []
 |some x=> [x]
def Zi7 :AOp->Option (Prim×List Opd×Bool)
 | .ext t i=>some (.ext i,[t],false)
 | .bin op q x y=>match q with| .slice=>none| .ptr=>none|q=>some (.bin op q,[x,y],false)
 | .un op x=>some (.un op,[x],false)
 | .len s x=>some (.len s,[x],false)
 | .mnx m x y=>some (.mnx m,[x,y],false)
 | .fld n off x=>some (.fld n off,[x],false)
 | .idx x i=>some (.idx,[x,i],false)
 | .idxa l sz n x i=>some (.idxa l sz n,[x,i],false)
 | .sls x lo hi=>some (.sls lo.isSome hi.isSome,x::(optL lo++optL hi),false)
 | .slc sz x lo hi mx=>some (.slc sz lo.isSome hi.isSome mx.isSome,x::(optL lo++optL hi++optL mx),mx.isSome)
 | .bsl sz xs=>some (.bsl sz,xs,true)
 | .mks sz z l c=>match z with| []=>some (.mks sz,[l,c],true)| [z]=>(match Nat.beq sz 1&&z.flatR with|true=>some (.mkz z,[l,c],false)|false=>none)|_=>none
 | .s2b x=>some (.s2b,[x],true)
 | .b2s x=>some (.b2s,[x],false)
 | .i2i k x=>some (.i2i k,[x],false)
 | .s2s x=>some (.s2s,[x],false)
 | .mkf f xs=>some (.fn f,xs,false)
 |_=>none
def PS.truth (S:PS X):Option Sy->Option Bool
 |some (.at (.c (.bool b) _))=>some b
 |some (.at (.n i _ _))=>lk S.lits i
 |_=>none
def Zyf :V->Option IntKind
 | .int k 0=>some k
 |_=>none
def zrun (k:IntKind):List V->Nat
 |v::r=>match Zyf v with|some j=>(match decide (j=k)with|true=>zrun k r+1|false=>0)|none=>0
 | []=>0
def grp :Nat->List V->Option (List Seg)
 |0,_=>none
 |_+1,[]=>some []
 |m+1,v::r=>
  match Zyf v with
  |some k=>
   match Nat.ble 3 (zrun k r)with
   |true=>(grp m (r.drop (zrun k r))).map (.many (some (zrun k r+1)) (.c (.agg (repl (zrun k r+1) (.int k 0))) false):: ·)
   |false=>(grp m r).map (.one (.c v false):: ·)
  |none=>match v.sc,Zlu v with|true,some a=>(grp m r).map (.one a:: ·)|_,_=>none
def Seg.len :Seg->Option Nat
 | .one _=>some 1
 | .many n _=>n
def Zdj :List Seg->Nat->Nat->Option (Seg×Nat×Nat)
 | [],_,_=>none
 |s::r,off,i=>
  match s.len with
  |none=>some (s,off,i)
  |some n=>match Nat.blt off n with|true=>some (s,off,i)|false=>Zdj r (off-n) (i+1)
def Zb1 :List Seg->Nat->Option Nat
 |_,0=>some 0
 | [],_+1=>none
 |s::r,m+1=>match s.len with|some n=>(match Nat.ble n (m+1)&&Nat.ble 1 n with|true=>(Zb1 r (m+1-n)).map (· +1)|false=>none)|none=>none
def spl (ss:List Seg)(i:Nat)(m:Nat)(q:List Seg):List Seg:=ss.take i++q++ss.drop (i+m)
def ldIn (B:Bld X D)(S:PS X)(a:At)(n:Option Nat)(r:Nat)(k:Sy->PS X->D):D:=
 mat B S (some (.at a)) fun x S1=>B.prim (.ld n r) [x] S1.nx fun y=>k (.at (.n S1.nx false false)) (S1.push y)
def ldSegs (B:Bld X D)(S:PS X)(ss:List Seg)(i m:Nat)(k:Sy->PS X->D)(alt:D):D:=
 match Zb1 (ss.drop i) m with
 |some q=>
  match segVals B S ((ss.drop i).take q)with
  |some (ns,xs)=>B.prim (.cat ns) xs S.nx fun x=>k (.agg (((ss.drop i).take q).map Seg.noOwn) (some S.nx)) (S.push x)
  |none=>k (.agg (((ss.drop i).take q).map Seg.noOwn) none) S
 |none=>alt
def ldY (B:Bld X D)(S:PS X)(ss:List Seg)(off:Nat)(n:Option Nat)(k:Sy->PS X->D):D:=
 match Zdj ss off 0,n with
 |some (.one a,0,_),none=>k (.at a.noOwn) S
 |some (.one _,0,i),some m=>ldSegs B S ss i m k B.fail
 |some (.many (some m') a,0,i),some m=>
  match Nat.beq m m'&&Nat.ble 2 m with
  |true=>k (.at a.plain) S
  |false=>ldSegs B S ss i m k (ldIn B S a n 0 k)
 |some (.many _ a,r,_),_=>ldIn B S a n r k
 |_,_=>B.fail
def ldAt (B:Bld X D)(S:PS X)(ss:List Seg)(off:Nat)(n:Option Nat)(d:Option Nat)(k:PS X->D):D:=ldY B S ss off n fun y S'=>k (S'.put d y)
def asSegs (B:Bld X D)(S:PS X)(n:Nat)(y:Sy)(mny:Bool)(k:List Seg->PS X->D):D:=
 match y with
 | .tup _=>B.fail
 | .agg q z=>match Zb1 q n with|some m=>(match Nat.beq m q.length with|true=>(match mny,z with|true,some z=>k [.many (some n) (.n z false false)] S|_,_=>k q S)|false=>B.fail)|none=>B.fail
 | .at a=>
  match n with
  |1=>match a.one with
   |true=>k [.one a.noOwn] S
   |false=>mat B S (some (.at a)) fun x S1=>B.prim .sc [x] S1.nx fun z=>k [.one (.n S1.nx false true)] (S1.push z)
  |n=>mat B S (some (.at a)) fun x S1=>B.prim (.cat [some n]) [x] S1.nx fun z=>k [.many (some n) (.n S1.nx false false)] (S1.push z)
def stAt (B:Bld X D)(S:PS X)(o:Nat)(ss:List Seg)(off n:Nat)(y:Sy)(d:Option Nat)(k:PS X->D):D:=
 match Zdj ss off 0 with
 |some (s,r,i)=>
  match(match r with|0=>Zb1 (ss.drop i) n|_+1=>none)with
  |some m=>asSegs B S n y (match s with| .many (some n') _=>Nat.beq n n'|_=>false) fun q S1=>k ((S1.setOb o (spl ss i m q)).put d (.at .nil))
  |none=>
   match s with
   | .many sn a=>mat B S (some (.at a)) fun x S1=>mat B S1 (some y) fun z S2=>B.prim (.set n r) [x,z] S2.nx fun w=>k (((S2.push w).setOb o (spl ss i 1 [.many sn (.n S2.nx false false)])).put d (.at .nil))
   | .one _=>B.fail
 |none=>B.fail
def At.isVal :At->Bool
 | .c _ _=>true
 | .n _ _ _=>true
 |_=>false
def Seg.isVal :Seg->Bool
 | .one a=>a.isVal
 | .many _ a=>a.isVal
def Zm0 :Option Sy->Option At
 |some (.at a)=>match a.isVal||a.one with|true=>some a|false=>none
 |some (.agg _ (some z))=>some (.n z false false)
 |_=>none
def Zdy (S:PS X):List (Nat×Nat×Opd)->Option (List At)
 | []=>some []
 |p::r=>match Zm0 (S.opd p.2.2),Zdy S r with|some a,some l=>some (a::l)|_,_=>none
def Zzu (S:PS X)(ps:List (Nat×Nat×Opd)):Bool:=ps.all fun p=>Nat.beq p.2.1 1&&(match S.opd p.2.2 with|some (.at a)=>a.one|_=>false)
def Zi5 (n:Nat):Option Nat:=match n with|1=>none|n=>some n
def Zgq (n:Nat)(a:At):Seg:=match n with|1=> .one a.noOwn|n=> .many (some n) a.plain
def Zly :Nat->List (Nat×Nat×Opd)->Option Nat
 |o,[]=>some o
 |o,p::r=>match Nat.beq p.1 o with|true=>Zly (o+p.2.1) r|false=>none
def Zgt :List (Nat×Nat×Opd)->List At->List Seg
 |p::r,a::l=>Zgq p.2.1 a::Zgt r l
 |_,_=> []
def Zst (ss:List Seg):List (Nat×Nat×Opd)->List At->Option (List Seg)
 | [],_=>some ss
 |p::r,a::l=>
  (match Zdj ss p.1 0 with
  |some (_,0,i)=>match Zb1 (ss.drop i) p.2.1 with|some m=>Zst (spl ss i m [Zgq p.2.1 a]) r l|none=>none
  |_=>none)
 |_::_,[]=>none
end
end Go.Abs
namespace Go.Abs
section
variable {X D:Type}
def bldR (B:Bld X D)(S:PS X)(z:List V)(ps:List (Nat×Nat×Opd))(d:Option Nat)(k:PS X->D)(ats:List At):D:=
 match Zzu S ps with
 |true=>
  (match(match Zly 0 ps with|some e=>Nat.beq e z.length|none=>false)with
  |true=>k (S.put d (.agg (Zgt ps ats) none))
  |false=>
   match grp (z.length+1) z with
   |some ss=>(match Zst ss ps ats with|some q=>k (S.put d (.agg q none))|none=>B.fail)
   |none=>B.fail)
 |false=>B.fail
def bldP (B:Bld X D)(S:PS X)(z:List V)(ps:List (Nat×Nat×Opd))(d:Option Nat)(k:PS X->D):D:=
 match Zdy S ps with
 |some ats=>
  match ats.any fun a=> !a.isVal with
  |true=>bldR B S z ps d k ats
  |false=>
  matL B S (ps.map (·.2.2)) fun xs S1=>B.prim (.cat (ps.map fun p=>Zi5 p.2.1)) xs S1.nx fun y=>
   match(match Zly 0 ps with|some e=>Nat.beq e z.length|none=>false)with
   |true=>k ((S1.push y).put d (.agg (Zgt ps ats) (some S1.nx)))
   |false=>
    match grp (z.length+1) z with
    |some ss=>
     (match Zst ss ps ats with
     |some q=>(match segVals B (S1.push y) q with
      |some (ns,ys)=>B.prim (.cat ns) ys (S1.push y).nx fun w=>k (((S1.push y).push w).put d (.agg q (some (S1.push y).nx)))
      |none=>B.fail)
     |none=>B.fail)
    |none=>B.fail
 |none=>B.fail
def PS.newOb (S:PS X)(ss:List Seg):PS X:= {S with ob:=S.ob++ [some ss]}
def mO (no:Nat)(ρ:List (Nat×Nat))(k o:Nat):Option (List (Nat×Nat)):=
 match Nat.blt k no with
 |true=>match lk ρ k with
  |some o'=>(match Nat.beq o o' with|true=>some ρ|false=>none)
  |none=>(match ρ.any (fun p=>Nat.beq p.2 o)with|true=>none|false=>some ((k,o)::ρ))
 |false=>none
def mPs (no:Nat):List (Nat×Nat)->List (Nat×Nat)->List (Nat×Nat)->Option (List (Nat×Nat))
 | [],[],ρ=>some ρ
 |(k,off)::r,(o,off')::q,ρ=>match Nat.beq off off',mO no ρ k o with|true,some ρ'=>mPs no r q ρ'|_,_=>none
 |_,_,_=>none
def mAt (B:Bld X D)(S:PS X)(no:Nat)(T y:At)(ρ:List (Nat×Nat))(acc:List X):Option (List (Nat×Nat)×List X):=
 match T,y with
 | .ptr k off, .ptr o off'=>match Nat.beq off off',mO no ρ k o with|true,some ρ'=>some (ρ',acc)|_,_=>none
 | .gp o off, .gp o' off'=>match Nat.beq o o'&&Nat.beq off off' with|true=>some (ρ,acc)|false=>none
 | .osl k off n c s, .osl o off' n' c' s'=>match Nat.beq off off'&&Nat.beq n n'&&Nat.beq c c'&&Nat.beq s s',mO no ρ k o with|true,some ρ'=>some (ρ',acc)|_,_=>none
 | .osx k i s, .osx o j s'=>match Nat.beq i acc.length&&Nat.beq s s',S.vals[j]?,mO no ρ k o with|true,some x,some ρ'=>some (ρ',acc++ [x])|_,_,_=>none
 | .osv k i j s, .osv o i' j' s'=>match Nat.beq i acc.length&&Nat.beq j (acc.length+1)&&Nat.beq s s',S.vals[i']?,S.vals[j']?,mO no ρ k o with|true,some x,some y,some ρ'=>some (ρ',acc++ [x,y])|_,_,_,_=>none
 | .osv k i j s, .osx o j' s'=>match Nat.beq i acc.length&&Nat.beq j (acc.length+1)&&Nat.beq s s',S.vals[j']?,mO no ρ k o with|true,some y,some ρ'=>some (ρ',acc++ [B.c (.int .i64 0),y])|_,_,_=>none
 | .fp m f ps, .fp m' f' ps'=>match Bool.xor m m'|| !Nat.beq f f',mPs no ps ps' ρ with|false,some ρ'=>some (ρ',acc)|_,_=>none
 | .el i off, .el j off'=>match Nat.beq i acc.length&&Nat.beq off off',S.vals[j]? with|true,some x=>some (ρ,acc++ [x])|_,_=>none
 | .n i own sc,y=>match Nat.beq i acc.length&&(!own||y.owned)&&(!sc||y.one),S.valA B y with|true,some x=>some (ρ,acc++ [x])|_,_=>none
 | .c .nilptr false, .c .nilptr _=>some (ρ,acc)
 | .mpp k, .mpp o=>match mO no ρ k o with|some ρ'=>some (ρ',acc)|none=>none
 | .mpc i, .mpc j=>match Nat.beq i acc.length,S.vals[j]? with|true,some x=>some (ρ,acc++ [x])|_,_=>none
 |_,_=>none
def mSegs (B:Bld X D)(S:PS X)(no:Nat):List Seg->List Seg->List (Nat×Nat)->List X->Option (List (Nat×Nat)×List X)
 | [],[],ρ,acc=>some (ρ,acc)
 | .one a::r, .one b::q,ρ,acc=>match mAt B S no a b ρ acc with|some (ρ,acc)=>mSegs B S no r q ρ acc|none=>none
 | .many (some n) a::r, .many (some m) b::q,ρ,acc=>match Nat.beq n m,mAt B S no a b ρ acc with|true,some (ρ,acc)=>mSegs B S no r q ρ acc|_,_=>none
 | .many none a::r, .many none b::q,ρ,acc=>match mAt B S no a b ρ acc with|some (ρ,acc)=>mSegs B S no r q ρ acc|none=>none
 |_,_,_,_=>none
def mObs (B:Bld X D)(S:PS X)(no:Nat):List (Option (List Seg))->Nat->List (Nat×Nat)->List X->Option (List (Nat×Nat)×List X)
 | [],_,ρ,acc=>some (ρ,acc)
 |q::r,k,ρ,acc=>
  match lk ρ k with
  |some o=>(match Nat.blt o S.ob.length with
   |true=>(match q with
    |none=>mObs B S no r (k+1) ρ acc
    |some ss=>match S.obj o with
     |some qs=>(match mSegs B S no ss qs ρ acc with|some (ρ,acc)=>mObs B S no r (k+1) ρ acc|none=>none)
     |none=>none)
   |false=>none)
  |none=>none
def mAts (B:Bld X D)(S:PS X)(no:Nat):List At->List At->List (Nat×Nat)->List X->Option (List (Nat×Nat)×List X)
 | [],[],ρ,acc=>some (ρ,acc)
 |a::r,b::q,ρ,acc=>match mAt B S no a b ρ acc with|some (ρ,acc)=>mAts B S no r q ρ acc|none=>none
 |_,_,_,_=>none
def mArgs (B:Bld X D)(S:PS X)(no:Nat)(az:List At):List (Nat×Sy)->List (Nat×Nat)->List X->Option (List (Nat×Nat)×List X)
 | [],ρ,acc=>some (ρ,acc)
 |(t, .at a)::r,ρ,acc=>(match az[t]? with|some b=>(match mAt B S no a b ρ acc with|some (ρ,acc)=>mArgs B S no az r ρ acc|none=>none)|none=>none)
 |_::_,_,_=>none
def fitE (B:Bld X D)(S:PS X)(E:FE)(az:List At):Option (List (Nat×Nat)×List X):=
 match Nat.beq az.length E.ar&&Nat.beq E.ent.g E.ent.ob.length with
 |true=>match mArgs B S E.ent.g az E.ent.tm [] []with
  |some (ρ,acc)=>match mObs B S E.ent.g E.ent.ob 0 ρ acc with
   |some (ρ,xs)=>(match Nat.beq xs.length E.ent.n with|true=>some (ρ,xs)|false=>none)
   |none=>none
  |none=>none
 |false=>none
def pickE (B:Bld X D)(S:PS X)(az:List At):List FE->Option (FE×List (Nat×Nat)×List X)
 | []=>none
 |E::r=>match fitE B S E az with|some q=>some (E,q)|none=>pickE B S az r
def rnPs (ρ:List (Nat×Nat)):List (Nat×Nat)->Option (List (Nat×Nat))
 | []=>some []
 |(k,off)::r=>match lk ρ k,rnPs ρ r with|some o,some q=>some ((o,off)::q)|_,_=>none
def rnAt (ρ:List (Nat×Nat))(b:Nat):At->Option At
 | .c v o=>some (.c v o)
 | .n i o s=>some (.n (b+i) o s)
 | .ptr k off=>match lk ρ k with|some o=>some (.ptr o off)|none=>none
 | .gp g off=>some (.gp g off)
 | .el i off=>some (.el (b+i) off)
 | .osl k off n c s=>match lk ρ k with|some o=>some (.osl o off n c s)|none=>none
 | .osx k i s=>match lk ρ k with|some o=>some (.osx o (b+i) s)|none=>none
 | .fp m f ps=>match rnPs ρ ps with|some q=>some (.fp m f q)|none=>none
 | .mpp k=>match lk ρ k with|some o=>some (.mpp o)|none=>none
 | .mpc i=>some (.mpc (b+i))
 |_=>none
def Zot (ρ:List (Nat×Nat))(b:Nat):List At->Option (List At)
 | []=>some []
 |a::r=>match rnAt ρ b a,Zot ρ b r with|some x,some l=>some (x::l)|_,_=>none
def Zh5 (ρ:List (Nat×Nat))(b:Nat):List Seg->Option (List Seg)
 | []=>some []
 | .one a::r=>match rnAt ρ b a,Zh5 ρ b r with|some x,some l=>some (.one x::l)|_,_=>none
 | .many n a::r=>match rnAt ρ b a,Zh5 ρ b r with|some x,some l=>some (.many n x::l)|_,_=>none
def rlk :List (Nat×Nat)->Nat->Option Nat
 | [],_=>none
 |(k,o)::r,t=>match Nat.beq o t with|true=>some k|false=>rlk r t
def mapI {α β:Type}(f:Nat->α->β):Nat->List α->List β
 |_,[]=> []
 |i,a::r=>f i a::mapI f (i+1) r
def rnO (ρ:List (Nat×Nat))(b:Nat)(q:Option (Option (List Seg))):Option (List Seg):=match q with|some (some ss)=>Zh5 ρ b ss|_=>none
def newR :Nat->Nat->Nat->List (Nat×Nat)
 |0,_,_=> []
 |n+1,k,o=>(k,o)::newR n (k+1) (o+1)
def PS.after (S:PS X)(g:Nat)(ρ:List (Nat×Nat))(rt:RT)(xs:List X):List (Nat×Nat)×PS X:=
 let ρ':=ρ++newR (rt.ob.length-g) g S.ob.length
 (ρ', {S with vals:=S.vals++xs,ob:=mapI (fun o q=>match rlk ρ' o with|some k=>rnO ρ' S.vals.length rt.ob[k]? |none=>q) 0 (S.ob++List.replicate (rt.ob.length-g) none)})
def putRs (B:Bld X D)(S:PS X)(d:Option Nat)(k:PS X->D):Option (List At)->D
 |some [a]=>k (S.put d (.at a))
 |some az=>k (S.put d (.tup az))
 |none=>B.fail
def unp (B:Bld X D)(v:X):Nat->Nat->Nat->(List X->D)->D
 |0,_,_,k=>k []
 |n+1,i,nx,k=>B.prim (.ext i) [v] nx fun x=>unp B v n (i+1) (nx+1) fun xs=>k (x::xs)
def unpR (B:Bld X D)(tag:Bool)(v:X)(n nx:Nat)(k:List X->D):D:=
 match tag,n with
 |false,1=>k [v]
 |false,n=>unp B v n 0 nx k
 |true,n=>unp B v n 1 nx k
def callRs (B:Bld X D)(S:PS X)(g:Nat)(ρ:List (Nat×Nat))(d:Option Nat)(tag:Bool)(v:X)(rt:RT)(k:PS X->D):D:=
 match Nat.ble g rt.ob.length with
 |true=>unpR B tag v rt.n S.nx fun xs=>putRs B (S.after g ρ rt xs).2 d k (Zot (S.after g ρ rt xs).1 S.vals.length rt.res)
 |false=>B.fail
def swR (B:Bld X D)(t:X)(k:PS X->RT->D):PS X->Int->List RT->D
 |_,_,[]=>B.fail
 |S,_,[rt]=>k S rt
 |S,j,rt::r=>B.prim (.bin .eql .no) [t,B.c (.int .i64 j)] S.nx fun b=>B.ite b (k (S.push b) rt) (swR B t k (S.push b) (j+1) r)
def callE (B:Bld X D)(S:PS X)(d:Option Nat)(k:PS X->D):Option (FE×List (Nat×Nat)×List X)->D
 |some (E,ρ,xs)=>match E.ret with
  |some [rt]=>B.callh E.k xs S.nx fun v=>callRs B (S.push v) E.ent.g ρ d false v rt k
  |some rts=>B.callh E.k xs S.nx fun v=>B.prim (.ext 0) [v] (S.nx+1) fun t=>swR B t (fun S1 rt=>callRs B S1 E.ent.g ρ d true v rt k) ((S.push v).push t) 0 rts
  |none=>B.fail
 |none=>B.fail
def atO (B:Bld X D)(S:PS X)(y:Option Sy)(k:At->PS X->D):D:=
 match y with
 |some (.at a)=>k a S
 |some (.agg _ (some z))=>k (.n z false false) S
 |some (.agg ss none)=>match segVals B S ss with|some (ns,xs)=>B.prim (.cat ns) xs S.nx fun x=>k (.n S.nx false false) (S.push x)|none=>B.fail
 |_=>B.fail
def atsO (B:Bld X D)(S:PS X):List Opd->(List At->PS X->D)->D
 | [],k=>k [] S
 |o::r,k=>atO B S (S.opd o) fun a S1=>atsO B S1 r fun az S2=>k (a.noOwn::az) S2
def At.isPtr :At->Bool
 | .ptr _ _=>true
 | .osl _ _ _ _ _=>true
 | .osx _ _ _=>true
 | .osv _ _ _ _=>true
 | .fp _ _ (_::_)=>true
 | .mpp _=>true
 |_=>false
def Zm4 (S:PS X):List Opd->Option (List (Nat×Nat))
 | []=>some []
 |x::r=>match S.opd x,Zm4 S r with|some (.at (.ptr o off)),some l=>some ((o,off)::l)|_,_=>none
def Z18 (ps:List (Nat×Nat)):List At:=ps.map fun p=> .ptr p.1 p.2
def Zzt (m:Bool)(az:List At)(ps:List (Nat×Nat)):List At:=match m with|true=>Z18 ps++az|false=>az++Z18 ps
def coal (B:Bld X D)(S:PS X)(o off n:Nat)(k:PS X->D):D:=
 match S.cob o with
 |some ss=>match Zdj ss off 0 with
  |some (.many _ _,_,_)=>k S
  |some (.one _,0,i)=>match Zb1 (ss.drop i) n with
   |some q=>(match segVals B S ((ss.drop i).take q)with
    |some (ns,xs)=>B.prim (.cat ns) xs S.nx fun x=>k ((S.push x).setOb o (spl ss i q [.many (some n) (.n S.nx false false)]))
    |none=>B.fail)
   |none=>B.fail
  |_=>B.fail
 |none=>B.fail
def mseg (n:Nat)(a:At):List Seg:=match n with|0=> []|n+1=> [.many (some (n+1)) a]
def splitO (B:Bld X D)(S:PS X)(o off:Nat)(k:PS X->D):D:=
 match S.cob o with
 |some ss=>match Zdj ss off 0 with
  |some (.many (some m) a,r,i)=>match S.valA B a with
   |some x=>B.prim (.ld (some r) 0) [x] S.nx fun y1=>B.prim (.ld none r) [x] (S.nx+1) fun y0=>B.prim (.ld (some (m-r-1)) (r+1)) [x] (S.nx+2) fun y2=>
     k ((((S.push y1).push y0).push y2).setOb o (spl ss i 1 (mseg r (.n S.nx false false)++(.one (.n (S.nx+1) false true)::mseg (m-r-1) (.n (S.nx+2) false false)))))
   |none=>B.fail
  |_=>k S
 |none=>B.fail
def onO (B:Bld X D)(S:PS X)(x:Opd)(k:Sy->D):D:=match S.opd x with|some y=>k y|none=>B.fail
def Zct (b:Bool):Sy:= .at (.c (.bool b) false)
def Z97 (n:Nat):Sy:= .at (.c (.int .i64 n) false)
def rowVal (B:Bld X D)(S:PS X)(o:Nat):Option X:=match S.cob o with|some [.many none a]=>S.valA B a|_=>none
def PS.dropOb (S:PS X)(o:Nat):PS X:= {S with ob:=S.ob.set o none}
def Ztp :Option Sy->Bool
 |some (.at (.osl _ _ _ _ _))=>true
 |some (.at (.osc _ _ _ _ _))=>true
 |some (.at (.osx _ _ _))=>true
 |some (.at (.osv _ _ _ _))=>true
 |_=>false
def snapO (B:Bld X D)(S:PS X)(y:Option Sy)(k:X->PS X->D):D:=
 match y with
 |some (.at (.osl o off n _ 1))=>(match S.cob o,Nat.blt 0 n with
  |some ss,true=>(match Zdj ss off 0 with
   |some (.many _ a,r,_)=>mat B S (some (.at a)) fun x S1=>B.prim (.snap r n) [x] S1.nx fun z=>k z (S1.push z)
   |_=>B.fail)
  |_,_=>B.fail)
 |some (.at (.osc o off n i 1))=>(match S.cob o,S.vals[i]? with
  |some ss,some j=>(match Zdj ss off 0 with
   |some (.many _ a,r,_)=>mat B S (some (.at a)) fun x S1=>B.prim (.snapd r n) [x,j] S1.nx fun z=>k z (S1.push z)
   |_=>B.fail)
  |_,_=>B.fail)
 |some (.at (.osx o j sz))=>(match rowVal B S o,S.vals[j]?,sz with
  |some c,some n,1=>B.prim .snapx [c,n] S.nx fun z=>k z (S.push z)
  |some c,some n,sz=>B.prim (.snapv sz) [c,B.c (.int .i64 0),n] S.nx fun z=>k z (S.push z)
  |_,_,_=>B.fail)
 |some (.at (.osv o i j sz))=>(match rowVal B S o,S.vals[i]?,S.vals[j]? with
  |some c,some a,some b=>B.prim (.snapv sz) [c,a,b] S.nx fun z=>k z (S.push z)
  |_,_,_=>B.fail)
 |y=>mat B S y k
def Zzb (sz:Nat):Option Sy->Bool
 |some (.at (.osl _ _ _ _ s))=>Nat.beq s sz
 |some (.at (.osc _ _ _ _ s))=>Nat.beq s sz
 |some (.at (.osx _ _ s))=>Nat.beq s sz
 |some (.at (.osv _ _ _ s))=>Nat.beq s sz
 |some (.at (.n _ _ _))=>true
 |some (.at (.c _ _))=>true
 |some (.agg _ _)=>true
 |_=>false
def Zvv :Option Sy->Bool
 |some (.at (.osx _ _ _))=>true
 |some (.at (.osv _ _ _ _))=>true
 |_=>false
def snapA (B:Bld X D):Bool->PS X->List Opd->(List X->PS X->D)->D
 |_,S,[],k=>k [] S
 |fl,S,o::r,k=>match fl&&Zvv (S.opd o)with
  |true=>B.fail
  |false=>snapO B S (S.opd o) fun x S1=>snapA B (fl||Zvv (S.opd o)) S1 r fun xs S2=>k (x::xs) S2
def Z89 (S:PS X)(xs:List Opd):Bool:=xs.any fun x=>match S.opd x with|some (.at a)=>a.isPtr|_=>false
def mapV (B:Bld X D)(S:PS X):Option Sy->Option X
 |some (.at (.mpp o))=>(S.mpo o).bind fun i=>S.vals[i]?
 |some (.at (.c .nilmap _))=>some (B.c (mpV []))
 |_=>none
def op1 (B:Bld X D)(ow:Cfg)(d:Option Nat)(op:AOp)(S:PS X)(k:PS X->D):D:=
 match op with
 | .mv x=>onO B S x fun y=>k (S.put d y.noOwn)
 | .mvo t=>match S.get t with|some (.at a)=>k ((S.disown t).put d (.at a))|_=>B.fail
 | .pick c a b=>
  match S.truth (S.opd c)with
  |some true=>onO B S a fun y=>k (S.put d y.noOwn)
  |some false=>onO B S b fun y=>k (S.put d y.noOwn)
  |none=>doP B S .pick [c,a,b] d false k
 | .un op x=>
  match op,S.truth (S.opd x)with
  | .not,some b=>k (S.put d (Zct !b))
  |op,_=>doP B S (.un op) [x] d false k
 | .bin op q x y=>
  match q with
  | .slice=>
   match op,y with
   | .eql, .const (.sl true _ [])=>(match S.opd x with
    |some (.at (.osx _ j _))=>(match S.vals[j]? with|some n=>B.prim .chkd [n,B.c (.int .i64 0)] S.nx fun q=>k ((S.push q).put d (Zct false))|none=>B.fail)
    |y0=>mat B S y0 fun v S1=>B.amb v (k (S1.put d (Zct true))) (k (S1.put d (Zct false))))
   | .neq, .const (.sl true _ [])=>(match S.opd x with
    |some (.at (.osx _ j _))=>(match S.vals[j]? with|some n=>B.prim .chkd [n,B.c (.int .i64 0)] S.nx fun q=>k ((S.push q).put d (Zct true))|none=>B.fail)
    |y0=>mat B S y0 fun v S1=>B.amb v (k (S1.put d (Zct false))) (k (S1.put d (Zct true))))
   |_,_=>B.fail
  | .ptr=>
   match S.opd x,S.opd y with
   |some (.at (.ptr _ _)),some (.at (.c .nilptr _))=>(match op with| .eql=>k (S.put d (Zct false))| .neq=>k (S.put d (Zct true))|_=>B.fail)
   |some (.at (.c .nilptr _)),some (.at (.c .nilptr _))=>(match op with| .eql=>k (S.put d (Zct true))| .neq=>k (S.put d (Zct false))|_=>B.fail)
   |_,_=>B.fail
  |q=>
   match S.opd x,S.opd y with
   |some (.at (.c v _)),some (.at (.c w _))=>(match abin op q v w with|some z=>k (S.put d (.at (.c z false)))|none=>B.fail)
   |_,_=>doP B S (.bin op q) [x,y] d false k
 | .len s x=>
  match s,S.opd x with
  |false,some (.at (.osl _ _ n _ _))=>k (S.put d (Z97 n))
  |false,some (.at (.osx _ i _))=>k (S.put d (.at (.n i false true)))
  |false,some (.at (.osv _ i j _))=>(match S.vals[i]?,S.vals[j]? with|some a,some b=>doX B S .vlen [a,b] d false k|_,_=>B.fail)
  |s,_=>doP B S (.len s) [x] d false k
 | .iaddr sz x i=>
  match S.opd x with
  |some (.at (.osx o j s))=>
   (match Nat.beq s sz,S.vals[j]? with
   |true,some n=>matL B S [i] fun xs S1=>B.prim .chkd (n::xs) S1.nx fun q=>k ((S1.push q).put d (.at (.ptd o 0 S1.nx sz)))
   |_,_=>B.fail)
  |some (.at (.osv o i' j' s))=>
   (match Nat.beq s sz,S.vals[i']?,S.vals[j']? with
   |true,some a,some b=>matL B S [i] fun xs S1=>B.prim .vidx (a::b::xs) S1.nx fun q=>k ((S1.push q).put d (.at (.ptd o 0 S1.nx sz)))
   |_,_,_=>B.fail)
  |some (.at (.osl o off n _ s))=>
   (match Nat.beq s sz with
   |true=>matL B S [i] fun xs S1=>B.prim (.chk n) xs S1.nx fun j=>k ((S1.push j).put d (.at (.ptd o off S1.nx sz)))
   |false=>B.fail)
  |_=>matL B S [x,i] fun xs S1=>B.prim (.elem sz) xs S1.nx fun e=>k ((S1.push e).put d (.at (.el S1.nx 0)))
 | .iarr n sz x i=>
  match S.opd x,i with
  |some (.at (.ptr o off)), .const (.int _ (.ofNat j))=>(match Nat.blt j n with|true=>k (S.put d (.at (.ptr o (off+j*sz))))|false=>B.fail)
  |some (.at (.ptr o off)),i=>coal B S o off (n*sz) fun S=>matL B S [i] fun xs S1=>B.prim (.chk n) xs S1.nx fun j=>k ((S1.push j).put d (.at (.ptd o off S1.nx sz)))
  |some (.at (.gp o off)),i=>matL B S [i] fun xs S1=>B.prim (.chk n) xs S1.nx fun j=>k ((S1.push j).put d (.at (.gpd o off S1.nx sz)))
  |_,_=>B.fail
 | .faddr off x=>
  match S.opd x with
  |some (.at (.ptr o a))=>k (S.put d (.at (.ptr o (a+off))))
  |some (.at (.el i a))=>k (S.put d (.at (.el i (a+off))))
  |some (.at (.ptd o b i sz))=>k (S.put d (.at (.ptd o (b+off) i sz)))
  |some (.at (.gp g a))=>k (S.put d (.at (.gp g (a+off))))
  |_=>B.fail
 | .load n x=>
  match S.opd x with
  |some (.at (.ptr o off))=>(match S.cob o with|some ss=>ldAt B S ss off n d k|none=>B.fail)
  |some (.at (.ptd o b i sz))=>(match S.cob o with
   |some ss=>(match Zdj ss b 0,S.vals[i]? with
    |some (.many _ a,r,_),some j=>mat B S (some (.at a)) fun x S1=>doX B S1 (.ldd n r sz) [x,j] d false k
    |_,_=>B.fail)
   |none=>B.fail)
  |some (.at (.el i off))=>(match S.vals[i]? with|some x=>doX B S (.ld n off) [x] d false k|none=>B.fail)
  |some (.at (.gp g off))=>(match ow.gl g with|some cs=>doX B S (.ld n off) [B.c (.agg cs)] d false k|none=>B.fail)
  |some (.at (.gpd g b i sz))=>(match ow.gl g,S.vals[i]? with|some cs,some j=>doX B S (.ldd n b sz) [B.c (.agg cs),j] d false k|_,_=>B.fail)
  |_=>B.fail
 | .ldp n x=>
  match S.opd x with
  |some (.at (.el i off))=>(match S.vals[i]? with|some x=>doX B S (.ld n off) [x] d false k|none=>B.fail)
  |some (.at (.gp g off))=>(match ow.gl g with|some cs=>doX B S (.ld n off) [B.c (.agg cs)] d false k|none=>B.fail)
  |some (.at (.gpd g b i sz))=>(match ow.gl g,S.vals[i]? with|some cs,some j=>doX B S (.ldd n b sz) [B.c (.agg cs),j] d false k|_,_=>B.fail)
  |_=>B.fail
 | .ldo x=>
  match S.opd x with
  |some (.at (.ptr o off))=>(match S.cob o with
   |some ss=>(match Zdj ss off 0 with
    |some (.one a,0,i)=>k ((S.setOb o (spl ss i 1 [.one a.noOwn])).put d (.at a))
    |_=>B.fail)
   |none=>B.fail)
  |_=>B.fail
 | .fld n off x=>
  match S.opd x with
  |some (.agg ss _)=>ldAt B S ss off n d k
  |_=>doP B S (.fld n off) [x] d false k
 | .slca n sz x lo hi mx=>
  match S.opd x,lo,hi,mx with
  |some (.at (.ptr o off)),none,none,none=>(match S.cob o with
   |some ss=>(match Zdj ss off 0 with
    |some (.many (some m) _,r,i)=>(match Nat.ble (r+n*sz) m,Nat.blt 0 (n*sz)with|true,true=>k (S.put d (.at (.osl o off n n sz)))|_,_=>B.fail)
    |some (_,0,i)=>(match Zb1 (ss.drop i) (n*sz),Nat.blt 0 (n*sz)with|some _,true=>k (S.put d (.at (.osl o off n n sz)))|_,_=>B.fail)
    |_=>B.fail)
   |none=>B.fail)
  |_,_,_,_=>B.fail
 | .slc sz x lo hi mx=>
  match S.opd x with
  |some (.at (.osv o i j s))=>(match Nat.beq s sz,lo,hi,mx,S.vals[i]?,S.vals[j]? with
   |true,some l,none,none,some a,some b=>matL B S [l] fun xs S1=>B.prim .vadd (a::b::xs) S1.nx fun q=>k ((S1.push q).put d (.at (.osv o S1.nx j sz)))
   |true,none,some h,none,some a,some b=>matL B S [h] fun xs S1=>B.prim .vadd (a::b::xs) S1.nx fun q=>k ((S1.push q).put d (.at (.osv o i S1.nx sz)))
   |_,_,_,_,_,_=>B.fail)
  |some (.at (.osx o j s))=>(match Nat.beq s sz,lo,hi,mx,S.vals[j]? with
   |true,some l,none,none,some n=>(match Nat.beq sz 1 with
    |true=>matL B S [l] fun xs S1=>B.prim .chkd (n::xs) S1.nx fun q=>k ((S1.push q).put d (.at (.osr o j S1.nx sz)))
    |false=>matL B S [l] fun xs S1=>B.prim .vadd (B.c (.int .i64 0)::n::xs) S1.nx fun q=>k ((S1.push q).put d (.at (.osv o S1.nx j sz))))
   |true,none,some h,none,some n=>matL B S [h] fun xs S1=>B.prim .chkl (n::xs) S1.nx fun q=>k ((S1.push q).put d (.at (.osx o S1.nx sz)))
   |_,_,_,_,_=>B.fail)
  |some (.at (.osl o off n c s))=>(match Nat.beq s sz&&Nat.ble n c,lo,hi,mx with
   |true,some l,none,none=>matL B S [l] fun xs S1=>B.prim (.chk n) xs S1.nx fun q=>k ((S1.push q).put d (.at (.osc o off n S1.nx sz)))
   |_,_,_,_=>B.fail)
  |_=>doP B S (.slc sz lo.isSome hi.isSome mx.isSome) (x::(optL lo++optL hi++optL mx)) d mx.isSome k
 | .nro sz=>k (((S.push (B.c (.int .i64 0))).newOb [.many none (.c (.agg []) false)]).put d (.at (.osx S.ob.length S.nx sz)))
 | .mko sz z l c=>
  match sz,z with
  |1,[z0]=>(match z0.flatR with
   |true=>matL B S [l,c] fun xs S1=>B.prim (.rmk z0) xs S1.nx fun y=>(match xs with
    |n::_=>B.prim (.rlen 1) [n,B.c (.sl false 1 [])] (S1.nx+1) fun m=>k ((((S1.push y).push m).newOb [.many none (.n S1.nx false false)]).put d (.at (.osx S.ob.length (S1.nx+1) 1)))
    | []=>B.fail)
   |false=>B.fail)
  |_,_=>B.fail
 | .appo sz s x=>
  match S.opd s with
  |some (.at (.osx o j s'))=>(match Nat.beq s' sz&&Zzb sz (S.opd x),rowVal B S o,S.vals[j]? with
   |true,some c,some n=>snapO B S (S.opd x) fun v S1=>B.prim (.rapp sz) [c,n,v] S1.nx fun y=>B.prim (.rlen sz) [n,v] (S1.nx+1) fun m=>
      k (((((S1.push y).push m).dropOb o).newOb [.many none (.n S1.nx false false)]).put d (.at (.osx S.ob.length (S1.nx+1) sz)))
   |_,_,_=>B.fail)
  |_=>B.fail
 | .cpy x s=>
  match S.opd x with
  |some (.at (.osl o off n _ 1))=>(match S.cob o,Nat.blt 0 n with
   |some ss,true=>(match Zdj ss off 0 with
    |some (.many sn a,r,i)=>mat B S (some (.at a)) fun c S1=>matL B S1 [s] fun xs S2=>(match xs with
     | [v]=>B.prim (.cpya r n) [c,v] S2.nx fun w=>B.prim (.cpyn n) [v] (S2.nx+1) fun m=>
       k ((((S2.push w).push m).setOb o (spl ss i 1 [.many sn (.n S2.nx false false)])).put d (.at (.n (S2.nx+1) false true)))
     |_=>B.fail)
    |_=>B.fail)
   |_,_=>B.fail)
  |_=>B.fail
 | .clr z x=>
  match S.opd x,z with
  |some (.at (.osr o j i 1)),[z0]=>(match rowVal B S o,S.vals[j]?,S.vals[i]?,z0.flatR with
   |some c,some n,some p,true=>B.prim (.clrx z0) [c,n,p] S.nx fun w=>k (((S.push w).setOb o [.many none (.n S.nx false false)]).put d (.at .nil))
   |_,_,_,_=>B.fail)
  |some (.at (.osl o off n _ 1)),[z0]=>(match S.cob o,Nat.blt 0 n&&z0.flatR with
   |some ss,true=>(match Zdj ss off 0 with
    |some (.many sn a,r,i)=>mat B S (some (.at a)) fun c S1=>B.prim (.clra z0 r n) [c] S1.nx fun w=>
       k (((S1.push w).setOb o (spl ss i 1 [.many sn (.n S1.nx false false)])).put d (.at .nil))
    |_=>B.fail)
   |_,_=>B.fail)
  |_,_=>B.fail
 | .build z ps=>bldP B S z ps d k
 | .app sz s x=>
  match S.opd s with
  |some (.at a)=>match a.owned with
   |true=>matL B S [s,x] fun xs S1=>doX B (match s with| .tmp t=>S1.disown t| .const _=>S1) (.app sz) xs d true k
   |false=>B.fail
  |_=>B.fail
 | .b2s x=>
  match S.opd x with
  |some (.at (.osx o j 1))=>(match rowVal B S o,S.vals[j]? with|some c,some n=>doX B S .b2sx [c,n] d false k|_,_=>B.fail)
  |some (.at (.osl o off n _ 1))=>(match S.cob o with
   |some ss=>(match Zdj ss off 0 with
    |some (.many _ a,r,_)=>mat B S (some (.at a)) fun x S1=>doX B S1 (.b2so r n) [x] d false k
    |_=>B.fail)
   |none=>B.fail)
  |_=>doP B S .b2s [x] d false k
 | .s2a n x=>matL B S [x] fun xs S1=>B.prim (.s2a n) xs S1.nx fun e=>k ((S1.push e).put d (.at (.el S1.nx 0)))
 | .nilck x=>
  match S.opd x with
  |some (.at (.ptr o a))=>k (S.put d (.at (.ptr o a)))
  |some (.at (.el i a))=>k (S.put d (.at (.el i a)))
  |_=>B.fail
 | .call f xs=>
  match xs.any fun x=>Ztp (S.opd x)with
  |false=>matL B S xs fun ys S1=>B.call f ys S1.nx fun r=>k ((S1.push r).put d (.at (.n S1.nx (ow.ow f) false)))
  |true=>snapA B false S xs fun ys S1=>B.call f ys S1.nx fun r=>B.prim .flr [r] (S1.nx+1) fun z=>k (((S1.push r).push z).put d (.at (.n (S1.nx+1) false false)))
 | .callh f xs=>atsO B S xs fun az S1=>callE B S1 d k (pickE B S1 az (ow.he f))
 | .callvh f xs=>
  match S.opd f with
  |some (.at (.fp m g ps))=>atsO B S xs fun az S1=>(match(Zzt m az ps).any At.isPtr with|true=>callE B S1 d k (pickE B S1 (Zzt m az ps) (ow.he g))|false=>B.fail)
  |some (.at (.c (.fn g []) o))=>
   (match ow.he g with
   | []=>matL B S xs fun ys S1=>B.call g ys S1.nx fun r=>k ((S1.push r).put d (.at (.n S1.nx (ow.ow g) false)))
   |es=>match Z89 S xs with
    |true=>atsO B S xs fun az S1=>(match az.any At.isPtr with|true=>callE B S1 d k (pickE B S1 az es)|false=>B.fail)
    |false=>matL B S xs fun ys S1=>B.call g ys S1.nx fun r=>k ((S1.push r).put d (.at (.n S1.nx (ow.ow g) false))))
  |some (.at a)=>matL B S xs fun ys S1=>(match S1.valA B a with|some v=>B.callv v ys S1.nx fun r=>k ((S1.push r).put d (.at (.n S1.nx false false)))|none=>B.fail)
  |_=>B.fail
 | .mkf f xs=>
  match Zm4 S xs with
  |some (p::ps)=>k (S.put d (.at (.fp false f (p::ps))))
  |_=>doP B S (.fn f) xs d false k
 | .mkm f xs=>
  match Zm4 S xs with
  |some (p::ps)=>k (S.put d (.at (.fp true f (p::ps))))
  |_=>B.fail
 | .ext t i=>
  match S.opd t with
  |some (.tup az)=>(match az[i]? with|some a=>k (S.put d (.at a.noOwn))|none=>B.fail)
  |_=>doP B S (.ext i) [t] d false k
 | .new cs=>match grp (cs.length+1) cs with|some ss=>k ((S.newOb ss).put d (.at (.ptr S.ob.length 0)))|none=>B.fail
 | .box x=>
  match S.opd x with
  |some (.agg ss _)=>k ((S.newOb (ss.map Seg.noOwn)).put d (.at (.ptr S.ob.length 0)))
  |some (.tup _)=>B.fail
  |some (.at a)=>(match a.one with
   |true=>k ((S.newOb [.one a.noOwn]).put d (.at (.ptr S.ob.length 0)))
   |false=>mat B S (some (.at a)) fun x S1=>B.prim .scs [x] S1.nx fun z=>k (((S1.push z).newOb [.many none (.n S1.nx false false)]).put d (.at (.ptr S.ob.length 0))))
  |none=>B.fail
 | .store n a x=>
  match S.opd a with
  |some (.at (.ptr o off))=>(match S.cob o,S.opd x with
   |some ss,some y=>stAt B S o ss off n y d k
   |_,_=>B.fail)
  |some (.at (.ptd o b i sz))=>(match S.cob o with
   |some ss=>(match Zdj ss b 0,S.vals[i]? with
    |some (.many sn a,r,p),some j=>mat B S (some (.at a)) fun c S1=>mat B S1 (S1.opd x) fun y S2=>
      B.prim (.std n r sz) [c,j,y] S2.nx fun w=>k (((S2.push w).setOb o (spl ss p 1 [.many sn (.n S2.nx false false)])).put d (.at .nil))
    |_,_=>B.fail)
   |none=>B.fail)
  |_=>B.fail
 | .sto a t=>
  match S.opd a,S.get t with
  |some (.at (.ptr o off)),some (.at y)=>splitO B S o off fun S=>(match S.cob o with
   |some ss=>(match Zdj ss off 0,y.one with
    |some (.one _,0,i),true=>k (((S.disown t).setOb o (spl ss i 1 [.one y])).put d (.at .nil))
    |_,_=>B.fail)
   |none=>B.fail)
  |_,_=>B.fail
 | .nmp=>k ((S.push (B.c (mpV []))).newOb [.one (.mpc S.nx)]|>.put d (.at (.mpp S.ob.length)))
 | .mlk q z ok m kk=>
  match mapV B S (S.opd m),z.nf.clean with
  |some M,true=>mat B S (S.opd kk) fun x S1=>doX B S1 (.mlk q z.nf ok) [M,x] d false k
  |_,_=>B.fail
 | .mln m=>match mapV B S (S.opd m)with|some M=>doX B S .mln [M] d false k|none=>B.fail
 | .mup q m kk x=>
  match S.opd m with
  |some (.at (.mpp o))=>(match mapV B S (S.opd m)with
   |some M=>matL B S [kk,x] fun xs S1=>(match xs with
    | [y,w]=>B.prim (.mup q) [M,y,w] S1.nx fun M'=>k (((S1.push M').setOb o [.one (.mpc S1.nx)]).put d (.at .nil))
    |_=>B.fail)
   |none=>B.fail)
  |_=>B.fail
 |op=>match Zi7 op with|some (p,xs,own)=>doP B S p xs d own k|none=>B.fail
def opG (B:Bld X D)(ow:Cfg)(o:AOper)(S:PS X)(k:PS X->D):D:=
 match o.guard with
 |none=>op1 B ow o.dst o.op S k
 |some (t,w)=>
  match S.get t with
  |some (.at .nil)=>k (S.put o.dst (.at .nil))
  |y=>
   match S.truth y with
   |some b=>(match Bool.xor b w with|false=>op1 B ow o.dst o.op S k|true=>k (S.put o.dst (.at .nil)))
   |none=>
    match y with
    |some (.at (.n i _ _))=>
     (match S.vals[i]? with
     |some x=>
      (match w with
      |true=>B.ite x (op1 B ow o.dst o.op (S.know i true) k) (k ((S.know i false).put o.dst (.at .nil)))
      |false=>B.ite x (k ((S.know i true).put o.dst (.at .nil))) (op1 B ow o.dst o.op (S.know i false) k))
     |none=>B.fail)
    |_=>B.fail
def opsG (B:Bld X D)(ow:Cfg):List AOper->PS X->(PS X->D)->D
 | [],S,k=>k S
 |o::r,S,k=>opG B ow o S fun S'=>opsG B ow r S' k
def mTm (B:Bld X D)(S:PS X)(no:Nat):List (Nat×Sy)->List (Nat×Nat)->List X->Option (List (Nat×Nat)×List X)
 | [],ρ,acc=>some (ρ,acc)
 |(t, .at a)::r,ρ,acc=>
  (match S.get t with
  |some (.at b)=>match mAt B S no a b ρ acc with|some (ρ,acc)=>mTm B S no r ρ acc|none=>none
  |some (.agg _ (some z))=>match mAt B S no a (.n z false false) ρ acc with|some (ρ,acc)=>mTm B S no r ρ acc|none=>none
  |_=>none)
 |(t, .agg ss none)::r,ρ,acc=>
  (match S.get t with
  |some (.agg qs _)=>match mSegs B S no ss qs ρ acc with|some (ρ,acc)=>mTm B S no r ρ acc|none=>none
  |_=>none)
 |(_, .agg _ (some _))::_,_,_=>none
 |(_, .tup _)::_,_,_=>none
def idR :Nat->List (Nat×Nat)
 |0=> []
 |n+1=>idR n++ [(n,n)]
def jump (B:Bld X D)(m:Nat)(T:PT)(S:PS X):D:=
 match mTm B S T.ob.length T.tm (idR S.g) []with
 |some (ρ,acc)=>match mObs B S T.ob.length T.ob 0 ρ acc with
  |some (_,xs)=>match Nat.beq xs.length T.n&&(Nat.beq T.g S.g&&Nat.ble T.g T.ob.length&&Nat.ble S.g S.ob.length)with|true=>B.jmp m xs|false=>B.fail
  |none=>B.fail
 |none=>B.fail
def PT.start (T:PT)(xs:List X):PS X:=⟨xs,[],T.tm,T.ob,T.g⟩
def ACode.size :ACode->Nat
 | .seq a b=>a.size+b.size+1
 | .cond _ a b=>a.size+b.size+1
 | .block _ b=>b.size+1
 | .loop b=>b.size+1
 |_=>1
def pe (B:Bld X D)(ow:Cfg)(L:List (Nat×PT)):ACode->Nat->PS X->(Ex->PS X->D)->D
 | .skip,_,S,k=>k .normal S
 | .region os _,_,S,k=>opsG B ow os S (k .normal)
 | .seq a b,n,S,k=>pe B ow L a (n+1) S fun e S'=>
   match e with
   | .normal=>(match lk L (n+1+a.size)with|some T=>jump B (n+1+a.size) T S'|none=>pe B ow L b (n+1+a.size) S' k)
   |e=>k e S'
 | .cond c a b,n,S,k=>
  match S.truth (S.opd c)with
  |some true=>pe B ow L a (n+1) S k
  |some false=>pe B ow L b (n+1+a.size) S k
  |none=>
   match S.opd c with
   |some (.at (.n i _ _))=>(match S.vals[i]? with
    |some x=>B.ite x (pe B ow L a (n+1) (S.know i true) k) (pe B ow L b (n+1+a.size) (S.know i false) k)
    |none=>B.fail)
   |_=>B.fail
 | .block id b,n,S,k=>pe B ow L b (n+1) S fun e S'=>k (e.inBlock id) S'
 | .loop _,n,S,_=>match lk L n with|some T=>jump B n T S|none=>B.fail
 | .exit id,_,S,k=>k (.exit id) S
 | .ret,_,S,k=>k .ret S
 | .fail,_,_,_=>B.fail
def peL (B:Bld X D)(ow:Cfg)(L:List (Nat×PT))(c:ACode)(n:Nat)(S:PS X)(k:Ex->PS X->D):D:=
 match c with
 | .loop b=>pe B ow L b (n+1) S fun e S'=>
   match e with
   | .normal=>(match lk L n with|some T=>jump B n T S'|none=>B.fail)
   |e=>k e S'
 |c=>pe B ow L c n S k
def peAt (B:Bld X D)(ow:Cfg)(L:List (Nat×PT))(m:Nat):ACode->Nat->PS X->(Ex->PS X->D)->D
 | .seq a b,n,S,k=>
  match Nat.blt m (n+1+a.size)with
  |true=>peAt B ow L m a (n+1) S fun e S'=>
   match e with
   | .normal=>(match lk L (n+1+a.size)with|some T=>jump B (n+1+a.size) T S'|none=>pe B ow L b (n+1+a.size) S' k)
   |e=>k e S'
  |false=>match Nat.beq m (n+1+a.size)with
   |true=>peL B ow L b (n+1+a.size) S k
   |false=>peAt B ow L m b (n+1+a.size) S k
 | .cond _ a b,n,S,k=>
  match Nat.blt m (n+1+a.size)with
  |true=>peAt B ow L m a (n+1) S k
  |false=>peAt B ow L m b (n+1+a.size) S k
 | .block id b,n,S,k=>peAt B ow L m b (n+1) S fun e S'=>k (e.inBlock id) S'
 | .loop b,n,S,k=>
  match Nat.beq m n with
  |true=>peL B ow L (.loop b) n S k
  |false=>peAt B ow L m b (n+1) S fun e S'=>
   match e with
   | .normal=>(match lk L n with|some T=>jump B n T S'|none=>B.fail)
   |e=>k e S'
 |_,_,_,_=>B.fail
def resR (B:Bld X D)(S:PS X)(r:RS)(k:X->PS X->D):D:=
 match r with
 | .t t=>mat B S (S.get t) k
 | .c t n=>match S.get t with
  |some (.at (.ptr o off))=>(match S.cob o with
   |some ss=>ldY B S ss off n fun y S1=>mat B S1 (some y) k
   |none=>B.fail)
  |_=>B.fail
def resL (B:Bld X D)(S:PS X):List RS->List X->D
 | [],acc=>B.ret acc
 |r::rs,acc=>resR B S r fun x S1=>resL B S1 rs (acc++ [x])
def resK (B:Bld X D)(own:Bool)(res:List RS)(e:Ex)(S:PS X):D:=
 match e with
 | .exit _=>B.fail
 |_=>
  match own with
  |false=>resL B S res []
  |true=>match res with
   | [.t t]=>(match S.get t with
    |some (.at a)=>(match a.owned with|true=>resL B S res []|false=>B.fail)
    |_=>B.fail)
   |_=>B.fail
def resA (B:Bld X D)(S:PS X):List RS->(List At->PS X->D)->D
 | [],k=>k [] S
 | .t t::rs,k=>atO B S (S.get t) fun a S1=>resA B S1 rs fun az S2=>k (a::az) S2
 | .c t n::rs,k=>match S.get t with
  |some (.at (.ptr o off))=>(match S.cob o with
   |some ss=>ldY B S ss off n fun y S1=>atO B S1 (some y) fun a S2=>resA B S2 rs fun az S3=>k (a::az) S3
   |none=>B.fail)
  |_=>B.fail
def fitR (B:Bld X D)(S:PS X)(az:List At)(rt:RT):Option (List X):=
 match Nat.ble S.g rt.ob.length&&Nat.ble S.g S.ob.length with
 |true=>match mAts B S rt.ob.length rt.res az (idR S.g) []with
  |some (ρ,acc)=>match mObs B S rt.ob.length rt.ob 0 ρ acc with
   |some (_,xs)=>(match Nat.beq xs.length rt.n with|true=>some xs|false=>none)
   |none=>none
  |none=>none
 |false=>none
def dum (B:Bld X D):List X->List X
 | []=> [B.c (.bool true)]
 |xs=>xs
def retT (B:Bld X D)(S:PS X)(az:List At):Int->List RT->D
 |_,[]=>B.fail
 |j,rt::r=>match fitR B S az rt with|some xs=>B.ret (B.c (.int .i64 j)::dum B xs)|none=>retT B S az (j+1) r
def retP (B:Bld X D)(S:PS X)(az:List At):List RT->D
 | [rt]=>match fitR B S az rt with|some xs=>B.ret xs|none=>B.fail
 |rts=>retT B S az 0 rts
def oneA :List At->List At
 | [a]=> [a]
 |az=>az.map At.noOwn
def resH (B:Bld X D)(rts:List RT)(res:List RS)(e:Ex)(S:PS X):D:=
 match e with
 | .exit _=>B.fail
 |_=>resA B S res fun az S1=>retP B S1 (oneA az) rts
def resE (B:Bld X D)(E:FE)(res:List RS)(e:Ex)(S:PS X):D:=
 match E.ret with
 |none=>resK B E.own res e S
 |some rts=>resH B rts res e S
def params :Nat->List (Nat×Sy)
 |0=> []
 |n+1=>params n++ [(n, .at (.n n false false))]
def Z1g (n:Nat):PT:=⟨n,params n,[],0⟩
def peF (B:Bld X D)(ow:Cfg)(F:AFn)(E:FE)(l:Nat)(xs:List X):D:=
 match l with
 |0=>(match Nat.beq xs.length E.ar&&Nat.ble E.ar F.n&&Nat.beq E.k E.f&&E.ret.isNone with
  |true=>pe B ow E.lab F.body 2 ((Z1g E.ar).start xs) (resE B E F.res)
  |false=>B.fail)
 |1=>(match Nat.beq xs.length E.ent.n&&Nat.ble E.ar F.n&&E.ret.isSome with
  |true=>pe B ow E.lab F.body 2 (E.ent.start xs) (resE B E F.res)
  |false=>B.fail)
 |l+2=>
  match lk E.lab (l+2)with
  |some T=>(match Nat.beq xs.length T.n with
   |true=>peAt B ow E.lab (l+2) F.body 2 (T.start xs) (resE B E F.res)
   |false=>B.fail)
  |none=>B.fail
end
end Go.Abs
namespace Go.Abs
theorem Zgv {v:V}{b:Bool}{sz:Nat}{l:List V}(h:v.nf= .sl b sz l):b=false/\ ∃nl xs,v= .sl nl sz xs/\nfL xs=l/\(nl=true->xs=[]):=by
 cases v<;>simp_all[V.nf]
 rename_i nl sz' xs
 cases nl<;>cases xs<;>simp_all[V.nf,nfL]
theorem Zd1 {v:V}(h:v.nf= .nilptr):v= .nilptr:=by
 cases v<;>simp_all[V.nf]
 all_goals (rename_i nl sz xs;cases nl<;>cases xs<;>simp[V.nf]at h)
theorem Zib {v:V}(h:v.nf= .nilif):v= .nilif:=by
 cases v<;>simp_all[V.nf]
 all_goals (rename_i nl sz xs;cases nl<;>cases xs<;>simp[V.nf]at h)
theorem Zr4 {v w:V}{t:Nat}(h:v.nf= .iface t w):∃u,v= .iface t u:=by
 cases v<;>simp_all[V.nf]
 all_goals (rename_i nl sz xs;cases nl<;>cases xs<;>simp[V.nf]at h)
theorem Zvp {op:BinOp}{q:EqK}(hq:q≠ .slice){x y z:V}(h:abin op q x.nf y.nf=some z):abin op q x y=some z:=by
 have key:∀v:V,(∃k n,v= .int k n) \/(∃s,v= .str s) \/((∀k n,v≠ .int k n)/\(∀s,v≠ .str s)/\(∀k n,v.nf≠ .int k n)/\(∀s,v.nf≠ .str s)):=by
  intro v
  cases v with
  |int k n=>exact .inl ⟨k,n,rfl⟩
  |str s=>exact .inr (.inl ⟨s,rfl⟩)
  |sl nl sz xs=>cases nl<;>cases xs<;>exact .inr (.inr ⟨fun _ _ h=>(by cases h),fun _ h=>(by cases h),fun _ _ h=>(by simp[V.nf]at h),fun _ h=>(by simp[V.nf]at h)⟩)
  |_=>exact .inr (.inr ⟨fun _ _ h=>(by cases h),fun _ h=>(by cases h),fun _ _ h=>(by simp[V.nf]at h),fun _ h=>(by simp[V.nf]at h)⟩)
 have veq:∀a b:V,((∀k n,a≠ .int k n) \/(∀k n,b≠ .int k n))->((∀s,a≠ .str s) \/(∀s,b≠ .str s))->abin op q a b=vEq op (aeq q a b):=by
  intro a b h1 h2
  unfold abin
  split
  ·rcases h1 with h1|h1<;>exact absurd rfl (h1 _ _)
  ·rcases h2 with h2|h2<;>exact absurd rfl (h2 _)
  ·cases q<;>first|exact absurd rfl hq|(cases op<;>rfl)
  ·rfl
 have aeqnf:∀{b:Bool},aeq q x.nf y.nf=some b->aeq q x y=some b:=by
  intro b hb
  cases q with
  |slice=>exact absurd rfl hq
  |no=>simp[aeq]at hb
  |fn=>simp[aeq]at hb
  |bool=>
   cases hx:x.nf<;>rw[hx]at hb<;>cases hy:y.nf<;>rw[hy]at hb<;>simp[aeq]at hb
   rw[Zcd hx,Zcd hy];simp[aeq,hb]
  |flat ks=>
   cases hx:x.nf<;>rw[hx]at hb<;>cases hy:y.nf<;>rw[hy]at hb<;>simp only[aeq,reduceCtorEq]at hb
   obtain⟨xs,rfl,rfl⟩:=Zki hx
   obtain⟨ys,rfl,rfl⟩:=Zki hy
   exact Zg5 hb
  |ptr=>
   cases hx:x.nf<;>rw[hx]at hb<;>cases hy:y.nf<;>rw[hy]at hb<;>simp only[aeq,reduceCtorEq]at hb
   ·rw[Zyx hx,Zd1 hy];exact hb
   ·rw[Zd1 hx,Zyx hy];exact hb
   ·rw[Zd1 hx,Zd1 hy];exact hb
  |iface=>
   cases hx:x.nf<;>rw[hx]at hb<;>cases hy:y.nf<;>rw[hy]at hb<;>simp only[aeq,reduceCtorEq]at hb
   ·obtain⟨w,rfl⟩:=Zr4 hx;rw[Zib hy];exact hb
   ·obtain⟨w,rfl⟩:=Zr4 hy;rw[Zib hx];exact hb
   ·rw[Zib hx,Zib hy];exact hb
 rcases key x with⟨k,n,rfl⟩|⟨s,rfl⟩|⟨x1,x2,x3,x4⟩
 ·rcases key y with⟨k',n',rfl⟩|⟨s',rfl⟩|⟨y1,y2,y3,y4⟩
  ·exact h
  ·exact h
  ·rw[veq _ _ (.inr y3) (.inr y4)]at h
   rw[veq _ _ (.inr y1) (.inr y2)]
   cases hb:aeq q (V.int k n).nf y.nf with
   |none=>rw[hb]at h;cases op<;>simp[vEq]at h
   |some b=>rw[aeqnf hb];rw[hb]at h;exact h
 ·rcases key y with⟨k',n',rfl⟩|⟨s',rfl⟩|⟨y1,y2,y3,y4⟩
  ·exact h
  ·exact h
  ·rw[veq _ _ (.inr y3) (.inr y4)]at h
   rw[veq _ _ (.inr y1) (.inr y2)]
   cases hb:aeq q (V.str s).nf y.nf with
   |none=>rw[hb]at h;cases op<;>simp[vEq]at h
   |some b=>rw[aeqnf hb];rw[hb]at h;exact h
 ·rw[veq _ _ (.inl x3) (.inl x4)]at h
  rw[veq _ _ (.inl x1) (.inl x2)]
  cases hb:aeq q x.nf y.nf with
  |none=>rw[hb]at h;cases op<;>simp[vEq]at h
  |some b=>rw[aeqnf hb];rw[hb]at h;exact h
def V.flat :V->Bool
 | .bool _| .int _ _| .str _=>true
 |_=>false
theorem Zls {v:V}(h:v.flat=true):v.nf=v/\v.clean=true/\v.sc=true:=by cases v<;>simp[V.flat]at h<;>exact⟨rfl,rfl,rfl⟩
theorem Zn6 {op:BinOp}{q:EqK}{x y z:V}(h:abin op q x y=some z):z.flat=true:=by
 have hv:∀{b:Option Bool},vEq op b=some z->z.flat=true:=by
  intro b hb
  cases op<;>simp only[vEq,Xaa,reduceCtorEq]at hb<;>obtain⟨c,_,rfl⟩:=hb<;>rfl
 unfold abin at h
 split at h
 ·split at h
  ·split at h<;>cases h;rfl
  ·split at h<;>cases h;rfl
  ·split at h
   ·unfold aint at h;split at h<;>(try split at h)<;>first|(cases h;rfl)|cases h
   ·cases h
 ·unfold astr at h;split at h<;>(try split at h)<;>first|(cases h;rfl)|cases h
 ·split at h
  ·split at h
   ·cases h
   ·exact hv h
  ·cases h
 ·exact hv h
theorem Z5v {op:UnOp}{x z:V}(h:aun op x.nf=some z):aun op x=some z/\z.flat=true:=by
 unfold aun at h
 split at h
 ·rename_i hx;rw[Zb3 hx];exact⟨h,by cases h;rfl⟩
 ·rename_i hx;rw[Zb3 hx];exact⟨h,by cases h;rfl⟩
 ·rename_i hx;rw[Zcd hx];exact⟨h,by cases h;rfl⟩
 ·cases h
theorem Ziw {l:List V}(h:Zac l=true){i:Nat}{v:V}(hi:l[i]? =some v):v.clean=true:=Zal.1 h v (Xam hi)
theorem Zkg {l m:List V}(h:Zac l=true)(hm:∀v∈m,v∈l):Zac m=true:=Zal.2 fun v hv=>Zal.1 h v (hm v hv)
theorem Zbo {l:List V}(h:Zac l=true)(k:Nat):Zac (l.take k)=true:=Zkg h fun _ hv=>Xbn hv
theorem Zb4 {l:List V}(h:Zac l=true)(k:Nat):Zac (l.drop k)=true:=Zkg h fun _ hv=>Xb2 hv
theorem clean_cells {v:V}(h:v.clean=true):Zac v.cells=true:=Zal.2 (V.clean_cells h)
theorem Zbb {n:Option Nat}{l:List V}{o:Nat}{v:V}(hl:Zac l=true)(h:Zak n l o=some v):v.clean=true:=by
 cases n with
 |none=>exact Ziw hl h
 |some k=>
  simp only[Zak]at h
  split at h
  ·cases h;exact Zbo (Zb4 hl _) _
  ·cases h
theorem Zea {l m:List V}(hl:Zac l=true)(hm:Zac m=true)(o:Nat):Zac (Zav l o m)=true:=by
 unfold Zav;exact Zbh (Zbh (Zbo hl _) hm) (Zb4 hl _)
theorem Zfp (l:Bytes):Zac (encB l)=true:=Zal.2 fun v hv=>by obtain⟨b,_,rfl⟩:=Xa9.1 hv;rfl
theorem Zti {x z:V}{lo hi:Option V}(h:vSls x lo hi=some z):z.flat=true:=by
 unfold vSls at h
 split at h
 ·simp only[Xaa]at h;obtain⟨_,_,rfl⟩:=h;rfl
 ·cases h
theorem Zhh {x:Option V}{o:Option Int}(h:vOpt (x.map V.nf)=some o):vOpt x=some o:=by
 cases x with
 |none=>exact h
 |some v=>
  simp only[Xas]at h
  unfold vOpt at h
  split at h
  ·rename_i e;cases e
  ·rename_i k n e;injection e with e;rw[Zb3 e];exact h
  ·cases h
theorem Z0i {x z:V}{lo hi:Option V}(h:vSls x.nf (lo.map V.nf) (hi.map V.nf)=some z):vSls x lo hi=some z:=by
 unfold vSls at h
 split at h
 ·rename_i l h' s e1 e2 e3
  rw[Zei e3]
  simp only[vSls,Zhh e1,Zhh e2];exact h
 ·cases h
theorem Z1f {sz:Nat}{x:V}{z:Res}{lo hi mx:Option V}(hx:x.nf.clean=true)(h:vSlc sz x.nf (lo.map V.nf) (hi.map V.nf) (mx.map V.nf)=some z):
  ∃v,vSlc sz x lo hi mx=some ⟨v,mx.isSome,none⟩/\v.nf=z.v/\z.v.clean=true/\v.sc=true:=by
 unfold vSlc at h
 split at h
 ·rename_i l h' m nl s xs e1 e2 e3 e4
  obtain⟨rfl,nl',ys,rfl,rfl,hn⟩:=Zgv e4
  split at h
  ·rename_i hc
   obtain⟨rfl,hm⟩:=hc
   simp only[Xaa]at h
   obtain⟨c,h1,rfl⟩:=h
   rw[Zap]at h1
   have hmx:mx.isSome=m.isSome:=by
    have:=Zhh e3
    cases mx with
    |none=>simp[vOpt]at this;subst this;rfl
    |some v=>unfold vOpt at this;split at this
             ·rename_i e;cases e
             ·cases this;rfl
             ·cases this
   refine⟨.sl nl' s ((ys.take c.2.1).drop c.1), ?_, ?_, ?_,rfl⟩
   ·simp only[vSlc,Zhh e1,Zhh e2,Zhh e3]
    rw[if_pos ⟨trivial,hm⟩,h1,hmx];rfl
   ·rw[Z5r (fun h=>by rw[hn h];simp),Zdp,Zci]
   ·rw[e4]at hx
    exact Zb4 (Zbo (by simpa[V.clean]using hx) _) _
  ·cases h
 ·rename_i e4
  rw[e4]at hx;simp[V.clean]at hx
 ·cases h
theorem Zem :∀{l:List V} {b:Bytes},Zb0 (nfL l)=some b->Zb0 l=some b
 | [],_,h=>h
 |v::r,b,h=>by
  simp only[nfL]at h
  unfold Zb0 at h
  split at h
  ·rename_i e;cases e
  ·rename_i n r' e
   obtain⟨e1,rfl⟩:=List.cons.inj e
   rw[Zb3 e1]
   simp only[Xaa]at h
   obtain⟨b',h1,h2⟩:=h
   simp only[Zb0,Zem h1,Xas,h2]
  ·cases h
theorem Zik {sz:Nat}:∀{xs:List V},fits sz (nfL xs)=fits sz xs
 | []=>rfl
 |v::r=>by
  have e:(nfL v.cells).all V.sc=v.cells.all V.sc:=by rw[Zce,List.all_map];congr 1;funext w;exact Zo3 w
  simp only[nfL,Zwm,Zbv,Zap,Zik (xs:=r),e]
variable {Γ:Abs.Spec}{gl:Glob}{s:St}{d:Option Nat}{g:Option (Nat×Bool)}{a:List Nat}
theorem Z1b {op:AOp}{p:Prim}{xs:List Opd}{own:Bool}(hp:Zi7 op=some (p,xs,own)){ys:List V}(hy:nfL (xs.map (evO s.tm))=ys)(hc:Zac ys=true){z:V}(hz:evp p ys=some z):
  ∃v o,exec1 Γ gl ⟨d,op,g,a⟩ s=some (s.put d v o)/\v.nf=z/\z.clean=true/\(own=true->Own v o)/\(p.one=true->v.sc=true):=by
 have fl:∀{z:V},z.flat=true->z.nf=z/\z.clean=true/\(false=true->Own z false)/\(p.one=true->z.sc=true):=fun h=>⟨(Zls h).1,(Zls h).2.1,fun h=>(nomatch h),fun _=>(Zls h).2.2⟩
 cases op<;>simp only[Zi7,Xac,Xc3,reduceCtorEq]at hp
 case ext t i=>
  obtain⟨rfl,rfl,rfl⟩:=hp
  subst hy
  simp only[Xaq,Xbg,nfL,evp]at hz
  unfold vExt at hz
  split at hz
  ·rename_i vs e
   obtain⟨cs,he,rfl⟩:=Z46 e
   simp only[Zfa,Xaa]at hz
   obtain⟨v,hv,rfl⟩:=hz
   refine⟨v,false,by rw[Z4a,he,Zie,hv];rfl,rfl, ?_,fun h=>(nomatch h),fun h=>(nomatch h)⟩
   simp only[Xaq,Xbg,nfL,Zac,Xch,e,V.clean]at hc
   exact Ziw hc (by rw[Zfa,hv];rfl)
  ·cases hz
 case bin op q x y=>
  have hq:q≠ .slice/\some (Prim.bin op q,[x,y],false)=some (p,xs,own):=by
   cases q<;>simp at hp⊢ <;>exact hp
  obtain⟨hq,h⟩:=hq
  cases h
  subst hy
  simp only[Xaq,Xbg,nfL,evp]at hz
  have h1:=Zvp hq hz
  obtain⟨q1,q2,q3,q4⟩:=fl (Zn6 hz)
  exact⟨z,false,by rw[Zol,h1];rfl,q1,q2,q3,q4⟩
 case un op x=>
  obtain⟨rfl,rfl,rfl⟩:=hp
  subst hy
  simp only[Xaq,Xbg,nfL,evp]at hz
  obtain⟨h1,h2⟩:=Z5v hz
  obtain⟨q1,q2,q3,q4⟩:=fl h2
  exact⟨z,false,by rw[e_un,h1];rfl,q1,q2,q3,q4⟩
 case len sb x=>
  obtain⟨rfl,rfl,rfl⟩:=hp
  subst hy
  simp only[Xaq,Xbg,nfL,evp]at hz
  have h1:vLen sb (evO s.tm x)=some z/\z.flat=true:=by
   unfold vLen at hz
   split at hz
   ·rename_i e;rw[Zei e];exact⟨hz,by cases hz;rfl⟩
   ·rename_i e
    obtain⟨_,nl,xs,he,rfl,_⟩:=Zgv e
    rw[he];rw[Zap]at hz;exact⟨hz,by cases hz;rfl⟩
   ·rename_i e
    simp only[Xaq,Xbg,nfL,Zac,Xch,e,V.clean]at hc
    cases hc
   ·cases hz
  obtain⟨q1,q2,q3,q4⟩:=fl h1.2
  exact⟨z,false,by rw[Zxf,h1.1];rfl,q1,q2,q3,q4⟩
 case mnx m x y=>
  obtain⟨rfl,rfl,rfl⟩:=hp
  subst hy
  simp only[Xaq,Xbg,nfL,evp]at hz
  have h1:vMnx m (evO s.tm x) (evO s.tm y)=some z/\z.flat=true:=by
   unfold vMnx at hz
   split at hz
   ·rename_i e1 e2;rw[Zb3 e1,Zb3 e2]
    refine⟨hz, ?_⟩
    split at hz
    ·cases hz;rfl
    ·cases hz
   ·cases hz
  obtain⟨q1,q2,q3,q4⟩:=fl h1.2
  exact⟨z,false,by rw[Z7r,h1.1];rfl,q1,q2,q3,q4⟩
 case fld n off x=>
  obtain⟨rfl,rfl,rfl⟩:=hp
  subst hy
  simp only[Xaq,Xbg,nfL,evp]at hz
  unfold vFld at hz
  split at hz
  ·rename_i cs e
   obtain⟨ds,he,rfl⟩:=Zki e
   obtain⟨v,h1,h2⟩:=Zbz hz
   refine⟨v,false,by rw[Z53,he,Zrm,h1];rfl,h2, ?_,fun h=>(nomatch h),fun h=>(nomatch h)⟩
   simp only[Xaq,Xbg,nfL,Zac,Xch,e,V.clean]at hc
   exact Zbb hc hz
  ·cases hz
 case idx x i=>
  obtain⟨rfl,rfl,rfl⟩:=hp
  subst hy
  simp only[Xaq,Xbg,nfL,evp]at hz
  have h1:vIdx (evO s.tm x) (evO s.tm i)=some z/\z.flat=true:=by
   unfold vIdx at hz
   split at hz
   ·rename_i e1 e2;rw[Zei e1,Zb3 e2]
    refine⟨hz, ?_⟩
    split at hz
    ·simp only[Xaa]at hz;obtain⟨_,_,rfl⟩:=hz;rfl
    ·cases hz
   ·cases hz
  obtain⟨q1,q2,q3,q4⟩:=fl h1.2
  exact⟨z,false,by rw[Z7w,h1.1];rfl,q1,q2,q3,q4⟩
 case idxa l sz n x i=>
  obtain⟨rfl,rfl,rfl⟩:=hp
  subst hy
  simp only[Xaq,Xbg,nfL,evp]at hz
  unfold Zp6 at hz
  split at hz
  ·rename_i cs _ j e1 e2
   obtain⟨ds,he,rfl⟩:=Zki e1
   split at hz
   ·rename_i hj
    obtain⟨v,h1,h2⟩:=Zbz hz
    refine⟨v,false,by rw[Z5t,he,Zb3 e2];simp[Zp6,hj,h1],h2, ?_,fun h=>(nomatch h),fun h=>(nomatch h)⟩
    simp only[Xaq,Xbg,nfL,Zac,Xch,e1,V.clean,Xai]at hc
    exact Zbb hc.1 hz
   ·cases hz
  ·cases hz
 case sls x lo hi=>
  obtain⟨rfl,rfl,rfl⟩:=hp
  subst hy
  have h1:vSls (evO s.tm x).nf ((lo.map (evO s.tm)).map V.nf) ((hi.map (evO s.tm)).map V.nf)=some z:=by
   cases lo<;>cases hi<;>simpa[nfL,evp,Zwh,optL]using hz
  obtain⟨q1,q2,q3,q4⟩:=fl (Zti h1)
  exact⟨z,false,by rw[Z8f,Z0i h1];rfl,q1,q2,q3,q4⟩
 case slc sz x lo hi mx=>
  obtain⟨rfl,rfl,rfl⟩:=hp
  subst hy
  have h1:∃r,vSlc sz (evO s.tm x).nf ((lo.map (evO s.tm)).map V.nf) ((hi.map (evO s.tm)).map V.nf) ((mx.map (evO s.tm)).map V.nf)=some r/\r.v=z:=by
   cases lo<;>cases hi<;>cases mx<;>(simp[nfL,evp,Zts,optL]at hz⊢ <;>exact hz)
  obtain⟨r,h1,rfl⟩:=h1
  have hx:(evO s.tm x).nf.clean=true:=by
   simp only[Xaq,nfL,Zac,Xai]at hc;exact hc.1
  obtain⟨v,q1,q2,q3,q4⟩:=Z1f hx h1
  refine⟨v,mx.isSome,by rw[Zpd,q1];cases mx<;>rfl,q2,q3,fun h=> .inl h,fun _=>q4⟩
 case bsl sz xs'=>
  obtain⟨rfl,rfl,rfl⟩:=hp
  subst hy
  simp only[evp]at hz
  split at hz
  ·rename_i hf
   cases hz
   rw[Zik]at hf
   exact⟨.sl false sz (xs'.map (evO s.tm)),true,by rw[Z87,if_pos hf];rfl,rfl,by simpa[V.clean]using hc,fun _=> .inl rfl,fun _=>rfl⟩
  ·cases hz
 case mks sz z0 l c=>
  split at hp
  ·simp only[Xac,Xc3]at hp
   obtain⟨rfl,rfl,rfl⟩:=hp
   subst hy
   simp only[Xaq,Xbg,nfL,evp,Xaa]at hz
   obtain⟨r,hr,rfl⟩:=hz
   have h1:vMks sz (evO s.tm l) (evO s.tm c)=some r/\r=⟨.sl false sz [],true,none⟩:=by
    unfold vMks at hr
    split at hr
    ·rename_i e1 e2;rw[Zb3 e1,Zb3 e2]
     refine⟨hr, ?_⟩
     split at hr
     ·cases hr;rfl
     ·cases hr
    ·cases hr
   obtain⟨h1,rfl⟩:=h1
   exact⟨_,true,by rw[Z4l];show putR s d (vMks sz _ _)=_;rw[h1];rfl,rfl,rfl,fun _=> .inl rfl,fun _=>rfl⟩
  ·rename_i z
   split at hp
   rotate_left
   ·cases hp
   rename_i hcz
   simp only[Xac,Xc3]at hp
   obtain⟨rfl,rfl,rfl⟩:=hp
   simp only[Xai]at hcz
   obtain rfl:=Xah hcz.1
   subst hy
   simp only[Xaq,Xbg,nfL,evp,Xaa]at hz
   obtain⟨r,hr,rfl⟩:=hz
   have hzf:z.nf=z/\z.clean=true:=by
    have:=hcz.2
    unfold V.flatR at this
    split at this<;>first|exact⟨rfl,rfl⟩|cases this
   have h1:vMkz 1 [z] (evO s.tm l) (evO s.tm c)=some r/\ ∃n,r=⟨.sl false 1 (List.replicate n z),false,none⟩:=by
    unfold vMkz at hr
    split at hr
    ·rename_i e1 e2;rw[Zb3 e1,Zb3 e2]
     refine⟨hr, ?_⟩
     simp only at hr
     split at hr
     ·cases hr;exact⟨_,rfl⟩
     ·cases hr
    ·cases hr
   obtain⟨h1,n,rfl⟩:=h1
   have hrep:nfL (List.replicate n z)=List.replicate n z:=by
    rw[Zce,List.map_replicate,hzf.1]
   refine⟨.sl false 1 (List.replicate n z),false,by rw[Z4l];show putR s d (vMkz 1 [z] _ _)=_;rw[h1];rfl, ?_, ?_,fun h=>(by cases h),fun _=>rfl⟩
   ·show V.sl false 1 (nfL (List.replicate n z))=_
    rw[hrep]
   ·exact Zal.2 fun v hv=>by rw[(Xcq.1 hv).2];exact hzf.2
  ·cases hp
 case s2b x=>
  obtain⟨rfl,rfl,rfl⟩:=hp
  subst hy
  simp only[Xaq,Xbg,nfL,evp,Xaa]at hz
  obtain⟨r,hr,rfl⟩:=hz
  unfold vS2b at hr
  split at hr
  ·rename_i b e
   cases hr
   exact⟨.sl false 1 (encB b),true,by rw[Z70,Zei e];rfl,by show V.sl false 1 (nfL (encB b))=_;rw[Zlr],Zfp b,fun _=> .inl rfl,fun _=>rfl⟩
  ·cases hr
 case b2s x=>
  obtain⟨rfl,rfl,rfl⟩:=hp
  subst hy
  simp only[Xaq,Xbg,nfL,evp]at hz
  unfold vB2s at hz
  split at hz
  ·rename_i nl xs e
   obtain⟨_,nl',ys,he,rfl,_⟩:=Zgv e
   simp only[Xaa]at hz
   obtain⟨b,hb,rfl⟩:=hz
   exact⟨.str b,false,by rw[Z1a,he];simp[vB2s,Zem hb],rfl,rfl,fun h=>(nomatch h),fun _=>rfl⟩
  ·rename_i e
   simp only[Xaq,Xbg,nfL,Zac,e,V.clean]at hc
   simp at hc
  ·cases hz
 case i2i k x=>
  obtain⟨rfl,rfl,rfl⟩:=hp
  subst hy
  simp only[Xaq,Xbg,nfL,evp]at hz
  unfold vI2i at hz
  split at hz
  ·rename_i e
   cases hz
   exact⟨_,false,by rw[Z9q,Zb3 e];rfl,rfl,rfl,fun h=>(nomatch h),fun _=>rfl⟩
  ·cases hz
 case s2s x=>
  obtain⟨rfl,rfl,rfl⟩:=hp
  subst hy
  simp only[Xaq,Xbg,nfL,evp]at hz
  unfold vS2s at hz
  split at hz
  ·rename_i e
   cases hz
   exact⟨_,false,by rw[Z7y,Zei e];rfl,rfl,rfl,fun h=>(nomatch h),fun _=>rfl⟩
  ·cases hz
 case mkf f xs'=>
  obtain⟨rfl,rfl,rfl⟩:=hp
  subst hy
  simp only[evp,Xac]at hz
  subst hz
  exact⟨.fn f (xs'.map (evO s.tm)),false,Z39 f xs',rfl,by simpa[V.clean]using hc,fun h=>(nomatch h),fun _=>rfl⟩
end Go.Abs
namespace Go.Abs
def fnV (m:Bool)(f:Nat)(cs:List V):V:=match m with|true=> .mfn f cs|false=> .fn f cs
def PsS (ι:List Nat):List (Nat×Nat)->List V->Prop
 | [],cs=>cs=[]
 |p::ps,cs=> ∃id cs',ι[p.1]? =some id/\cs= .ptr id p.2::cs'/\PsS ι ps cs'
def AtS (ι:List Nat)(vs:List V)(a:At)(v:V)(o:Bool):Prop:=
 match a with
 | .c w own=>v.nf=w/\w.clean=true/\(own=true-> ∃sz,v= .sl true sz [])
 | .n i own sc=>vs[i]? =some v.nf/\(own=true->Own v o)/\(sc=true->v.sc=true)
 | .ptr k off=> ∃id,ι[k]? =some id/\v= .ptr id off
 | .ptd k base i sz=> ∃id kd j,ι[k]? =some id/\vs[i]? =some (.int kd j)/\v= .ptr id (base+j.toNat*sz)
 | .gp g off=>v= .gp g off
 | .gpd g base i sz=> ∃kd j,vs[i]? =some (.int kd j)/\v= .gp g (base+j.toNat*sz)
 | .el i off=> ∃x,vs[i]? =some x/\v.nf= .el x.cells off
 | .osl k off len cap sz=> ∃id,ι[k]? =some id/\v= .osl id off len cap sz
 | .osx k i sz=> ∃id n cap,ι[k]? =some id/\vs[i]? =some (.int .i64 n)/\0<=n/\v= .osl id 0 n.toNat cap sz/\n.toNat<=cap
 | .osr k j i sz=> ∃id m kd p cap,ι[k]? =some id/\vs[j]? =some (.int .i64 m)/\vs[i]? =some (.int kd p)/\0<=p/\p<m/\v= .osl id (p.toNat*sz) (m.toNat-p.toNat) cap sz
 | .osc k off n i sz=> ∃id kd j cap,ι[k]? =some id/\vs[i]? =some (.int kd j)/\0<=j/\j<n/\v= .osl id (off+j.toNat*sz) (n-j.toNat) cap sz
 | .fp m f ps=> ∃cs,v=fnV m f cs/\PsS ι ps cs
 | .osv k i j sz=> ∃id a b cap,ι[k]? =some id/\vs[i]? =some (.int .i64 a)/\vs[j]? =some (.int .i64 b)/\0<=a/\a<=b/\v= .osl id (a.toNat*sz) (b.toNat-a.toNat) cap sz/\b.toNat-a.toNat<=cap
 | .mpp k=> ∃id,ι[k]? =some id/\v= .map id
 | .mpc _=>False
 | .nil=>v=Nil
def AtV (vs:List V)(a:At)(w:V):Prop:=
 match a with
 | .c v _=>v=w/\v.clean=true
 | .n i _ _=>vs[i]? =some w
 |_=>False
def SegsS (ι:List Nat)(vs:List V):List Seg->List V->(Nat->Bool)->Nat->Prop
 | [],cs,_,_=>cs=[]
 | .one a::r,cs,ow,j=> ∃c cs',cs=c::cs'/\AtS ι vs a c (ow j)/\c.sc=true/\SegsS ι vs r cs' ow (j+1)
 | .many n a::r,cs,ow,j=> ∃l cs' w,cs=l++cs'/\(∀m,n=some m->l.length=m)/\(n=none->r=[])/\l.all V.sc=true/\AtV vs a w/\nfL l=w.cells/\SegsS ι vs r cs' ow (j+l.length)
def AtsS (ι:List Nat)(vs:List V):List At->List V->Prop
 | [],ws=>ws=[]
 |a::az,ws=> ∃w ws',ws=w::ws'/\AtS ι vs a w false/\AtsS ι vs az ws'
def SyS (ι:List Nat)(vs:List V)(y:Sy)(v:V)(o:Bool):Prop:=
 match y with
 | .at a=>AtS ι vs a v o
 | .agg ss z=>(∃cs,v= .agg cs/\SegsS ι vs ss cs (fun _=>false) 0)/\ ∀i,z=some i->vs[i]? =some v.nf
 | .tup az=> ∃ws,v= .tup ws/\AtsS ι vs az ws
inductive ObS (ι:List Nat)(vs:List V):List Seg->Hp->(Nat->Bool)->Nat->Prop
 |cs {ss:List Seg} {H:Hp} {ow:Nat->Bool} {id:Nat} (cs:List V) (h:Zat H id=some cs) (hs:SegsS ι vs ss cs ow 0):ObS ι vs ss H ow id
 |mp {H:Hp} {ow:Nat->Bool} {id i:Nat} (l:List (V×V)) (h:hMap H id=some l) (hs:vs[i]? =some (mpV l).nf):ObS ι vs [.one (.mpc i)] H ow id
theorem ObS.cob {ι:List Nat}{vs:List V}{ss:List Seg}{H:Hp}{ow:Nat->Bool}{id:Nat}(h:ObS ι vs ss H ow id)(hn:∀i,ss≠ [.one (.mpc i)]):∃cs,Zat H id=some cs/\SegsS ι vs ss cs ow 0:=by
 cases h with
 |cs cs h hs=>exact⟨cs,h,hs⟩
 |mp l h hs=>exact absurd rfl (hn _)
theorem ObS.map {ι:List Nat}{vs:List V}{i:Nat}{H:Hp}{ow:Nat->Bool}{id:Nat}(h:ObS ι vs [.one (.mpc i)] H ow id):∃l,hMap H id=some l/\vs[i]? =some (mpV l).nf:=by
 cases h with
 |cs cs h hs=>obtain⟨c,cs',_,hf,_⟩:=hs;exact hf.elim
 |mp l h hs=>exact⟨l,h,hs⟩
theorem Zx1 {H H':Hp}{id:Nat}(h:H id=H' id):hMap H id=hMap H' id:=by unfold hMap;rw[h]
structure Fc where
 ids:List Nat
 hs:HS
def Frame (c:Fc)(H:Hp)(co:Nat->Nat->Bool):Prop:=∀id,id<c.hs.nH->id∉c.ids->H id=c.hs.H id/\ ∀j,co id j=c.hs.co id j
structure Sat (c:Fc)(S:PS V)(ι:List Nat)(s:St):Prop where
 tm:∀t y,S.get t=some y->SyS ι S.vals y (s.tm t) (s.own (.slot t))
 ob:∀k ss,S.obj k=some ss-> ∃id,ι[k]? =some id/\ObS ι S.vals ss s.H (fun j=>s.own (.cell id j)) id
 nd:ι.Nodup
 lt:∀id∈ι,id<s.nH
 len:ι.length=S.ob.length
 lits:∀i b,lk S.lits i=some b->S.vals[i]? =some (.bool b)
 cln:∀x∈S.vals,x.clean=true
 g:c.ids.length=S.g
 pre:∀(k id:Nat),c.ids[k]? =some id->ι[k]? =some id
 new:∀(k id:Nat),ι[k]? =some id->S.g<=k->c.hs.nH<=id
 nH:c.hs.nH<=s.nH
 fr:Frame c s.H fun i j=>s.own (.cell i j)
theorem Z6n {X:Type}{S:PS X}{o:Nat}{ss:List Seg}(h:S.cob o=some ss):S.obj o=some ss/\ ∀i,ss≠ [.one (.mpc i)]:=by
 unfold PS.cob at h
 split at h
 ·cases h
 ·rename_i hn;exact⟨h,fun i e=>hn i (by rw[h,e])⟩
theorem Sat.cob {c:Fc}{S:PS V}{ι:List Nat}{s:St}(h:Sat c S ι s)(k:Nat)(ss:List Seg)(hk:S.cob k=some ss):∃id cs,ι[k]? =some id/\Zat s.H id=some cs/\SegsS ι S.vals ss cs (fun j=>s.own (.cell id j)) 0:=by
 obtain⟨e,hn⟩:=Z6n hk
 obtain⟨id,h1,h2⟩:=h.ob k ss e
 obtain⟨cs,h3,h4⟩:=h2.cob hn
 exact⟨id,cs,h1,h3,h4⟩
theorem Sat.mpo {c:Fc}{S:PS V}{ι:List Nat}{s:St}(h:Sat c S ι s){k i:Nat}(hk:S.mpo k=some i):∃id l,ι[k]? =some id/\hMap s.H id=some l/\S.vals[i]? =some (mpV l).nf:=by
 unfold PS.mpo at hk
 split at hk
 ·rename_i e
  cases hk
  obtain⟨id,h1,h2⟩:=h.ob k _ e
  obtain⟨l,h3,h4⟩:=h2.map
  exact⟨id,l,h1,h3,h4⟩
 ·cases hk
def Pre (vs vs':List V):Prop:=∀(i:Nat) (x:V),vs[i]? =some x->vs'[i]? =some x
def PreN (ι ι':List Nat):Prop:=∀(i x:Nat),ι[i]? =some x->ι'[i]? =some x
theorem Pre.refl (vs:List V):Pre vs vs:=fun _ _ h=>h
theorem PreN.refl (vs:List Nat):PreN vs vs:=fun _ _ h=>h
theorem Pre.trans {a b c:List V}(h:Pre a b)(k:Pre b c):Pre a c:=fun i x hi=>k i x (h i x hi)
theorem Pre.app (a b:List V):Pre a (a++b):=fun i x hi=>by
 rw[Xa3 (Xae.1 hi).1];exact hi
theorem PreN.app (a b:List Nat):PreN a (a++b):=fun i x hi=>by
 rw[Xa3 (Xae.1 hi).1];exact hi
theorem PsS.mono {ι ι':List Nat}(h1:PreN ι ι'):∀{ps:List (Nat×Nat)} {cs:List V},PsS ι ps cs->PsS ι' ps cs
 | [],_,h=>h
 |_::_,_,⟨id,cs',h3,h4,h5⟩=>⟨id,cs',h1 _ _ h3,h4,PsS.mono h1 h5⟩
theorem AtS.mono {ι ι':List Nat}{vs vs':List V}(h1:PreN ι ι')(h2:Pre vs vs'){a:At}{v:V}{o:Bool}(h:AtS ι vs a v o):AtS ι' vs' a v o:=by
 cases a with
 |c w own=>exact h
 |n i own sc=>exact⟨h2 _ _ h.1,h.2⟩
 |ptr k off=>obtain⟨id,h3,h4⟩:=h;exact⟨id,h1 _ _ h3,h4⟩
 |ptd k b i sz=>obtain⟨id,kd,j,h3,h4,h5⟩:=h;exact⟨id,kd,j,h1 _ _ h3,h2 _ _ h4,h5⟩
 |gp g off=>exact h
 |gpd g b i sz=>obtain⟨kd,j,h4,h5⟩:=h;exact⟨kd,j,h2 _ _ h4,h5⟩
 |fp m f ps=>obtain⟨cs,h3,h4⟩:=h;exact⟨cs,h3,h4.mono h1⟩
 |osv k i j sz=>obtain⟨id,a,b,cap,h3,h4,h5,h6⟩:=h;exact⟨id,a,b,cap,h1 _ _ h3,h2 _ _ h4,h2 _ _ h5,h6⟩
 |mpp k=>obtain⟨id,h3,h4⟩:=h;exact⟨id,h1 _ _ h3,h4⟩
 |mpc i=>exact h
 |el i off=>obtain⟨x,h3,h4⟩:=h;exact⟨x,h2 _ _ h3,h4⟩
 |osl k off n c sz=>obtain⟨id,h3,h4⟩:=h;exact⟨id,h1 _ _ h3,h4⟩
 |osx k i sz=>obtain⟨id,n,cap,h3,h4,h5⟩:=h;exact⟨id,n,cap,h1 _ _ h3,h2 _ _ h4,h5⟩
 |osr k j i sz=>obtain⟨id,m,kd,p,cap,h3,h4,h5,h6⟩:=h;exact⟨id,m,kd,p,cap,h1 _ _ h3,h2 _ _ h4,h2 _ _ h5,h6⟩
 |osc k off n i sz=>obtain⟨id,kd,j,cap,h3,h4,h5⟩:=h;exact⟨id,kd,j,cap,h1 _ _ h3,h2 _ _ h4,h5⟩
 |nil=>exact h
theorem AtV.mono {vs vs':List V}(h2:Pre vs vs'){a:At}{v:V}(h:AtV vs a v):AtV vs' a v:=by
 cases a<;>first|exact h|exact h2 _ _ h
theorem SegsS.mono {ι ι':List Nat}{vs vs':List V}(h1:PreN ι ι')(h2:Pre vs vs'){ow:Nat->Bool}:∀{ss:List Seg} {cs:List V} {j:Nat},SegsS ι vs ss cs ow j->SegsS ι' vs' ss cs ow j
 | [],_,_,h=>h
 | .one a::r,_,_,⟨c,cs',e,h3,h4,h5⟩=>⟨c,cs',e,h3.mono h1 h2,h4,SegsS.mono h1 h2 h5⟩
 | .many n a::r,_,_,⟨l,cs',w,e,h3,h4,h5,h6,h7,h8⟩=>⟨l,cs',w,e,h3,h4,h5,h6.mono h2,h7,SegsS.mono h1 h2 h8⟩
theorem ObS.mono {ι ι':List Nat}{vs vs':List V}(h1:PreN ι ι')(h2:Pre vs vs'){ss:List Seg}{H H':Hp}{ow:Nat->Bool}{id:Nat}(h:ObS ι vs ss H ow id)(hH:H' id=H id):ObS ι' vs' ss H' ow id:=by
 cases h with
 |cs cs h hs=>
  refine .cs cs ?_ (hs.mono h1 h2)
  unfold Zat at h⊢;rw[hH];exact h
 |mp l h hs=>exact .mp l ((Zx1 hH).trans h) (h2 _ _ hs)
theorem ObS.to {ι ι':List Nat}{vs vs':List V}{ss:List Seg}{H H':Hp}{ow ow':Nat->Bool}{id:Nat}(h:ObS ι vs ss H ow id)(h1:PreN ι ι')(h2:Pre vs vs')(hH:H' id=H id)(ho:∀j,ow' j=ow j):ObS ι' vs' ss H' ow' id:=by
 have:ow'=ow:=funext ho
 subst this
 exact h.mono h1 h2 hH
theorem AtsS.mono {ι ι':List Nat}{vs vs':List V}(h1:PreN ι ι')(h2:Pre vs vs'):∀{az:List At} {ws:List V},AtsS ι vs az ws->AtsS ι' vs' az ws
 | [],_,h=>h
 |_::_,_,⟨w,ws',e,h3,h4⟩=>⟨w,ws',e,h3.mono h1 h2,AtsS.mono h1 h2 h4⟩
theorem SyS.mono {ι ι':List Nat}{vs vs':List V}(h1:PreN ι ι')(h2:Pre vs vs'){y:Sy}{v:V}{o:Bool}(h:SyS ι vs y v o):SyS ι' vs' y v o:=by
 cases y with
 | «at» a=>exact AtS.mono h1 h2 h
 |agg ss z=>
  obtain⟨⟨cs,e,h3⟩,h4⟩:=h
  exact⟨⟨cs,e,h3.mono h1 h2⟩,fun i hi=>h2 _ _ (h4 i hi)⟩
 |tup az=>obtain⟨ws,e,h3⟩:=h;exact⟨ws,e,h3.mono h1 h2⟩
theorem AtS.noOwn {ι:List Nat}{vs:List V}{a:At}{v:V}{o:Bool}(h:AtS ι vs a v o)(o':Bool):AtS ι vs a.noOwn v o':=by
 cases a<;>first|exact h|exact⟨h.1,fun h=>(nomatch h),h.2.2⟩
theorem AtV.noOwn {vs:List V}{a:At}{v:V}(h:AtV vs a v):AtV vs a.noOwn v:=by cases a<;>exact h
theorem SegsS.noOwn {ι:List Nat}{vs:List V}{ow:Nat->Bool}(ow':Nat->Bool)(j':Nat):∀{ss:List Seg} {cs:List V} {j:Nat},SegsS ι vs ss cs ow j-> ∀j',SegsS ι vs (ss.map Seg.noOwn) cs ow' j'
 | [],_,_,h,_=>h
 | .one a::r,_,_,⟨c,cs',e,h3,h4,h5⟩,_=>⟨c,cs',e,h3.noOwn _,h4,SegsS.noOwn ow' j' h5 _⟩
 | .many n a::r,_,_,⟨l,cs',w,e,h3,h4,h5,h6,h7,h8⟩,_=>⟨l,cs',w,e,h3,fun hn=>by rw[h4 hn];rfl,h5,h6.noOwn,h7,SegsS.noOwn ow' j' h8 _⟩
theorem AtsS.noOwn {ι:List Nat}{vs:List V}:∀{az:List At} {ws:List V},AtsS ι vs az ws->AtsS ι vs (az.map At.noOwn) ws
 | [],_,h=>h
 |_::_,_,⟨w,ws',e,h3,h4⟩=>⟨w,ws',e,h3.noOwn _,AtsS.noOwn h4⟩
theorem SyS.noOwn {ι:List Nat}{vs:List V}{y:Sy}{v:V}{o:Bool}(h:SyS ι vs y v o)(o':Bool):SyS ι vs y.noOwn v o':=by
 cases y with
 | «at» a=>exact AtS.noOwn h o'
 |agg ss z=>
  obtain⟨⟨cs,e,h3⟩,h4⟩:=h
  exact⟨⟨cs,e,h3.noOwn _ 0 _⟩,h4⟩
 |tup az=>obtain⟨ws,e,h3⟩:=h;exact⟨ws,e,h3.noOwn⟩
theorem SegsS.ow {ι:List Nat}{vs:List V}{ow ow':Nat->Bool}:∀{ss:List Seg} {cs:List V} {j:Nat},SegsS ι vs ss cs ow j->(∀i,j<=i->i<j+cs.length->ow' i=ow i)->SegsS ι vs ss cs ow' j
 | [],_,_,h,_=>h
 | .one a::r,_,_,⟨c,cs',e,h3,h4,h5⟩,ho=>by
  subst e
  refine⟨c,cs',rfl, ?_,h4,SegsS.ow h5 fun i h6 h7=>ho i (by omega) (by simp;omega)⟩
  rw[ho _ (by omega) (by simp)];exact h3
 | .many n a::r,_,_,⟨l,cs',w,e,h3,h4,h5,h6,h7,h8⟩,ho=>by
  subst e
  exact⟨l,cs',w,rfl,h3,h4,h5,h6,h7,SegsS.ow h8 fun i h9 h10=>ho i (by omega) (by simp;omega)⟩
theorem AtS.owned {ι:List Nat}{vs:List V}{a:At}{v:V}{o:Bool}(h:AtS ι vs a v o)(ho:a.owned=true):Own v o:=by
 cases a<;>simp[At.owned]at ho
 ·obtain⟨sz,e⟩:=h.2.2 ho;exact .inr ⟨sz,e⟩
 ·exact h.2.1 ho
theorem AtS.one {ι:List Nat}{vs:List V}{a:At}{v:V}{o:Bool}(h:AtS ι vs a v o)(ho:a.one=true):v.sc=true:=by
 cases a<;>simp[At.one]at ho
 ·rw[<-Zo3,h.1];exact ho
 ·exact h.2.2 ho
 ·obtain⟨id,_,e⟩:=h;rw[e];rfl
 ·rw[show v=_ from h];rfl
 ·obtain⟨cs,e,_⟩:=h;rw[e];unfold fnV;split<;>rfl
 ·obtain⟨id,_,e⟩:=h;rw[e];rfl
variable {c:Fc}{ι:List Nat}{s:St}{S:PS V}
theorem Zcp {α:Type}(k:Nat)(a:α)(l:List (Nat×α))(t:Nat):lk ((k,a)::l) t=if k=t then some a else lk l t:=by
 unfold lk
 cases h:Nat.beq k t with
 |true=>rw[if_pos (Xah h)]
 |false=>rw[if_neg (Nat.ne_of_beq_eq_false h)];cases l<;>rfl
theorem Z0r {X:Type}(S:PS X)(d:Option Nat)(y:Sy)(t:Nat):(S.put d y).get t=if d=some t then some y else S.get t:=by
 cases d with
 |none=>simp[PS.put]
 |some d=>simp only[PS.put,PS.get,Zcp,Xac]
theorem Zk3 {v:V}{a:At}(h:Zlu v=some a)(o:Bool)(vs:List V):AtS ι vs a v o:=by
 unfold Zlu at h
 split at h
 ·cases h;rfl
 ·split at h
  ·rename_i hc
   cases h
   refine⟨rfl, ?_,fun h=> ?_⟩
   ·exact hc
   ·unfold V.isNilSl at h
    split at h
    ·exact⟨_,rfl⟩
    ·cases h
  ·cases h
theorem Sat.opd (h:Sat c S ι s){x:Opd}{y:Sy}(hx:S.opd x=some y):SyS ι S.vals y (evO s.tm x) (ownO s.own x):=by
 cases x with
 |tmp t=>exact h.tm t y hx
 |const v=>
  simp only[PS.opd,Xaa]at hx
  obtain⟨a,ha,rfl⟩:=hx
  exact Zk3 ha _ _
theorem Sat.valV {a:At}{w x:V}(h:Sat c S ι s)(ha:AtV S.vals a w){Γ:Gam}{f:Nat}(hx:S.valA (BV Γ f) a=some x):x=w/\x.clean=true:=by
 cases a with
 |c v o=>
  simp only[PS.valA,Xac]at hx
  subst hx;exact ha
 |n i o sc=>
  simp only[PS.valA]at hx
  split at hx
  ·rename_i b hb
   have:=h.lits i b hb
   rw[show S.vals[i]? =some w from ha]at this
   cases hx;cases this;exact⟨rfl,rfl⟩
  ·rw[show S.vals[i]? =some w from ha]at hx
   cases hx;exact⟨rfl,h.cln _ (Xam ha)⟩
 |_=>exact ha.elim
theorem AtS.toV {vs:List V}{a:At}{v:V}{o:Bool}(h:AtS ι vs a v o){X:Type}{D:Type}{B:Bld X D}{S':PS X}{x:X}(hx:S'.valA B a=some x):AtV vs a v.nf:=by
 cases a<;>simp[PS.valA]at hx
 ·exact⟨h.1.symm,h.2.1⟩
 ·exact h.1
theorem Sat.val {a:At}{v x:V}{o:Bool}(h:Sat c S ι s)(ha:AtS ι S.vals a v o){Γ:Gam}{f:Nat}(hx:S.valA (BV Γ f) a=some x):x=v.nf/\x.clean=true:=h.valV (ha.toV hx) hx
structure Ext (S S':PS V):Prop where
 tm:S'.tm=S.tm
 ob:S'.ob=S.ob
 lits:S'.lits=S.lits
 vals:∃l,S'.vals=S.vals++l
 g:S'.g=S.g
theorem Ext.refl (S:PS V):Ext S S:=⟨rfl,rfl,rfl,⟨[],by simp⟩,rfl⟩
theorem Ext.trans {A B C:PS V}(h:Ext A B)(k:Ext B C):Ext A C:=⟨k.tm.trans h.tm,k.ob.trans h.ob,k.lits.trans h.lits,by
 obtain⟨l,hl⟩:=h.vals;obtain⟨m,hm⟩:=k.vals;exact⟨l++m,by rw[hm,hl];simp⟩,k.g.trans h.g⟩
theorem Ext.pre {S S':PS V}(h:Ext S S'):Pre S.vals S'.vals:=by obtain⟨l,hl⟩:=h.vals;rw[hl];exact .app _ _
theorem Ext.get {S S':PS V}(h:Ext S S')(t:Nat):S'.get t=S.get t:=by simp only[PS.get,h.tm]
theorem Ext.obj {S S':PS V}(h:Ext S S')(t:Nat):S'.obj t=S.obj t:=by simp only[PS.obj,h.ob]
theorem Ext.opd {S S':PS V}(h:Ext S S')(x:Opd):S'.opd x=S.opd x:=by cases x<;>simp only[PS.opd,h.get]
theorem Ext.push (S:PS V)(x:V):Ext S (S.push x):=⟨rfl,rfl,rfl,⟨[x],rfl⟩,rfl⟩
theorem Zar (S:PS V)(x:V):(S.push x).vals[S.nx]? =some x:=by simp[PS.push,PS.nx]
theorem Sat.ext {S':PS V}(h:Sat c S ι s)(he:Ext S S')(hc:∀x∈S'.vals,x.clean=true):Sat c S' ι s where
 tm t y hy:=by rw[he.get]at hy;exact(h.tm t y hy).mono (.refl _) he.pre
 ob k ss hk:=by
  rw[he.obj]at hk
  obtain⟨id,h1,h2⟩:=h.ob k ss hk
  exact⟨id,h1,h2.mono (.refl _) he.pre rfl⟩
 nd:=h.nd
 lt:=h.lt
 len:=by rw[he.ob];exact h.len
 lits i b hb:=by rw[he.lits]at hb;exact he.pre _ _ (h.lits i b hb)
 cln:=hc
 g:=by rw[he.g];exact h.g
 pre:=h.pre
 new:=by rw[he.g];exact h.new
 nH:=h.nH
 fr:=h.fr
theorem Sat.push (h:Sat c S ι s){x:V}(hx:x.clean=true):Sat c (S.push x) ι s:=h.ext (.push S x) fun y hy=>by
 rcases Xay.1 hy with hy|hy
 ·exact h.cln y hy
 ·simp at hy;rw[hy];exact hx
theorem Zfh :∀{ns:List (Option Nat)} {xs l:List V},catV ns xs=some l->Zac xs=true->Zac l=true
 | [],[],l,h,_=>by cases h;rfl
 |none::ns,x::xs,l,h,hc=>by
  simp only[catV]at h
  split at h
  ·simp only[Xaa]at h
   obtain⟨m,h1,rfl⟩:=h
   simp only[Zac,Xai]at hc⊢
   exact⟨hc.1,Zfh h1 hc.2⟩
  ·cases h
 |some n::ns,x::xs,l,h,hc=>by
  simp only[catV]at h
  split at h
  ·simp only[Xaa]at h
   obtain⟨m,h1,rfl⟩:=h
   simp only[Zac,Xai]at hc
   exact Zbh (clean_cells hc.1) (Zfh h1 hc.2)
  ·cases h
 | [],_::_,_,h,_=>by cases h
 |none::_,[],_,h,_=>by cases h
 |some _::_,[],_,h,_=>by cases h
theorem Sat.segVals (h:Sat c S ι s){Γ:Gam}{f:Nat}{ow:Nat->Bool}:∀{ss:List Seg} {cs:List V} {j:Nat} {ns:List (Option Nat)} {xs l:List V},SegsS ι S.vals ss cs ow j->segVals (BV Γ f) S ss=some (ns,xs)->catV ns xs=some l->
  nfL cs=l/\Zac xs=true
 | [],_,_,_,_,_,h1,h2,h3=>by
  simp only[Abs.segVals,Xac,Xc3]at h2
  obtain⟨rfl,rfl⟩:=h2
  cases h3
  rw[show _=[]from h1];exact⟨rfl,rfl⟩
 | .one a::r,_,_,_,_,_,⟨c,cs',e,q1,q2,q3⟩,h2,h3=>by
  simp only[Abs.segVals]at h2
  split at h2
  ·rename_i x _ ns xs hx hr
   cases h2
   simp only[catV]at h3
   split at h3
   ·simp only[Xaa]at h3
    obtain⟨m,h4,rfl⟩:=h3
    obtain⟨q4,q5⟩:=h.segVals q3 hr h4
    obtain⟨rfl,q6⟩:=h.val q1 hx
    subst e
    exact⟨by rw[nfL,q4],by simp only[Zac,q6,q5,Xcc]⟩
   ·cases h3
  ·cases h2
 | .many (some n) a::r,_,_,_,_,_,⟨l',cs',w,e,q1,q2,q3,q4,q5,q6⟩,h2,h3=>by
  simp only[Abs.segVals]at h2
  split at h2
  ·rename_i x _ ns xs hx hr
   cases h2
   simp only[catV]at h3
   split at h3
   ·simp only[Xaa]at h3
    obtain⟨m,h4,rfl⟩:=h3
    obtain⟨q7,q8⟩:=h.segVals q6 hr h4
    obtain⟨rfl,q9⟩:=h.valV q4 hx
    subst e
    exact⟨by rw[Zby,q7,q5],by simp only[Zac,q9,q8,Xcc]⟩
   ·cases h3
  ·cases h2
 | .many none a::r,_,_,_,_,_,_,h2,_=>by simp[Abs.segVals]at h2
theorem Sat.mat (h:Sat c S ι s){Γ:Gam}{f:Nat}{y:Sy}{v:V}{o:Bool}(hy:SyS ι S.vals y v o){k:V->PS V->Option V}{r:V}(hk:mat (BV Γ f) S (some y) k=some r):
  ∃S',k v.nf S'=some r/\Sat c S' ι s/\Ext S S'/\v.nf.clean=true:=by
 cases y with
 | «at» a=>
  simp only[Abs.mat]at hk
  split at hk
  ·rename_i x hx
   obtain⟨rfl,hc⟩:=h.val hy hx
   exact⟨S,hk,h, .refl S,hc⟩
  ·cases hk
 |agg ss z=>
  obtain⟨⟨cs,rfl,h3⟩,h4⟩:=hy
  cases z with
  |some z=>
   simp only[Abs.mat,h4 z rfl]at hk
   exact⟨S,hk,h, .refl S,h.cln _ (Xam (h4 z rfl))⟩
  |none=>
   simp only[Abs.mat]at hk
   split at hk
   ·rename_i ns xs hs
    simp only[BV,evp,Xab,Xaa]at hk
    obtain⟨x,⟨l,hl,rfl⟩,hk⟩:=hk
    obtain⟨rfl,hc⟩:=h.segVals h3 hs hl
    have hx:(V.agg cs).nf.clean=true:=by show Zac (nfL cs)=true;exact Zfh hl hc
    exact⟨S.push (V.agg (nfL cs)),hk,h.push hx, .push _ _,hx⟩
   ·cases hk
 |tup az=>simp only[Abs.mat,BV,reduceCtorEq]at hk
theorem Sat.matL {Γ:Gam}{f:Nat}{r:V}:∀{xs:List Opd} {S:PS V} {k:List V->PS V->Option V},Sat c S ι s->matL (BV Γ f) S xs k=some r->
  ∃ys S',k ys S'=some r/\Sat c S' ι s/\Ext S S'/\nfL (xs.map (evO s.tm))=ys/\Zac ys=true
 | [],S,k,h,hk=>⟨[],S,hk,h, .refl S,rfl,rfl⟩
 |o::xs,S,k,h,hk=>by
  simp only[Abs.matL]at hk
  cases ho:S.opd o with
  |none=>rw[ho]at hk;cases hk
  |some y=>
   rw[ho]at hk
   obtain⟨S1,h1,h2,h3,h4⟩:=h.mat (h.opd ho) hk
   obtain⟨ys,S2,h5,h6,h7,h8,h9⟩:=Sat.matL h2 h1
   refine⟨_,S2,h5,h6,h3.trans h7, ?_, ?_⟩
   ·simp only[Xaq,nfL,h8]
   ·simp only[Zac,h4,h9,Xcc]
theorem Sat.put (h:Sat c S ι s)(d:Option Nat){y:Sy}{v:V}{o:Bool}(hy:SyS ι S.vals y v o):Sat c (S.put d y) ι (s.put d v o) where
 tm t z hz:=by
  rw[Z0r]at hz
  have hv:(S.put d y).vals=S.vals:=by cases d<;>rfl
  rw[hv]
  cases d with
  |none=>simp only[reduceCtorEq,if_false]at hz;exact h.tm t z hz
  |some d=>
   by_cases e:d=t
   ·subst e
    simp only[if_true,Xac]at hz
    subst hz
    rw[Zzy,Ztm,if_pos rfl,if_pos rfl];exact hy
   ·simp only[Xac,e,if_false]at hz
    rw[Zzy,Ztm,if_neg (Ne.symm e),if_neg (Ne.symm e)];exact h.tm t z hz
 ob k ss hk:=by
  have e:(S.put d y).obj k=S.obj k:=by cases d<;>rfl
  have hv:(S.put d y).vals=S.vals:=by cases d<;>rfl
  rw[e]at hk
  obtain⟨id,h1,h2⟩:=h.ob k ss hk
  refine⟨id,h1, ?_⟩
  rw[hv]
  cases d with
  |none=>exact h2
  |some d=>exact h2.to (.refl _) (.refl _) rfl fun j=>by rw[Zw9]
 nd:=h.nd
 lt id hid:=by have:=h.lt id hid;cases d<;>exact this
 len:=by cases d<;>exact h.len
 lits i b hb:=by cases d<;>exact h.lits i b hb
 cln x hx:=by cases d<;>exact h.cln x hx
 g:=by cases d<;>exact h.g
 pre:=h.pre
 new:=by cases d<;>exact h.new
 nH:=by cases d<;>exact h.nH
 fr id h1 h2:=by cases d<;>exact h.fr id h1 h2
end Go.Abs
namespace Go.Abs
section
variable {ι:List Nat}{vs:List V}
theorem SegsS.shift {ow ow':Nat->Bool}:∀{ss:List Seg} {cs:List V} {j j':Nat},SegsS ι vs ss cs ow j->(∀i,i<cs.length->ow' (j'+i)=ow (j+i))->SegsS ι vs ss cs ow' j'
 | [],_,_,_,h,_=>h
 | .one a::r,_,j,j',⟨c,cs',e,h3,h4,h5⟩,ho=>by
  subst e
  refine⟨c,cs',rfl, ?_,h4,SegsS.shift h5 fun i h6=> ?_⟩
  ·have:=ho 0 (by simp);simp only[Xc5]at this;rw[this];exact h3
  ·have:=ho (i+1) (by simp;omega);rw[show j'+1+i=j'+(i+1)by omega,this,show j+1+i=j+(i+1)by omega]
 | .many n a::r,_,j,j',⟨l,cs',w,e,h3,h4,h5,h6,h7,h8⟩,ho=>by
  subst e
  refine⟨l,cs',w,rfl,h3,h4,h5,h6,h7,SegsS.shift h8 fun i h9=> ?_⟩
  have:=ho (l.length+i) (by simp;omega);rw[show j'+l.length+i=j'+(l.length+i)by omega,this,show j+l.length+i=j+(l.length+i)by omega]
theorem SegsS.all_sc {ow:Nat->Bool}:∀{ss:List Seg} {cs:List V} {j:Nat},SegsS ι vs ss cs ow j->cs.all V.sc=true
 | [],_,_,h=>by rw[show _=[]from h];rfl
 | .one a::r,_,_,⟨c,cs',e,h3,h4,h5⟩=>by subst e;simp only[Xcu,h4,SegsS.all_sc h5,Xcc]
 | .many n a::r,_,_,⟨l,cs',w,e,h3,h4,h5,h6,h7,h8⟩=>by subst e;rw[Xeg,h5,SegsS.all_sc h8];rfl
def Zi1 (ss:List Seg):Prop:=∀s∈ss,s.len.isSome=true
theorem SegsS.app {ow:Nat->Bool}{q:List Seg}{cq:List V}:∀{p:List Seg} {cp:List V} {j:Nat},(Zi1 p \/q=[])->SegsS ι vs p cp ow j->SegsS ι vs q cq ow (j+cp.length)->SegsS ι vs (p++q) (cp++cq) ow j
 | [],_,_,_,h,k=>by rw[show _=[]from h]at k⊢;exact k
 | .one a::r,_,j,hz,⟨c,cs',e,h3,h4,h5⟩,k=>by
  subst e
  refine⟨c,cs'++cq,rfl,h3,h4,SegsS.app ?_ h5 (by rw[show j+1+cs'.length=j+(c::cs').length by simp;omega];exact k)⟩
  rcases hz with hz|hz
  ·exact .inl fun s hs=>hz s (Xbk _ hs)
  ·exact .inr hz
 | .many n a::r,_,j,hz,⟨l,cs',w,e,h3,h4,h5,h6,h7,h8⟩,k=>by
  subst e
  refine⟨l,cs'++cq,w,by simp,h3,fun hn=> ?_,h5,h6,h7,SegsS.app ?_ h8 (by rw[show j+l.length+cs'.length=j+(l++cs').length by simp;omega];exact k)⟩
  ·rcases hz with hz|hz
   ·have:=hz (.many n a) (by simp);rw[hn]at this;simp[Seg.len]at this
   ·rw[h4 hn,hz];rfl
  ·rcases hz with hz|hz
   ·exact .inl fun s hs=>hz s (Xbk _ hs)
   ·exact .inr hz
theorem SegsS.split {ow:Nat->Bool}{q:List Seg}:∀{p:List Seg} {cs:List V} {j:Nat},SegsS ι vs (p++q) cs ow j-> ∃cp cq,cs=cp++cq/\SegsS ι vs p cp ow j/\SegsS ι vs q cq ow (j+cp.length)
 | [],cs,j,h=>⟨[],cs,rfl,rfl,h⟩
 | .one a::r,_,j,⟨c,cs',e,h3,h4,h5⟩=>by
  obtain⟨cp,cq,e2,k1,k2⟩:=SegsS.split h5
  subst e;subst e2
  exact⟨c::cp,cq,rfl,⟨c,cp,rfl,h3,h4,k1⟩,by rw[show j+(c::cp).length=j+1+cp.length by simp;omega];exact k2⟩
 | .many n a::r,_,j,⟨l,cs',w,e,h3,h4,h5,h6,h7,h8⟩=>by
  obtain⟨cp,cq,e2,k1,k2⟩:=SegsS.split h8
  subst e;subst e2
  exact⟨l++cp,cq,by simp,⟨l,cp,w,rfl,h3,fun hn=>(List.append_eq_nil_iff.1 (h4 hn)).1,h5,h6,h7,k1⟩,by rw[show j+(l++cp).length=j+l.length+cp.length by simp;omega];exact k2⟩
theorem SegsS.len1 {ow:Nat->Bool}{sg:Seg}{cs:List V}{j n:Nat}(h:SegsS ι vs [sg] cs ow j)(hn:sg.len=some n):cs.length=n:=by
 cases sg with
 |one a=>
  obtain⟨c,cs',e,_,_,h5⟩:=h
  rw[show cs'=[]from h5]at e;subst e
  simpa[Seg.len]using hn
 |many m a=>
  obtain⟨l,cs',w,e,h3,_,_,_,_,h8⟩:=h
  rw[show cs'=[]from h8]at e;subst e
  simp only[Seg.len]at hn
  simpa using h3 n hn
theorem Zbm {ow:Nat->Bool}:∀{ss:List Seg} {cs:List V} {j off i0:Nat} {sg:Seg} {r i:Nat},SegsS ι vs ss cs ow j->Zdj ss off i0=some (sg,r,i)->
  ∃p q cp cg cq,ss=p++sg::q/\i=i0+p.length/\cs=cp++(cg++cq)/\off=cp.length+r/\Zi1 p/\SegsS ι vs p cp ow j/\SegsS ι vs [sg] cg ow (j+cp.length)/\SegsS ι vs q cq ow (j+cp.length+cg.length)/\(sg.len=none->q=[])
 | [],_,_,_,_,_,_,_,_,h=>by cases h
 |s::ss,cs,j,off,i0,sg,r,i,h,hs=>by
  obtain⟨c1,c2,e,h1,h2⟩:=SegsS.split (p:=[s]) (q:=ss) h
  have hno:s.len=none->ss=[]:=fun hn=>by
   cases s with
   |one a=>cases hn
   |many n a=>obtain⟨_,_,_,_,_,h4,_⟩:=h;exact h4 hn
  have here:s=sg->off=r->i0=i-> ∃p q cp cg cq,s::ss=p++sg::q/\i=i0+p.length/\cs=cp++(cg++cq)/\off=cp.length+r/\Zi1 p/\SegsS ι vs p cp ow j/\SegsS ι vs [sg] cg ow (j+cp.length)/\SegsS ι vs q cq ow (j+cp.length+cg.length)/\(sg.len=none->q=[]):=fun e1 e2 e3=>⟨[],ss,[],c1,c2,by rw[<-e1];rfl,by rw[e3];rfl,e,by simp[e2],fun _ h=>by(cases h),rfl,by rw[<-e1];exact h1,by simpa using h2,by rw[<-e1];exact hno⟩
  simp only[Zdj]at hs
  split at hs
  ·rename_i hn
   cases hs
   exact here rfl rfl rfl
  ·rename_i n hn
   split at hs
   ·cases hs;exact here rfl rfl rfl
   ·rename_i hlt
    have hle:n<=off:=by
     have: ¬off<n:=fun hlt'=>by rw[show Nat.blt off n=true from Xet hlt']at hlt;cases hlt
     omega
    have hl:=h1.len1 hn
    obtain⟨p,q,cp,cg,cq,q1,q2,q3,q4,q5,q6,q7,q8,q9⟩:=Zbm h2 hs
    subst q1;subst q3;subst e
    refine⟨s::p,q,c1++cp,cg,cq,rfl,by simp;omega,by simp,by simp;omega,fun s' hs'=> ?_, ?_, ?_, ?_,q9⟩
    ·rcases Xa0.1 hs' with rfl|hs'
     ·rw[hn];rfl
     ·exact q5 s' hs'
    ·exact SegsS.app (p:=[s]) (.inl fun s' hs'=>by simp at hs';rw[hs',hn];rfl) h1 q6
    ·rw[show j+(c1++cp).length=j+c1.length+cp.length by simp;omega];exact q7
    ·rw[show j+(c1++cp).length=j+c1.length+cp.length by simp;omega];exact q8
theorem Zc0 {ow:Nat->Bool}:∀{ss:List Seg} {cs:List V} {j m q:Nat},SegsS ι vs ss cs ow j->Zb1 ss m=some q->
  ∃cp cq,cs=cp++cq/\cp.length=m/\Zi1 (ss.take q)/\q<=ss.length/\SegsS ι vs (ss.take q) cp ow j/\SegsS ι vs (ss.drop q) cq ow (j+m)
 |ss,cs,j,0,q,h,hq=>by
  have:q=0:=by cases ss<;>simp[Zb1]at hq<;>exact hq.symm
  subst this
  exact⟨[],cs,rfl,rfl,fun _ h=>by(simp at h),Xbw _,rfl,by simpa using h⟩
 | [],_,_,_+1,_,_,hq=>by cases hq
 |s::ss,cs,j,m+1,q,h,hq=>by
  obtain⟨c1,c2,e,h1,h2⟩:=SegsS.split (p:=[s]) (q:=ss) h
  simp only[Zb1]at hq
  split at hq
  ·rename_i n hn
   split at hq
   ·rename_i hc
    simp only[Xai]at hc
    have hc1:=Xa6 hc.1
    have hc2:=Xa6 hc.2
    simp only[Xaa]at hq
    obtain⟨q',hq',rfl⟩:=hq
    have hl:=h1.len1 hn
    obtain⟨cp,cq,q1,q2,q3,q4,q5,q6⟩:=Zc0 h2 hq'
    subst q1;subst e
    refine⟨c1++cp,cq,by simp,by simp;omega,fun s' hs'=> ?_,by simp;omega, ?_, ?_⟩
    ·simp only[Xdg,Xa0]at hs'
     rcases hs' with rfl|hs'
     ·rw[hn];rfl
     ·exact q3 s' hs'
    ·exact SegsS.app (p:=[s]) (.inl fun s' hs'=>by simp at hs';rw[hs',hn];rfl) h1 q5
    ·simp only[Xe7]
     rw[show j+(m+1)=j+c1.length+(m+1-n)by omega];exact q6
   ·cases hq
  ·cases hq
theorem Zn5 {ow ow':Nat->Bool}{ss q:List Seg}{cs ys:List V}{off n:Nat}{sg:Seg}{i m:Nat}(h:SegsS ι vs ss cs ow 0)(hs:Zdj ss off 0=some (sg,0,i))(hm:Zb1 (ss.drop i) n=some m)(hq:SegsS ι vs q ys ow' off)(hn:ys.length=n)
  (hz:Zi1 q \/ss.drop (i+m)=[]) (ho:∀j,(j<off \/off+n<=j)->ow' j=ow j):off+n<=cs.length/\SegsS ι vs (spl ss i m q) (Zav cs off ys) ow' 0:=by
 obtain⟨p,q',cp,cg,cq,e1,e2,e3,e4,e5,e6,e7,e8,e9⟩:=Zbm h hs
 simp only[Xan,Xc5]at e2 e4 e7 e8
 subst e1;subst e3;subst e2
 have hd:(p++sg::q').drop p.length=sg::q':=by simp
 rw[hd]at hm
 have hr:SegsS ι vs (sg::q') (cg++cq) ow cp.length:=by
  have:=SegsS.split (p:=p) (q:=sg::q') h
  refine SegsS.app (p:=[sg]) (q:=q') ?_ e7 (by rw[show cp.length+cg.length=cp.length+cg.length from rfl];exact e8)
  cases hsl:sg.len with
  |none=>exact .inr (e9 hsl)
  |some k=>exact .inl fun s' hs'=>by simp at hs';rw[hs',hsl];rfl
 obtain⟨c1,c2,k1,k2,k3,k4,k5,k6⟩:=Zc0 hr hm
 rw[k1]
 have hl:off+n<=(cp++(c1++c2)).length:=by simp;omega
 refine⟨hl, ?_⟩
 have hset:Zav (cp++(c1++c2)) off ys=cp++(ys++c2):=by
  subst e4
  simp only[Zav,Xeh]
  rw[show cp.length+ys.length=cp.length+c1.length by omega, <-Xaj cp c1 c2, <-Xaf,Xc9]
  simp
 have hspl:spl (p++sg::q') p.length m q=p++(q++(sg::q').drop m):=by
  simp only[spl,Xeh,Xaj]
  rw[show p.length+m=p.length+m from rfl,Xc6]
  simp
 rw[hset,hspl]
 refine SegsS.app (.inl e5) (e6.shift fun i hi=> ?_) (SegsS.app ?_ (by rw[Xan, <-e4];exact hq) (k6.shift fun i hi=> ?_))
 ·simp only[Xan];exact ho _ (.inl (by omega))
 ·rcases hz with hz|hz
  ·exact .inl hz
  ·refine .inr ?_
   rw[Xc6]at hz
   simpa using hz
 ·rw[ho _ (.inr (by omega))];congr 1;omega
theorem Zmp {ow ow':Nat->Bool}{ss:List Seg}{cs ys:List V}{off n r i i' u:Nat}{sn:Option Nat}{a:At}{w x:V}(h:SegsS ι vs ss cs ow 0)(hs:Zdj ss off 0=some (.many sn a,r,i))(ha:∀w,AtV vs a w->w=x)(hle:r+u+n<=x.cells.length)(hn:ys.length=n)(hsc:ys.all V.sc=true)
  (hw:vs[i']? =some w) (hww:w= .agg (Zav x.cells (r+u) (nfL ys))) (ho:∀j,(j<off+u \/off+u+n<=j)->ow' j=ow j):off+u+n<=cs.length/\SegsS ι vs (spl ss i 1 [.many sn (.n i' false false)]) (Zav cs (off+u) ys) ow' 0:=by
 obtain⟨p,q',cp,cg,cq,e1,e2,e3,e4,e5,e6,e7,e8,e9⟩:=Zbm h hs
 simp only[Xan]at e2 e7 e8
 subst e1;subst e3;subst e2
 obtain⟨l,cs',v,f1,f2,f3,f4,f5,f6,f7⟩:=e7
 rw[show cs'=[]from f7,Xao]at f1
 subst f1
 obtain rfl:=ha v f5
 have hl:cg.length=v.cells.length:=by rw[<-f6,Zap]
 refine⟨by simp;omega, ?_⟩
 have hset:Zav (cp++(cg++cq)) (off+u) ys=cp++(Zav cg (r+u) ys++cq):=by
  subst e4
  simp only[Zav]
  rw[List.take_append,Xaw (by omega),Xc6,Xav (by omega)]
  rw[show cp.length+r+u-cp.length=r+u by omega,show cp.length+r+u+ys.length-cp.length=r+u+ys.length by omega]
  rw[Xb4 (by omega),Xby (by omega)]
  simp
 have hspl:spl (p++ .many sn a::q') p.length 1 [.many sn (.n i' false false)]=p++(.many sn (.n i' false false)::q'):=by
  simp only[spl,Xeh]
  rw[Xc6];simp
 rw[hset,hspl]
 have hsl:(Zav cg (r+u) ys).length=cg.length:=by simp[Zav];omega
 refine SegsS.app (.inl e5) (e6.shift fun i hi=> ?_) ⟨Zav cg (r+u) ys,cq,w,rfl,fun m hm=>by rw[hsl];exact f2 m hm,fun hn=>e9 hn, ?_,hw, ?_,e8.shift fun i hi=> ?_⟩
 ·simp only[Xan];exact ho _ (.inl (by omega))
 ·simp only[Zav,Xeg,Xai]
  rw[Xal]at f4
  exact⟨⟨Xal.2 fun x hx=>f4 x (Xbn hx),hsc⟩,Xal.2 fun x hx=>f4 x (Xb2 hx)⟩
 ·rw[hww, <-f6, <-Zn8];rfl
 ·rw[hsl,Xan,ho _ (.inr (by omega))]
theorem Zqh {ow ow':Nat->Bool}{ss:List Seg}{cs ys:List V}{off n r i i':Nat}{sn:Option Nat}{a:At}{w x:V}(h:SegsS ι vs ss cs ow 0)(hs:Zdj ss off 0=some (.many sn a,r,i))(ha:∀w,AtV vs a w->w=x)(hle:r+n<=x.cells.length)(hn:ys.length=n)(hsc:ys.all V.sc=true)
  (hw:vs[i']? =some w) (hww:w= .agg (Zav x.cells r (nfL ys))) (ho:∀j,(j<off \/off+n<=j)->ow' j=ow j):off+n<=cs.length/\SegsS ι vs (spl ss i 1 [.many sn (.n i' false false)]) (Zav cs off ys) ow' 0:=
 Zmp (u:=0) h hs ha hle hn hsc hw hww ho
end
variable {c:Fc}{ι:List Nat}{s:St}{S:PS V}
theorem Zty {X:Type}(S:PS X)(o:Nat)(ss:List Seg)(k:Nat):(S.setOb o ss).obj k=if k=o/\o<S.ob.length then some ss else S.obj k:=by
 simp only[PS.obj,PS.setOb,Xem]
 by_cases h:o=k
 ·subst h
  by_cases hl:o<S.ob.length
  ·simp[hl]
  ·simp[hl]
 ·simp[h,Ne.symm h]
theorem Z4c {X:Type}{S:PS X}{o:Nat}{ss:List Seg}(h:S.obj o=some ss):o<S.ob.length:=by
 unfold PS.obj at h
 split at h
 ·rename_i e;exact(Xae.1 e).1
 ·cases h
theorem Sat.given (h:Sat c S ι s){o id:Nat}(hι:ι[o]? =some id):id∈c.ids \/c.hs.nH<=id:=by
 rcases Xa4 o S.g with h1|h1
 ·left
  rw[<-h.g]at h1
  have h2:=h.pre o _ (Xad h1)
  rw[hι]at h2
  rw[Option.some.inj h2];exact Xau h1
 ·exact .inr (h.new o id hι h1)
theorem Sat.objUpdS (h:Sat c S ι s){o id:Nat}(hι:ι[o]? =some id){s':St}(htm:s'.tm=s.tm)(hown:∀t,s'.own (.slot t)=s.own (.slot t))(hnH:s'.nH=s.nH)
  (hoth:∀id',id'≠id->s'.H id'=s.H id'/\ ∀j,s'.own (.cell id' j)=s.own (.cell id' j)) {ss:List Seg} (hobs:ObS ι S.vals ss s'.H (fun j=>s'.own (.cell id j)) id):
  Sat c (S.setOb o ss) ι s' where
 tm t y hy:=by rw[htm,hown];exact h.tm t y hy
 ob k qs hk:=by
  rw[Zty]at hk
  split at hk
  ·rename_i e
   cases hk
   rw[e.1]
   exact⟨id,hι,hobs⟩
  ·rename_i e
   obtain⟨id',h1,h2⟩:=h.ob k qs hk
   have hne:id'≠id:=fun he=>by
    subst he
    have hko:k=o:=(Xen (Xae.1 h1).1 h.nd).1 (by rw[h1,hι])
    exact e ⟨hko,by rw[<-hko];exact Z4c hk⟩
   obtain⟨k1,k2⟩:=hoth id' hne
   exact⟨id',h1,h2.to (.refl _) (.refl _) k1 k2⟩
 nd:=h.nd
 lt id' hid:=by rw[hnH];exact h.lt id' hid
 len:=by simpa[PS.setOb]using h.len
 lits:=h.lits
 cln:=h.cln
 g:=h.g
 pre:=h.pre
 new:=h.new
 nH:=by rw[hnH];exact h.nH
 fr id' h1 h2:=by
  have hne:id'≠id:=by
   rintro rfl
   rcases h.given hι with h3|h3
   ·exact h2 h3
   ·omega
  obtain⟨k1,k2⟩:=hoth id' hne
  obtain⟨k3,k4⟩:=h.fr id' h1 h2
  exact⟨k1.trans k3,fun j=>(k2 j).trans (k4 j)⟩
theorem Sat.objUpd (h:Sat c S ι s){o id:Nat}(hι:ι[o]? =some id){s':St}(htm:s'.tm=s.tm)(hown:∀t,s'.own (.slot t)=s.own (.slot t))(hnH:s'.nH=s.nH)
  (hoth:∀id',id'≠id->s'.H id'=s.H id'/\ ∀j,s'.own (.cell id' j)=s.own (.cell id' j)) {ss:List Seg} {cs:List V} (hcs:Zat s'.H id=some cs) (hseg:SegsS ι S.vals ss cs (fun j=>s'.own (.cell id j)) 0):Sat c (S.setOb o ss) ι s':=
 h.objUpdS hι htm hown hnH hoth (.cs cs hcs hseg)
theorem Sat.newObS (h:Sat c S ι s){s':St}(htm:s'.tm=s.tm)(hown:∀t,s'.own (.slot t)=s.own (.slot t))(hnH:s'.nH=s.nH+1)(hoth:∀id',id'≠s.nH->s'.H id'=s.H id'/\ ∀j,s'.own (.cell id' j)=s.own (.cell id' j))
  {ss:List Seg} (hobs:ObS (ι++ [s.nH]) S.vals ss s'.H (fun j=>s'.own (.cell s.nH j)) s.nH):Sat c (S.newOb ss) (ι++ [s.nH]) s'/\(ι++ [s.nH])[S.ob.length]? =some s.nH where
 left:=
 {tm:=fun t y hy=>by
    rw[htm,hown];exact(h.tm t y hy).mono (.app _ _) (.refl _)
  ob:=fun k qs hk=>by
   have hk':(k<S.ob.length/\S.obj k=some qs) \/(k=S.ob.length/\qs=ss):=by
    unfold PS.obj PS.newOb at hk
    split at hk
    ·rename_i e
     rw[Xcp]at e
     split at e
     ·rename_i hl;left;refine⟨hl, ?_⟩;unfold PS.obj;rw[e];exact hk
     ·right
      rename_i hl
      have:=(Xae.1 e).1
      simp at this
      have hkl:k=S.ob.length:=by omega
      subst hkl
      simp at e
      cases hk;exact⟨rfl,e.symm⟩
    ·cases hk
   rcases hk' with⟨hl,hk'⟩|⟨rfl,rfl⟩
   ·obtain⟨id,h1,h2⟩:=h.ob k qs hk'
    have hlt:=h.lt id (Xam h1)
    obtain⟨k1,k2⟩:=hoth id (by omega)
    exact⟨id,PreN.app _ _ _ _ h1,h2.to (.app _ _) (.refl _) k1 k2⟩
   ·exact⟨s.nH,by rw[<-h.len];simp,hobs⟩
  nd:=by
   rw[List.nodup_append]
   refine⟨h.nd,by simp,fun a ha b hb=> ?_⟩
   simp at hb;subst hb
   have:=h.lt a ha;omega
  lt:=fun id hid=>by
   rw[hnH]
   rcases Xay.1 hid with hid|hid
   ·have:=h.lt id hid;omega
   ·simp at hid;omega
  len:=by simp[PS.newOb,h.len]
  lits:=h.lits
  cln:=h.cln
  g:=h.g
  pre:=fun k id hk=>PreN.app _ _ _ _ (h.pre k id hk)
  new:=fun k id hk hg=>by
   rw[Xcp]at hk
   split at hk
   ·exact h.new k id hk hg
   ·have:=Xam hk
    simp at this;rw[this];exact h.nH
  nH:=by rw[hnH];have:=h.nH;omega
  fr:=fun id h1 h2=>by
   have hne:id≠s.nH:=by have:=h.nH;omega
   obtain⟨k1,k2⟩:=h.fr id h1 h2
   obtain⟨k3,k4⟩:=hoth id hne
   exact⟨k3.trans k1,fun j=>(k4 j).trans (k2 j)⟩}
 right:=by rw[<-h.len];simp
theorem Sat.newOb (h:Sat c S ι s){ss:List Seg}{cs:List V}(hseg:SegsS ι S.vals ss cs (fun _=>false) 0):Sat c (S.newOb ss) (ι++ [s.nH]) (s.new cs)/\(ι++ [s.nH])[S.ob.length]? =some s.nH:=
 h.newObS (s':=s.new cs) rfl (fun _=>rfl) rfl (fun id' hne=>⟨by simp only[St.new,upd,if_neg hne],fun j=>by rw[Zqr,if_neg hne]⟩)
  (.cs cs (by simp) ((hseg.mono (.app _ _) (.refl _)).shift fun i hi=>by simp only[Xan];rw[Zqr,if_pos rfl]))
theorem Zqq {X:Type}(S:PS X)(t:Nat):(S.disown t).g=S.g:=by unfold PS.disown;split<;>rfl
theorem Sat.disown (h:Sat c S ι s)(t:Nat):Sat c (S.disown t) ι (s.take (some (.slot t))) where
 tm u y hy:=by
  have hv:(S.disown t).vals=S.vals:=by unfold PS.disown;split<;>rfl
  rw[hv]
  unfold PS.disown at hy
  split at hy
  ·rename_i z hz
   simp only[PS.get,Zcp]at hy
   split at hy
   ·rename_i e
    subst e;cases hy
    exact(h.tm _ _ hz).noOwn _
   ·rename_i e
    have:=h.tm u y hy
    rw[take_own,if_neg (by simp;omega)]
    exact this
  ·rename_i hz
   by_cases e:u=t
   ·subst e;rw[hz]at hy;cases hy
   ·rw[take_own,if_neg (by simpa using e)];exact h.tm u y hy
 ob k ss hk:=by
  have hv:(S.disown t).vals=S.vals:=by unfold PS.disown;split<;>rfl
  have he:(S.disown t).obj k=S.obj k:=by unfold PS.disown;split<;>rfl
  rw[he]at hk
  obtain⟨id,h1,h2⟩:=h.ob k ss hk
  refine⟨id,h1, ?_⟩
  rw[hv]
  exact h2.to (.refl _) (.refl _) rfl fun j=>by rw[take_own,if_neg (by simp)]
 nd:=h.nd
 lt:=h.lt
 len:=by have:(S.disown t).ob=S.ob:=by unfold PS.disown;split<;>rfl
         rw[this];exact h.len
 lits i b hb:=by
  have hv:(S.disown t).vals=S.vals:=by unfold PS.disown;split<;>rfl
  have he:(S.disown t).lits=S.lits:=by unfold PS.disown;split<;>rfl
  rw[he]at hb;rw[hv];exact h.lits i b hb
 cln x hx:=by
  have hv:(S.disown t).vals=S.vals:=by unfold PS.disown;split<;>rfl
  rw[hv]at hx;exact h.cln x hx
 g:=by rw[Zqq];exact h.g
 pre:=h.pre
 new:=by rw[Zqq];exact h.new
 nH:=h.nH
 fr id h1 h2:=by
  obtain⟨k1,k2⟩:=h.fr id h1 h2
  exact⟨k1,fun j=>by show(s.take _).own (.cell id j)=_;rw[take_own,if_neg (by simp)];exact k2 j⟩
end Go.Abs
namespace Go.Abs
def ResS (ι:List Nat)(vs:List V):List At->V->Bool->Prop
 | [a],v,o=>AtS ι vs a v o
 |az,v,_=> ∃ws,v= .tup ws/\AtsS ι vs az ws
structure RetS (c:Fc)(rt:RT)(xs:List V)(v:V)(o:Bool)(hs':HS)(ι':List Nat):Prop where
 n:xs.length=rt.n
 cl:Zac xs=true
 pre:∀(k id:Nat),c.ids[k]? =some id->ι'[k]? =some id
 len:ι'.length=rt.ob.length
 nd:ι'.Nodup
 lt:∀id∈ι',id<hs'.nH
 new:∀(k id:Nat),ι'[k]? =some id->c.ids.length<=k->c.hs.nH<=id
 nH:c.hs.nH<=hs'.nH
 res:ResS ι' xs rt.res v o
 ob:∀(k:Nat) (ss:List Seg),rt.ob[k]? =some (some ss)-> ∃id,ι'[k]? =some id/\ObS ι' xs ss hs'.H (hs'.co id) id
 fr:Frame c hs'.H hs'.co
def dumV :List V->List V
 | []=> [.bool true]
 |xs=>xs
def Zth (n:Nat)(j:Nat)(xs:List V):V:=match n with|1=>oneV xs|_=>oneV (.int .i64 j::dumV xs)
def RetR (c:Fc)(rts:List RT)(r v:V)(o:Bool)(hs':HS):Prop:= ∃j rt xs ι',rts[j]? =some rt/\r=Zth rts.length j xs/\RetS c rt xs v o hs' ι'
structure RI (no:Nat)(ρ:List (Nat×Nat)):Prop where
 lk:∀k o,(k,o)∈ρ->lk ρ k=some o
 inj:∀k k' o,(k,o)∈ρ->(k',o)∈ρ->k=k'
 lt:∀k o,(k,o)∈ρ->k<no
def Agree (ρ:List (Nat×Nat))(ι ι':List Nat):Prop:=∀k o id,(k,o)∈ρ->ι[o]? =some id->ι'[k]? =some id
theorem Agree.sub {ρ ρ':List (Nat×Nat)}{ι ι':List Nat}(h:Agree ρ' ι ι')(hs:∀p∈ρ,p∈ρ'):Agree ρ ι ι':=fun k o id hk ho=>h k o id (hs _ hk) ho
theorem Zdh {α:Type}:∀{l:List (Nat×α)} {t:Nat} {a:α},lk l t=some a->(t,a)∈l
 |(k,b)::l,t,a,h=>by
  rw[Zcp]at h
  split at h
  ·rename_i e;cases h;rw[e];simp
  ·exact Xbk _ (Zdh h)
theorem Zp2 {no:Nat}{ρ ρ':List (Nat×Nat)}{k o:Nat}(h:mO no ρ k o=some ρ')(hr:RI no ρ):RI no ρ'/\(∀p∈ρ,p∈ρ')/\(k,o)∈ρ':=by
 unfold mO at h
 split at h
 ·rename_i hk
  have hk':k<no:=Xa6 hk
  split at h
  ·rename_i o' ho
   split at h
   ·rename_i he
    cases h
    rw[Xah he]
    exact⟨hr,fun _ h=>h,Zdh ho⟩
   ·cases h
  ·rename_i ho
   split at h
   ·cases h
   ·rename_i hany
    cases h
    have hno:∀k',(k',o)∉ρ:=fun k' hm=>by
     have:=Xcz.1 hany _ hm
     simp at this
    refine⟨⟨fun k1 o1 hm=> ?_,fun k1 k2 o1 h1 h2=> ?_,fun k1 o1 hm=> ?_⟩,fun p hp=>Xbk _ hp,by simp⟩
    ·rcases Xa0.1 hm with e|hm
     ·cases e;rw[Zcp,if_pos rfl]
     ·have h1:=hr.lk _ _ hm
      rw[Zcp]
      split
      ·rename_i e;subst e;rw[ho]at h1;cases h1
      ·exact h1
    ·rcases Xa0.1 h1 with e1|h1<;>rcases Xa0.1 h2 with e2|h2
     ·cases e1;cases e2;rfl
     ·cases e1;exact absurd h2 (hno _)
     ·cases e2;exact absurd h1 (hno _)
     ·exact hr.inj _ _ _ h1 h2
    ·rcases Xa0.1 hm with e|hm
     ·cases e;exact hk'
     ·exact hr.lt _ _ hm
 ·cases h
theorem Zzo {no:Nat}:∀{T ps ρ ρ':List (Nat×Nat)},mPs no T ps ρ=some ρ'->RI no ρ->RI no ρ'/\(∀p∈ρ,p∈ρ')/\ ∀ι ι' cs,Agree ρ' ι ι'->PsS ι ps cs->PsS ι' T cs
 | [],[],ρ,ρ',h,hr=>by cases h;exact⟨hr,fun _ h=>h,fun _ _ _ _ h=>h⟩
 |(k,off)::T,(o,off')::ps,ρ,ρ',h,hr=>by
  simp only[mPs]at h
  split at h
  ·rename_i ρ1 hb h1
   obtain⟨q1,q2,q3⟩:=Zp2 h1 hr
   obtain⟨q4,q5,q6⟩:=Zzo h q1
   refine⟨q4,fun p hp=>q5 _ (q2 _ hp),fun ι ι' cs ha hp=> ?_⟩
   obtain⟨id,cs',e1,e2,e3⟩:=hp
   exact⟨id,cs',ha _ _ _ (q5 _ q3) e1,by rw[Xah hb];exact e2,q6 _ _ _ ha e3⟩
  ·cases h
 | [],_::_,_,_,h,_=>by cases h
 |_::_,[],_,_,h,_=>by cases h
variable {Γ:Gam}{f:Nat}{c:Fc}{ι:List Nat}{s:St}{S:PS V}
theorem Z5l {m m' b:Bool}(h:(Bool.xor m m'|| !b)=false):m=m'/\b=true:=by cases m<;>cases m'<;>cases b<;>simp_all
theorem Zkt (h:Sat c S ι s){no:Nat}{T y:At}{ρ ρ':List (Nat×Nat)}{acc acc':List V}(hg:mAt (BV Γ f) S no T y ρ acc=some (ρ',acc'))(hr:RI no ρ):
  RI no ρ'/\(∀p∈ρ,p∈ρ')/\(∃l,acc'=acc++l)/\(∀v o,AtS ι S.vals y v o->(Zac acc=true->Zac acc'=true)/\ ∀ι' vs,Agree ρ' ι ι'->Pre acc' vs->AtS ι' vs T v o)/\
   (∀w,AtV S.vals y w->(Zac acc=true->Zac acc'=true)/\ ∀vs,Pre acc' vs->AtV vs T w):=by
 have last:∀{x:V} {i:Nat},i=acc.length->(acc++ [x])[i]? =some x:=fun e=>by rw[e];simp
 unfold mAt at hg
 split at hg
 ·split at hg
  ·rename_i ρ1 hb h1
   cases hg
   obtain⟨q1,q2,q3⟩:=Zp2 h1 hr
   refine⟨q1,q2,⟨[],by simp⟩,fun v o hv=>⟨id,fun ι' vs ha _=> ?_⟩,fun w hw=>hw.elim⟩
   obtain⟨id,h4,h5⟩:=hv
   exact⟨id,ha _ _ _ q3 h4,by rw[Xah hb];exact h5⟩
  ·cases hg
 ·split at hg
  ·rename_i hc
   simp only[Xai]at hc
   cases hg
   refine⟨hr,fun _ h=>h,⟨[],by simp⟩,fun v o hv=>⟨id,fun ι' vs _ _=> ?_⟩,fun w hw=>hw.elim⟩
   show v=_
   rw[Xah hc.1,Xah hc.2];exact hv
  ·cases hg
 ·split at hg
  ·rename_i ρ1 hc h1
   simp only[Xai]at hc
   obtain⟨⟨⟨b1,b2⟩,b3⟩,b4⟩:=hc
   cases hg
   obtain⟨q1,q2,q3⟩:=Zp2 h1 hr
   refine⟨q1,q2,⟨[],by simp⟩,fun v o hv=>⟨id,fun ι' vs ha _=> ?_⟩,fun w hw=>hw.elim⟩
   obtain⟨id,h4,h5⟩:=hv
   rw[<-Xah b1, <-Xah b2, <-Xah b3, <-Xah b4]at h5
   exact⟨id,ha _ _ _ q3 h4,h5⟩
  ·cases hg
 ·split at hg
  ·rename_i x ρ1 hc hx h1
   simp only[Xai]at hc
   cases hg
   obtain⟨q1,q2,q3⟩:=Zp2 h1 hr
   refine⟨q1,q2,⟨[x],rfl⟩,fun v o hv=>⟨fun hcl=>Zbh hcl (by simp only[Zac,h.cln _ (Xam hx),Xcc]),fun ι' vs ha hp=> ?_⟩,fun w hw=>hw.elim⟩
   obtain⟨id,n,cap,h4,h5,h6,h7,h8⟩:=hv
   rw[hx]at h5;cases h5
   exact⟨id,n,cap,ha _ _ _ q3 h4,hp _ _ (last (Xah hc.1)),h6,by rw[Xah hc.2];exact h7,h8⟩
  ·cases hg
 ·split at hg
  ·rename_i x y ρ1 hc hx hy h1
   simp only[Xai]at hc
   obtain⟨⟨b1,b2⟩,b3⟩:=hc
   cases hg
   obtain⟨q1,q2,q3⟩:=Zp2 h1 hr
   refine⟨q1,q2,⟨[x,y],rfl⟩,fun v o hv=>⟨fun hcl=>Zbh hcl (by simp only[Zac,h.cln _ (Xam hx),h.cln _ (Xam hy),Xcc]),fun ι' vs ha hp=> ?_⟩,fun w hw=>hw.elim⟩
   obtain⟨id,a,b,cap,h4,h5,h6,h7,h8,h9,h10⟩:=hv
   rw[hx]at h5;cases h5
   rw[hy]at h6;cases h6
   exact⟨id,a,b,cap,ha _ _ _ q3 h4,hp _ _ (by rw[Xah b1];simp),hp _ _ (by rw[Xah b2];simp),h7,h8,by rw[Xah b3];exact h9,h10⟩
  ·cases hg
 ·split at hg
  ·rename_i y ρ1 hc hy h1
   simp only[Xai]at hc
   obtain⟨⟨b1,b2⟩,b3⟩:=hc
   cases hg
   obtain⟨q1,q2,q3⟩:=Zp2 h1 hr
   refine⟨q1,q2,⟨[.int .i64 0,y],rfl⟩,fun v o hv=>⟨fun hcl=>Zbh hcl (by
    have hy':=h.cln _ (Xam hy)
    simp only[Zac,hy',Xch]
    rfl),fun ι' vs ha hp=> ?_⟩,fun w hw=>hw.elim⟩
   obtain⟨id,n,cap,h4,h5,h6,h7,h8⟩:=hv
   rw[hy]at h5;cases h5
   exact⟨id,0,n,cap,ha _ _ _ q3 h4,hp _ _ (by rw[Xah b1];simp[BV]),hp _ _ (by rw[Xah b2];simp),Int.le_refl _,h6,by rw[Xah b3];simpa using h7,by simpa using h8⟩
  ·cases hg
 ·split at hg
  ·rename_i ρ1 hb h1
   cases hg
   obtain⟨b1,b2⟩:=Z5l hb
   obtain⟨q1,q2,q3⟩:=Zzo h1 hr
   refine⟨q1,q2,⟨[],by simp⟩,fun v o hv=>⟨id,fun ι' vs ha _=> ?_⟩,fun w hw=>hw.elim⟩
   obtain⟨cs,h4,h5⟩:=hv
   exact⟨cs,by rw[b1,Xah b2];exact h4,q3 _ _ _ ha h5⟩
  ·cases hg
 ·split at hg
  ·rename_i x hc hx
   simp only[Xai]at hc
   cases hg
   refine⟨hr,fun _ h=>h,⟨[x],rfl⟩,fun v o hv=>⟨fun hcl=>Zbh hcl (by simp only[Zac,h.cln _ (Xam hx),Xcc]),fun ι' vs _ hp=> ?_⟩,fun w hw=>hw.elim⟩
   obtain⟨w,h1,h2⟩:=hv
   rw[hx]at h1;cases h1
   exact⟨x,hp _ _ (last (Xah hc.1)),by rw[Xah hc.2];exact h2⟩
  ·cases hg
 ·split at hg
  ·rename_i x hc hx
   simp only[Xai,Xa5,Xbh]at hc
   obtain⟨⟨h1,h2⟩,h3⟩:=hc
   cases hg
   refine⟨hr,fun _ h=>h,⟨[x],rfl⟩,fun v o hv=> ?_,fun w hw=> ?_⟩
   ·obtain⟨rfl,hxc⟩:=h.val hv hx
    refine⟨fun hcl=>Zbh hcl (by simp only[Zac,hxc,Xcc]),fun ι' vs _ hp=>⟨hp _ _ (last (Xah h1)),fun ho=> ?_,fun ho=> ?_⟩⟩
    ·rcases h2 with h2|h2
     ·rw[ho]at h2;cases h2
     ·exact hv.owned h2
    ·rcases h3 with h3|h3
     ·rw[ho]at h3;cases h3
     ·exact hv.one h3
   ·obtain⟨rfl,hxc⟩:=h.valV hw hx
    exact⟨fun hcl=>Zbh hcl (by simp only[Zac,hxc,Xcc]),fun vs hp=>hp _ _ (last (Xah h1))⟩
  ·cases hg
 ·cases hg
  refine⟨hr,fun _ h=>h,⟨[],by simp⟩,fun v o hv=>⟨id,fun ι' vs _ _=> ?_⟩,fun w hw=>⟨id,fun vs _=> ?_⟩⟩
  ·exact⟨hv.1,rfl,fun h=>nomatch h⟩
  ·exact hw
 ·split at hg
  ·rename_i ρ1 h1
   cases hg
   obtain⟨q1,q2,q3⟩:=Zp2 h1 hr
   refine⟨q1,q2,⟨[],by simp⟩,fun v o hv=>⟨id,fun ι' vs ha _=> ?_⟩,fun w hw=>hw.elim⟩
   obtain⟨id,h4,h5⟩:=hv
   exact⟨id,ha _ _ _ q3 h4,h5⟩
  ·cases hg
 ·split at hg
  ·rename_i x hc hx
   cases hg
   exact⟨hr,fun _ h=>h,⟨[x],rfl⟩,fun v o hv=>hv.elim,fun w hw=>hw.elim⟩
  ·cases hg
 ·cases hg
theorem Zhf (h:Sat c S ι s){no:Nat}{ow:Nat->Bool}:∀{ss qs:List Seg} {cs:List V} {j:Nat} {ρ ρ':List (Nat×Nat)} {acc acc':List V},mSegs (BV Γ f) S no ss qs ρ acc=some (ρ',acc')->RI no ρ->SegsS ι S.vals qs cs ow j->
  RI no ρ'/\(∀p∈ρ,p∈ρ')/\(∃l,acc'=acc++l)/\(Zac acc=true->Zac acc'=true)/\ ∀ι' vs,Agree ρ' ι ι'->Pre acc' vs->SegsS ι' vs ss cs ow j
 | [],[],cs,j,ρ,ρ',acc,acc',hg,hr,hs=>by cases hg;exact⟨hr,fun _ h=>h,⟨[],by simp⟩,id,fun _ _ _ _=>hs⟩
 | .one a::ss, .one b::qs,cs,j,ρ,ρ',acc,acc',hg,hr,hs=>by
  simp only[mSegs]at hg
  split at hg
  ·rename_i ρ1 acc1 h1
   obtain⟨c',cs',e,q1,q2,q3⟩:=hs
   obtain⟨r1,r2,⟨l1,e1⟩,h3,_⟩:=Zkt h h1 hr
   obtain⟨h4,h5⟩:=h3 c' _ q1
   obtain⟨r3,r4,⟨l2,e2⟩,h6,h7⟩:=Zhf h hg r1 q3
   exact⟨r3,fun p hp=>r4 _ (r2 _ hp),⟨l1++l2,by rw[e2,e1,Xaj]⟩,fun hc=>h6 (h4 hc),fun ι' vs ha hp=>⟨c',cs',e,h5 ι' vs (ha.sub r4) (fun i x hi=>hp i x (by rw[e2];exact Pre.app _ _ i x hi)),q2,h7 ι' vs ha hp⟩⟩
  ·cases hg
 | .many (some n) a::ss, .many (some m) b::qs,cs,j,ρ,ρ',acc,acc',hg,hr,hs=>by
  simp only[mSegs]at hg
  split at hg
  ·rename_i ρ1 acc1 hn h1
   obtain⟨l,cs',w,e,q1,q2,q3,q4,q5,q6⟩:=hs
   obtain⟨r1,r2,⟨l1,e1⟩,_,h3⟩:=Zkt h h1 hr
   obtain⟨h4,h5⟩:=h3 w q4
   obtain⟨r3,r4,⟨l2,e2⟩,h6,h7⟩:=Zhf h hg r1 q6
   exact⟨r3,fun p hp=>r4 _ (r2 _ hp),⟨l1++l2,by rw[e2,e1,Xaj]⟩,fun hc=>h6 (h4 hc),fun ι' vs ha hp=>⟨l,cs',w,e,(by rw[Xah hn];exact q1),(fun hn=>by cases hn),q3,h5 vs (fun i x hi=>hp i x (by rw[e2];exact Pre.app _ _ i x hi)),q5,h7 ι' vs ha hp⟩⟩
  ·cases hg
 | .many none a::ss, .many none b::qs,cs,j,ρ,ρ',acc,acc',hg,hr,hs=>by
  simp only[mSegs]at hg
  split at hg
  ·rename_i ρ1 acc1 h1
   obtain⟨l,cs',w,e,q1,q2,q3,q4,q5,q6⟩:=hs
   obtain⟨r1,r2,⟨l1,e1⟩,_,h3⟩:=Zkt h h1 hr
   obtain⟨h4,h5⟩:=h3 w q4
   obtain⟨r3,r4,⟨l2,e2⟩,h6,h7⟩:=Zhf h hg r1 q6
   refine⟨r3,fun p hp=>r4 _ (r2 _ hp),⟨l1++l2,by rw[e2,e1,Xaj]⟩,fun hc=>h6 (h4 hc),fun ι' vs ha hp=>⟨l,cs',w,e,q1,fun hn=> ?_,q3,h5 vs (fun i x hi=>hp i x (by rw[e2];exact Pre.app _ _ i x hi)),q5,h7 ι' vs ha hp⟩⟩
   have:=q2 hn
   subst this
   cases ss with
   |nil=>rfl
   |cons _ _=>simp[mSegs]at hg
  ·cases hg
 | [],_::_,_,_,_,_,_,_,hg,_,_=>by simp[mSegs]at hg
 |_::_,[],_,_,_,_,_,_,hg,_,_=>by simp[mSegs]at hg
 | .one _::_, .many _ _::_,_,_,_,_,_,_,hg,_,_=>by simp[mSegs]at hg
 | .many _ _::_, .one _::_,_,_,_,_,_,_,hg,_,_=>by simp[mSegs]at hg
 | .many none _::_, .many (some _) _::_,_,_,_,_,_,_,hg,_,_=>by simp[mSegs]at hg
 | .many (some _) _::_, .many none _::_,_,_,_,_,_,_,hg,_,_=>by simp[mSegs]at hg
theorem Zw0 (h:Sat c S ι s){no:Nat}{H:Hp}{ow:Nat->Bool}{id:Nat}{ss qs:List Seg}{ρ ρ':List (Nat×Nat)}{acc acc':List V}(hg:mSegs (BV Γ f) S no ss qs ρ acc=some (ρ',acc'))(hr:RI no ρ)(ho:ObS ι S.vals qs H ow id):
  RI no ρ'/\(∀p∈ρ,p∈ρ')/\(∃l,acc'=acc++l)/\(Zac acc=true->Zac acc'=true)/\ ∀ι' vs,Agree ρ' ι ι'->Pre acc' vs->ObS ι' vs ss H ow id:=by
 cases ho with
 |cs cs hc hs=>
  obtain⟨u1,u2,u3,u4,u5⟩:=Zhf h hg hr hs
  exact⟨u1,u2,u3,u4,fun ι' vs ha hp=> .cs cs hc (u5 ι' vs ha hp)⟩
 | @mp _ _ _ j l hl hs=>
  have key:∃i x,ss=[.one (.mpc i)]/\i=acc.length/\S.vals[j]? =some x/\ρ'=ρ/\acc'=acc++ [x]:=by
   cases ss with
   |nil=>simp[mSegs]at hg
   |cons a r=>
    cases a with
    |many n a=>cases n<;>simp[mSegs]at hg
    |one a=>
     simp only[mSegs]at hg
     split at hg
     ·rename_i ρ1 acc1 h1
      have hr1:r=[]/\ρ'=ρ1/\acc'=acc1:=by
       cases r with
       |nil=>cases hg;exact⟨rfl,rfl,rfl⟩
       |cons b q=>cases b<;>simp[mSegs]at hg
      obtain⟨rfl,rfl,rfl⟩:=hr1
      cases a<;>simp only[mAt,PS.valA,reduceCtorEq]at h1
      ·split at h1
       ·rename_i e;cases e
       ·cases h1
      ·cases hg
       rename_i i
       split at h1
       ·rename_i x hb hx
        simp only[Xac,Xc3]at h1
        obtain⟨rfl,rfl⟩:=h1
        exact⟨i,x,rfl,Xah hb,hx,rfl,rfl⟩
       ·cases h1
     ·cases hg
  obtain⟨i,x,rfl,hi,hx,rfl,rfl⟩:=key
  rw[hx]at hs
  cases hs
  refine⟨hr,fun _ h=>h,⟨_,rfl⟩,fun hcl=>Zbh hcl (by simp only[Zac,h.cln _ (Xam hx),Xcc]),fun ι' vs _ hp=> .mp l hl (hp _ _ (by rw[hi];simp))⟩
theorem Zi9 (h:Sat c S ι s){no:Nat}:∀{T:List (Option (List Seg))} {k0:Nat} {ρ ρ':List (Nat×Nat)} {acc acc':List V},mObs (BV Γ f) S no T k0 ρ acc=some (ρ',acc')->RI no ρ->
  RI no ρ'/\(∀p∈ρ,p∈ρ')/\(∃l,acc'=acc++l)/\(Zac acc=true->Zac acc'=true)/\(∀k,k<T.length-> ∃o,(k0+k,o)∈ρ'/\o<S.ob.length)/\
   ∀(k:Nat) (ss:List Seg),T[k]? =some (some ss)-> ∃o id,(k0+k,o)∈ρ'/\ι[o]? =some id/\ ∀ι' vs,Agree ρ' ι ι'->Pre acc' vs->ObS ι' vs ss s.H (fun j=>s.own (.cell id j)) id
 | [],k0,ρ,ρ',acc,acc',hg,hr=>by cases hg;exact⟨hr,fun _ h=>h,⟨[],by simp⟩,id,fun k hk=>by simp at hk,fun k ss hk=>by simp at hk⟩
 |q::T,k0,ρ,ρ',acc,acc',hg,hr=>by
  simp only[mObs]at hg
  split at hg
  ·rename_i o ho
   split at hg
   ·rename_i hlt
    have hlt':o<S.ob.length:=Xa6 hlt
    split at hg
    ·obtain⟨r1,r2,r3,r4,r5,r6⟩:=Zi9 h hg hr
     refine⟨r1,r2,r3,r4,fun k hk=> ?_,fun k ss hk=> ?_⟩
     ·cases k with
      |zero=>exact⟨o,r2 _ (Zdh ho),hlt'⟩
      |succ k=>rw[show k0+(k+1)=k0+1+k by omega];exact r5 k (by simpa using hk)
     ·cases k with
      |zero=>simp at hk
      |succ k=>rw[show k0+(k+1)=k0+1+k by omega];exact r6 k ss (by simpa using hk)
    ·rename_i ss
     split at hg
     ·rename_i qs hqs
      split at hg
      ·rename_i ρ1 acc1 h1
       obtain⟨id,e1,e3⟩:=h.ob o qs hqs
       obtain⟨u1,u2,⟨l1,e4⟩,u4,u5⟩:=Zw0 h h1 hr e3
       obtain⟨r1,r2,⟨l2,e5⟩,r4,r5,r6⟩:=Zi9 h hg u1
       refine⟨r1,fun p hp=>r2 _ (u2 _ hp),⟨l1++l2,by rw[e5,e4,Xaj]⟩,fun hc=>r4 (u4 hc),fun k hk=> ?_,fun k ss' hk=> ?_⟩
       ·cases k with
        |zero=>exact⟨o,r2 _ (u2 _ (Zdh ho)),hlt'⟩
        |succ k=>rw[show k0+(k+1)=k0+1+k by omega];exact r5 k (by simpa using hk)
       ·cases k with
        |zero=>
         simp at hk;subst hk
         exact⟨o,id,r2 _ (u2 _ (Zdh ho)),e1,fun ι' vs ha hp=>u5 ι' vs (ha.sub r2) (fun i x hi=>hp i x (by rw[e5];exact Pre.app _ _ i x hi))⟩
        |succ k=>rw[show k0+(k+1)=k0+1+k by omega];exact r6 k ss' (by simpa using hk)
      ·cases hg
     ·cases hg
   ·cases hg
  ·cases hg
theorem AtsS.get :∀{ι:List Nat} {vs:List V} {az:List At} {ws:List V},AtsS ι vs az ws->az.length=ws.length/\ ∀(t:Nat) (a:At),az[t]? =some a->AtS ι vs a (ws.getD t Nil) false
 |_,_,[],ws,h=>by rw[show ws=[]from h];exact⟨rfl,fun t a ht=>by simp at ht⟩
 |_,_,a::az,ws,⟨w,ws',e,h1,h2⟩=>by
  subst e
  obtain⟨h3,h4⟩:=h2.get
  refine⟨by simp[h3],fun t b ht=> ?_⟩
  cases t with
  |zero=>simp at ht;subst ht;simpa using h1
  |succ t=>simpa using h4 t b (by simpa using ht)
theorem Zq1 (h:Sat c S ι s){no:Nat}{az:List At}{args:List V}(ha:AtsS ι S.vals az args):∀{tm:List (Nat×Sy)} {ρ ρ':List (Nat×Nat)} {acc acc':List V},mArgs (BV Γ f) S no az tm ρ acc=some (ρ',acc')->RI no ρ->
  RI no ρ'/\(∀p∈ρ,p∈ρ')/\(∃l,acc'=acc++l)/\(Zac acc=true->Zac acc'=true)/\ ∀p∈tm, ∀ι' vs,Agree ρ' ι ι'->Pre acc' vs->SyS ι' vs p.2 (args.getD p.1 Nil) false
 | [],ρ,ρ',acc,acc',hg,hr=>by cases hg;exact⟨hr,fun _ h=>h,⟨[],by simp⟩,id,fun _ hp=>by cases hp⟩
 |(t, .at a)::tm,ρ,ρ',acc,acc',hg,hr=>by
  simp only[mArgs]at hg
  split at hg
  ·rename_i b hb
   split at hg
   ·rename_i ρ1 acc1 h1
    obtain⟨u1,u2,⟨l1,e1⟩,u4,_⟩:=Zkt h h1 hr
    obtain⟨u5,u6⟩:=u4 _ _ (ha.get.2 t b hb)
    obtain⟨r1,r2,⟨l2,e2⟩,r4,r5⟩:=Zq1 h ha hg u1
    refine⟨r1,fun p hp=>r2 _ (u2 _ hp),⟨l1++l2,by rw[e2,e1,Xaj]⟩,fun hc=>r4 (u5 hc),fun p hp ι' vs hag hv=> ?_⟩
    rcases Xa0.1 hp with rfl|hp
    ·exact u6 ι' vs (hag.sub r2) (fun i x hi=>hv i x (by rw[e2];exact Pre.app _ _ i x hi))
    ·exact r5 p hp ι' vs hag hv
   ·cases hg
  ·cases hg
 |(_, .agg _ _)::_,_,_,_,_,hg,_=>by cases hg
 |(_, .tup _)::_,_,_,_,_,hg,_=>by cases hg
def AtsO (ι:List Nat)(vs:List V):List At->List (V×Bool)->Prop
 | [],ps=>ps=[]
 |a::az,ps=> ∃p ps',ps=p::ps'/\AtS ι vs a p.1 p.2/\AtsO ι vs az ps'
theorem AtsO.ats {vs:List V}:∀{az:List At} {ps:List (V×Bool)},AtsO ι vs az ps->(∀p∈ps,p.2=false)->AtsS ι vs az (ps.map (·.1))
 | [],ps,h,_=>by rw[show ps=[]from h];rfl
 |a::az,ps,⟨p,ps',e,h1,h2⟩,hf=>by
  subst e
  exact⟨p.1,_,rfl,by rw[hf p (by simp)]at h1;exact h1,h2.ats fun q hq=>hf q (by simp[hq])⟩
theorem AtsO.noOwn {vs:List V}:∀{az:List At} {ps:List (V×Bool)},AtsO ι vs az ps->AtsO ι vs (az.map At.noOwn) (ps.map fun p=>(p.1,false))
 | [],ps,h=>by rw[show ps=[]from h];rfl
 |a::az,ps,⟨p,ps',e,h1,h2⟩=>by subst e;exact⟨(p.1,false),_,rfl,h1.noOwn _,h2.noOwn⟩
theorem AtsO.mono {ι':List Nat}{vs vs':List V}(k1:PreN ι ι')(k2:Pre vs vs'):∀{az:List At} {ps:List (V×Bool)},AtsO ι vs az ps->AtsO ι' vs' az ps
 | [],ps,h=>h
 |a::az,ps,⟨p,ps',e,h1,h2⟩=>⟨p,ps',e,h1.mono k1 k2,h2.mono k1 k2⟩
theorem AtsO.len {vs:List V}:∀{az:List At} {ps:List (V×Bool)},AtsO ι vs az ps->az.length=ps.length
 | [],ps,h=>by rw[show ps=[]from h];rfl
 |a::az,ps,⟨p,ps',e,h1,h2⟩=>by subst e;simp[h2.len]
theorem Zu7 (h:Sat c S ι s){no:Nat}:∀{T az:List At} {ws:List (V×Bool)} {ρ ρ':List (Nat×Nat)} {acc acc':List V},mAts (BV Γ f) S no T az ρ acc=some (ρ',acc')->RI no ρ->AtsO ι S.vals az ws->
  RI no ρ'/\(∀p∈ρ,p∈ρ')/\(∃l,acc'=acc++l)/\(Zac acc=true->Zac acc'=true)/\ ∀ι' vs,Agree ρ' ι ι'->Pre acc' vs->AtsO ι' vs T ws
 | [],[],ws,ρ,ρ',acc,acc',hg,hr,ha=>by cases hg;exact⟨hr,fun _ h=>h,⟨[],by simp⟩,id,fun _ _ _ _=>ha⟩
 |a::T,b::az,ws,ρ,ρ',acc,acc',hg,hr,ha=>by
  simp only[mAts]at hg
  split at hg
  ·rename_i ρ1 acc1 h1
   obtain⟨w,ws',e,k1,k2⟩:=ha
   obtain⟨u1,u2,⟨l1,e1⟩,u4,_⟩:=Zkt h h1 hr
   obtain⟨u5,u6⟩:=u4 _ _ k1
   obtain⟨r1,r2,⟨l2,e2⟩,r4,r5⟩:=Zu7 h hg u1 k2
   exact⟨r1,fun p hp=>r2 _ (u2 _ hp),⟨l1++l2,by rw[e2,e1,Xaj]⟩,fun hc=>r4 (u5 hc),fun ι' vs hag hv=>⟨w,ws',e,u6 ι' vs (hag.sub r2) (fun i x hi=>hv i x (by rw[e2];exact Pre.app _ _ i x hi)),r5 ι' vs hag hv⟩⟩
  ·cases hg
 | [],_::_,_,_,_,_,_,hg,_,_=>by cases hg
 |_::_,[],_,_,_,_,_,hg,_,_=>by cases hg
def ιOf (no:Nat)(ρ:List (Nat×Nat))(ι:List Nat):List Nat:=(List.range no).map fun k=>match lk ρ k with|some o=>(ι[o]?).getD 0|none=>0
theorem Zhg {no:Nat}{ρ:List (Nat×Nat)}(hr:RI no ρ):Agree ρ ι (ιOf no ρ ι):=fun k o id hk ho=>by
 unfold ιOf
 rw[Xbt,Xdx (hr.lt _ _ hk)]
 simp[hr.lk _ _ hk,ho]
theorem Zfq (no:Nat)(ρ:List (Nat×Nat))(ι:List Nat):(ιOf no ρ ι).length=no:=by simp[ιOf]
def Cov (no:Nat)(ρ:List (Nat×Nat))(ι:List Nat):Prop:=∀k,k<no-> ∃o id,(k,o)∈ρ/\ι[o]? =some id
theorem Zfc {no:Nat}{ρ:List (Nat×Nat)}(hr:RI no ρ)(hc:Cov no ρ ι){k id:Nat}(h:(ιOf no ρ ι)[k]? =some id):∃o,(k,o)∈ρ/\ι[o]? =some id:=by
 have hk:k<no:=by have:=(Xae.1 h).1;rwa[Zfq]at this
 obtain⟨o,id',h1,h2⟩:=hc k hk
 have:=Zhg hr k o id' h1 h2
 rw[h]at this;cases this
 exact⟨o,h1,h2⟩
theorem Zwb {no:Nat}{ρ:List (Nat×Nat)}(hr:RI no ρ)(hc:Cov no ρ ι)(hn:ι.Nodup):(ιOf no ρ ι).Nodup:=by
 refine Xbe.2 fun i j hi hj hij e0=> ?_
 have e:(ιOf no ρ ι)[i]? =(ιOf no ρ ι)[j]? :=by rw[Xad hi,Xad hj,e0]
 have hj':j<no:=by rwa[Zfq]at hj
 obtain⟨o,id,h1,h2⟩:=hc j hj'
 have h3:=Zhg hr j o id h1 h2
 rw[h3]at e
 obtain⟨o',h4,h5⟩:=Zfc hr hc e
 have:o'=o:=(Xen (Xae.1 h5).1 hn).1 (by rw[h5,h2])
 subst this
 have:=hr.inj _ _ _ h1 h4
 omega
theorem Zwd {X:Type}(T:PT)(xs:List X)(k:Nat):(T.start xs).obj k=match T.ob[k]? with|some (some ss)=>some ss|_=>none:=rfl
theorem RI.nil (no:Nat):RI no []:=⟨fun _ _ h=>(by cases h),fun _ _ _ h=>(by cases h),fun _ _ h=>(by cases h)⟩
theorem Z0c (h:Sat c S ι s){E:FE}{az:List At}{args:List V}{ρ:List (Nat×Nat)}{xs:List V}(hf:fitE (BV Γ f) S E az=some (ρ,xs))(ha:AtsS ι S.vals az args):
  args.length=E.ar/\xs.length=E.ent.n/\RI E.ent.g ρ/\Cov E.ent.g ρ ι/\Sat ⟨ιOf E.ent.g ρ ι,s.hs⟩ (E.ent.start xs) (ιOf E.ent.g ρ ι) (St.initH args s.hs):=by
 unfold fitE at hf
 split at hf
 ·rename_i hb
  simp only[Xai]at hb
  have hn1:=Xah hb.1
  have hn2:=Xah hb.2
  split at hf
  ·rename_i ρ1 acc1 h1
   split at hf
   ·rename_i ρ2 xs2 h2
    split at hf
    ·rename_i hx
     cases hf
     obtain⟨r1,r2,⟨l1,e1⟩,r4,r5⟩:=Zq1 h ha h1 (RI.nil _)
     obtain⟨u1,u2,⟨l2,e2⟩,u4,u5,u6⟩:=Zi9 h h2 r1
     have hcov:Cov E.ent.g ρ ι:=fun k hk=>by
      obtain⟨o,h3,h4⟩:=u5 k (by rw[<-hn2];exact hk)
      rw[Xan]at h3
      rw[<-h.len]at h4
      exact⟨o,_,h3,Xad h4⟩
     have hag:=Zhg (ι:=ι) u1
     refine⟨by rw[<-ha.get.1];exact hn1,Xah hx,u1,hcov, ?_⟩
     exact{
      tm:=fun t y hy=>by
       have:=r5 (t,y) (Zdh hy) _ xs (hag.sub u2) (by rw[e2];exact Pre.app _ _)
       exact this
      ob:=fun k ss hk=>by
       rw[Zwd]at hk
       have hk':E.ent.ob[k]? =some (some ss):=by
        split at hk
        ·rename_i e;cases hk;exact e
        ·cases hk
       obtain⟨o,id,h3,h4,h6⟩:=u6 k ss hk'
       rw[Xan]at h3
       exact⟨id,hag _ _ _ h3 h4,h6 _ xs hag (.refl _)⟩
      nd:=Zwb u1 hcov h.nd
      lt:=fun id hid=>by
       obtain⟨k,hk⟩:=Xc0.1 hid
       obtain⟨o,_,h4⟩:=Zfc u1 hcov hk
       exact h.lt id (Xam h4)
      len:=by rw[Zfq];exact hn2
      lits:=fun i b hb=>by cases hb
      cln:=fun x hx=>Zal.1 (u4 (r4 rfl)) x hx
      g:=Zfq _ _ _
      pre:=fun k id hk=>hk
      new:=fun k id hk hg=>by
       have:=(Xae.1 hk).1
       rw[Zfq]at this
       exact absurd this (Xe2.2 hg)
      nH:=Xag _
      fr:=fun id _ _=>⟨rfl,fun _=>rfl⟩}
    ·cases hf
   ·cases hf
  ·cases hf
 ·cases hf
theorem Zqp {az:List At}{E:FE}{q:List (Nat×Nat)×List V}:∀{l:List FE},pickE (BV Γ f) S az l=some (E,q)->E∈l/\fitE (BV Γ f) S E az=some q
 | [],h=>by cases h
 |E'::l,h=>by
  simp only[pickE]at h
  split at h
  ·rename_i q' hq
   cases h
   exact⟨by simp,hq⟩
  ·obtain⟨h1,h2⟩:=Zqp h
   exact⟨Xbk _ h1,h2⟩
theorem Zql :∀{n k o:Nat} {p:Nat×Nat},p∈newR n k o<-> ∃j,j<n/\p=(k+j,o+j)
 |0,k,o,p=>by simp[newR]
 |n+1,k,o,p=>by
  simp only[newR,Xa0,Zql (n:=n)]
  constructor
  ·rintro(rfl|⟨j,hj,rfl⟩)
   ·exact⟨0,by omega,rfl⟩
   ·exact⟨j+1,by omega,by simp;omega⟩
  ·rintro⟨j,hj,rfl⟩
   cases j with
   |zero=>exact .inl rfl
   |succ j=>exact .inr ⟨j,by omega,by simp;omega⟩
theorem Ztj :∀{ρ:List (Nat×Nat)} {o k:Nat},rlk ρ o=some k->(k,o)∈ρ
 |(k',o')::ρ,o,k,h=>by
  simp only[rlk]at h
  split at h
  ·rename_i he;cases h;rw[Xah he];simp
  ·exact Xbk _ (Ztj h)
theorem Zrk :∀{ρ:List (Nat×Nat)} {o k:Nat},rlk ρ o=none->(k,o)∉ρ
 | [],_,_,_=>by simp
 |(k',o')::ρ,o,k,h=>by
  simp only[rlk]at h
  split at h
  ·cases h
  ·rename_i he
   intro hm
   rcases Xa0.1 hm with e|hm
   ·cases e;rw[Xeu]at he;cases he
   ·exact Zrk h hm
theorem Zq5 {α β:Type}(F:Nat->α->β):∀(l:List α) (i j:Nat),(mapI F i l)[j]? =(l[j]?).map (F (i+j))
 | [],i,j=>by simp[mapI]
 |a::l,i,j=>by
  cases j with
  |zero=>simp[mapI]
  |succ j=>simp only[mapI,Xee,Zq5 F l (i+1) j];rw[show i+1+j=i+(j+1)by omega]
theorem Zq7 {α β:Type}(F:Nat->α->β):∀(l:List α) (i:Nat),(mapI F i l).length=l.length
 | [],_=>rfl
 |_::l,i=>by simp[mapI,Zq7 F l]
def Back (ρ:List (Nat×Nat))(ι' ιn:List Nat):Prop:=∀k o id,(k,o)∈ρ->ι'[k]? =some id->ιn[o]? =some id
theorem Ztw {ρ:List (Nat×Nat)}{ι' ιn:List Nat}(hb:Back ρ ι' ιn):∀{ps qs:List (Nat×Nat)} {cs:List V},rnPs ρ ps=some qs->PsS ι' ps cs->PsS ιn qs cs
 | [],qs,cs,h,hp=>by cases h;exact hp
 |(k,off)::ps,qs,cs,h,⟨id,cs',h1,h2,h3⟩=>by
  simp only[rnPs]at h
  split at h
  ·rename_i o q ho hq
   cases h
   exact⟨id,cs',hb _ _ _ (Zdh ho) h1,h2,Ztw hb hq h3⟩
  ·cases h
theorem Zl5 {ρ:List (Nat×Nat)}{ι' ιn:List Nat}(hb:Back ρ ι' ιn){vs xs:List V}{a a':At}(h:rnAt ρ vs.length a=some a'):(∀v o,AtS ι' xs a v o->AtS ιn (vs++xs) a' v o)/\ ∀w,AtV xs a w->AtV (vs++xs) a' w:=by
 have app:∀{i:Nat} {x:V},xs[i]? =some x->(vs++xs)[vs.length+i]? =some x:=fun h=>by
  rw[Xa2 (by omega)];simpa using h
 cases a with
 |c v o=>cases h;exact⟨fun _ _ h=>h,fun _ h=>h⟩
 |n i o sc=>cases h;exact⟨fun _ _ h=>⟨app h.1,h.2⟩,fun _ h=>app h⟩
 |ptr k off=>
  simp only[rnAt]at h
  split at h
  ·rename_i o ho
   cases h
   exact⟨fun v o' ⟨id,h1,h2⟩=>⟨id,hb _ _ _ (Zdh ho) h1,h2⟩,fun _ h=>h.elim⟩
  ·cases h
 |gp g off=>cases h;exact⟨fun _ _ h=>h,fun _ h=>h.elim⟩
 |el i off=>cases h;exact⟨fun v o ⟨x,h1,h2⟩=>⟨x,app h1,h2⟩,fun _ h=>h.elim⟩
 |osl k off n c s=>
  simp only[rnAt]at h
  split at h
  ·rename_i o ho
   cases h
   exact⟨fun v o' ⟨id,h1,h2⟩=>⟨id,hb _ _ _ (Zdh ho) h1,h2⟩,fun _ h=>h.elim⟩
  ·cases h
 |osx k i s=>
  simp only[rnAt]at h
  split at h
  ·rename_i o ho
   cases h
   exact⟨fun v o' ⟨id,n,cap,h1,h2,h3⟩=>⟨id,n,cap,hb _ _ _ (Zdh ho) h1,app h2,h3⟩,fun _ h=>h.elim⟩
  ·cases h
 |osc k off n i s=>cases h
 |osr k j i s=>cases h
 |osv k i j s=>cases h
 |fp m f ps=>
  simp only[rnAt]at h
  split at h
  ·rename_i q hq
   cases h
   exact⟨fun v o' ⟨cs,h1,h2⟩=>⟨cs,h1,Ztw hb hq h2⟩,fun _ h=>h.elim⟩
  ·cases h
 |mpp k=>
  simp only[rnAt]at h
  split at h
  ·rename_i o ho
   cases h
   exact⟨fun v o' ⟨id,h1,h2⟩=>⟨id,hb _ _ _ (Zdh ho) h1,h2⟩,fun _ h=>h.elim⟩
  ·cases h
 |mpc i=>exact⟨fun _ _ h=>h.elim,fun _ h=>h.elim⟩
 |ptd k b i sz=>cases h
 |gpd g b i sz=>cases h
 |nil=>cases h
theorem Zqg {ρ:List (Nat×Nat)}{ι' ιn:List Nat}(hb:Back ρ ι' ιn){vs xs:List V}:∀{az az':List At} {ws:List V},Zot ρ vs.length az=some az'->AtsS ι' xs az ws->AtsS ιn (vs++xs) az' ws
 | [],az',ws,h,ha=>by cases h;exact ha
 |a::az,az',ws,h,⟨w,ws',e,h1,h2⟩=>by
  simp only[Zot]at h
  split at h
  ·rename_i x l hx hl
   cases h
   exact⟨w,ws',e,(Zl5 hb hx).1 _ _ h1,Zqg hb hl h2⟩
  ·cases h
theorem Zjq {ρ:List (Nat×Nat)}{ι' ιn:List Nat}(hb:Back ρ ι' ιn){vs xs:List V}{ow:Nat->Bool}:∀{ss ss':List Seg} {cs:List V} {j:Nat},Zh5 ρ vs.length ss=some ss'->SegsS ι' xs ss cs ow j->SegsS ιn (vs++xs) ss' cs ow j
 | [],ss',cs,j,h,ha=>by cases h;exact ha
 | .one a::ss,ss',cs,j,h,⟨c,cs',e,h1,h2,h3⟩=>by
  simp only[Zh5]at h
  split at h
  ·rename_i x l hx hl
   cases h
   exact⟨c,cs',e,(Zl5 hb hx).1 _ _ h1,h2,Zjq hb hl h3⟩
  ·cases h
 | .many n a::ss,ss',cs,j,h,⟨l',cs',w,e,h3,h4,h5,h6,h7,h8⟩=>by
  simp only[Zh5]at h
  split at h
  ·rename_i x l hx hl
   cases h
   exact⟨l',cs',w,e,h3,fun hn=>by have:=h4 hn;subst this;cases hl;rfl,h5,(Zl5 hb hx).2 _ h6,h7,Zjq hb hl h8⟩
  ·cases h
theorem Ztz {ρ:List (Nat×Nat)}{ι' ιn:List Nat}(hb:Back ρ ι' ιn){vs xs:List V}{H:Hp}{ow:Nat->Bool}{id:Nat}{ss ss':List Seg}(h:Zh5 ρ vs.length ss=some ss')(ho:ObS ι' xs ss H ow id):ObS ιn (vs++xs) ss' H ow id:=by
 cases ho with
 |cs cs hc hs=>exact .cs cs hc (Zjq hb h hs)
 |mp l hl hs=>
  simp only[Zh5,rnAt,Xac]at h
  subst h
  exact .mp l hl (by rw[Xa2 (by omega)];simpa using hs)
theorem Zx8 (h:Sat c S ι s){g:Nat}{ρ:List (Nat×Nat)}(hr:RI g ρ)(hcov:Cov g ρ ι){rt:RT}{xs:List V}{v:V}{o:Bool}{hs':HS}{ι':List Nat}(hR:RetS ⟨ιOf g ρ ι,s.hs⟩ rt xs v o hs' ι')(hg:g<=rt.ob.length):
  Sat c (S.after g ρ rt xs).2 (ι++ι'.drop g) (s.setHS hs')/\Back (S.after g ρ rt xs).1 ι' (ι++ι'.drop g):=by
 have hback:Back (S.after g ρ rt xs).1 ι' (ι++ι'.drop g):=by
  intro k o' id hm hid
  simp only[PS.after]at hm
  rcases Xay.1 hm with hm|hm
  ·have hk:=hr.lt _ _ hm
   obtain⟨o2,id2,h1,h2⟩:=hcov k hk
   have:o2=o':=by have a:=hr.lk _ _ hm;have b:=hr.lk _ _ h1;rw[a]at b;exact(Option.some.inj b).symm
   subst this
   have h3:=hR.pre k id2 (Zhg hr _ _ _ h1 h2)
   rw[hid]at h3;cases h3
   exact PreN.app _ _ _ _ h2
  ·obtain⟨j,hj,e⟩:=Zql.1 hm
   cases e
   rw[<-h.len,Xa2 (by omega),Xcg]
   rw[show g+(ι.length+j-ι.length)=g+j by omega];exact hid
 refine⟨?_,hback⟩
 have hobl:(S.after g ρ rt xs).2.ob.length=S.ob.length+(rt.ob.length-g):=by
  simp only[PS.after,Zq7,Xaf,Xes]
 have hdrop:∀id∈ι'.drop g,s.nH<=id/\id<hs'.nH:=fun id hid=>by
  obtain⟨k,hk⟩:=Xc0.1 hid
  rw[Xcg]at hk
  exact⟨hR.new _ _ hk (by rw[Zfq];omega),hR.lt _ (Xam hk)⟩
 have hnH:s.nH<=hs'.nH:=hR.nH
 have hids:∀id,id∈ιOf g ρ ι->id∈ι:=fun id hid=>by
  obtain⟨k,hk⟩:=Xc0.1 hid
  obtain⟨o',_,h2⟩:=Zfc hr hcov hk
  exact Xam h2
 exact{
  tm:=fun t y hy=>(h.tm t y hy).mono (.app _ _) (.app _ _)
  ob:=fun k ss hk=>by
   have hk':(S.after g ρ rt xs).2.ob[k]? =some (some ss):=by
    unfold PS.obj at hk
    split at hk
    ·rename_i e;cases hk;exact e
    ·cases hk
   simp only[PS.after,Zq5,Xan,Xaa]at hk'
   obtain⟨q,hq,hq2⟩:=hk'
   split at hq2
   ·rename_i k' hk'
    unfold rnO at hq2
    split at hq2
    ·rename_i ss0 e0
     obtain⟨id,h1,h2⟩:=hR.ob k' ss0 e0
     exact⟨id,hback _ _ _ (Ztj hk') h1,Ztz hback hq2 h2⟩
    ·cases hq2
   ·rename_i hno
    subst hq2
    rw[Xcp]at hq
    split at hq
    ·rename_i hlt
     have hob:S.obj k=some ss:=by unfold PS.obj;rw[hq]
     obtain⟨id,h1,h2⟩:=h.ob k ss hob
     have hnot:id∉ιOf g ρ ι:=fun hm=>by
      obtain⟨k',hk'⟩:=Xc0.1 hm
      obtain⟨o',h4,h5⟩:=Zfc hr hcov hk'
      have:o'=k:=(Xen (Xae.1 h5).1 h.nd).1 (by rw[h5,h1])
      subst this
      exact Zrk hno (Xbo _ h4)
     obtain⟨f1,f2⟩:=hR.fr id (h.lt _ (Xam h1)) hnot
     exact⟨id,PreN.app _ _ _ _ h1,h2.to (.app _ _) (.app _ _) f1 f2⟩
    ·have:=Xam hq
     simp at this
  nd:=by
   rw[List.nodup_append]
   exact⟨h.nd,hR.nd.sublist (Xeo _ _),fun a ha b hb e=>by subst e;have:=h.lt a ha;have:=(hdrop a hb).1;omega⟩
  lt:=fun id hid=>by
   show id<hs'.nH
   rcases Xay.1 hid with hid|hid
   ·have:=h.lt id hid;omega
   ·exact(hdrop id hid).2
  len:=by rw[hobl,Xaf,Xct,h.len,hR.len]
  lits:=fun i b hb=>Pre.app _ _ _ _ (h.lits i b hb)
  cln:=fun x hx=>by
   rcases Xay.1 hx with hx|hx
   ·exact h.cln x hx
   ·exact Zal.1 hR.cl x hx
  g:=h.g
  pre:=fun k id hk=>PreN.app _ _ _ _ (h.pre k id hk)
  new:=fun k id hk hgk=>by
   rw[Xcp]at hk
   split at hk
   ·exact h.new k id hk hgk
   ·have:=(hdrop id (Xam hk)).1
    have:=h.nH;omega
  nH:=by show c.hs.nH<=hs'.nH;have:=h.nH;omega
  fr:=fun id h1 h2=>by
   have hnot:id∉ιOf g ρ ι:=fun hm=>by
    obtain⟨o',ho'⟩:=Xc0.1 (hids id hm)
    rcases h.given ho' with h3|h3
    ·exact h2 h3
    ·omega
   obtain⟨f1,f2⟩:=hR.fr id (by have:=h.nH;show id<s.nH;omega) hnot
   obtain⟨f3,f4⟩:=h.fr id h1 h2
   exact⟨f1.trans f3,fun j=>(f2 j).trans (f4 j)⟩}
end Go.Abs
namespace Go.Abs
structure GamOK (GA:Abs.Spec)(gl:Glob)(Γ:Gam)(ow:Cfg):Prop where
 p:∀f args r,Zac (nfL args)=true->Γ f 0 (nfL args)=some r-> ∃v o,GA.p f args=some (v,o)/\v.nf=r/\r.clean=true/\(ow.ow f=true->Own v o)
 c:∀f args r,GA.p f args=some r->Zac args=true
 h:∀f, ∀E∈ow.he f, ∀rts,E.ret=some rts-> ∀xs r,Γ E.k 1 xs=some r-> ∀args ι hs,args.length=E.ar->xs.length=E.ent.n->Sat ⟨ι,hs⟩ (E.ent.start xs) ι (St.initH args hs)->
  ∃v o hs',GA.h f args hs=some (v,o,hs')/\RetR ⟨ι,hs⟩ rts r v o hs'
 gl:∀g cs,ow.gl g=some cs->gl g=some cs/\nfL cs=cs/\Zac cs=true
variable {GA:Abs.Spec}{gl:Glob}{Γ:Gam}{f:Nat}{ow:Cfg}{c:Fc}{ι:List Nat}{s:St}{S:PS V}{d:Option Nat}{g:Option (Nat×Bool)}{a:List Nat}{r:V}{k:PS V->Option V}
def Res1 (c:Fc)(GA:Abs.Spec)(gl:Glob)(d:Option Nat)(op:AOp)(g:Option (Nat×Bool))(a:List Nat)(s:St)(k:PS V->Option V)(r:V):Prop:= ∃S' ι' s',k S'=some r/\exec1 GA gl ⟨d,op,g,a⟩ s=some s'/\Sat c S' ι' s'
theorem Sat.putN (h:Sat c S ι s){v z:V}{o own sc:Bool}(hz:v.nf=z)(hc:z.clean=true)(ho:own=true->Own v o)(hs:sc=true->v.sc=true):Sat c ((S.push z).put d (.at (.n S.nx own sc))) ι (s.put d v o):=by
 refine(h.push hc).put d ⟨?_,ho,hs⟩
 rw[Zar,hz]
theorem Zbd (h:Sat c S ι s){op:AOp}{p:Prim}{xs:List Opd}{own:Bool}(hp:Zi7 op=some (p,xs,own))(hk:doP (BV Γ f) S p xs d own k=some r):Res1 c GA gl d op g a s k r:=by
 obtain⟨ys,S1,h1,h2,h3,h4,h5⟩:=h.matL hk
 simp only[doX,BV,Xab]at h1
 obtain⟨z,hz,h1⟩:=h1
 obtain⟨v,o,q1,q2,q3,q4,q5⟩:=Z1b (Γ:=GA) (gl:=gl) (s:=s) (d:=d) (g:=g) (a:=a) hp h4 h5 hz
 exact⟨_,ι,_,h1,q1,h2.putN q2 q3 q4 q5⟩
theorem Zlk {x:Opd}{kk:Sy->Option V}(hk:onO (BV Γ f) S x kk=some r):∃y,S.opd x=some y/\kk y=some r:=by
 unfold onO at hk
 split at hk
 ·exact⟨_,by assumption,hk⟩
 ·cases hk
theorem Zf4 (h:Sat c S ι s){x:Opd}{b:Bool}(hb:S.truth (S.opd x)=some b):evO s.tm x= .bool b:=by
 cases hx:S.opd x with
 |none=>rw[hx]at hb;cases hb
 |some y=>
  rw[hx]at hb
  have hy:=h.opd hx
  unfold PS.truth at hb
  split at hb
  ·rename_i e;cases hb;cases e
   exact Zcd hy.1
  ·rename_i e;cases e
   have:=h.lits _ _ hb
   rw[hy.1]at this
   exact Zcd (Option.some.inj this)
  ·cases hb
theorem Z75 (h:Sat c S ι s){x:Opd}(hk:op1 (BV Γ f) ow d (.mv x) S k=some r):Res1 c GA gl d (.mv x) g a s k r:=by
 obtain⟨y,hy,hk⟩:=Zlk hk
 exact⟨_,ι,_,hk,e_mv x,h.put d ((h.opd hy).noOwn false)⟩
theorem Z28 (h:Sat c S ι s){t:Nat}(hk:op1 (BV Γ f) ow d (.mvo t) S k=some r):Res1 c GA gl d (.mvo t) g a s k r:=by
 simp only[op1]at hk
 split at hk
 ·rename_i y hy
  have hv:(S.disown t).vals=S.vals:=by unfold PS.disown;split<;>rfl
  exact⟨_,ι,_,hk,Z8y t,(h.disown t).put d (y:= .at y) (by rw[hv];exact h.tm t _ hy)⟩
 ·cases hk
theorem Z1m (h:Sat c S ι s){cd x y:Opd}(hk:op1 (BV Γ f) ow d (.pick cd x y) S k=some r):Res1 c GA gl d (.pick cd x y) g a s k r:=by
 simp only[op1]at hk
 split at hk
 ·rename_i hb
  obtain⟨z,hz,hk⟩:=Zlk hk
  exact⟨_,ι,s.put d (evO s.tm x) false,hk,by rw[Zrx,Zf4 h hb,Zf2];rfl,h.put d ((h.opd hz).noOwn false)⟩
 ·rename_i hb
  obtain⟨z,hz,hk⟩:=Zlk hk
  exact⟨_,ι,s.put d (evO s.tm y) false,hk,by rw[Zrx,Zf4 h hb,Zf2];rfl,h.put d ((h.opd hz).noOwn false)⟩
 ·obtain⟨ys,S1,h1,h2,h3,h4,h5⟩:=h.matL hk
  simp only[doX,BV,Xab]at h1
  obtain⟨z,hz,h1⟩:=h1
  subst h4
  simp only[Xaq,Xbg,nfL,evp]at hz
  unfold Zpy at hz
  split at hz
  ·rename_i t e
   cases hz
   simp only[Xaq,Xbg,nfL,Zac,Xai,Xch]at h5
   cases t
   ·exact⟨_,ι,_,h1,by rw[Zrx,Zcd e,Zf2];rfl,h2.putN (v:=evO s.tm y) (o:=false) rfl h5.2.2 (fun h=>Bool.noConfusion h) (fun h=>Bool.noConfusion h)⟩
   ·exact⟨_,ι,_,h1,by rw[Zrx,Zcd e,Zf2];rfl,h2.putN (v:=evO s.tm x) (o:=false) rfl h5.2.1 (fun h=>Bool.noConfusion h) (fun h=>Bool.noConfusion h)⟩
  ·cases hz
theorem Z9y (h:Sat c S ι s){op:UnOp}{x:Opd}(hk:op1 (BV Γ f) ow d (.un op x) S k=some r):Res1 c GA gl d (.un op x) g a s k r:=by
 simp only[op1]at hk
 split at hk
 ·rename_i b hb
  refine⟨_,ι,_,hk,by rw[e_un,Zf4 h hb];rfl,h.put d (y:=Zct !b) (v:= .bool !b) (o:=false) ⟨rfl,rfl,fun h=>(nomatch h)⟩⟩
 ·exact Zbd h rfl hk
theorem Zwk {x:V}{a b:Option V}(h:vif x a b=some r):(x= .bool true/\a=some r) \/(x= .bool false/\b=some r):=by
 unfold vif at h
 split at h
 ·exact .inl ⟨rfl,h⟩
 ·exact .inr ⟨rfl,h⟩
 ·cases h
theorem Zjp {x:V}{a b:Option V}(h:vamb x a b=some r):(∃c sz,x= .sl c sz []/\a=some r/\b=some r) \/(∃c sz y l,x= .sl c sz (y::l)/\b=some r):=by
 unfold vamb at h
 split at h
 ·split at h
  ·rename_i e;exact .inl ⟨_,_,rfl,h,by rw[<-e];exact h⟩
  ·cases h
 ·exact .inr ⟨_,_,_,_,rfl,h⟩
 ·cases h
theorem Z05 {v:V}{a b:Option V}(h:vamb v.nf a b=some r):∃nl sz xs,v= .sl nl sz xs/\((nl=true/\a=some r) \/(nl=false/\b=some r)):=by
 rcases Zjp h with⟨c,sz,e,h1,h2⟩|⟨c,sz,y,l,e,h1⟩
 ·obtain⟨_,nl,xs,e2,e3,_⟩:=Zgv e
  refine⟨nl,sz,xs,e2, ?_⟩
  cases nl
  ·exact .inr ⟨rfl,h2⟩
  ·exact .inl ⟨rfl,h1⟩
 ·obtain⟨_,nl,xs,e2,e3,e4⟩:=Zgv e
  refine⟨nl,sz,xs,e2, ?_⟩
  cases nl
  ·exact .inr ⟨rfl,h1⟩
  ·rw[e4 rfl]at e3;cases e3
theorem Zsq {op:BinOp}{nl:Bool}{sz s':Nat}{xs:List V}:abin op .slice (.sl nl sz xs) (.sl true s' [])=vEq op (some nl):=by
 unfold abin
 simp only[aeq]
theorem Z4r (h:Sat c S ι s){op:BinOp}{q:EqK}{x y:Opd}(hk:op1 (BV Γ f) ow d (.bin op q x y) S k=some r):Res1 c GA gl d (.bin op q x y) g a s k r:=by
 simp only[op1]at hk
 split at hk
 ·have go:∀{sz:Nat} {b:Bool} {k1:V->PS V->Option V},(∀v S1,k1 v S1=vamb v (k (S1.put d (Zct b))) (k (S1.put d (Zct !b))))->(∀nl,vEq op (some nl)=some (.bool (if nl then b else !b)))->y= .const (.sl true sz [])->mat (BV Γ f) S (S.opd x) k1=some r->Res1 c GA gl d (.bin op .slice x y) g a s k r:=by
   intro sz b k1 hk1 hop hy hm
   cases hx:S.opd x with
   |none=>rw[hx]at hm;cases hm
   |some y'=>
    rw[hx]at hm
    obtain⟨S1,h1,h2,_,_⟩:=h.mat (h.opd hx) hm
    rw[hk1]at h1
    obtain⟨nl,sz',xs,e1,e2⟩:=Z05 h1
    have ex:∀c,(if nl then b else !b)=c->exec1 GA gl ⟨d, .bin op .slice x y,g,a⟩ s=some (s.put d (.bool c) false):=fun c hc=>by rw[Zol,e1,hy,Ziy,Zsq,hop,hc];rfl
    rcases e2 with⟨rfl,e2⟩|⟨rfl,e2⟩
    ·exact⟨_,ι,_,e2,ex b rfl,h2.put d (y:=Zct b) ⟨rfl,rfl,fun h=>(nomatch h)⟩⟩
    ·exact⟨_,ι,_,e2,ex (!b) rfl,h2.put d (y:=Zct !b) ⟨rfl,rfl,fun h=>(nomatch h)⟩⟩
  have gq:∀{sz:Nat} (b:Bool) {n:Int} {id cap s':Nat},evO s.tm x= .osl id 0 n.toNat cap s'->vEq op (some false)=some (.bool b)->y= .const (.sl true sz [])->((BV Γ f).prim .chkd [.int .i64 n,(BV Γ f).c (.int .i64 0)] S.nx fun q=>k ((S.push q).put d (Zct b)))=some r->Res1 c GA gl d (.bin op .slice x y) g a s k r:=by
   intro sz b n id cap s' e1 hop hy hm
   simp only[BV,Xab]at hm
   obtain⟨z,hz,hm⟩:=hm
   have hz':(if 0<=(0:Int)/\(0:Int)<n then some (V.int .i64 0)else none)=some z:=hz
   split at hz'
   ·rename_i hc
    cases hz'
    have hab:abin op .slice (.osl id 0 n.toNat cap s') (.sl true sz [])=some (.bool b):=by
     show(if n.toNat=0 then none else vEq op (some false))=_
     rw[if_neg (by omega)];exact hop
    exact⟨_,ι,_,hm,by rw[Zol,e1,hy,Ziy,hab];rfl,(h.push rfl).put d (v:= .bool b) (o:=false) (y:=Zct b) ⟨rfl,rfl,fun h=>(nomatch h)⟩⟩
   ·cases hz'
  split at hk
  ·split at hk
   ·rename_i hx
    obtain⟨id,n,cap,_,e2,_,e1,_⟩:=h.opd hx
    rw[e2]at hk
    exact gq false e1 rfl rfl hk
   ·exact go (b:=true) (fun _ _=>rfl) (fun nl=>by cases nl<;>rfl) rfl hk
  ·split at hk
   ·rename_i hx
    obtain⟨id,n,cap,_,e2,_,e1,_⟩:=h.opd hx
    rw[e2]at hk
    exact gq true e1 rfl rfl hk
   ·exact go (b:=false) (fun _ _=>rfl) (fun nl=>by cases nl<;>rfl) rfl hk
  ·cases hk
 ·split at hk
  ·rename_i o off w hx hy
   obtain⟨id,_,e1⟩:=h.opd hx
   have e2:evO s.tm y= .nilptr:=Zd1 (h.opd hy).1
   split at hk
   ·exact⟨_,ι,_,hk,by rw[Zol,e1,e2];rfl,h.put d (v:= .bool false) (o:=false) ⟨rfl,rfl,fun h=>(nomatch h)⟩⟩
   ·exact⟨_,ι,_,hk,by rw[Zol,e1,e2];rfl,h.put d (v:= .bool true) (o:=false) ⟨rfl,rfl,fun h=>(nomatch h)⟩⟩
   ·cases hk
  ·rename_i w w' hx hy
   have e1:evO s.tm x= .nilptr:=Zd1 (h.opd hx).1
   have e2:evO s.tm y= .nilptr:=Zd1 (h.opd hy).1
   split at hk
   ·exact⟨_,ι,_,hk,by rw[Zol,e1,e2];rfl,h.put d (v:= .bool true) (o:=false) ⟨rfl,rfl,fun h=>(nomatch h)⟩⟩
   ·exact⟨_,ι,_,hk,by rw[Zol,e1,e2];rfl,h.put d (v:= .bool false) (o:=false) ⟨rfl,rfl,fun h=>(nomatch h)⟩⟩
   ·cases hk
  ·cases hk
 ·rename_i h1 h2
  split at hk
  ·rename_i v _ w _ hx hy
   split at hk
   ·rename_i z hz
    obtain⟨e1,_⟩:=h.opd hx
    obtain⟨e2,_⟩:=h.opd hy
    rw[<-e1, <-e2]at hz
    have hf:=Zls (Zn6 hz)
    exact⟨_,ι,s.put d z false,hk,by rw[Zol,Zvp (fun e=>h1 e) hz];rfl,h.put d (y:= .at (.c z false)) ⟨hf.1,hf.2.1,fun h=>nomatch h⟩⟩
   ·cases hk
  ·refine Zbd h ?_ hk
   cases q<;>first|rfl|exact absurd rfl h1|exact absurd rfl h2
theorem Z5x (h:Sat c S ι s){sb:Bool}{x:Opd}(hk:op1 (BV Γ f) ow d (.len sb x) S k=some r):Res1 c GA gl d (.len sb x) g a s k r:=by
 simp only[op1]at hk
 split at hk
 ·rename_i o off n c sz hx
  obtain⟨id,_,e1⟩:=h.opd hx
  exact⟨_,ι,_,hk,by rw[Zxf,e1];rfl,h.put d (v:= .int .i64 n) (o:=false) ⟨rfl,rfl,fun h=>(nomatch h)⟩⟩
 ·rename_i o i sz hx
  obtain⟨id,n,cap,_,e2,e3,e1,_⟩:=h.opd hx
  exact⟨_,ι,_,hk,by rw[Zxf,e1];rfl,h.put d (v:= .int .i64 n.toNat) (o:=false) ⟨by rw[e2,Int.toNat_of_nonneg e3];rfl,fun h=>(nomatch h),fun _=>rfl⟩⟩
 ·rename_i o i j sz hx
  split at hk
  ·rename_i a b ha hb
   obtain⟨id,a',b',cap,_,e2,e3,e4,e5,e1,_⟩:=h.opd hx
   rw[ha]at e2;cases e2
   rw[hb]at e3;cases e3
   simp only[doX,BV,Xab]at hk
   obtain⟨z,hz,h1⟩:=hk
   simp only[evp,Z6s]at hz
   rw[if_pos ⟨e4,e5⟩]at hz
   cases hz
   have hn:((b'.toNat-a'.toNat:Nat):Int)=b'-a':=by omega
   exact⟨_,ι,s.put _ (.int .i64 ((b'.toNat-a'.toNat:Nat):Int)) false,h1,by rw[Zxf,e1];rfl,h.putN (by rw[hn];rfl) rfl (fun h=>nomatch h) (fun _=>rfl)⟩
  ·cases hk
 ·exact Zbd h rfl hk
theorem Zid {n:Nat}{v:V}{xs:List V}{j:V}(hxs: [v.nf]=xs)(h:evp (.chk n) xs=some j):∃kd m,v= .int kd m/\j= .int kd m/\0<=m/\m<n:=by
 subst hxs
 simp only[evp,vChk]at h
 split at h
 ·rename_i kd m e
  split at h
  ·rename_i hc;cases h;exact⟨kd,m,Zb3 e,rfl,hc⟩
  ·cases h
 ·cases h
theorem Zmz {n:Int}{v:V}{xs:List V}{j:V}(hxs: [v.nf]=xs)(h:evp .chkd (.int .i64 n::xs)=some j):∃kd m,v= .int kd m/\j= .int kd m/\0<=m/\m<n:=by
 subst hxs
 simp only[evp]at h
 unfold Z4t at h
 split at h
 ·rename_i n' kd m e1 e2
  cases e1
  split at h
  ·rename_i hc;cases h;exact⟨kd,m,Zb3 e2,rfl,hc⟩
  ·cases h
 ·cases h
theorem Zwt {n:Int}{v:V}{xs:List V}{j:V}(hxs: [v.nf]=xs)(h:evp .chkl (.int .i64 n::xs)=some j):∃kd m,v= .int kd m/\j= .int .i64 m/\0<=m/\m<=n:=by
 subst hxs
 simp only[evp]at h
 unfold Z5y at h
 split at h
 ·rename_i n' kd m e1 e2
  cases e1
  split at h
  ·rename_i hc;cases h;exact⟨kd,m,Zb3 e2,rfl,hc⟩
  ·cases h
 ·cases h
theorem Zt7 {a b:Int}{v:V}{xs:List V}{j:V}(hxs: [v.nf]=xs)(h:evp .vidx (.int .i64 a:: .int .i64 b::xs)=some j):∃kd m,v= .int kd m/\j= .int .i64 (a+m)/\0<=a/\0<=m/\a+m<b:=by
 subst hxs
 simp only[evp]at h
 cases hv:v.nf<;>rw[hv]at h<;>simp only[Z4s,reduceCtorEq]at h
 split at h
 ·rename_i hc;cases h;exact⟨_,_,Zb3 hv,rfl,hc⟩
 ·cases h
theorem Zi8 {a b:Int}{v:V}{xs:List V}{j:V}(hxs: [v.nf]=xs)(h:evp .vadd (.int .i64 a:: .int .i64 b::xs)=some j):∃kd m,v= .int kd m/\j= .int .i64 (a+m)/\0<=a/\0<=m/\a+m<=b:=by
 subst hxs
 simp only[evp]at h
 cases hv:v.nf<;>rw[hv]at h<;>simp only[Z4y,reduceCtorEq]at h
 split at h
 ·rename_i hc;cases h;exact⟨_,_,Zb3 hv,rfl,hc⟩
 ·cases h
theorem Zyc (h:Sat c S ι s){sz:Nat}{x i:Opd}(hk:op1 (BV Γ f) ow d (.iaddr sz x i) S k=some r):Res1 c GA gl d (.iaddr sz x i) g a s k r:=by
 simp only[op1]at hk
 split at hk
 ·rename_i o j0 s' hx
  split at hk
  ·rename_i n hs hn
   obtain rfl:=Xah hs
   obtain⟨id,m0,cap,hid,e2,e3,e1,_⟩:=h.opd hx
   rw[hn]at e2;cases e2
   obtain⟨ys,S1,h1,h2,h3,h4,h5⟩:=h.matL hk
   simp only[BV,Xab]at h1
   obtain⟨j,hj,h1⟩:=h1
   obtain⟨kd,m,e5,rfl,h6⟩:=Zmz h4 hj
   refine⟨_,ι,_,h1,by rw[Zme,e1,e5];simp only[Zeu];rw[if_pos ⟨h6.1,by omega,trivial⟩];rfl,(h2.push (x:= .int kd m) rfl).put d (v:= .ptr id (0+m.toNat*s')) (o:=false) ⟨id,kd,m,hid,Zar _ _,rfl⟩⟩
  ·cases hk
 ·rename_i o i' j' s' hx
  split at hk
  ·rename_i va vb hs ha hb
   obtain rfl:=Xah hs
   obtain⟨id,p,q,cap,hid,e2,e3,e4,e5,e1,_⟩:=h.opd hx
   rw[ha]at e2;cases e2
   rw[hb]at e3;cases e3
   obtain⟨ys,S1,h1,h2,h3,h4,h5⟩:=h.matL hk
   simp only[BV,Xab]at h1
   obtain⟨j,hj,h1⟩:=h1
   obtain⟨kd,m,e6,rfl,h6,h7,h8⟩:=Zt7 h4 hj
   refine⟨_,ι,_,h1,by rw[Zme,e1,e6];simp only[Zeu];rw[if_pos ⟨h7,by omega,trivial⟩];rfl,(h2.push (x:= .int .i64 (p+m)) rfl).put _ (v:= .ptr id (p.toNat*s'+m.toNat*s')) (o:=false) ⟨id, .i64,p+m,hid,Zar _ _, ?_⟩⟩
   rw[Xan, <-Xca]
   congr 2
   omega
  ·cases hk
 ·rename_i o off n c sz' hx
  split at hk
  ·rename_i hs
   obtain rfl:=Xah hs
   obtain⟨id,hid,e1⟩:=h.opd hx
   obtain⟨ys,S1,h1,h2,h3,h4,h5⟩:=h.matL hk
   simp only[BV,Xab]at h1
   obtain⟨j,hj,h1⟩:=h1
   obtain⟨kd,m,e2,rfl,h6⟩:=Zid h4 hj
   refine⟨_,ι,_,h1,by rw[Zme,e1,e2];simp only[Zeu];rw[if_pos ⟨h6.1,h6.2,trivial⟩];rfl,(h2.push (x:= .int kd m) rfl).put d (v:= .ptr id (off+m.toNat*sz')) (o:=false) ⟨id,kd,m,hid,Zar _ _,rfl⟩⟩
  ·cases hk
 ·obtain⟨ys,S1,h1,h2,h3,h4,h5⟩:=h.matL hk
  simp only[BV,Xab]at h1
  obtain⟨e,he,h1⟩:=h1
  subst h4
  simp only[Xaq,Xbg,nfL,evp]at he
  unfold Z0m at he
  split at he
  ·rename_i b s' xs kd m e1 e2
   obtain⟨_,nl,ws,e3,rfl,hn⟩:=Zgv e1
   split at he
   ·rename_i hc
    obtain⟨hc1,rfl⟩:=hc
    rw[Zfa,Xaa]at he
    obtain⟨w,hw,rfl⟩:=he
    have hnl:nl=false:=by cases nl;rfl;rw[hn rfl]at hw;simp at hw
    subst hnl
    have hcl:w.nf.clean=true:=by
     simp only[Xaq,Xbg,nfL,Zac,Xai,e1,V.clean]at h5
     exact Ziw h5.1 (by rw[Zfa,hw];rfl)
    refine⟨_,ι,_,h1,by rw[Zme,e3,Zb3 e2,Zva,if_pos ⟨hc1,rfl⟩,hw];rfl,(h2.push hcl).put d (v:= .el w.cells 0) (o:=false) ⟨w.nf,Zar _ _, ?_⟩⟩
    show V.el (nfL w.cells) 0=_
    rw[Zbv]
   ·cases he
  ·cases he
theorem Z16 (h:Sat c S ι s){o off n:Nat}{k:PS V->Option V}(hk:coal (BV Γ f) S o off n k=some r):∃S',k S'=some r/\Sat c S' ι s/\S'.tm=S.tm:=by
 unfold coal at hk
 split at hk
 ·rename_i ss hss
  split at hk
  ·exact⟨S,hk,h,rfl⟩
  ·rename_i a' i hs
   split at hk
   ·rename_i q hq
    split at hk
    ·rename_i ns xs hsv
     simp only[BV,evp,Xab,Xaa]at hk
     obtain⟨x,⟨l,hl,rfl⟩,hk⟩:=hk
     obtain⟨id,cs,q1,q2,q3⟩:=h.cob o ss hss
     obtain⟨p,q',cp,cg,cq,e1,e2,e3,e4,e5,e6,e7,e8,e9⟩:=Zbm q3 hs
     simp only[Xan,Xc5]at e2 e4 e7 e8
     have hr:SegsS ι S.vals (.one a'::q') (cg++cq) (fun j=>s.own (.cell id j)) cp.length:=SegsS.app (p:=[.one a']) (q:=q') (.inl fun s' hs'=>by simp at hs';rw[hs'];rfl) e7 e8
     have hd:ss.drop i= .one a'::q':=by rw[e1,e2];simp
     rw[hd]at hq hsv
     obtain⟨c1,c2,k1,k2,k3,k4,k5,k6⟩:=Zc0 hr hq
     obtain⟨rfl,hc⟩:=h.segVals k5 hsv hl
     have hcl:(V.agg (nfL c1)).clean=true:=Zfh hl hc
     have q3':=q3.mono (PreN.refl ι) (Ext.push S (V.agg (nfL c1))).pre
     have hsc:=k5.all_sc
     have hms:SegsS ι (S.push (V.agg (nfL c1))).vals [.many (some n) (.n S.nx false false)] c1 (fun j=>s.own (.cell id j)) off:=⟨c1,[], .agg (nfL c1),by simp,fun m hm=>by(cases hm;exact k2),fun h=>by(cases h),hsc,Zar _ _,rfl,rfl⟩
     have hspl:=(Zn5 (ow':=fun j=>s.own (.cell id j)) q3' hs (by rw[hd];exact hq) hms k2 (.inl fun s' hs'=>by simp at hs';rw[hs'];rfl) fun _ _=>rfl).2
     have hset:Zav cs off c1=cs:=by
      rw[e3,k1,e4]
      simp only[Zav,Xeh]
      rw[<-Xaj, <-Xaf,Xc9,Xaj]
     rw[hset]at hspl
     exact⟨_,hk,(h.push hcl).objUpd (s':=s) q1 rfl (fun _=>rfl) rfl (fun _ _=>⟨rfl,fun _=>rfl⟩) q2 hspl,rfl⟩
    ·cases hk
   ·cases hk
  ·cases hk
 ·cases hk
theorem Zvn {vs:List V}{l:List V}{n i:Nat}(hn:l.length=n)(hl:l.all V.sc=true)(hw:vs[i]? =some (.agg (nfL l)))(ow:Nat->Bool)(j:Nat):SegsS ι vs (mseg n (.n i false false)) l ow j:=by
 subst hn
 cases l with
 |nil=>rfl
 |cons x r=>exact⟨x::r,[], .agg (nfL (x::r)),by simp,fun m hm=>by(cases hm;rfl),fun h=>by(cases h),hl,hw,rfl,rfl⟩
theorem Zhp (n:Nat)(a:At):Zi1 (mseg n a):=by
 cases n with
 |zero=>intro s hs;cases hs
 |succ n=>intro s hs;simp[mseg]at hs;rw[hs];rfl
theorem Zwo (h:Sat c S ι s){o off:Nat}{k:PS V->Option V}(hk:splitO (BV Γ f) S o off k=some r):∃S',k S'=some r/\Sat c S' ι s/\S'.tm=S.tm:=by
 unfold splitO at hk
 split at hk
 ·rename_i ss hss
  split at hk
  ·rename_i m a' q i hs
   split at hk
   ·rename_i x hx
    simp only[BV,evp,Xab]at hk
    obtain⟨y1,hy1,y0,hy0,y2,hy2,hk⟩:=hk
    obtain⟨id,cs,q1,q2,q3⟩:=h.cob o ss hss
    obtain⟨p,q',cp,cg,cq,e1,e2,e3,e4,e5,e6,e7,e8,e9⟩:=Zbm q3 hs
    simp only[Xan]at e2 e7 e8
    obtain⟨l,cs',w,f1,f2,f3,f4,f5,f6,f7⟩:=e7
    rw[show cs'=[]from f7,Xao]at f1
    subst f1
    obtain⟨rfl,hc⟩:=h.valV f5 hx
    rw[<-f6]at hy1 hy0 hy2
    unfold Zak at hy1 hy0 hy2
    simp only at hy1 hy0 hy2
    split at hy1
    rotate_left
    ·cases hy1
    split at hy2
    rotate_left
    ·cases hy2
    cases hy1;cases hy2
    rename_i hle1 hle2
    simp only[Zap]at hle1 hle2
    have hlm:=f2 m rfl
    rw[Zfa,Xaa]at hy0
    obtain⟨v,hv,rfl⟩:=hy0
    have hlt:=(Xae.1 hv).1
    have hcl:Zac (nfL cg)=true:=by rw[f6];exact clean_cells hc
    have A1:((nfL cg).drop 0).take q=nfL (cg.take q):=by rw[Xbc,Zci]
    have A2:((nfL cg).drop (q+1)).take (m-q-1)=nfL (cg.drop (q+1)):=by
     rw[Xaw (by simp;omega),Zdp]
    rw[A1,A2]at hk
    have k1:(V.agg (nfL (cg.take q))).clean=true:=by rw[Zci];exact Zbo hcl q
    have k0:v.nf.clean=true:=Zal.1 hcl _ (Xam (by rw[Zfa,hv];rfl))
    have k2:(V.agg (nfL (cg.drop (q+1)))).clean=true:=by rw[Zdp];exact Zb4 hcl _
    have hsat:=((h.push k1).push k0).push k2
    have hpre:=(((Ext.push S (V.agg (nfL (cg.take q)))).trans (Ext.push _ v.nf)).trans (Ext.push _ (V.agg (nfL (cg.drop (q+1)))))).pre
    have hvs:v.sc=true:=Xal.1 f4 v (Xam hv)
    have hcg:cg=cg.take q++(v::cg.drop (q+1)):=by
     have:=Xap hlt
     rw[show cg[q]=v by have:=Xad hlt;rw[hv]at this;exact(Option.some.inj this).symm]at this
     rw[<-this,Xbl]
    have hn:SegsS ι (((S.push (V.agg (nfL (cg.take q)))).push v.nf).push (V.agg (nfL (cg.drop (q+1))))).vals (mseg q (.n S.nx false false)++(.one (.n (S.nx+1) false true)::mseg (m-q-1) (.n (S.nx+2) false false))) cg (fun j=>s.own (.cell id j)) cp.length:=by
     have:=SegsS.app (ι:=ι) (vs:=(((S.push (V.agg (nfL (cg.take q)))).push v.nf).push (V.agg (nfL (cg.drop (q+1))))).vals) (ow:=fun j=>s.own (.cell id j)) (p:=mseg q (.n S.nx false false)) (cp:=cg.take q) (j:=cp.length) (q:= .one (.n (S.nx+1) false true)::mseg (m-q-1) (.n (S.nx+2) false false)) (cq:=v::cg.drop (q+1)) (.inl (Zhp _ _))
      (Zvn (by simp;omega) (Xal.2 fun x hx=>Xal.1 f4 x (Xbn hx)) (by simp[PS.push,PS.nx]) _ _)
      ⟨v,cg.drop (q+1),rfl,⟨by simp[PS.push,PS.nx],fun h=>(by cases h),fun _=>hvs⟩,hvs,Zvn (by simp;omega) (Xal.2 fun x hx=>Xal.1 f4 x (Xb2 hx)) (by simp[PS.push,PS.nx]) _ _⟩
     rw[<-hcg]at this
     exact this
    have hz:Zi1 (mseg q (.n S.nx false false)++(Seg.one (.n (S.nx+1) false true)::mseg (m-q-1) (.n (S.nx+2) false false))):=by
     intro s' hs'
     rcases Xay.1 hs' with h1|h1
     ·exact Zhp _ _ s' h1
     ·rcases Xa0.1 h1 with h1|h1
      ·rw[h1];rfl
      ·exact Zhp _ _ s' h1
    have hall:=SegsS.app (.inl e5) (e6.mono (PreN.refl ι) hpre) (by rw[Xan];exact SegsS.app (.inl hz) hn (e8.mono (PreN.refl ι) hpre))
    rw[<-e3]at hall
    have hspl:spl ss i 1 (mseg q (.n S.nx false false)++(.one (.n (S.nx+1) false true)::mseg (m-q-1) (.n (S.nx+2) false false)))=p++((mseg q (.n S.nx false false)++(.one (.n (S.nx+1) false true)::mseg (m-q-1) (.n (S.nx+2) false false)))++q'):=by
     rw[e1,e2];simp[spl]
    rw[<-hspl]at hall
    exact⟨_,hk,hsat.objUpd (s':=s) q1 rfl (fun _=>rfl) rfl (fun _ _=>⟨rfl,fun _=>rfl⟩) q2 hall,rfl⟩
   ·cases hk
  ·exact⟨S,hk,h,rfl⟩
 ·cases hk
theorem Z1v (h:Sat c S ι s){n sz:Nat}{x i:Opd}(hk:op1 (BV Γ f) ow d (.iarr n sz x i) S k=some r):Res1 c GA gl d (.iarr n sz x i) g a s k r:=by
 simp only[op1]at hk
 split at hk
 ·rename_i o off kd j hx
  split at hk
  ·rename_i hj
   have hj':j<n:=Xa6 hj
   obtain⟨id,hid,e1⟩:=h.opd hx
   refine⟨_,ι,_,hk,by rw[Zwa,e1,Ziy];simp only[Zpj];rw[if_pos ⟨Int.natCast_nonneg j,Int.ofNat_lt.2 hj'⟩];rfl,h.put d (v:= .ptr id (off+(Int.ofNat j).toNat*sz)) (o:=false) ⟨id,hid,rfl⟩⟩
  ·cases hk
 ·rename_i o off hx hno
  obtain⟨id,hid,e1⟩:=h.opd hx
  obtain⟨S0,hk,h0,_⟩:=Z16 h hk
  obtain⟨ys,S1,h1,h2,h3,h4,h5⟩:=h0.matL hk
  simp only[BV,Xab]at h1
  obtain⟨j,hj,h1⟩:=h1
  obtain⟨kd,m,e2,rfl,h6⟩:=Zid h4 hj
  exact⟨_,ι,_,h1,by rw[Zwa,e1,e2];simp only[Zpj];rw[if_pos h6];rfl,(h2.push (x:= .int kd m) rfl).put d (v:= .ptr id (off+m.toNat*sz)) (o:=false) ⟨id,kd,m,hid,Zar _ _,rfl⟩⟩
 ·rename_i o off hx
  have e1:evO s.tm x= .gp o off:=h.opd hx
  obtain⟨ys,S1,h1,h2,h3,h4,h5⟩:=h.matL hk
  simp only[BV,Xab]at h1
  obtain⟨j,hj,h1⟩:=h1
  obtain⟨kd,m,e2,rfl,h6⟩:=Zid h4 hj
  exact⟨_,ι,_,h1,by rw[Zwa,e1,e2];simp only[Zpj];rw[if_pos h6];rfl,(h2.push (x:= .int kd m) rfl).put d (v:= .gp o (off+m.toNat*sz)) (o:=false) ⟨kd,m,Zar _ _,rfl⟩⟩
 ·cases hk
theorem Zw4 (h:Sat c S ι s){off:Nat}{x:Opd}(hk:op1 (BV Γ f) ow d (.faddr off x) S k=some r):Res1 c GA gl d (.faddr off x) g a s k r:=by
 simp only[op1]at hk
 split at hk
 ·rename_i o a' hx
  obtain⟨id,hid,e1⟩:=h.opd hx
  exact⟨_,ι,_,hk,by rw[Zlh,e1];rfl,h.put d (v:= .ptr id (a'+off)) (o:=false) ⟨id,hid,rfl⟩⟩
 ·rename_i i a' hx
  obtain⟨w,hw,e1⟩:=h.opd hx
  obtain⟨cs,e2,e3⟩:=Zxm e1
  exact⟨_,ι,_,hk,by rw[Zlh,e2];rfl,h.put d (v:= .el cs (a'+off)) (o:=false) ⟨w,hw,by rw[<-e3];rfl⟩⟩
 ·rename_i o b i sz hx
  obtain⟨id,kd,j,hid,hj,e1⟩:=h.opd hx
  exact⟨_,ι,_,hk,by rw[Zlh,e1];rfl,h.put d (v:= .ptr id (b+j.toNat*sz+off)) (o:=false) ⟨id,kd,j,hid,hj,by congr 1;omega⟩⟩
 ·rename_i g' a' hx
  have e1:evO s.tm x= .gp g' a':=h.opd hx
  exact⟨_,ι,_,hk,by rw[Zlh,e1];rfl,h.put d (v:= .gp g' (a'+off)) (o:=false) rfl⟩
 ·cases hk
theorem Z1i (h:Sat c S ι s){n sz:Nat}{x:Opd}{lo hi mx:Option Opd}(hk:op1 (BV Γ f) ow d (.slca n sz x lo hi mx) S k=some r):Res1 c GA gl d (.slca n sz x lo hi mx) g a s k r:=by
 simp only[op1]at hk
 split at hk
 ·rename_i o off hx
  split at hk
  ·rename_i ss hss
   split at hk
   ·rename_i m a' r i hs
    split at hk
    ·rename_i hm hpos
     obtain⟨id,hid,e1⟩:=h.opd hx
     obtain⟨id',cs,q1,q2,q3⟩:=h.cob o ss hss
     rw[hid]at q1;cases q1
     have hpos':0<n*sz:=Xa6 hpos
     have hm':r+n*sz<=m:=Xa6 hm
     have hle:off+n*sz<=cs.length:=by
      obtain⟨p,q',cp,cg,cq,e1',e2,e3,e4,e5,e6,e7,e8,e9⟩:=Zbm q3 hs
      obtain⟨l,cs',w,f1,f2,f3,f4,f5,f6,f7⟩:=e7
      have:=f2 m rfl
      rw[e3,f1];simp;omega
     refine⟨_,ι,_,hk, ?_,h.put d (v:= .osl id off n n sz) (o:=false) ⟨id,hid,rfl⟩⟩
     rw[Z0a,e1]
     have hne:cs≠ []:=fun e=>by rw[e]at hle;simp at hle;omega
     simp[Zi6,vOpt,cut3,q2,hle,hne,putV]
    ·cases hk
   ·rename_i sg i _ hs
    split at hk
    ·rename_i q hq hpos
     obtain⟨id,hid,e1⟩:=h.opd hx
     obtain⟨id',cs,q1,q2,q3⟩:=h.cob o ss hss
     rw[hid]at q1;cases q1
     have hpos':0<n*sz:=Xa6 hpos
     have hle:off+n*sz<=cs.length:=by
      obtain⟨p,q',cp,cg,cq,e1',e2,e3,e4,e5,e6,e7,e8,e9⟩:=Zbm q3 hs
      simp only[Xan,Xc5]at e2 e4 e7 e8
      have hd:ss.drop i=sg::q':=by rw[e1',e2];simp
      rw[hd]at hq
      have hr:SegsS ι S.vals (sg::q') (cg++cq) (fun j=>s.own (.cell id j)) cp.length:=by
       refine SegsS.app (p:=[sg]) (q:=q') ?_ e7 e8
       cases hsl:sg.len with
       |none=>exact .inr (e9 hsl)
       |some m=>exact .inl fun s' hs'=>by simp at hs';rw[hs',hsl];rfl
      obtain⟨c1,c2,k1,k2,_⟩:=Zc0 hr hq
      rw[e3,k1];simp;omega
     refine⟨_,ι,_,hk, ?_,h.put d (v:= .osl id off n n sz) (o:=false) ⟨id,hid,rfl⟩⟩
     rw[Z0a,e1]
     have hne:cs≠ []:=fun e=>by rw[e]at hle;simp at hle;omega
     simp[Zi6,vOpt,cut3,q2,hle,hne,putV]
    ·cases hk
   ·cases hk
  ·cases hk
 ·cases hk
theorem Zxx (h:Sat c S ι s){x:Opd}(hk:op1 (BV Γ f) ow d (.nilck x) S k=some r):Res1 c GA gl d (.nilck x) g a s k r:=by
 simp only[op1]at hk
 split at hk
 ·rename_i o a' hx
  obtain⟨id,hid,e1⟩:=h.opd hx
  exact⟨_,ι,_,hk,by rw[Zua,e1];rfl,h.put d (v:= .ptr id a') (o:=false) ⟨id,hid,rfl⟩⟩
 ·rename_i i a' hx
  obtain⟨w,hw,e1⟩:=h.opd hx
  obtain⟨cs,e2,e3⟩:=Zxm e1
  exact⟨_,ι,_,hk,by rw[Zua,e2];rfl,h.put d (v:= .el cs a') (o:=false) ⟨w,hw,by rw[<-e3];rfl⟩⟩
 ·cases hk
theorem Zjz :∀{l:List V},Zac l=true->l.any V.isPtrV=false/\l.any V.isOsl=false
 | [],_=>⟨rfl,rfl⟩
 |v::l,h=>by
  simp only[Zac,Xai]at h
  obtain⟨h1,h2⟩:=Zjz h.2
  simp only[Xex,h1,h2,Xcv]
  cases v<;>first|exact⟨rfl,rfl⟩|(simp[V.clean]at h)
theorem Z3i {st:St}{f:Nat}{xs:List Opd}(hc:Zac (xs.map (evO st.tm))=true):exec1 GA gl ⟨d, .call f xs,g,a⟩ st=putC st d (GA.p f (xs.map (evO st.tm))):=by
 obtain⟨h1,h2⟩:=Zjz hc
 rw[Zvq]
 unfold Zj4 putR putC
 rw[h1,h2,if_neg (by simp),if_neg (by simp)]
 cases GA.p f (xs.map (evO st.tm))<;>rfl
theorem Z2i (h:Sat c S ι s){xs:List Opd}(ha:(xs.any fun x=>Ztp (S.opd x))=true):(xs.map (evO s.tm)).any V.isOsl=true:=by
 obtain⟨x,hx,hy⟩:=Xdj.1 ha
 refine Xdj.2 ⟨_,Xdf hx, ?_⟩
 unfold Ztp at hy
 split at hy
 ·rename_i e;obtain⟨id,_,e1⟩:=h.opd e;rw[e1];rfl
 ·rename_i e;obtain⟨id,_,_,_,_,_,_,_,e1⟩:=h.opd e;rw[e1];rfl
 ·rename_i e;obtain⟨id,_,_,_,_,_,e1,_⟩:=h.opd e;rw[e1];rfl
 ·rename_i e;obtain⟨id,_,_,_,_,_,_,_,_,e1,_⟩:=h.opd e;rw[e1];rfl
 ·cases hy
theorem Zmf (h:Sat c S ι s){o id off q i:Nat}{ss:List Seg}{sn:Option Nat}{a':At}(hid:ι[o]? =some id)(hss:S.cob o=some ss)(hs:Zdj ss off 0=some (.many sn a',q,i)):
  ∃cs w,Zat s.H id=some cs/\AtV S.vals a' w/\ ∀j n,q+j+n<=w.cells.length->off+j+n<=cs.length/\nfL ((cs.drop (off+j)).take n)=(w.cells.drop (q+j)).take n:=by
 obtain⟨id',cs,q1,q2,q3⟩:=h.cob o ss hss
 rw[hid]at q1;cases q1
 obtain⟨p,q',cp,cg,cq,e1',e2,e3,e4,e5,e6,e7,e8,e9⟩:=Zbm q3 hs
 obtain⟨l,cs',w,f1,f2,f3,f4,f5,f6,f7⟩:=e7
 rw[show cs'=[]from f7,Xao]at f1
 subst f1;subst e3
 refine⟨_,w,q2,f5,fun j n hle=> ?_⟩
 rw[<-f6,Zap]at hle
 refine⟨by simp;omega, ?_⟩
 rw[<-f6, <-Zdp, <-Zci,e4]
 congr 1
 rw[Xc6,Xav (by omega),show cp.length+q+j-cp.length=q+j by omega,Xba,Xby (by omega),Xb4 (by simp;omega)]
theorem Zmx (h:Sat c S ι s){o id:Nat}{w:V}(hid:ι[o]? =some id)(hw:rowVal (BV Γ f) S o=some w):∃cs,Zat s.H id=some cs/\nfL cs=w.cells/\cs.all V.sc=true/\w.clean=true:=by
 unfold rowVal at hw
 split at hw
 ·rename_i a' hss
  obtain⟨id',cs,q1,q2,q3⟩:=h.cob o _ hss
  rw[hid]at q1;cases q1
  obtain⟨l,cs',w',f1,f2,f3,f4,f5,f6,f7⟩:=q3
  rw[show cs'=[]from f7,Xao]at f1
  subst f1
  obtain⟨rfl,hc⟩:=h.valV f5 hw
  exact⟨_,q2,f6,f4,hc⟩
 ·cases hw
theorem Z0g {v:V}(h:v.nf.flatR=true):v.nf=v:=by
 cases v<;>first|rfl|(simp[V.nf,V.flatR]at h;done)|skip
 rename_i nl sz xs
 cases nl<;>cases xs<;>simp[V.nf,V.flatR]at h
theorem nfL_flat :∀{l:List V},(nfL l).all V.flatR=true->nfL l=l
 | [],_=>rfl
 |v::r,h=>by
  simp only[nfL,Xcu,Xai]at h
  simp only[nfL,Z0g h.1,nfL_flat h.2]
theorem Zqw {v:V}(h:v.nf.flatT=true):v.nf=v:=by
 cases v with
 |tup xs=>
  simp only[V.nf,V.flatT]at h⊢
  rw[nfL_flat h]
 |sl nl sz xs=>cases nl<;>cases xs<;>simp[V.nf,V.flatT,V.flatR]at h
 |_=>first|rfl|(simp[V.nf,V.flatT,V.flatR]at h;done)
theorem Zl6 {v:V}(h:v.nf.clean=true):v.isOsl0=false:=by
 cases v<;>first|rfl|(simp[V.nf,V.clean]at h)
theorem Zon {sz:Nat}:∀{n:Nat} {cs:List V},nfL (Zfn sz n cs)=Zfn sz n (nfL cs)
 |0,_=>rfl
 |n+1,cs=>by simp only[Zfn,nfL,V.nf,Zon,Zci,Zdp]
theorem Zys {sz n:Nat}{cs:List V}:nfL (vRow sz n cs)=vRow sz n (nfL cs):=by
 unfold vRow
 split
 ·exact Zci _ _
 ·exact Zon
theorem Zhx {sz:Nat}:∀{n:Nat} {cs:List V},Zac cs=true->Zac (Zfn sz n cs)=true
 |0,_,_=>rfl
 |n+1,cs,h=>by simp only[Zfn,Zac,V.clean,Zbo h,Zhx (Zb4 h _),Xcc]
theorem Zpl {sz n:Nat}{cs:List V}(h:Zac cs=true):Zac (vRow sz n cs)=true:=by
 unfold vRow
 split
 ·exact Zbo h _
 ·exact Zhx h
theorem Zrj (h:Sat c S ι s){x:Opd}{o id sz:Nat}{w:V}(hid:ι[o]? =some id)(hw:rowVal (BV Γ f) S o=some w){a b:Int}{cap:Nat}{kk:V->PS V->Option V}(hk:(Zt3 sz w (.int .i64 a) (.int .i64 b)).bind (fun z=>kk z (S.push z))=some r)
  (e1:evO s.tm x= .osl id (a.toNat*sz) (b.toNat-a.toNat) cap sz):
  ∃(u:Bool->V), ∃y S1,(kk y S1=some r/\Sat c S1 ι s/\Ext S S1/\(∀nl,y=(u nl).nf)/\y.clean=true/\(∀nl,Zgc nl s.H (evO s.tm x)=some (u nl))/\(evO s.tm x).isPtrV=false):=by
 obtain⟨cs,q1,q2,q3,q4⟩:=Zmx h hid hw
 simp only[Xab]at hk
 obtain⟨z,hz,hk⟩:=hk
 simp only[Zt3]at hz
 by_cases hle:0<=a/\a<=b/\b.toNat*sz<=w.cells.length
 ·rw[if_pos hle]at hz
  cases hz
  have hcl:(V.sl false sz (vRow sz (b.toNat-a.toNat) (w.cells.drop (a.toNat*sz)))).clean=true:=Zpl (Zb4 (clean_cells q4) _)
  rw[<-q2,Zap]at hle
  have hm:b.toNat*sz=a.toNat*sz+(b.toNat-a.toNat)*sz:=by rw[<-Xca];congr 1;omega
  refine⟨fun nl=>if b.toNat-a.toNat=0 then .sl nl sz []else .sl false sz (vRow sz (b.toNat-a.toNat) (cs.drop (a.toNat*sz))),_,_,hk,h.push hcl, .push _ _,fun nl=> ?_,hcl,fun nl=> ?_,by rw[e1];rfl⟩
  ·show V.sl false sz _=V.nf (if b.toNat-a.toNat=0 then .sl nl sz []else .sl false sz (vRow sz (b.toNat-a.toNat) (cs.drop (a.toNat*sz))))
   rw[<-q2, <-Zdp, <-Zys]
   by_cases h0:b.toNat-a.toNat=0
   ·rw[if_pos h0,h0]
    have:vRow sz 0 (cs.drop (a.toNat*sz))=[]:=by unfold vRow;split<;>rfl
    rw[this]
    cases nl<;>rfl
   ·rw[if_neg h0];rfl
  ·rw[e1]
   simp only[Zgc,q1,Xak]
   by_cases h0:b.toNat-a.toNat=0
   ·rw[if_pos h0,if_pos h0]
   ·rw[if_neg h0,if_neg h0,if_pos (by omega)]
 ·rw[if_neg hle]at hz;cases hz
theorem Zqj (h:Sat c S ι s){x:Opd}{kk:V->PS V->Option V}(hk:snapO (BV Γ f) S (S.opd x) kk=some r):
  ∃(y:V) (S1:PS V) (u:Bool->V),kk y S1=some r/\Sat c S1 ι s/\Ext S S1/\(∀nl,y=(u nl).nf)/\y.clean=true/\(∀nl,Zgc nl s.H (evO s.tm x)=some (u nl))/\(evO s.tm x).isPtrV=false/\((evO s.tm x).isOsl0=true->Zvv (S.opd x)=true):=by
 unfold snapO at hk
 split at hk
 ·rename_i o off n cap hx
  split at hk
  ·rename_i ss hss hpos
   split at hk
   ·rename_i sn a' q i hs
    have hpos':0<n:=Xa6 hpos
    obtain⟨id,hid,e1⟩:=h.opd hx
    obtain⟨cs,w,p1,p2,p3⟩:=Zmf h hid hss hs
    simp only[mat]at hk
    split at hk
    ·rename_i x' hx'
     obtain⟨rfl,hwc⟩:=h.valV p2 hx'
     simp only[BV,Xab]at hk
     obtain⟨z,hz,hk⟩:=hk
     simp only[evp]at hz
     unfold Z54 at hz
     split at hz
     ·rename_i hle
      cases hz
      obtain⟨p4,p5⟩:=p3 0 n (by omega)
      simp only[Xc5]at p4 p5
      have hcl:(V.sl false 1 ((x'.cells.drop q).take n)).clean=true:=Zbo (Zb4 (clean_cells hwc) q) n
      refine⟨_,_,fun _=> .sl false 1 ((cs.drop off).take n),hk,h.push hcl, .push _ _,fun _=> ?_,hcl,fun nl=> ?_,by rw[e1];rfl,fun h0=> ?_⟩
      ·rw[<-p5];rfl
      ·rw[e1];simp only[Zgc,p1,Xak,Xcw,vRow,if_true];rw[if_neg (by omega),if_pos p4]
      ·rw[e1]at h0
       cases n with
       |zero=>omega
       |succ n=>cases h0
     ·cases hz
    ·cases hk
   ·cases hk
  ·cases hk
 ·rename_i o off n i hx
  split at hk
  ·rename_i ss j hss hj
   split at hk
   ·rename_i sn a' q i' hs
    obtain⟨id,kd,m,cap,hid,e2,e3,e4,e1⟩:=h.opd hx
    rw[hj]at e2;cases e2
    obtain⟨cs,w,p1,p2,p3⟩:=Zmf h hid hss hs
    simp only[mat]at hk
    split at hk
    ·rename_i x' hx'
     obtain⟨rfl,hwc⟩:=h.valV p2 hx'
     simp only[BV,Xab]at hk
     obtain⟨z,hz,hk⟩:=hk
     simp only[evp]at hz
     unfold Zz4 at hz
     simp only at hz
     by_cases hle:0<=m/\m<n/\q+n<=x'.cells.length
     ·rw[if_pos hle]at hz
      cases hz
      obtain⟨p4,p5⟩:=p3 m.toNat (n-m.toNat) (by omega)
      have hcl:(V.sl false 1 ((x'.cells.drop (q+m.toNat)).take (n-m.toNat))).clean=true:=Zbo (Zb4 (clean_cells hwc) _) _
      refine⟨_,_,fun _=> .sl false 1 ((cs.drop (off+m.toNat)).take (n-m.toNat)),hk,h.push hcl, .push _ _,fun _=> ?_,hcl,fun nl=> ?_,by rw[e1];rfl,fun h0=> ?_⟩
      ·rw[<-p5];rfl
      ·rw[e1];simp only[Zgc,p1,Xak,Xcw,vRow,if_true];rw[if_neg (by omega),if_pos (by omega)]
      ·rw[e1]at h0
       obtain⟨q',hq'⟩:∃q',n-m.toNat=q'+1:=⟨n-m.toNat-1,by omega⟩
       rw[hq']at h0;cases h0
     ·rw[if_neg hle]at hz;cases hz
    ·cases hk
   ·cases hk
  ·cases hk
 ·rename_i o j sz hx
  split at hk
  ·rename_i w n hw hn
   obtain⟨id,m,cap,hid,e2,e3,e1,e4⟩:=h.opd hx
   rw[hn]at e2;cases e2
   obtain⟨cs,q1,q2,q3,q4⟩:=Zmx h hid hw
   simp only[BV,Xab]at hk
   obtain⟨z,hz,hk⟩:=hk
   simp only[evp,Zzz]at hz
   by_cases hle:0<=m/\m.toNat<=w.cells.length
   ·rw[if_pos hle]at hz
    cases hz
    have hcl:(V.sl false 1 (w.cells.take m.toNat)).clean=true:=Zbo (clean_cells q4) _
    rw[<-q2,Zap]at hle
    refine⟨_,_,fun nl=>if m.toNat=0 then .sl nl 1 []else .sl false 1 ((cs.drop 0).take m.toNat),hk,h.push hcl, .push _ _,fun nl=> ?_,hcl,fun nl=> ?_,by rw[e1];rfl,fun _=>by rw[hx];rfl⟩
    ·rw[<-q2, <-Zci]
     simp only[Xbc]
     by_cases h0:m.toNat=0
     ·rw[if_pos h0,h0];cases nl<;>rfl
     ·rw[if_neg h0];rfl
    ·rw[e1]
     simp only[Zgc,q1,Xak,Xcw,vRow,if_true]
     by_cases h0:m.toNat=0
     ·rw[if_pos h0,if_pos h0]
     ·rw[if_neg h0,if_neg h0,if_pos (by omega)]
   ·rw[if_neg hle]at hz;cases hz
  ·rename_i w n sz' hw hn hn1
   obtain⟨id,m,cap,hid,e2,e3,e1,e4⟩:=h.opd hx
   rw[hn]at e2;cases e2
   obtain⟨u,y,S1,k1,k2,k3,k4,k5,k6,k7⟩:=Zrj h hid hw (a:=0) (b:=m) (by simpa[BV,evp]using hk) (by simpa using e1)
   exact⟨y,S1,u,k1,k2,k3,k4,k5,k6,k7,fun _=>by rw[hx];rfl⟩
  ·cases hk
 ·rename_i o i j sz hx
  split at hk
  ·rename_i w va vb hw ha hb
   obtain⟨id,p,q,cap,hid,e2,e3,e4,e5,e1,_⟩:=h.opd hx
   rw[ha]at e2;cases e2
   rw[hb]at e3;cases e3
   obtain⟨u,y,S1,k1,k2,k3,k4,k5,k6,k7⟩:=Zrj h hid hw (a:=p) (b:=q) (by simpa[BV,evp]using hk) e1
   exact⟨y,S1,u,k1,k2,k3,k4,k5,k6,k7,fun _=>by rw[hx];rfl⟩
  ·cases hk
 ·rename_i n1 n2 n3
  cases hx:S.opd x with
  |none=>rw[hx]at hk;cases hk
  |some y=>
   rw[hx]at hk
   obtain⟨S1,h1,h2,h3,h4⟩:=h.mat (h.opd hx) hk
   refine⟨_,S1,fun _=>evO s.tm x,h1,h2,h3,fun _=>rfl,h4,fun nl=> ?_, ?_,fun h0=> ?_⟩
   ·generalize evO s.tm x=u at h4
    cases u<;>first|rfl|(simp[V.nf,V.clean]at h4)
   ·generalize evO s.tm x=u at h4
    cases u<;>first|rfl|(simp[V.nf,V.clean]at h4)
   ·rw[Zl6 h4]at h0;cases h0
theorem Zqo :∀{xs:List Opd} {fl:Bool} {S:PS V} {kk:List V->PS V->Option V},Sat c S ι s->snapA (BV Γ f) fl S xs kk=some r->
  ∃(ys:List V) (S1:PS V) (us:Bool->List V),kk ys S1=some r/\Sat c S1 ι s/\(∀nl,ys=nfL (us nl))/\Zac ys=true/\(∀nl,Zg8 nl s.H (xs.map (evO s.tm))=some (us nl))/\(xs.map (evO s.tm)).any V.isPtrV=false/\
   fewE (xs.map (evO s.tm))=true/\(fl=true->(xs.map (evO s.tm)).any V.isOsl0=false)
 | [],fl,S,kk,h,hk=>⟨[],S,fun _=> [],hk,h,fun _=>rfl,rfl,fun _=>rfl,rfl,rfl,fun _=>rfl⟩
 |x::xs,fl,S,kk,h,hk=>by
  simp only[snapA]at hk
  split at hk
  ·cases hk
  rename_i hfl
  obtain⟨y,S1,u,h1,h2,h3,h4,h5,h6,h7,h8⟩:=Zqj h hk
  obtain⟨ys,S2,us,q1,q2,q3,q4,q5,q6,q7,q8⟩:=Zqo (kk:=fun ys S2=>kk (y::ys) S2) h2 h1
  refine⟨_,S2,fun nl=>u nl::us nl,q1,q2,fun nl=>by rw[h4 nl,q3 nl];rfl,by simp only[Zac,h5,q4,Xch],fun nl=> ?_, ?_, ?_,fun hf=> ?_⟩
  ·simp only[Xaq,Zg8,h6,q5,Xak,Xas]
  ·simp only[Xaq,Xex,h7,q6,Xcv]
  ·simp only[Xaq]
   unfold fewE
   cases h0:(evO s.tm x).isOsl0 with
   |true=>simp only[q8 (by rw[h8 h0,Xfn]),Bool.not_false]
   |false=>exact q7
  ·subst hf
   simp only[Xe0]at hfl
   simp only[Xaq,Xex,Xbj]
   refine⟨?_,q8 rfl⟩
   cases h0:(evO s.tm x).isOsl0 with
   |true=>rw[h8 h0]at hfl;cases hfl
   |false=>rfl
theorem Z1p (h:Sat c S ι s)(hΓ:GamOK GA gl Γ ow){f':Nat}{xs:List Opd}(hk:op1 (BV Γ f) ow d (.call f' xs) S k=some r):Res1 c GA gl d (.call f' xs) g a s k r:=by
 simp only[op1]at hk
 split at hk
 ·obtain⟨ys,S1,h1,h2,h3,h4,h5⟩:=h.matL hk
  simp only[BV,Xab]at h1
  obtain⟨z,hz,h1⟩:=h1
  subst h4
  obtain⟨v,o,q1,q2,q3,q4⟩:=hΓ.p _ _ _ h5 hz
  exact⟨_,ι,_,h1,by rw[Z3i (Zcg h5),q1];rfl,h2.putN q2 q3 q4 (fun h=>nomatch h)⟩
 ·obtain⟨ys,S1,us,h1,h2,h4,h5,h6,h7,h8,_⟩:=Zqo h hk
  simp only[BV,Xab]at h1
  obtain⟨z,hz,z',hf,h1⟩:=h1
  simp only[evp]at hf
  split at hf
  ·rename_i hfl
   cases hf
   obtain⟨v,o,q1,q2,q3,q4⟩:=hΓ.p _ (us true) _ (by rw[<-h4 true];exact h5) (by rw[<-h4 true];exact hz)
   obtain⟨v',o',q1',q2',_,_⟩:=hΓ.p _ (us false) _ (by rw[<-h4 false];exact h5) (by rw[<-h4 false];exact hz)
   have hv:v=z:=by rw[<-q2]at hfl⊢;exact(Zqw hfl).symm
   have hv':v'=z:=by rw[<-q2']at hfl⊢;exact(Zqw hfl).symm
   subst hv
   subst hv'
   refine⟨_,ι,s.put d v' false,h1, ?_, ?_⟩
   ·rw[Zvq]
    unfold Zj4 putR
    rw[if_neg (by rw[h7];simp),if_pos (Z2i h (by assumption)),h6,h6]
    simp only[Xak,q1,q1',Zxn hfl,h8,Xcc,if_true]
    rfl
   ·have:=(h2.push q3).putN (d:=d) (v:=v') (z:=v') (o:=false) (own:=false) (sc:=false) q2 q3 (fun h=>nomatch h) (fun h=>nomatch h)
    rw[show(S1.push v').nx=S1.nx+1 by simp[PS.push,PS.nx]]at this
    exact this
  ·cases hf
theorem Zvl (h:Sat c S ι s){y:Option Sy}{v:V}{o:Bool}(hy:∀z,y=some z->SyS ι S.vals z v o){kk:At->PS V->Option V}(hk:atO (BV Γ f) S y kk=some r):
  ∃a S',kk a S'=some r/\Sat c S' ι s/\Ext S S'/\AtS ι S'.vals a v o:=by
 unfold atO at hk
 split at hk
 ·exact⟨_,S,hk,h, .refl S,hy _ rfl⟩
 ·rename_i ss z
  exact⟨_,S,hk,h, .refl S,(hy _ rfl).2 z rfl,fun h=>(nomatch h),fun h=>(nomatch h)⟩
 ·rename_i ss
  split at hk
  ·rename_i ns xs hs
   simp only[BV,evp,Xab,Xaa]at hk
   obtain⟨x,⟨l,hl,rfl⟩,hk⟩:=hk
   obtain⟨⟨cs,rfl,h3⟩,_⟩:=hy _ rfl
   obtain⟨rfl,hc⟩:=h.segVals h3 hs hl
   have hx:(V.agg (nfL cs)).clean=true:=Zfh hl hc
   exact⟨_,_,hk,h.push hx, .push _ _,Zar _ _,fun h=>(nomatch h),fun h=>(nomatch h)⟩
  ·cases hk
 ·cases hk
theorem Zl0 :∀{xs:List Opd} {S:PS V} {kk:List At->PS V->Option V},Sat c S ι s->atsO (BV Γ f) S xs kk=some r-> ∃az S',kk az S'=some r/\Sat c S' ι s/\Ext S S'/\AtsS ι S'.vals az (xs.map (evO s.tm))
 | [],S,kk,h,hk=>⟨[],S,hk,h, .refl S,rfl⟩
 |x::xs,S,kk,h,hk=>by
  simp only[atsO]at hk
  obtain⟨a',S1,h1,h2,h3,h4⟩:=Zvl h (v:=evO s.tm x) (o:=ownO s.own x) (fun z hz=>h.opd hz) hk
  obtain⟨az,S2,h5,h6,h7,h8⟩:=Zl0 h2 h1
  exact⟨_,S2,h5,h6,h3.trans h7,_,_,rfl,(h4.mono (.refl _) h7.pre).noOwn false,h8⟩
theorem Znp :∀{az:List At} {ws:List V} {vs:List V},AtsS ι vs az ws->az.any At.isPtr=true->Zac ws=false
 | [],_,_,_,h=>by cases h
 |a'::az,ws,vs,⟨w,ws',e,h1,h2⟩,h=>by
  subst e
  simp only[Xex,Xa5]at h
  rcases h with h|h
  ·cases a' with
   |fp m f ps=>
    cases ps with
    |nil=>simp[At.isPtr]at h
    |cons p ps=>
     obtain⟨cs,e,id,cs',_,e2,_⟩:=h1
     subst e2
     have:w.clean=false:=by rw[e];cases m<;>rfl
     simp only[Zac,this,Xep]
   |_=>
    simp[At.isPtr]at h
    try first|(obtain⟨id,_,e⟩:=h1;rw[e];rfl)|(obtain⟨id,_,_,_,_,_,e,_⟩:=h1;rw[e];rfl)|(obtain⟨id,_,_,_,_,_,_,_,_,e,_⟩:=h1;rw[e];rfl)
  ·simp only[Zac,Znp h2 h,Xeq]
theorem Zl7 :∀{ps:List (Nat×Nat)} {cs:List V} {vs:List V},PsS ι ps cs->AtsS ι vs (Z18 ps) cs
 | [],_,_,h=>h
 |p::ps,_,_,⟨id,cs',h1,h2,h3⟩=>⟨_,_,h2,⟨id,h1,rfl⟩,Zl7 h3⟩
theorem AtsS.app {vs:List V}{bz:List At}{us:List V}:∀{az:List At} {ws:List V},AtsS ι vs az ws->AtsS ι vs bz us->AtsS ι vs (az++bz) (ws++us)
 | [],ws,h,k=>by rw[show ws=[]from h];exact k
 |_::_,_,⟨w,ws',e,h1,h2⟩,k=>⟨w,ws'++us,by rw[e];rfl,h1,h2.app k⟩
theorem Zvo {ys:List V}{kk:List V->Option V}:∀{n i nx:Nat} {kk:List V->Option V},unp (BV Γ f) (.tup ys) n i nx kk=some r-> ∃l,kk l=some r/\l=(ys.drop i).take n/\l.length=n
 |0,i,nx,kk,h=>⟨[],h,by simp,rfl⟩
 |n+1,i,nx,kk,h=>by
  simp only[unp,BV,evp,Xab]at h
  obtain⟨x,hx,h⟩:=h
  rw[Zie]at hx
  obtain⟨l,h1,h2,h3⟩:=Zvo (kk:=fun xs=>kk (x::xs)) h
  refine⟨x::l,h1, ?_,by simp[h3]⟩
  obtain⟨h4,h5⟩:=Xae.1 hx
  rw[Xap h4,Xdg,h5,h2]
theorem Zk6 {xs:List V}(h:Zac xs=true):(oneV xs).clean=true:=by
 unfold oneV
 split
 ·simpa[Zac]using h
 ·exact h
theorem Zsn {xs:List V}(h:Zac xs=true):Zac (dumV xs)=true:=by
 unfold dumV
 split
 ·rfl
 ·exact h
theorem Zj0 {n j:Nat}{xs:List V}(h:Zac xs=true):(Zth n j xs).clean=true:=by
 unfold Zth
 split
 ·exact Zk6 h
 ·exact Zk6 (by simp only[Zac,Zsn h,Xch];rfl)
theorem Znq (h:Sat c S ι s){g0:Nat}{ρ:List (Nat×Nat)}(hr:RI g0 ρ)(hcov:Cov g0 ρ ι){rt:RT}{xs:List V}{v:V}{o:Bool}{hs':HS}{ι':List Nat}(hR:RetS ⟨ιOf g0 ρ ι,s.hs⟩ rt xs v o hs' ι'){tag:Bool}{w:V}
  (hw2:tag=true-> ∃t,w= .tup (t::dumV xs)) (hw3:tag=false->w=oneV xs)
  (hk:callRs (BV Γ f) S g0 ρ d tag w rt k=some r):∃S' ι2,k S'=some r/\Sat c S' ι2 ((s.setHS hs').put d v o):=by
 unfold callRs at hk
 split at hk
 ·rename_i hg
  have hg':g0<=rt.ob.length:=Xa6 hg
  have key:putRs (BV Γ f) (S.after g0 ρ rt xs).2 d k (Zot (S.after g0 ρ rt xs).1 S.vals.length rt.res)=some r:=by
   unfold unpR at hk
   have hn:=hR.n
   split at hk
   ·rename_i hn1
    rw[hw3 rfl]at hk
    have: [oneV xs]=xs:=by
     match xs,hn.trans hn1 with
     | [x],_=>rfl
    rw[this]at hk;exact hk
   ·rename_i hn1
    have e:w= .tup xs:=by
     rw[hw3 rfl]
     unfold oneV
     split
     ·rename_i x;exact absurd (show rt.n=1 from hn.symm) hn1
     ·rfl
    rw[e]at hk
    obtain⟨l,h1,h2,h3⟩:=Zvo (kk:=fun _=>none) hk
    rw[Xbc,Xaw (by omega)]at h2
    rw[h2]at h1;exact h1
   ·obtain⟨t,e⟩:=hw2 rfl
    rw[e]at hk
    obtain⟨l,h1,h2,h3⟩:=Zvo (kk:=fun _=>none) hk
    rw[Xe7,Xbc]at h2
    have:(dumV xs).take rt.n=xs:=by
     unfold dumV
     split
     ·rw[<-hn];rfl
     ·exact Xaw (by omega)
    rw[this]at h2
    rw[h2]at h1;exact h1
  obtain⟨h1,h2⟩:=Zx8 h hr hcov hR hg'
  unfold putRs at key
  split at key
  ·rename_i a' ha
   match hres:rt.res,ha with
   | [a0],ha=>
    have hR1:=hR.res
    rw[hres]at hR1
    simp only[Zot]at ha
    split at ha
    ·rename_i x l hx hl
     cases hl
     cases ha
     exact⟨_,_,key,h1.put d (y:= .at a') ((Zl5 h2 hx).1 _ _ hR1)⟩
    ·cases ha
   | [],ha=>cases ha
   |a0::a1::l,ha=>
    exfalso
    simp only[Zot]at ha
    split at ha
    ·rename_i x l hx hl
     split at hl
     ·cases hl;cases ha
     ·cases hl
    ·cases ha
  ·rename_i az hno ha
   have hne:∀a0,rt.res≠ [a0]:=fun a0 e=>by
    rw[e]at ha
    simp only[Zot]at ha
    split at ha
    ·rename_i x l hx hl
     cases hl;cases ha
     exact hno _ rfl
    ·cases ha
   have hR1:=hR.res
   unfold ResS at hR1
   split at hR1
   ·rename_i e;exact absurd e (hne _)
   ·obtain⟨ws,e,hws⟩:=hR1
    exact⟨_,_,key,h1.put d (y:= .tup az) ⟨ws,e,Zqg h2 ha hws⟩⟩
  ·cases key
 ·cases hk
theorem Zzk {t:V}{j:Nat}(ht:t= .int .i64 j){kk:PS V->RT->Option V}:∀{l:List RT} {S:PS V} {j0 m:Nat} {rt:RT},Sat c S ι s->swR (BV Γ f) t kk S j0 l=some r->l[m]? =some rt->j=j0+m-> ∃S',kk S' rt=some r/\Sat c S' ι s
 | [],S,j0,m,rt,h,hk,hl,hj=>by simp at hl
 | [x],S,j0,m,rt,h,hk,hl,hj=>by
  cases m with
  |zero=>simp at hl;subst hl;exact⟨S,hk,h⟩
  |succ m=>simp at hl
 |x::y::l,S,j0,m,rt,h,hk,hl,hj=>by
  simp only[swR,BV,Xab]at hk
  obtain⟨b,hb,hk⟩:=hk
  subst ht
  simp only[evp,abin,aint,if_true,Xac]at hb
  subst hb
  have hp:=h.push (x:= .bool (decide ((j:Int)=(j0:Int)))) rfl
  rcases Zwk hk with⟨e,h1⟩|⟨e,h1⟩
  ·simp only[V.bool.injEq,decide_eq_true_eq]at e
   cases m with
   |zero=>simp at hl;subst hl;exact⟨_,h1,hp⟩
   |succ m=>omega
  ·simp only[V.bool.injEq,decide_eq_false_iff_not]at e
   cases m with
   |zero=>omega
   |succ m=>exact Zzk rfl (l:=y::l) (j0:=j0+1) (m:=m) hp (by exact_mod_cast h1) (by simpa using hl) (by omega)
theorem Zru (h:Sat c S ι s)(hΓ:GamOK GA gl Γ ow){az:List At}{args:List V}(ha:AtsS ι S.vals az args){F:Nat}(hk:callE (BV Γ f) S d k (pickE (BV Γ f) S az (ow.he F))=some r):
  ∃v o hs',GA.h F args s.hs=some (v,o,hs')/\ ∃S' ι',k S'=some r/\Sat c S' ι' ((s.setHS hs').put d v o):=by
 unfold callE at hk
 split at hk
 ·rename_i E ρ xs hp
  obtain⟨hE,hf⟩:=Zqp hp
  obtain⟨q1,q2,q3,q4,q5⟩:=Z0c h hf ha
  split at hk
  ·rename_i rt hret
   obtain⟨w,hw,hk⟩:=Xab.1 (show(Γ E.k 1 xs).bind _=some r from hk)
   obtain⟨v,o,hs',e1,j,rt',xs',ι',e2,e3,hR⟩:=hΓ.h F E hE _ hret xs w hw args _ s.hs q1 q2 q5
   have hj:j=0/\rt'=rt:=by
    cases j with
    |zero=>simp at e2;exact⟨rfl,e2.symm⟩
    |succ j=>simp at e2
   obtain⟨rfl,rfl⟩:=hj
   have hwc:w.clean=true:=by rw[e3];exact Zj0 hR.cl
   exact⟨v,o,hs',e1,Znq (h.push hwc) q3 q4 hR (fun h=>by cases h) (fun _=>e3) hk⟩
  ·rename_i rts hno hret
   obtain⟨w,hw,hk⟩:=Xab.1 (show(Γ E.k 1 xs).bind _=some r from hk)
   obtain⟨t,ht,hk⟩:=Xab.1 (show(evp (.ext 0) [w]).bind _=some r from hk)
   obtain⟨v,o,hs',e1,j,rt',xs',ι',e2,e3,hR⟩:=hΓ.h F E hE _ hret xs w hw args _ s.hs q1 q2 q5
   have hwc:w.clean=true:=by rw[e3];exact Zj0 hR.cl
   have hwt:w= .tup (.int .i64 j::dumV xs'):=by
    rw[e3]
    unfold Zth
    split
    ·rename_i hl
     match rts,hl,hno with
     | [rt],_,hno=>exact absurd rfl (hno rt)
    ·cases xs'<;>rfl
   rw[hwt]at ht
   simp only[evp,Zie,Xed,Xac]at ht
   subst ht
   obtain⟨S1,h1,h2⟩:=Zzk rfl (j0:=0) ((h.push hwc).push (x:= .int .i64 j) rfl) hk e2 (by omega)
   exact⟨v,o,hs',e1,Znq h2 q3 q4 hR (fun _=>⟨_,hwt⟩) (fun h=>by cases h) h1⟩
  ·cases hk
 ·cases hk
theorem Z0x {F:Nat}{xs:List Opd}:exec1 GA gl ⟨d, .callh F xs,g,a⟩ s=(GA.h F (xs.map (evO s.tm)) s.hs).map fun r=>(s.setHS r.2.2).put d r.1 r.2.1:=rfl
theorem Zr3 {x:Opd}{xs:List Opd}{F:Nat}{l:List V}(e:Zgz (evO s.tm x) (xs.map (evO s.tm))=some (F,l)):exec1 GA gl ⟨d, .callvh x xs,g,a⟩ s=match GA.p F l with
   |some r=>some (s.put d r.1 r.2)
   |none=>(GA.h F l s.hs).map fun r=>(s.setHS r.2.2).put d r.1 r.2.1:=by
 have e':Zgz (s.ev x) (xs.map s.ev)=some (F,l):=e
 simp only[exec1,e']
 rfl
theorem Zxv (h:Sat c S ι s)(hΓ:GamOK GA gl Γ ow){F:Nat}{xs:List Opd}(hk:op1 (BV Γ f) ow d (.callh F xs) S k=some r):Res1 c GA gl d (.callh F xs) g a s k r:=by
 simp only[op1]at hk
 obtain⟨az,S1,h1,h2,h3,h4⟩:=Zl0 h hk
 obtain⟨v,o,hs',e1,S',ι',e2,e3⟩:=Zru h2 hΓ h4 h1
 exact⟨S',ι',_,e2,by rw[Z0x,e1];rfl,e3⟩
theorem Zwj (h:Sat c S ι s)(hΓ:GamOK GA gl Γ ow){x:Opd}{xs:List Opd}(hk:op1 (BV Γ f) ow d (.callvh x xs) S k=some r):Res1 c GA gl d (.callvh x xs) g a s k r:=by
 simp only[op1]at hk
 have heap:∀{F:Nat} {l:List V} {S1:PS V} {az:List At},Zgz (evO s.tm x) (xs.map (evO s.tm))=some (F,l)->Sat c S1 ι s->AtsS ι S1.vals az l->az.any At.isPtr=true->callE (BV Γ f) S1 d k (pickE (BV Γ f) S1 az (ow.he F))=some r->Res1 c GA gl d (.callvh x xs) g a s k r:=by
  intro F l S1 az e h1 h2 h3 h4
  obtain⟨v,o,hs',e1,S',ι',e2,e3⟩:=Zru h1 hΓ h2 h4
  refine⟨S',ι',_,e2, ?_,e3⟩
  rw[Zr3 e]
  have hnone:GA.p F l=none:=by
   cases hp:GA.p F l with
   |none=>rfl
   |some q=>have:=hΓ.c _ _ _ hp;rw[Znp h2 h3]at this;cases this
  rw[hnone];simp only[e1];rfl
 have plain:∀{F:Nat} {cs:List V} {z:V},(evO s.tm x)= .fn F cs->Zac (nfL (xs.map (evO s.tm)))=true->Zac (nfL cs)=true->Γ F 0 (nfL (xs.map (evO s.tm))++nfL cs)=some z-> ∃v o,exec1 GA gl ⟨d, .callvh x xs,g,a⟩ s=some (s.put d v o)/\v.nf=z/\z.clean=true/\(ow.ow F=true->Own v o):=by
  intro F cs z e h5 hc hz
  rw[<-Zby]at hz
  obtain⟨v,o,q1,q2,q3,q4⟩:=hΓ.p _ _ _ (by rw[Zby];exact Zbh h5 hc) hz
  exact⟨v,o,by rw[Zr3 (show Zgz _ _=some (F,_)by rw[e];rfl),q1],q2,q3,q4⟩
 split at hk
 ·rename_i m F ps hx
  obtain⟨cs,e,hps⟩:=h.opd hx
  obtain⟨az,S1,h1,h2,h3,h4⟩:=Zl0 h hk
  split at h1
  ·rename_i hb
   cases m with
   |false=>exact heap (F:=F) (by rw[e];rfl) h2 (h4.app (Zl7 hps)) hb h1
   |true=>exact heap (F:=F) (by rw[e];rfl) h2 ((Zl7 hps).app h4) hb h1
  ·cases h1
 ·rename_i F o' hx
  obtain⟨e1,e2,_⟩:=h.opd hx
  obtain⟨cs,e3,e4⟩:=Z6j e1
  have:cs=[]:=by cases cs with
   |nil=>rfl
   |cons _ _=>cases e4
  subst this
  split at hk
  ·obtain⟨ys,S1,h1,h2,h3,h4,h5⟩:=h.matL hk
   subst h4
   simp only[BV,Xab]at h1
   obtain⟨z,hz,h1⟩:=h1
   obtain⟨v,o,q1,q2,q3,q4⟩:=plain e3 h5 rfl (by simpa[nfL]using hz)
   exact⟨_,ι,_,h1,q1,h2.putN q2 q3 q4 (fun h=>nomatch h)⟩
  ·split at hk
   ·obtain⟨az,S1,h1,h2,h3,h4⟩:=Zl0 h hk
    split at h1
    ·rename_i hb
     exact heap (F:=F) (l:=xs.map (evO s.tm)) (by rw[e3];simp[Zgz]) h2 h4 hb h1
    ·cases h1
   ·obtain⟨ys,S1,h1,h2,h3,h4,h5⟩:=h.matL hk
    subst h4
    simp only[BV,Xab]at h1
    obtain⟨z,hz,h1⟩:=h1
    obtain⟨v,o,q1,q2,q3,q4⟩:=plain e3 h5 rfl (by simpa[nfL]using hz)
    exact⟨_,ι,_,h1,q1,h2.putN q2 q3 q4 (fun h=>nomatch h)⟩
 ·rename_i at' _ _ hx
  obtain⟨ys,S1,h1,h2,h3,h4,h5⟩:=h.matL hk
  subst h4
  split at h1
  ·rename_i w hw
   obtain⟨rfl,hc⟩:=h2.val (by have:=h2.opd (x:=x) (y:= .at at') (by rw[h3.opd];exact hx);exact this) hw
   simp only[BV,Xab]at h1
   obtain⟨z,hz,h1⟩:=h1
   unfold Ze6 at hz
   split at hz
   ·rename_i F caps e
    obtain⟨cs,e3,rfl⟩:=Z6j e
    obtain⟨v,o,q1,q2,q3,q4⟩:=plain e3 h5 (by rw[e]at hc;simpa[V.clean]using hc) hz
    exact⟨_,ι,_,h1,q1,h2.putN q2 q3 (fun h=>nomatch h) (fun h=>nomatch h)⟩
   ·cases hz
  ·cases h1
 ·cases hk
theorem Z30 (h:Sat c S ι s){t:Opd}{i:Nat}(hk:op1 (BV Γ f) ow d (.ext t i) S k=some r):Res1 c GA gl d (.ext t i) g a s k r:=by
 simp only[op1]at hk
 split at hk
 ·rename_i az hx
  split at hk
  ·rename_i a' ha
   obtain⟨ws,e,h1⟩:=h.opd hx
   obtain⟨h2,h3⟩:=h1.get
   have h4:=h3 i a' ha
   have hlt:i<ws.length:=by rw[<-h2];exact(Xae.1 ha).1
   refine⟨_,ι,s.put d (ws.getD i Nil) false,hk, ?_,h.put d (y:= .at a'.noOwn) (h4.noOwn false)⟩
   rw[Z4a,e,Zie,Xad hlt]
   simp[List.getD,hlt]
  ·cases hk
 ·exact Zbd h rfl hk
theorem Zj1 (h:Sat c S ι s):∀{xs:List Opd} {ps:List (Nat×Nat)},Zm4 S xs=some ps->PsS ι ps (xs.map (evO s.tm))
 | [],ps,hp=>by cases hp;rfl
 |x::xs,ps,hp=>by
  simp only[Zm4]at hp
  split at hp
  ·rename_i o off l hx hl
   cases hp
   obtain⟨id,h1,h2⟩:=h.opd hx
   exact⟨id,_,h1,by rw[Xaq,h2],Zj1 h hl⟩
  ·cases hp
theorem Z51 (h:Sat c S ι s){F:Nat}{xs:List Opd}(hk:op1 (BV Γ f) ow d (.mkf F xs) S k=some r):Res1 c GA gl d (.mkf F xs) g a s k r:=by
 simp only[op1]at hk
 split at hk
 ·rename_i p ps hp
  exact⟨_,ι,_,hk,Z39 F xs,h.put d (y:= .at (.fp false F (p::ps))) (v:= .fn F (xs.map (evO s.tm))) (o:=false) ⟨_,rfl,Zj1 h hp⟩⟩
 ·exact Zbd h rfl hk
theorem Z6f (h:Sat c S ι s){F:Nat}{xs:List Opd}(hk:op1 (BV Γ f) ow d (.mkm F xs) S k=some r):Res1 c GA gl d (.mkm F xs) g a s k r:=by
 simp only[op1]at hk
 split at hk
 ·rename_i p ps hp
  exact⟨_,ι,_,hk,Z73 F xs,h.put d (y:= .at (.fp true F (p::ps))) (v:= .mfn F (xs.map (evO s.tm))) (o:=false) ⟨_,rfl,Zj1 h hp⟩⟩
 ·cases hk
end Go.Abs
namespace Go.Abs
variable {GA:Abs.Spec}{gl:Glob}{Γ:Gam}{f:Nat}{ow:Cfg}{κ:Fc}{ι:List Nat}{s:St}{S:PS V}{d:Option Nat}{g:Option (Nat×Bool)}{a:List Nat}{r:V}{k:PS V->Option V}
theorem Sat.matV (h:Sat κ S ι s){at':At}{w:V}(hw:AtV S.vals at' w){kk:V->PS V->Option V}(hk:Abs.mat (BV Γ f) S (some (.at at')) kk=some r):kk w S=some r/\w.clean=true:=by
 simp only[Abs.mat]at hk
 split at hk
 ·rename_i x hx
  obtain⟨rfl,hc⟩:=h.valV hw hx
  exact⟨hk,hc⟩
 ·cases hk
theorem Zcz {n:Option Nat}{cp cg cq:List V}{q:Nat}{v:V}(hv:Zak n cg q=some v):Zak n (cp++(cg++cq)) (cp.length+q)=some v:=by
 rw[Zyl cp.length rfl (by omega),show cp.length+q-cp.length=q by omega]
 cases n with
 |none=>
  have:=(Xae.1 (show cg[q]? =some v from hv)).1
  rw[Zta (by simp;omega)];exact hv
 |some m=>
  simp only[Zak]at hv
  split at hv
  ·rename_i hc
   rw[Zta (by simp;omega)]
   simp only[Zak];rw[if_pos hc];exact hv
  ·cases hv
theorem Ztc (h:Sat κ S ι s){w:V}{at':At}(hw:AtV S.vals at' w){n:Option Nat}{q:Nat}{cg:List V}(hcg:nfL cg=w.cells){k:Sy->PS V->Option V}(hk:ldIn (BV Γ f) S at' n q k=some r):
  ∃v y S',Zak n cg q=some v/\k y S'=some r/\Sat κ S' ι s/\Ext S S'/\SyS ι S'.vals y v false:=by
 obtain⟨h1,h2⟩:=h.matV hw hk
 simp only[BV,Xab]at h1
 obtain⟨z,hz,h1⟩:=h1
 simp only[evp, <-hcg]at hz
 obtain⟨v,hv,rfl⟩:=Zbz hz
 refine⟨v,_,_,hv,h1,h.push (Zbb ?_ hz), .push _ _,⟨Zar _ _,fun h=>(nomatch h),fun h=>(nomatch h)⟩⟩
 rw[hcg];exact clean_cells h2
theorem Zni (h:Sat κ S ι s){ss:List Seg}{cs:List V}{ow':Nat->Bool}(hseg:SegsS ι S.vals ss cs ow' 0){off i m:Nat}{sg:Seg}(hs:Zdj ss off 0=some (sg,0,i)){alt:Option V}{k:Sy->PS V->Option V}(hk:ldSegs (BV Γ f) S ss i m k alt=some r):
  (∃v y S',Zak (some m) cs off=some v/\k y S'=some r/\Sat κ S' ι s/\Ext S S'/\SyS ι S'.vals y v false) \/alt=some r:=by
 unfold ldSegs at hk
 split at hk
 ·rename_i q hq
  left
  obtain⟨p,q',cp,cg,cq,e1,e2,e3,e4,e5,e6,e7,e8,e9⟩:=Zbm hseg hs
  simp only[Xan,Xc5]at e2 e4 e7 e8
  subst e1;subst e3;subst e2
  have hd:(p++sg::q').drop p.length=sg::q':=by simp
  rw[hd]at hq hk
  have hr:SegsS ι S.vals (sg::q') (cg++cq) ow' cp.length:=by
   refine SegsS.app (p:=[sg]) (q:=q') ?_ e7 e8
   cases hsl:sg.len with
   |none=>exact .inr (e9 hsl)
   |some k=>exact .inl fun s' hs'=>by simp at hs';rw[hs',hsl];rfl
  obtain⟨c1,c2,k1,k2,k3,k4,k5,k6⟩:=Zc0 hr hq
  have hld:Zak (some m) (cp++(cg++cq)) off=some (.agg c1):=by
   rw[k1,e4]
   have:=Zcz (n:=some m) (cp:=cp) (cg:=c1) (cq:=c2) (q:=0) (v:= .agg c1) (by simp only[Zak];rw[if_pos (by omega),Xbc,Xaw (by omega)])
   simpa using this
  split at hk
  ·rename_i ns xs hsv
   simp only[BV,evp,Xab,Xaa]at hk
   obtain⟨x,⟨l,hl,rfl⟩,hk⟩:=hk
   obtain⟨rfl,hc⟩:=h.segVals k5 hsv hl
   refine⟨_,_,_,hld,hk,h.push (x:= .agg (nfL c1)) (Zfh hl hc), .push _ _,⟨⟨c1,rfl, ?_⟩,fun i hi=> ?_⟩⟩
   ·exact(k5.mono (.refl _) (Ext.push S _).pre).noOwn _ 0 _
   ·cases hi;rw[Zar];rfl
  ·exact⟨_,_,_,hld,hk,h, .refl S,⟨⟨c1,rfl,k5.noOwn _ 0 _⟩,fun i hi=>by cases hi⟩⟩
 ·exact .inr hk
theorem Zvf (h:Sat κ S ι s){ss:List Seg}{cs:List V}{ow':Nat->Bool}(hseg:SegsS ι S.vals ss cs ow' 0){off:Nat}{n:Option Nat}{k:Sy->PS V->Option V}(hk:ldY (BV Γ f) S ss off n k=some r):
  ∃v y S',Zak n cs off=some v/\k y S'=some r/\Sat κ S' ι s/\Ext S S'/\SyS ι S'.vals y v false:=by
 unfold ldY at hk
 split at hk
 ·rename_i a' i hs
  obtain⟨p,q',cp,cg,cq,e1,e2,e3,e4,e5,e6,e7,e8,e9⟩:=Zbm hseg hs
  obtain⟨c,cs',f1,f2,f3,f4⟩:=e7
  rw[show cs'=[]from f4]at f1
  subst f1;subst e3
  refine⟨c,_,_, ?_,hk,h, .refl S,f2.noOwn false⟩
  rw[e4];exact Zcz (n:=none) (q:=0) (v:=c) rfl
 ·rename_i a' i m hs
  rcases Zni h hseg hs hk with h1|h1
  ·exact h1
  ·cases h1
 ·rename_i m' a' i m hs
  obtain⟨p,q',cp,cg,cq,e1,e2,e3,e4,e5,e6,e7,e8,e9⟩:=Zbm hseg hs
  obtain⟨l,cs',w,f1,f2,f3,f4,f5,f6,f7⟩:=e7
  rw[show cs'=[]from f7,Xao]at f1
  subst f1;subst e3
  split at hk
  ·rename_i hc
   simp only[Xai]at hc
   obtain rfl:=Xah hc.1
   have h2:=Xa6 hc.2
   have hl:=f2 _ rfl
   have hw:w= .agg w.cells:=by
    have:w.cells.length=m:=by rw[<-f6,Zap,hl]
    cases w<;>first|rfl|(simp[V.cells]at this;omega)
   refine⟨.agg cg,_,_, ?_,hk,h, .refl S, ?_⟩
   ·rw[e4];exact Zcz (n:=some m) (q:=0) (v:= .agg cg) (by simp only[Zak];rw[if_pos (by omega),Xbc,Xaw (by omega)])
   ·cases a' with
    |c v o=>obtain⟨rfl,hcl⟩:=f5;exact⟨by rw[hw];show V.agg (nfL cg)=_;rw[f6],hcl,fun h=>nomatch h⟩
    |n i o sc=>exact⟨by rw[show S.vals[i]? =some w from f5,hw];show _=some (V.agg (nfL cg));rw[f6],fun h=>(nomatch h),fun h=>(nomatch h)⟩
    |_=>exact f5.elim
  ·rcases Zni h hseg hs hk with h1|h1
   ·exact h1
   ·obtain⟨v,y,S',q1,q2⟩:=Ztc h f5 f6 h1
    exact⟨v,y,S',by rw[e4];exact Zcz q1,q2⟩
 ·rename_i sn a' q i hs _
  obtain⟨p,q',cp,cg,cq,e1,e2,e3,e4,e5,e6,e7,e8,e9⟩:=Zbm hseg hs
  obtain⟨l,cs',w,f1,f2,f3,f4,f5,f6,f7⟩:=e7
  rw[show cs'=[]from f7,Xao]at f1
  subst f1;subst e3
  obtain⟨v,y,S',q1,q2⟩:=Ztc h f5 f6 hk
  exact⟨v,y,S',by rw[e4];exact Zcz q1,q2⟩
 ·cases hk
theorem Zt5 (h:Sat κ S ι s){ss:List Seg}{cs:List V}{ow':Nat->Bool}(hseg:SegsS ι S.vals ss cs ow' 0){off:Nat}{n:Option Nat}(hk:ldAt (BV Γ f) S ss off n d k=some r):
  ∃v S',Zak n cs off=some v/\k S'=some r/\Sat κ S' ι (s.put d v false):=by
 obtain⟨v,y,S',h1,h2,h3,_,h5⟩:=Zvf h hseg hk
 exact⟨v,_,h1,h2,h3.put d h5⟩
theorem Z1w (h:Sat κ S ι s)(hΓ:GamOK GA gl Γ ow){n:Option Nat}{x:Opd}(hk:op1 (BV Γ f) ow d (.load n x) S k=some r):Res1 κ GA gl d (.load n x) g a s k r:=by
 simp only[op1]at hk
 split at hk
 ·rename_i o off hx
  split at hk
  ·rename_i ss hss
   obtain⟨id,hid,e1⟩:=h.opd hx
   obtain⟨id',cs,q1,q2,q3⟩:=h.cob o ss hss
   rw[hid]at q1;cases q1
   obtain⟨v,S',h1,h2,h3⟩:=Zt5 h q3 hk
   exact⟨S',ι,_,h2,by rw[Zna,e1,Znz,q2];simp only[Xak,h1];rfl,h3⟩
  ·cases hk
 ·rename_i o b i sz hx
  split at hk
  ·rename_i ss hss
   split at hk
   ·rename_i a' q _ j hs hj
    obtain⟨id,kd,m,hid,hm,e1⟩:=h.opd hx
    rw[hm]at hj;cases hj
    obtain⟨id',cs,q1,q2,q3⟩:=h.cob o ss hss
    rw[hid]at q1;cases q1
    obtain⟨p,q',cp,cg,cq,e1',e2,e3,e4,e5,e6,e7,e8,e9⟩:=Zbm q3 hs
    obtain⟨l,cs',w,f1,f2,f3,f4,f5,f6,f7⟩:=e7
    rw[show cs'=[]from f7,Xao]at f1
    subst f1;subst e3
    obtain⟨h1,h2⟩:=h.matV f5 hk
    simp only[doX,BV,Xab]at h1
    obtain⟨z,hz,h1⟩:=h1
    simp only[evp,vLdd, <-f6]at hz
    obtain⟨v,hv,rfl⟩:=Zbz hz
    refine⟨_,ι,_,h1, ?_,h.putN (v:=v) (o:=false) rfl (Zbb ?_ hz) (fun h=>nomatch h) (fun h=>nomatch h)⟩
    ·rw[Zna,e1,Znz,q2]
     simp only[Xak]
     rw[show b+m.toNat*sz=cp.length+(q+m.toNat*sz)by omega,Zcz hv];rfl
    ·rw[f6];exact clean_cells h2
   ·cases hk
  ·cases hk
 ·rename_i i off hx
  split at hk
  ·rename_i x' hx'
   obtain⟨w,hw,e1⟩:=h.opd hx
   rw[hw]at hx';cases hx'
   obtain⟨cs,e2,e3⟩:=Zxm e1
   simp only[doX,BV,Xab]at hk
   obtain⟨z,hz,hk⟩:=hk
   simp only[evp, <-e3]at hz
   obtain⟨v,hv,rfl⟩:=Zbz hz
   refine⟨_,ι,_,hk,by rw[Zna,e2,Zyh,hv];rfl,h.putN (v:=v) (o:=false) rfl (Zbb ?_ hz) (fun h=>nomatch h) (fun h=>nomatch h)⟩
   rw[e3];exact clean_cells (h.cln _ (Xam hw))
  ·cases hk
 ·rename_i g' off hx
  split at hk
  ·rename_i cs hcs
   have e1:evO s.tm x= .gp g' off:=h.opd hx
   obtain⟨q1,q2,q3⟩:=hΓ.gl _ _ hcs
   simp only[doX,BV,Xab]at hk
   obtain⟨z,hz,hk⟩:=hk
   simp only[evp,V.cells]at hz
   rw[<-q2]at hz
   obtain⟨v,hv,rfl⟩:=Zbz hz
   refine⟨_,ι,_,hk,by rw[Zna,e1];simp only[Zfr,q1,Xak,hv];rfl,h.putN (v:=v) (o:=false) rfl (Zbb ?_ hz) (fun h=>nomatch h) (fun h=>nomatch h)⟩
   rw[q2];exact q3
  ·cases hk
 ·rename_i g' b i sz hx
  split at hk
  ·rename_i cs j hcs hj
   obtain⟨kd,m,hm,e1⟩:=h.opd hx
   rw[hm]at hj;cases hj
   obtain⟨q1,q2,q3⟩:=hΓ.gl _ _ hcs
   simp only[doX,BV,Xab]at hk
   obtain⟨z,hz,hk⟩:=hk
   simp only[evp,vLdd,V.cells]at hz
   rw[<-q2]at hz
   obtain⟨v,hv,rfl⟩:=Zbz hz
   refine⟨_,ι,_,hk,by rw[Zna,e1];simp only[Zfr,q1,Xak,hv];rfl,h.putN (v:=v) (o:=false) rfl (Zbb ?_ hz) (fun h=>nomatch h) (fun h=>nomatch h)⟩
   rw[q2];exact q3
  ·cases hk
 ·cases hk
theorem Z3k (h:Sat κ S ι s)(hΓ:GamOK GA gl Γ ow){n:Option Nat}{x:Opd}(hk:op1 (BV Γ f) ow d (.ldp n x) S k=some r):Res1 κ GA gl d (.ldp n x) g a s k r:=by
 simp only[op1]at hk
 split at hk
 ·rename_i i off hx
  split at hk
  ·rename_i x' hx'
   obtain⟨w,hw,e1⟩:=h.opd hx
   rw[hw]at hx';cases hx'
   obtain⟨cs,e2,e3⟩:=Zxm e1
   simp only[doX,BV,Xab]at hk
   obtain⟨z,hz,hk⟩:=hk
   simp only[evp, <-e3]at hz
   obtain⟨v,hv,rfl⟩:=Zbz hz
   refine⟨_,ι,_,hk,by rw[Z17,e2,vLdp,hv];rfl,h.putN (v:=v) (o:=false) rfl (Zbb ?_ hz) (fun h=>nomatch h) (fun h=>nomatch h)⟩
   rw[e3];exact clean_cells (h.cln _ (Xam hw))
  ·cases hk
 ·rename_i g' off hx
  split at hk
  ·rename_i cs hcs
   have e1:evO s.tm x= .gp g' off:=h.opd hx
   obtain⟨q1,q2,q3⟩:=hΓ.gl _ _ hcs
   simp only[doX,BV,Xab]at hk
   obtain⟨z,hz,hk⟩:=hk
   simp only[evp,V.cells]at hz
   rw[<-q2]at hz
   obtain⟨v,hv,rfl⟩:=Zbz hz
   refine⟨_,ι,_,hk,by rw[Z17,e1];simp only[vLdp,q1,Xak,hv];rfl,h.putN (v:=v) (o:=false) rfl (Zbb ?_ hz) (fun h=>nomatch h) (fun h=>nomatch h)⟩
   rw[q2];exact q3
  ·cases hk
 ·rename_i g' b i sz hx
  split at hk
  ·rename_i cs j hcs hj
   obtain⟨kd,m,hm,e1⟩:=h.opd hx
   rw[hm]at hj;cases hj
   obtain⟨q1,q2,q3⟩:=hΓ.gl _ _ hcs
   simp only[doX,BV,Xab]at hk
   obtain⟨z,hz,hk⟩:=hk
   simp only[evp,vLdd,V.cells]at hz
   rw[<-q2]at hz
   obtain⟨v,hv,rfl⟩:=Zbz hz
   refine⟨_,ι,_,hk,by rw[Z17,e1];simp only[vLdp,q1,Xak,hv];rfl,h.putN (v:=v) (o:=false) rfl (Zbb ?_ hz) (fun h=>nomatch h) (fun h=>nomatch h)⟩
   rw[q2];exact q3
  ·cases hk
 ·cases hk
theorem Z4p (h:Sat κ S ι s){n:Option Nat}{off:Nat}{x:Opd}(hk:op1 (BV Γ f) ow d (.fld n off x) S k=some r):Res1 κ GA gl d (.fld n off x) g a s k r:=by
 simp only[op1]at hk
 split at hk
 ·rename_i ss z hx
  obtain⟨⟨cs,e1,h1⟩,_⟩:=h.opd hx
  obtain⟨v,S',h2,h3,h4⟩:=Zt5 h h1 hk
  exact⟨S',ι,_,h3,by rw[Z53,e1,Zrm,h2];rfl,h4⟩
 ·exact Zbd h rfl hk
theorem Zsz {cs:List V}{off:Nat}{c:V}(h:cs[off]? =some c):Zav cs off [c]=cs:=by
 obtain⟨h1,h2⟩:=Xae.1 h
 simp only[Zav,Xc1]
 rw[<-h2,Xaj,Xc2, <-Xap h1,Xbl]
theorem cnt1 {a':At}{ss:List Seg}:Zb1 (.one a'::ss) 1=some 1:=by
 simp only[Zb1,Seg.len]
 rw[show(Nat.ble 1 (0+1)&&Nat.ble 1 1)=true from rfl]
 cases ss<;>rfl
theorem Zz0 {ss:List Seg}{cs:List V}{ow':Nat->Bool}{ι':List Nat}{vs:List V}(hseg:SegsS ι' vs ss cs ow' 0){off i:Nat}{a':At}(hs:Zdj ss off 0=some (.one a',0,i)):∃c,cs[off]? =some c/\AtS ι' vs a' c (ow' off)/\c.sc=true/\Zb1 (ss.drop i) 1=some 1:=by
 obtain⟨p,q',cp,cg,cq,e1,e2,e3,e4,e5,e6,e7,e8,e9⟩:=Zbm hseg hs
 obtain⟨c,cs',f1,f2,f3,f4⟩:=e7
 rw[show cs'=[]from f4]at f1
 subst f1;subst e3;subst e1
 simp only[Xan,Xc5]at e2 e4 f2
 subst e2;subst e4
 refine⟨c, ?_,f2,f3, ?_⟩
 ·rw[Xa2 (Xag _)];simp
 ·rw[Xc9];exact cnt1
theorem Z47 (h:Sat κ S ι s){x:Opd}(hk:op1 (BV Γ f) ow d (.ldo x) S k=some r):Res1 κ GA gl d (.ldo x) g a s k r:=by
 simp only[op1]at hk
 split at hk
 ·rename_i o off hx
  split at hk
  ·rename_i ss hss
   split at hk
   ·rename_i a' i hs
    obtain⟨id,hid,e1⟩:=h.opd hx
    obtain⟨id',cs,q1,q2,q3⟩:=h.cob o ss hss
    rw[hid]at q1;cases q1
    obtain⟨c,hc,h1,h2,h3⟩:=Zz0 q3 hs
    have h4:Sat κ (S.setOb o (spl ss i 1 [.one a'.noOwn])) ι (s.take (some (.cell id off))):=by
     refine h.objUpd (s':=s.take (some (.cell id off))) hid rfl (fun t=>by rw[take_own,if_neg (by simp)]) rfl (fun id' hne=>⟨rfl,fun j=>by rw[take_own,if_neg (by simp;omega)]⟩) q2 ?_
     have:=(Zn5 (ow':=fun j=>(s.take (some (.cell id off))).own (.cell id j)) (ys:=[c]) (q:=[.one a'.noOwn]) q3 hs h3 ⟨c,[],rfl,h1.noOwn _,h2,rfl⟩ rfl (.inl fun s' hs'=>by simp at hs';rw[hs'];rfl) (fun j hj=>by
      show(s.take (some (.cell id off))).own (.cell id j)=_
      rw[take_own,if_neg (by simp;omega)])).2
     rw[Zsz hc]at this;exact this
    exact⟨_,ι,(s.take (some (.cell id off))).put d c (s.own (.cell id off)),hk,by rw[Z92,e1];simp[vLdo,q2,hc],h4.put d (y:= .at a') h1⟩
   ·cases hk
  ·cases hk
 ·cases hk
theorem Z1y {n:Nat}{x:V}{l:List V}(h:catV [some n] [x]=some l):x.cells.length=n/\x.cells.all V.sc=true/\l=x.cells:=by
 simp only[catV]at h
 split at h
 ·rename_i hc
  simp only[Xas,Xac,Xao]at h
  exact⟨hc.1,hc.2,h.symm⟩
 ·cases h
theorem Zfd (l:List V):(nfL l).all V.sc=l.all V.sc:=by rw[Zce,List.all_map];congr 1;funext w;exact Zo3 w
theorem Zwr (h:Sat κ S ι s){n:Nat}{y:Sy}{v:V}{o:Bool}(hy:SyS ι S.vals y v o){mny:Bool}{kk:List Seg->PS V->Option V}(hk:asSegs (BV Γ f) S n y mny kk=some r):
  ∃q S',kk q S'=some r/\Sat κ S' ι s/\Ext S S'/\v.cells.length=n/\v.cells.all V.sc=true/\Zi1 q/\SegsS ι S'.vals q v.cells (fun _=>false) 0:=by
 cases y with
 |tup az=>simp only[asSegs,BV,reduceCtorEq]at hk
 |agg q z=>
  obtain⟨⟨cs,rfl,h1⟩,hz⟩:=hy
  simp only[asSegs]at hk
  split at hk
  ·rename_i m hm
   split at hk
   ·rename_i hb
    obtain rfl:=Xah hb
    obtain⟨cp,cq,e1,e2,e3,e4,e5,e6⟩:=Zc0 h1 hm
    rw[Xev]at e3 e5
    rw[List.drop_length]at e6
    rw[show cq=[]from e6,Xao]at e1
    subst e1
    split at hk
    ·rename_i z
     exact⟨_,S,hk,h, .refl S,e2,h1.all_sc,fun s' hs'=>by(simp at hs';rw[hs'];rfl),cs,[], .agg (nfL cs),by simp,fun m hm=>by(cases hm;exact e2),fun hm=>by(cases hm),h1.all_sc,hz z rfl,rfl,rfl⟩
    ·exact⟨q,S,hk,h, .refl S,e2,h1.all_sc,e3,h1⟩
   ·cases hk
  ·cases hk
 | «at» a'=>
  simp only[asSegs]at hk
  split at hk
  ·split at hk
   ·rename_i ho
    have hsc:=AtS.one hy ho
    rw[Zhc hsc]
    exact⟨_,S,hk,h, .refl S,rfl,by simp[hsc],fun s' hs'=>by(simp at hs';rw[hs'];rfl),v,[],rfl,AtS.noOwn hy _,hsc,rfl⟩
   ·obtain⟨S1,h1,h2,h3,h4⟩:=h.mat hy hk
    simp only[BV,Xab]at h1
    obtain⟨z,hz,h1⟩:=h1
    simp only[evp]at hz
    split at hz
    ·rename_i hsc
     cases hz
     rw[Zo3]at hsc
     rw[Zhc hsc]
     exact⟨_,_,h1,h2.push h4,h3.trans (.push _ _),rfl,by simp[hsc],fun s' hs'=>by(simp at hs';rw[hs'];rfl),v,[],rfl,⟨Zar _ _,fun h=>(nomatch h),fun _=>hsc⟩,hsc,rfl⟩
    ·cases hz
  ·rename_i n' hn'
   obtain⟨S1,h1,h2,h3,h4⟩:=h.mat hy hk
   simp only[BV,evp,Xab,Xaa]at h1
   obtain⟨z,⟨l,hl,rfl⟩,h1⟩:=h1
   obtain⟨q1,q2,rfl⟩:=Z1y hl
   rw[Zbv]at q1 q2
   rw[Zap]at q1
   rw[Zfd]at q2
   exact⟨_,_,h1,h2.push (clean_cells h4),h3.trans (.push _ _),q1,q2,fun s' hs'=>by(simp at hs';rw[hs'];rfl),v.cells,[], .agg v.nf.cells,by simp,fun m hm=>by(cases hm;exact q1),fun hm=>by(cases hm),q2,Zar _ _,by rw[Zbv];rfl,rfl⟩
theorem Z07 (h:Sat κ S ι s){o id:Nat}{ss:List Seg}{cs:List V}(hid:ι[o]? =some id)(hcs:Zat s.H id=some cs)(hseg:SegsS ι S.vals ss cs (fun j=>s.own (.cell id j)) 0){off n:Nat}{y:Sy}{v:V}{ov:Bool}(hy:SyS ι S.vals y v ov)
  (hk:stAt (BV Γ f) S o ss off n y d k=some r):∃S',k S'=some r/\(v.cells.length=n/\v.cells.all V.sc=true/\off+n<=cs.length)/\Sat κ S' ι ((s.setOb id cs off v.cells).put d Nil false):=by
 have upd:∀{S1:PS V} {q:List Seg},Sat κ S1 ι s->v.cells.length=n->SegsS ι S1.vals q (Zav cs off v.cells) (fun j=>(s.setOb id cs off v.cells).own (.cell id j)) 0->Sat κ ((S1.setOb o q).put d (.at .nil)) ι ((s.setOb id cs off v.cells).put d Nil false):=by
  intro S1 q h1 hn hq
  refine Sat.put (h1.objUpd (s':=s.setOb id cs off v.cells) hid rfl (fun t=>rfl) rfl (fun id' hne=>⟨by simp only[St.setOb,upd,if_neg hne],fun j=>by rw[Zc2,if_neg (by omega)]⟩) (by rw[Zfs,if_pos rfl]) hq) d (y:= .at .nil) rfl
 have hown:v.cells.length=n-> ∀j,(j<off \/off+n<=j)->(s.setOb id cs off v.cells).own (.cell id j)=s.own (.cell id j):=fun hn j hj=>by rw[Zc2,if_neg (by omega)]
 unfold stAt at hk
 split at hk
 ·rename_i sg q i hs
  split at hk
  ·rename_i m hm
   split at hm
   ·obtain⟨qs,S1,h1,h2,h3,h4,h5,h6,h7⟩:=Zwr h hy hk
    have:=Zn5 (ow':=fun j=>(s.setOb id cs off v.cells).own (.cell id j)) (ys:=v.cells) (hseg.mono (.refl _) h3.pre) hs hm (h7.shift fun i hi=>by
     show(s.setOb id cs off v.cells).own (.cell id (off+i))=false
     rw[Zc2,if_pos ⟨rfl,by omega,by omega⟩]) h4 (.inl h6) (hown h4)
    exact⟨_,h1,⟨h4,h5,this.1⟩,upd h2 h4 this.2⟩
   ·cases hm
  ·split at hk
   ·rename_i sn a'
    obtain⟨p,q',cp,cg,cq,e1,e2,e3,e4,e5,e6,e7,e8,e9⟩:=Zbm hseg hs
    obtain⟨l,cs',w,f1,f2,f3,f4,f5,f6,f7⟩:=e7
    obtain⟨h1,h2⟩:=h.matV f5 hk
    obtain⟨S2,h3,h4,h5,h6⟩:=h.mat hy h1
    simp only[BV,Xab]at h3
    obtain⟨z,hz,h3⟩:=h3
    simp only[evp,vSet]at hz
    split at hz
    ·rename_i hc
     cases hz
     rw[Zbv,Zap,Zfd]at hc
     have hcl:(V.agg (Zav w.cells q v.nf.cells)).clean=true:=Zea (clean_cells h2) (clean_cells h6) _
     have:=Zqh (ow':=fun j=>(s.setOb id cs off v.cells).own (.cell id j)) (ys:=v.cells) (i':=S2.nx) (x:=w) ((hseg.mono (.refl _) h5.pre).mono (.refl _) (Ext.push S2 (V.agg (Zav w.cells q v.nf.cells))).pre) hs (fun w' hw'=>by
      have:=AtV.mono (h5.pre.trans (Ext.push S2 (V.agg (Zav w.cells q v.nf.cells))).pre) f5
      cases a' with
      |c v o=>exact hw'.1.symm.trans this.1
      |n i o sc=>exact Option.some.inj (hw'.symm.trans this)
      |_=>exact hw'.elim) (by omega) hc.1 hc.2.1 (Zar _ _) (by rw[Zbv]) (hown hc.1)
     exact⟨_,h3,⟨hc.1,hc.2.1,this.1⟩,upd (h4.push hcl) hc.1 this.2⟩
    ·cases hz
   ·cases hk
 ·cases hk
theorem Zxq (h:Sat κ S ι s){n:Nat}{x y:Opd}(hk:op1 (BV Γ f) ow d (.store n x y) S k=some r):Res1 κ GA gl d (.store n x y) g a s k r:=by
 simp only[op1]at hk
 split at hk
 ·rename_i o off hx
  split at hk
  ·rename_i ss y' hss hy
   obtain⟨id,hid,e1⟩:=h.opd hx
   obtain⟨id',cs,q1,q2,q3⟩:=h.cob o ss hss
   rw[hid]at q1;cases q1
   obtain⟨S',h1,h2,h3⟩:=Z07 h hid q2 q3 (h.opd hy) hk
   exact⟨S',ι,_,h1,by rw[Zue,e1,Zjw,q2];simp only[Xak];rw[if_pos h2],h3⟩
  ·cases hk
 ·rename_i o b i sz hx
  split at hk
  ·rename_i ss hss
   split at hk
   ·rename_i sn a' q p j hs hj
    obtain⟨id,kd,m,hid,hm,e1⟩:=h.opd hx
    rw[hm]at hj;cases hj
    obtain⟨id',cs,q1,q2,q3⟩:=h.cob o ss hss
    rw[hid]at q1;cases q1
    obtain⟨p',q',cp,cg,cq,e1',e2,e3,e4,e5,e6,e7,e8,e9⟩:=Zbm q3 hs
    obtain⟨l,cs',w,f1,f2,f3,f4,f5,f6,f7⟩:=e7
    rw[show cs'=[]from f7,Xao]at f1
    subst f1
    obtain⟨h1,h2⟩:=h.matV f5 hk
    cases hy:S.opd y with
    |none=>rw[hy]at h1;cases h1
    |some y'=>
    rw[hy]at h1
    obtain⟨S2,h3,h4,h5,h6⟩:=h.mat (h.opd hy) h1
    simp only[BV,Xab]at h3
    obtain⟨z,hz,h3⟩:=h3
    simp only[evp,vStd,vSet]at hz
    split at hz
    ·rename_i hc
     cases hz
     rw[Zbv,Zap,Zfd]at hc
     have hcl:(V.agg (Zav w.cells (q+m.toNat*sz) (evO s.tm y).nf.cells)).clean=true:=Zea (clean_cells h2) (clean_cells h6) _
     --the place,in the segment
     have hlw:cg.length=w.cells.length:=by rw[<-f6,Zap]
     have hown:∀j,(j<b+m.toNat*sz \/b+m.toNat*sz+n<=j)->(s.setOb id cs (b+m.toNat*sz) (evO s.tm y).cells).own (.cell id j)=s.own (.cell id j):=fun j hj=>by rw[Zc2,if_neg (by omega)]
     have key:=Zmp (ow':=fun j=>(s.setOb id cs (b+m.toNat*sz) (evO s.tm y).cells).own (.cell id j)) (ys:=(evO s.tm y).cells) (i':=S2.nx) (x:=w) (u:=m.toNat*sz) ((q3.mono (.refl _) h5.pre).mono (.refl _) (Ext.push S2 (V.agg (Zav w.cells (q+m.toNat*sz) (evO s.tm y).nf.cells))).pre) hs (fun w' hw'=>by
      have:=AtV.mono (h5.pre.trans (Ext.push S2 (V.agg (Zav w.cells (q+m.toNat*sz) (evO s.tm y).nf.cells))).pre) f5
      cases a' with
      |c v o=>exact hw'.1.symm.trans this.1
      |n i o sc=>exact Option.some.inj (hw'.symm.trans this)
      |_=>exact hw'.elim) (by omega) hc.1 hc.2.1 (Zar _ _) (by rw[Zbv]) hown
     refine⟨_,ι,_,h3,by rw[Zue,e1,Zjw,q2];simp only[Xak];rw[if_pos ⟨hc.1,hc.2.1,key.1⟩],Sat.put ((h4.push hcl).objUpd (s':=s.setOb id cs (b+m.toNat*sz) (evO s.tm y).cells) hid rfl (fun t=>rfl) rfl (fun id' hne=>⟨by simp only[St.setOb,upd,if_neg hne],fun j=>by rw[Zc2,if_neg (by omega)]⟩) (by rw[Zfs,if_pos rfl]) key.2) d (y:= .at .nil) rfl⟩
    ·cases hz
   ·cases hk
  ·cases hk
 ·cases hk
end Go.Abs
namespace Go.Abs
variable {GA:Abs.Spec}{gl:Glob}{Γ:Gam}{f:Nat}{ow:Cfg}{κ:Fc}{ι:List Nat}{s:St}{S:PS V}{d:Option Nat}{g:Option (Nat×Bool)}{a:List Nat}{r:V}{k:PS V->Option V}
theorem Zv2 {X:Type}(S:PS X)(t k:Nat):(S.disown t).obj k=S.obj k:=by unfold PS.disown;split<;>rfl
theorem Zgh {X:Type}(S:PS X)(t:Nat):(S.disown t).vals=S.vals:=by unfold PS.disown;split<;>rfl
theorem Zla {v:V}(h:v.sc=true):v.cells=[v]:=by cases v<;>first|rfl|cases h
theorem Z55 (h:Sat κ S ι s){x:Opd}{t:Nat}(hk:op1 (BV Γ f) ow d (.sto x t) S k=some r):Res1 κ GA gl d (.sto x t) g a s k r:=by
 simp only[op1]at hk
 split at hk
 ·rename_i o off y hx hy
  obtain⟨S2,hk,h2,htm⟩:=Zwo h hk
  have hx:S2.opd x=some (.at (.ptr o off)):=by
   have:S2.opd x=S.opd x:=by cases x<;>simp only[PS.opd,PS.get,htm]
   rw[this];exact hx
  have hy:S2.get t=some (.at y):=by simp only[PS.get,htm];exact hy
  clear h htm
  generalize S2=S at*
  have h:=h2
  clear h2
  split at hk
  ·rename_i ss hss
   split at hk
   ·rename_i a' i hs hone
    obtain⟨id,hid,e1⟩:=h.opd hx
    obtain⟨id',cs,q1,q2,q3⟩:=h.cob o ss hss
    rw[hid]at q1;cases q1
    have hty:AtS ι S.vals y (s.tm t) (s.own (.slot t)):=h.tm t _ hy
    have hsc:=hty.one hone
    obtain⟨c,hc,h1,h2,h3⟩:=Zz0 q3 hs
    have hlt:off<cs.length:=(Xae.1 hc).1
    have hseg:=(Zn5 (ow':=fun j=>(s.stoOb id cs off t).own (.cell id j)) (ys:=[s.tm t]) (q:=[.one y]) q3 hs h3 ⟨s.tm t,[],rfl,by
      show AtS ι S.vals y (s.tm t) ((s.stoOb id cs off t).own (.cell id off))
      rw[Zhn,if_pos ⟨rfl,rfl⟩];exact hty,hsc,rfl⟩ rfl (.inl fun s' hs'=>by simp at hs';rw[hs'];rfl) (fun j hj=>by
      show(s.stoOb id cs off t).own (.cell id j)=_
      rw[Zhn,if_neg (by omega)])).2
    have h4:Sat κ ((S.disown t).setOb o (spl ss i 1 [.one y])) ι (s.stoOb id cs off t):=by
     refine(h.disown t).objUpd (s':=s.stoOb id cs off t) hid rfl (fun u=> ?_) rfl (fun id' hne=>⟨by simp only[St.stoOb,upd,if_neg hne];rfl,fun j=>by rw[Zhn,if_neg (by omega),take_own,if_neg (by simp)]⟩) (by rw[Zmm,if_pos rfl]) (by rw[Zgh];exact hseg)
     rw[Zwp,take_own]
     by_cases e:u=t
     ·rw[if_pos e,if_pos (by rw[e])]
     ·rw[if_neg e,if_neg (by simpa using e)]
    exact⟨_,ι,(s.stoOb id cs off t).put d Nil false,hk,by rw[Z9r,e1,Zwe,q2];simp only[Xak];rw[if_pos ⟨hsc,hlt⟩],h4.put d (y:= .at .nil) rfl⟩
   ·cases hk
  ·cases hk
 ·cases hk
theorem Zq3 {v:V}{kd:IntKind}(h:Zyf v=some kd):v= .int kd 0:=by
 unfold Zyf at h;split at h<;>cases h;rfl
theorem Zws {kd:IntKind}:∀l:List V,l.take (zrun kd l)=List.replicate (zrun kd l) (.int kd 0)/\zrun kd l<=l.length
 | []=>⟨rfl,Xag _⟩
 |v::r=>by
  simp only[zrun]
  split
  ·rename_i j hj
   split
   ·rename_i he
    have:=of_decide_eq_true he
    subst this
    obtain⟨h1,h2⟩:=Zws (kd:=j) r
    rw[Xdg,h1,Zq3 hj]
    exact⟨rfl,by simp;omega⟩
   ·exact⟨rfl,Xbw _⟩
  ·exact⟨rfl,Xbw _⟩
theorem Zmr {vs:List V}{ow':Nat->Bool}:∀{m:Nat} {z:List V} {ss:List Seg} {j:Nat},grp m z=some ss->SegsS ι vs ss z ow' j/\Zi1 ss
 |0,_,_,_,h=>by cases h
 |_+1,[],_,_,h=>by cases h;exact⟨rfl,fun _ h=>by cases h⟩
 |m+1,v::z,ss,j,h=>by
  have one:∀{at':At} {q:List Seg},v.sc=true->(∀o,AtS ι vs at' v o)->(grp m z=some q)->SegsS ι vs (.one at'::q) (v::z) ow' j/\Zi1 (.one at'::q):=by
   intro at' q hsc ha hq
   obtain⟨h1,h2⟩:=Zmr (j:=j+1) hq
   exact⟨⟨v,z,rfl,ha _,hsc,h1⟩,fun s' hs'=>(Xa0.1 hs').elim (fun e=>by rw[e];rfl) (fun hs'=>h2 s' hs')⟩
  simp only[grp]at h
  split at h
  ·rename_i kd hk
   have hv:=Zq3 hk
   split at h
   ·simp only[Xaa]at h
    obtain⟨q,hq,rfl⟩:=h
    obtain⟨h1,h2⟩:=Zws (kd:=kd) z
    obtain⟨h3,h4⟩:=Zmr (j:=j+(zrun kd z+1)) hq
    have hl:(v::z.take (zrun kd z))=List.replicate (zrun kd z+1) (.int kd 0):=by rw[h1,hv];rfl
    refine⟨⟨v::z.take (zrun kd z),z.drop (zrun kd z), .agg (repl (zrun kd z+1) (.int kd 0)),by simp,fun m' hm'=>by(cases hm';simp;omega),fun h=>by(cases h), ?_,⟨rfl, ?_⟩, ?_, ?_⟩,fun s' hs'=> ?_⟩
    ·rw[hl,Xal];intro x hx;rw[(Xcq.1 hx).2];rfl
    ·show Zac (List.replicate _ _)=true
     exact Zal.2 fun x hx=>by rw[(Xcq.1 hx).2];rfl
    ·rw[hl,Zce,List.map_replicate];rfl
    ·have:(v::z.take (zrun kd z)).length=zrun kd z+1:=by simp;omega
     rw[this];exact h3
    ·rcases Xa0.1 hs' with rfl|hs'
     ·rfl
     ·exact h4 s' hs'
   ·simp only[Xaa]at h
    obtain⟨q,hq,rfl⟩:=h
    subst hv
    exact one rfl (fun o=>⟨rfl,rfl,fun h=>nomatch h⟩) hq
  ·split at h
   ·rename_i a' hsc ha
    simp only[Xaa]at h
    obtain⟨q,hq,rfl⟩:=h
    exact one hsc (fun o=>Zk3 ha o vs) hq
   ·cases h
theorem Zvs (h:Sat κ S ι s){x:Opd}{at':At}(hx:Zm0 (S.opd x)=some at'):(at'.isVal=true->AtV S.vals at' (evO s.tm x).nf)/\(((at'.isVal=true \/at'.one=true)/\S.opd x=some (.at at')) \/ ∃z,at'= .n z false false):=by
 unfold Zm0 at hx
 split at hx
 ·rename_i b e
  split at hx
  ·rename_i hv
   cases hx
   have:=h.opd e
   refine⟨fun hv=> ?_, .inl ⟨by simpa using hv,e⟩⟩
   cases at'<;>simp[At.isVal]at hv
   ·exact⟨this.1.symm,this.2.1⟩
   ·exact this.1
  ·cases hx
 ·rename_i ss z e
  cases hx
  exact⟨fun _=>(h.opd e).2 z rfl, .inr ⟨z,rfl⟩⟩
 ·cases hx
theorem Zkp (h:Sat κ S ι s){x:Opd}{at':At}(hx:Zm0 (S.opd x)=some at'){n:Nat}(hn:(evO s.tm x).cells.length=n)(hsc:(evO s.tm x).cells.all V.sc=true)(h1:n=1->(evO s.tm x).sc=true)(j:Nat)(ow':Nat->Bool):
  SegsS ι S.vals [Zgq n at'] (evO s.tm x).cells ow' j/\Zi1 [Zgq n at']:=by
 obtain⟨hv,hc⟩:=Zvs h hx
 by_cases e:n=1
 ·subst e
  have hs:=h1 rfl
  rw[Zla hs]
  refine⟨⟨evO s.tm x,[],rfl, ?_,hs,rfl⟩,fun s' hs'=>by simp at hs';rw[hs'];rfl⟩
  rcases hc with⟨_,e2⟩|⟨z,rfl⟩
  ·exact AtS.noOwn (h.opd e2) _
  ·exact⟨hv rfl,fun h=>(nomatch h),fun h=>(nomatch h)⟩
 ·have e2:Zgq n at'= .many (some n) at'.plain:=by unfold Zgq;split<;>first|rfl|exact absurd rfl e
  have hval:at'.isVal=true:=by
   rcases hc with⟨hv|ho,e3⟩|⟨z,rfl⟩
   ·exact hv
   ·have:=AtS.one (h.opd e3) ho
    rw[Zla this]at hn
    exact absurd hn.symm e
   ·rfl
  have hv:=hv hval
  rw[e2]
  refine⟨⟨(evO s.tm x).cells,[],(evO s.tm x).nf,by simp,fun m hm=>by(cases hm;exact hn),fun h=>by(cases h),hsc, ?_,by rw[Zbv],rfl⟩,fun s' hs'=>by simp at hs';rw[hs'];rfl⟩
  cases at'<;>first|exact hv|exact hv.elim
def Zlt (tm:Nat->V)(ps:List (Nat×Nat×Opd)):Prop:=∀p∈ps,(evO tm p.2.2).cells.length=p.2.1/\(evO tm p.2.2).cells.all V.sc=true/\(p.2.1=1->(evO tm p.2.2).sc=true)
theorem Zis {tm:Nat->V}:∀{ps:List (Nat×Nat×Opd)} {l:List V},catV (ps.map fun p=>Zi5 p.2.1) (nfL ((ps.map (·.2.2)).map (evO tm)))=some l->Zlt tm ps/\l=nfL ((ps.map fun p=>(evO tm p.2.2).cells).flatten)
 | [],l,h=>by cases h;exact⟨fun _ h=>(by cases h),rfl⟩
 |p::ps,l,h=>by
  simp only[Xaq,nfL]at h
  by_cases e:p.2.1=1
  ·rw[show Zi5 p.2.1=none by rw[e];rfl]at h
   simp only[catV]at h
   split at h
   ·rename_i hsc
    rw[Zo3]at hsc
    simp only[Xaa]at h
    obtain⟨m,hm,rfl⟩:=h
    obtain⟨h1,rfl⟩:=Zis hm
    refine⟨fun q hq=> ?_, ?_⟩
    ·rcases Xa0.1 hq with rfl|hq
     ·rw[Zla hsc];exact⟨by rw[e];rfl,by simp[hsc],fun _=>hsc⟩
     ·exact h1 q hq
    ·rw[Xaq,Xco,Zby,Zla hsc];rfl
   ·cases h
  ·rw[show Zi5 p.2.1=some p.2.1 by unfold Zi5;split<;>first|rfl|(exact absurd (by assumption) e)]at h
   simp only[catV]at h
   split at h
   ·rename_i hc
    rw[Zbv,Zap,Zfd]at hc
    simp only[Xaa]at h
    obtain⟨m,hm,rfl⟩:=h
    obtain⟨h1,rfl⟩:=Zis hm
    refine⟨fun q hq=> ?_, ?_⟩
    ·rcases Xa0.1 hq with rfl|hq
     ·exact⟨hc.1,hc.2,fun h=>absurd h e⟩
     ·exact h1 q hq
    ·rw[Xaq,Xco,Zby,Zbv]
   ·cases h
theorem Zh3 {X:Type}{S:PS X}{p:Nat×Nat×Opd}{ps:List (Nat×Nat×Opd)}{ats:List At}(h:Zdy S (p::ps)=some ats):∃x l,ats=x::l/\Zm0 (S.opd p.2.2)=some x/\Zdy S ps=some l:=by
 simp only[Zdy]at h
 split at h
 ·rename_i x l h1 h2;cases h;exact⟨x,l,rfl,h1,h2⟩
 ·cases h
theorem Zum (h:Sat κ S ι s):∀{ps:List (Nat×Nat×Opd)} {ats:List At} {pre rest:List V} {e:Nat},Zlt s.tm ps->Zdy S ps=some ats->Zly pre.length ps=some e->e=pre.length+rest.length->
  Zio (pre++rest) (ps.map fun p=>(p.1,p.2.1,evO s.tm p.2.2))=some (pre++(ps.map fun p=>(evO s.tm p.2.2).cells).flatten)/\SegsS ι S.vals (Zgt ps ats) ((ps.map fun p=>(evO s.tm p.2.2).cells).flatten) (fun _=>false) 0
 | [],ats,pre,rest,e,_,_,he,hr=>by
  simp only[Zly,Xac]at he
  have:rest=[]:=Xbd (by omega)
  subst this
  exact⟨rfl,by cases ats<;>rfl⟩
 |p::ps,ats,pre,rest,e,hp,ha,he,hr=>by
  obtain⟨x,l,rfl,h1,h2⟩:=Zh3 ha
  simp only[Zly]at he
  split at he
  ·rename_i hb
   have hoff:=Xah hb
   obtain⟨q1,q2,q3⟩:=hp p (by simp)
   have mono:∀{ps:List (Nat×Nat×Opd)} {o e:Nat},Zly o ps=some e->o<=e:=by
    intro ps
    induction ps with
    |nil=>intro o e h;simp[Zly]at h;omega
    |cons p ps ih=>
     intro o e h
     simp only[Zly]at h
     split at h
     ·have:=ih h;omega
     ·cases h
   have hle:=mono he
   have hrl:p.2.1<=rest.length:=by omega
   obtain⟨g1,g2⟩:=Zum h (ps:=ps) (ats:=l) (pre:=pre++(evO s.tm p.2.2).cells) (rest:=rest.drop p.2.1) (e:=e) (fun q hq=>hp q (by simp[hq])) h2 (by rw[Xaf,q1];exact he) (by simp;omega)
   obtain⟨g3,g4⟩:=Zkp h h1 q1 q2 q3 0 (fun _=>false)
   refine⟨?_, ?_⟩
   ·simp only[Xaq,Zkq]
    rw[if_pos ⟨q1,q2,by simp;omega⟩,hoff]
    have hset:Zav (pre++rest) pre.length (evO s.tm p.2.2).cells=(pre++(evO s.tm p.2.2).cells)++rest.drop p.2.1:=by
     simp only[Zav,Xeh,q1]
     rw[Xc6,Xav (by omega)]
     simp
    rw[hset,g1];simp
   ·simp only[Zgt,Xaq,Xco]
    exact SegsS.app (p:=[Zgq p.2.1 x]) (.inl g4) g3 (g2.shift fun i hi=>rfl)
  ·cases he
theorem Zqc (h:Sat κ S ι s):∀{ps:List (Nat×Nat×Opd)} {ats:List At} {ss q:List Seg} {z:List V},Zlt s.tm ps->Zdy S ps=some ats->SegsS ι S.vals ss z (fun _=>false) 0->Zst ss ps ats=some q->
  ∃cs,Zio z (ps.map fun p=>(p.1,p.2.1,evO s.tm p.2.2))=some cs/\SegsS ι S.vals q cs (fun _=>false) 0
 | [],ats,ss,q,z,_,_,hs,hq=>by
  simp only[Zst,Xac]at hq
  subst hq
  exact⟨z,rfl,hs⟩
 |p::ps,ats,ss,q,z,hp,ha,hs,hq=>by
  obtain⟨x,l,rfl,h1,h2⟩:=Zh3 ha
  simp only[Zst]at hq
  split at hq
  ·rename_i sg i hsg
   split at hq
   ·rename_i m hm
    obtain⟨q1,q2,q3⟩:=hp p (by simp)
    obtain⟨g3,g4⟩:=Zkp h h1 q1 q2 q3 p.1 (fun _=>false)
    obtain⟨g5,g6⟩:=Zn5 (ow':=fun _=>false) (ys:=(evO s.tm p.2.2).cells) hs hsg hm g3 q1 (.inl g4) (fun _ _=>rfl)
    obtain⟨cs,g7,g8⟩:=Zqc h (fun q hq=>hp q (by simp[hq])) h2 g6 hq
    exact⟨cs,by simp only[Xaq,Zkq];rw[if_pos ⟨q1,q2,g5⟩];exact g7,g8⟩
   ·cases hq
  ·cases hq
theorem Zwx (h:Sat κ S ι s){z:List V}{ps:List (Nat×Nat×Opd)}(hk:op1 (BV Γ f) ow d (.build z ps) S k=some r):Res1 κ GA gl d (.build z ps) g a s k r:=by
 simp only[op1,bldP]at hk
 split at hk
 ·rename_i ats hats
  split at hk
  ·unfold bldR at hk
   split at hk
   ·rename_i hall
    have hp:Zlt s.tm ps:=by
     intro p hp
     simp only[Zzu,Xal,Xai]at hall
     obtain⟨q1,q2⟩:=hall p hp
     have q1:=Xah q1
     split at q2
     ·rename_i a' ha'
      have hsc:=AtS.one (h.opd ha') q2
      rw[Zla hsc,q1]
      exact⟨rfl,by simp[hsc],fun _=>hsc⟩
     ·cases q2
    split at hk
    ·rename_i hm
     split at hm
     ·rename_i e he
      have hb:=Xah hm
      obtain⟨g1,g2⟩:=Zum h (pre:=[]) (rest:=z) hp hats he (by simp[hb])
      simp only[Xba]at g1
      refine⟨_,ι,_,hk,by rw[Zl9,g1];rfl,h.put d (v:= .agg ((ps.map fun p=>(evO s.tm p.2.2).cells).flatten)) (o:=false) ⟨⟨_,rfl,g2⟩,fun i hi=> ?_⟩⟩
      cases hi
     ·cases hm
    ·split at hk
     ·rename_i ss hss
      split at hk
      ·rename_i q hq
       obtain⟨cs,g1,g2⟩:=Zqc h hp hats (Zmr hss).1 hq
       refine⟨_,ι,_,hk,by rw[Zl9,g1];rfl,h.put d (v:= .agg cs) (o:=false) ⟨⟨_,rfl,g2⟩,fun i hi=> ?_⟩⟩
       cases hi
      ·cases hk
     ·cases hk
   ·cases hk
  ·
   obtain⟨ys,S1,h1,h2,h3,h4,h5⟩:=h.matL hk
   simp only[BV,evp,Xab,Xaa]at h1
   obtain⟨y,⟨l,hl,rfl⟩,h1⟩:=h1
   rw[<-h4]at hl
   obtain⟨hp,rfl⟩:=Zis hl
   have hats1:Zdy S1 ps=some ats:=by
    have:∀{ps:List (Nat×Nat×Opd)},Zdy S1 ps=Zdy S ps:=by
     intro ps
     induction ps with
     |nil=>rfl
     |cons p ps ih=>simp only[Zdy,ih,h3.opd]
    rw[this];exact hats
   have hcl:(V.agg (nfL ((ps.map fun p=>(evO s.tm p.2.2).cells).flatten))).clean=true:=Zfh hl (by rw[h4];exact h5)
   split at h1
   ·rename_i hm
    split at hm
    ·rename_i e he
     have hb:=Xah hm
     obtain⟨g1,g2⟩:=Zum h2 (pre:=[]) (rest:=z) hp hats1 he (by simp[hb])
     simp only[Xba]at g1
     refine⟨_,ι,_,h1,by rw[Zl9,g1];rfl,(h2.push hcl).put d (v:= .agg ((ps.map fun p=>(evO s.tm p.2.2).cells).flatten)) (o:=false) ⟨⟨_,rfl,g2.mono (.refl _) (Ext.push S1 _).pre⟩,fun i hi=> ?_⟩⟩
     cases hi;rw[Zar];rfl
    ·cases hm
   ·split at h1
    ·rename_i ss hss
     split at h1
     ·rename_i q hq
      split at h1
      ·rename_i ns xs hsv
       simp only[BV,evp,Xab,Xaa]at h1
       obtain⟨y,⟨l,hl',rfl⟩,h1⟩:=h1
       obtain⟨cs,g1,g2⟩:=Zqc h2 hp hats1 (Zmr hss).1 hq
       have h6:=h2.push hcl
       have g3:=g2.mono (PreN.refl ι) (Ext.push S1 (V.agg (nfL ((ps.map fun p=>(evO s.tm p.2.2).cells).flatten)))).pre
       obtain⟨rfl,hc⟩:=h6.segVals g3 hsv hl'
       refine⟨_,ι,_,h1,by rw[Zl9,g1];rfl,(h6.push (x:= .agg (nfL cs)) (Zfh hl' hc)).put d (v:= .agg cs) (o:=false) ⟨⟨_,rfl,g3.mono (.refl _) (Ext.push _ _).pre⟩,fun i hi=> ?_⟩⟩
       cases hi;rw[Zar];rfl
      ·cases h1
     ·cases h1
    ·cases h1
 ·cases hk
theorem Sat.disown' (h:Sat κ S ι s)(t:Nat):Sat κ (S.disown t) ι s where
 tm u y hy:=by
  rw[Zgh]
  unfold PS.disown at hy
  split at hy
  ·rename_i z hz
   simp only[PS.get,Zcp]at hy
   split at hy
   ·rename_i e;subst e;cases hy;exact(h.tm _ _ hz).noOwn _
   ·exact h.tm u y hy
  ·exact h.tm u y hy
 ob k ss hk:=by rw[Zv2]at hk;rw[Zgh];exact h.ob k ss hk
 nd:=h.nd
 lt:=h.lt
 len:=(h.disown t).len
 lits:=(h.disown t).lits
 cln:=(h.disown t).cln
 g:=(h.disown t).g
 pre:=h.pre
 new:=(h.disown t).new
 nH:=h.nH
 fr:=h.fr
theorem Zqv {H:Hp}{sz:Nat}{x:V}{ys:List V}(hc:x.nf.clean=true)(h:Zb2 noH sz x.nf=some ys):∃zs,Zb2 H sz x=some zs/\nfL zs=ys/\Zac ys=true:=by
 unfold Zb2 at h
 split at h
 ·rename_i b s' l e
  obtain⟨_,nl,rs,rfl,rfl,hn⟩:=Zgv e
  rw[e]at hc
  split at h
  ·rename_i hs
   cases h
   refine⟨rs, ?_,rfl,hc⟩
   have:s'=sz \/rs=[]:=by
    rcases hs with hs|hs
    ·exact .inl hs
    ·right;cases rs<;>first|rfl|cases hs
   simp only[Zb2];rw[if_pos this]
  ·cases h
 ·rename_i b e
  rw[Zei e]
  split at h
  ·rename_i hs
   cases h
   exact⟨encB b,by subst hs;rw[Zv8],Zlr b,Zfp b⟩
  ·cases h
 ·rename_i e
  rw[e]at hc;simp[V.clean]at hc
 ·cases h
theorem Z6a (h:Sat κ S ι s){sz:Nat}{x y:Opd}(hk:op1 (BV Γ f) ow d (.app sz x y) S k=some r):Res1 κ GA gl d (.app sz x y) g a s k r:=by
 simp only[op1]at hk
 split at hk
 ·rename_i a' hx
  split at hk
  ·rename_i ho
   obtain⟨ys,S1,h1,h2,h3,h4,h5⟩:=h.matL hk
   simp only[doX,BV,Xab]at h1
   obtain⟨z,hz,h1⟩:=h1
   subst h4
   simp only[Xaq,Xbg,nfL,evp,Zyd]at hz
   simp only[Xaq,Xbg,nfL,Zac,Xai,Xch]at h5
   have hown:Own (evO s.tm x) (ownO s.own x):=AtS.owned (h.opd hx) ho
   split at hz
   ·rename_i b s' xs zs e1 e2
    obtain⟨_,nl,rs,e3,rfl,hn⟩:=Zgv e1
    obtain⟨ws,e4,rfl,e5⟩:=Zqv (H:=s.H) h5.2 e2
    have hcx:Zac (nfL rs)=true:=by rw[e1]at h5;exact h5.1
    split at hz
    ·rename_i hc
     obtain⟨hc,rfl⟩:=hc
     cases hz
     rw[Zap,Zap]at hc
     have hcl:(V.sl false s' (nfL rs++nfL ws)).clean=true:=Zbh hcx e5
     cases nl with
     |true=>
      obtain rfl:=hn rfl
      refine⟨_,ι,s.put d (.sl ws.isEmpty s' ws) true,h1, ?_, ?_⟩
      ·rw[Z4j,e3]
       have:ws.length<=Lim:=by simpa using hc
       rw[Zxj,e4];simp[this]
      ·have hv:(V.sl ws.isEmpty s' ws).nf= .sl false s' (nfL []++nfL ws):=by
        rw[Z5r (by simp)];simp[nfL]
       cases x with
       |const v=>exact h2.putN hv hcl (fun _=> .inl rfl) (fun _=>rfl)
       |tmp t=>exact(h2.disown' t).putN hv hcl (fun _=> .inl rfl) (fun _=>rfl)
     |false=>
      have ho':ownO s.own x=true:=by
       rcases hown with h|⟨z,h⟩
       ·exact h
       ·rw[e3]at h;cases h
      cases x with
      |const v=>cases ho'
      |tmp t=>
       refine⟨_,ι,(s.take (some (.slot t))).put d (.sl false s' (rs++ws)) true,h1, ?_, ?_⟩
       ·rw[Z4j,e3,ho',Z2b,e4]
        simp[hc]
       ·exact(h2.disown t).putN (by show V.sl false s' (nfL (rs++ws))=_;rw[Zby]) hcl (fun _=> .inl rfl) (fun _=>rfl)
    ·cases hz
   ·cases hz
  ·cases hk
 ·cases hk
theorem Z38 (h:Sat κ S ι s){x:Opd}(hk:op1 (BV Γ f) ow d (.b2s x) S k=some r):Res1 κ GA gl d (.b2s x) g a s k r:=by
 simp only[op1]at hk
 split at hk
 ·rename_i o j hx
  split at hk
  ·rename_i w n hw hn
   obtain⟨id,m,cap,hid,e2,e3,e1,_⟩:=h.opd hx
   rw[hn]at e2;cases e2
   obtain⟨cs,q1,q2,q3,q4⟩:=Zmx h hid hw
   simp only[doX,BV,Xab]at hk
   obtain⟨z,hz,h1⟩:=hk
   simp only[evp]at hz
   unfold Z29 at hz
   simp only at hz
   split at hz
   ·rename_i hle
    simp only[Xaa]at hz
    obtain⟨b,hb,rfl⟩:=hz
    rw[<-q2, <-Zci]at hb
    rw[<-q2,Zap]at hle
    refine⟨_,ι,s.put d (.str b) false,h1, ?_,h.putN rfl rfl (fun h=>nomatch h) (fun _=>rfl)⟩
    have hb':=Zem hb
    rw[Z1a,e1]
    simp only[vB2s,q1,Xak,Xbc]
    by_cases h0:m.toNat=0
    ·rw[if_pos h0]
     rw[h0,Xcn]at hb'
     cases hb';rfl
    ·rw[if_neg h0,if_pos (by omega),hb'];rfl
   ·cases hz
  ·cases hk
 ·rename_i o off n cap hx
  split at hk
  ·rename_i ss hss
   split at hk
   ·rename_i sn a' q i hs
    obtain⟨id,hid,e1⟩:=h.opd hx
    obtain⟨id',cs,q1,q2,q3⟩:=h.cob o ss hss
    rw[hid]at q1;cases q1
    obtain⟨p,q',cp,cg,cq,e1',e2,e3,e4,e5,e6,e7,e8,e9⟩:=Zbm q3 hs
    obtain⟨l,cs',w,f1,f2,f3,f4,f5,f6,f7⟩:=e7
    rw[show cs'=[]from f7,Xao]at f1
    subst f1;subst e3
    obtain⟨h1,h2⟩:=h.matV f5 hk
    simp only[doX,BV,Xab]at h1
    obtain⟨z,hz,h1⟩:=h1
    simp only[evp,Zxt, <-f6,Zap]at hz
    split at hz
    ·rename_i hle
     simp only[Xaa]at hz
     obtain⟨b,hb,rfl⟩:=hz
     rw[<-Zdp, <-Zci]at hb
     refine⟨_,ι,s.put d (.str b) false,h1, ?_,h.putN rfl rfl (fun h=>nomatch h) (fun _=>rfl)⟩
     rw[Z1a,e1]
     simp only[vB2s,q2,Xak]
     by_cases h0:n=0
     ·rw[if_pos h0]
      have hb':=Zem hb
      rw[h0,Xcn]at hb'
      cases hb';rfl
     rw[if_neg h0,if_pos (by simp;omega),e4]
     have:((cp++(cg++cq)).drop (cp.length+q)).take n=(cg.drop q).take n:=by
      rw[Xc6,Xav (by omega),show cp.length+q-cp.length=q by omega,Xba,Xby (by omega),Xb4 (by simp;omega)]
     rw[this,Zem hb];rfl
    ·cases hz
   ·cases hk
  ·cases hk
 ·exact Zbd h rfl hk
theorem Z4h (h:Sat κ S ι s){sz:Nat}{x:Opd}{lo hi mx:Option Opd}(hk:op1 (BV Γ f) ow d (.slc sz x lo hi mx) S k=some r):Res1 κ GA gl d (.slc sz x lo hi mx) g a s k r:=by
 simp only[op1]at hk
 split at hk
 ·rename_i o i j s' hx
  split at hk
  ·rename_i lo' va vb hs ha hb
   obtain rfl:=Xah hs
   obtain⟨id,p,q,cap,hid,e2,e3,e4,e5,e1,e6⟩:=h.opd hx
   rw[ha]at e2;cases e2
   rw[hb]at e3;cases e3
   obtain⟨ys,S1,h1,h2,h3,h4,h5⟩:=h.matL hk
   simp only[BV,Xab]at h1
   obtain⟨z,hz,h1⟩:=h1
   obtain⟨kd,m,e7,rfl,h6,h7,h8⟩:=Zi8 h4 hz
   refine⟨_,ι,_,h1, ?_,(h2.push (x:= .int .i64 (p+m)) rfl).put d (v:= .osl id ((p+m).toNat*s') (q.toNat-(p+m).toNat) (cap-m.toNat) s') (o:=false) ⟨id,p+m,q,cap-m.toNat,hid,Zar _ _,(h3.pre.trans (Ext.push S1 (.int .i64 (p+m))).pre) _ _ hb,by omega,h8,rfl,by omega⟩⟩
   rw[Zpd,e1]
   have r1:(p+m).toNat=p.toNat+m.toNat:=by omega
   simp only[Xd3,Xas,e7,vSlc,vOpt,cut3,Xcm,Xb1,Xb5,Xat,false_implies,and_true]
   rw[if_pos trivial,if_pos (by omega)]
   simp only[Xas,r1,Xca,Xbu]
   rw[show q.toNat-(p.toNat+m.toNat)=q.toNat-p.toNat-m.toNat by omega]
   simp[putR,St.take]
  ·rename_i hi' va vb hs ha hb
   obtain rfl:=Xah hs
   obtain⟨id,p,q,cap,hid,e2,e3,e4,e5,e1,e6⟩:=h.opd hx
   rw[ha]at e2;cases e2
   rw[hb]at e3;cases e3
   obtain⟨ys,S1,h1,h2,h3,h4,h5⟩:=h.matL hk
   simp only[BV,Xab]at h1
   obtain⟨z,hz,h1⟩:=h1
   obtain⟨kd,m,e7,rfl,h6,h7,h8⟩:=Zi8 h4 hz
   refine⟨_,ι,_,h1, ?_,(h2.push (x:= .int .i64 (p+m)) rfl).put d (v:= .osl id (p.toNat*s') ((p+m).toNat-p.toNat) cap s') (o:=false) ⟨id,p,p+m,cap,hid,(h3.pre.trans (Ext.push S1 (.int .i64 (p+m))).pre) _ _ ha,Zar _ _,e4,by omega,rfl,by omega⟩⟩
   rw[Zpd,e1]
   have r1:(p+m).toNat-p.toNat=m.toNat:=by omega
   simp only[Xd3,Xas,e7,vSlc,vOpt,cut3,Xcm,Xb1,Xb5,Xat,false_implies,and_true]
   rw[if_pos trivial,if_pos (by omega)]
   simp only[Xas,r1,Xbu]
   simp[putR,St.take]
  ·cases hk
 ·rename_i o j s' hx
  split at hk
  ·rename_i lo' n hs hn
   split at hk
   rotate_left
   ·obtain rfl:=Xah hs
    obtain⟨id,q,cap,hid,e2,e3,e1,e4⟩:=h.opd hx
    rw[hn]at e2;cases e2
    obtain⟨ys,S1,h1,h2,h3,h4,h5⟩:=h.matL hk
    simp only[BV,Xab]at h1
    obtain⟨z,hz,h1⟩:=h1
    obtain⟨kd,m,e7,rfl,h6,h7,h8⟩:=Zi8 h4 hz
    refine⟨_,ι,_,h1, ?_,(h2.push (x:= .int .i64 (0+m)) rfl).put d (v:= .osl id ((0+m).toNat*s') (q.toNat-(0+m).toNat) (cap-m.toNat) s') (o:=false) ⟨id,0+m,q,cap-m.toNat,hid,Zar _ _,(h3.pre.trans (Ext.push S1 (.int .i64 (0+m))).pre) _ _ hn,by omega,h8,rfl,by omega⟩⟩
    rw[Zpd,e1]
    have r1:(0+m).toNat=m.toNat:=by omega
    simp only[Xd3,Xas,e7,vSlc,vOpt,cut3,Xcm,Xb1,Xb5,Xat,false_implies,and_true]
    rw[if_pos trivial,if_pos (by omega)]
    simp only[Xas,r1,Xan,Xbu]
    simp[putR,St.take]
   obtain rfl:=Xah hs
   obtain⟨id,m,cap,hid,e2,e3,e1,e4⟩:=h.opd hx
   rw[hn]at e2;cases e2
   obtain⟨ys,S1,h1,h2,h3,h4,h5⟩:=h.matL hk
   simp only[BV,Xab]at h1
   obtain⟨q,hq,h1⟩:=h1
   obtain⟨kd,p,e5,rfl,h6,h7⟩:=Zmz h4 hq
   refine⟨_,ι,_,h1, ?_,(h2.push (x:= .int kd p) rfl).put d (v:= .osl id (p.toNat*s') (m.toNat-p.toNat) (cap-p.toNat) s') (o:=false) ⟨id,m,kd,p,cap-p.toNat,hid,(h3.pre.trans (Ext.push S1 (.int kd p)).pre) _ _ hn,Zar _ _,h6,h7,rfl⟩⟩
   rw[Zpd,e1]
   simp only[Xd3,Xas,e5,vSlc,vOpt,cut3,Xcm,Xb1,Xb5,Xat,false_implies,and_true]
   rw[if_pos trivial,if_pos (by omega)]
   simp only[Xas]
   simp[putR,St.take,Int.max_eq_left e3]
  ·rename_i hi' n hs hn
   obtain rfl:=Xah hs
   obtain⟨id,m,cap,hid,e2,e3,e1,e4⟩:=h.opd hx
   rw[hn]at e2;cases e2
   obtain⟨ys,S1,h1,h2,h3,h4,h5⟩:=h.matL hk
   simp only[BV,Xab]at h1
   obtain⟨q,hq,h1⟩:=h1
   obtain⟨kd,p,e5,rfl,h6,h7⟩:=Zwt h4 hq
   refine⟨_,ι,_,h1, ?_,(h2.push (x:= .int .i64 p) rfl).put d (v:= .osl id 0 p.toNat cap s') (o:=false) ⟨id,p,cap,hid,Zar _ _,h6,rfl,by omega⟩⟩
   rw[Zpd,e1]
   simp only[Xd3,Xas,e5,vSlc,vOpt,cut3,Xcm,Xb1,Xb5,Xat,false_implies,and_true]
   rw[if_pos trivial,if_pos (by omega)]
   simp[putR,St.take]
  ·cases hk
 ·rename_i o off n c sz' hx
  split at hk
  ·rename_i l hb
   simp only[Xai]at hb
   obtain rfl:=Xah hb.1
   have hnc:n<=c:=Xa6 hb.2
   obtain⟨id,hid,e1⟩:=h.opd hx
   obtain⟨ys,S1,h1,h2,h3,h4,h5⟩:=h.matL hk
   simp only[BV,Xab]at h1
   obtain⟨q,hq,h1⟩:=h1
   obtain⟨kd,p,e5,rfl,h6,h7⟩:=Zid h4 hq
   refine⟨_,ι,_,h1, ?_,(h2.push (x:= .int kd p) rfl).put d (v:= .osl id (off+p.toNat*sz') (n-p.toNat) (c-p.toNat) sz') (o:=false) ⟨id,kd,p,c-p.toNat,hid,Zar _ _,h6,h7,rfl⟩⟩
   rw[Zpd,e1]
   simp only[Xd3,Xas,e5,vSlc,vOpt,cut3,Xcm,Xb1,Xb5,Xat,false_implies,and_true]
   rw[if_pos trivial,if_pos (by omega)]
   simp only[Xas]
   simp[putR,St.take]
  ·cases hk
 ·exact Zbd h rfl hk
theorem Z4m (h:Sat κ S ι s){sz:Nat}(hk:op1 (BV Γ f) ow d (.nro sz) S k=some r):Res1 κ GA gl d (.nro sz) g a s k r:=by
 simp only[op1]at hk
 have h1:=h.push (x:= .int .i64 0) rfl
 have h2:=h1.newOb (ss:=[.many none (.c (.agg []) false)]) (cs:=[]) ⟨[],[], .agg [],rfl,fun m hm=>(by cases hm),fun _=>rfl,rfl,⟨rfl,rfl⟩,rfl,rfl⟩
 refine⟨_,_,_,hk,Z8k sz,h2.1.put d (v:= .osl s.nH 0 0 0 sz) (o:=false) ⟨s.nH,0,0,h2.2,Zar S _,Int.le_refl _,rfl,Xag _⟩⟩
theorem Zil {v:V}(h:v.flatR=true):v.nf=v/\v.clean=true/\v.sc=true:=by cases v<;>simp[V.flatR]at h<;>exact⟨rfl,rfl,rfl⟩
theorem Zey {v:V}(h:v.flatR=true)(n:Nat):nfL (List.replicate n v)=List.replicate n v/\Zac (List.replicate n v)=true/\(List.replicate n v).all V.sc=true:=by
 obtain⟨h1,h2,h3⟩:=Zil h
 induction n with
 |zero=>exact⟨rfl,rfl,rfl⟩
 |succ n ih=>
  simp only[Xde,nfL,Zac,Xcu,h1,h2,h3,ih.1,ih.2.1,ih.2.2,Xcc,and_self]
theorem Z50 (h:Sat κ S ι s){sz:Nat}{z:List V}{l c:Opd}(hk:op1 (BV Γ f) ow d (.mko sz z l c) S k=some r):Res1 κ GA gl d (.mko sz z l c) g a s k r:=by
 simp only[op1]at hk
 split at hk
 ·rename_i z0
  split at hk
  ·rename_i hfl
   obtain⟨ys,S1,h1,h2,h3,h4,h5⟩:=h.matL hk
   subst h4
   simp only[Xaq,Xbg,nfL,BV,Xab]at h1
   obtain⟨y,hy,m,hm,h1⟩:=h1
   simp only[evp]at hy hm
   unfold vRmk at hy
   split at hy
   ·rename_i kn n kc cc e1 e2
    split at hy
    ·rename_i hc
     cases hy
     rw[e1]at hm
     simp only[Zpk,Zb2,true_or,if_true,Xak,Xa7]at hm
     rw[if_pos hc.1]at hm
     cases hm
     obtain⟨r1,r2,r3⟩:=Zey hfl n.toNat
     have hcl:(V.agg (List.replicate n.toNat z0)).clean=true:=r2
     have k1:=(h2.push hcl).push (x:= .int .i64 (n+0)) rfl
     have k2:=k1.newOb (ss:=[.many none (.n S1.nx false false)]) (cs:=List.replicate n.toNat z0) ⟨List.replicate n.toNat z0,[], .agg (List.replicate n.toNat z0),by simp,fun m hm=>(by cases hm),fun _=>rfl,r3,(Ext.push _ _).pre _ _ (Zar S1 _),r1,rfl⟩
     refine⟨_,ι++ [s.nH],(s.new (List.replicate n.toNat z0)).put d (.osl s.nH 0 n.toNat n.toNat 1) false,h1, ?_, ?_⟩
     ·rw[Z9j,Zb3 e1,Zb3 e2]
      simp only[St.mkOb]
      rw[if_pos ⟨hc.1,hc.2.1,hc.2.2,trivial,(Zil hfl).2.2⟩]
      rfl
     ·have hob:S.ob.length=((S1.push (V.agg (List.replicate n.toNat z0))).push (.int .i64 (n+0))).ob.length:=by simp only[PS.push,h3.ob]
      rw[hob]
      refine k2.1.put d (v:= .osl s.nH 0 n.toNat n.toNat 1) (o:=false) ⟨s.nH,n,n.toNat,k2.2, ?_,hc.1,rfl,Xag _⟩
      have:=Zar (S1.push (V.agg (List.replicate n.toNat z0))) (.int .i64 (n+0))
      rw[show(S1.push (V.agg (List.replicate n.toNat z0))).nx=S1.nx+1 by simp[PS.push,PS.nx]]at this
      exact this.trans (by rw[Int.add_zero])
    ·cases hy
   ·cases hy
  ·cases hk
 ·cases hk
theorem Zs4 {X:Type}(S:PS X)(o k:Nat){qs:List Seg}(h:(S.dropOb o).obj k=some qs):k≠o/\S.obj k=some qs:=by
 unfold PS.obj PS.dropOb at h
 split at h
 ·rename_i ss e
  cases h
  rw[Xem]at e
  split at e
  ·split at e<;>cases e
  ·rename_i hne
   exact⟨fun h=>hne h.symm,by unfold PS.obj;rw[e]⟩
 ·cases h
theorem Sat.kill (h:Sat κ S ι s){o id:Nat}(hι:ι[o]? =some id):Sat κ (S.dropOb o) ι (s.kill id) where
 tm t y hy:=h.tm t y hy
 ob k qs hk:=by
  obtain⟨hne,hk⟩:=Zs4 S o k hk
  obtain⟨id',h1,h2⟩:=h.ob k qs hk
  have hne':id'≠id:=fun he=>by
   subst he
   exact hne ((Xen (Xae.1 h1).1 h.nd).1 (by rw[h1,hι]))
  exact⟨id',h1,h2.to (.refl _) (.refl _) (by simp only[St.kill,upd,if_neg hne']) fun j=>by simp only[St.kill,if_neg hne']⟩
 nd:=h.nd
 lt:=h.lt
 len:=by simpa[PS.dropOb]using h.len
 lits:=h.lits
 cln:=h.cln
 g:=h.g
 pre:=h.pre
 new:=h.new
 nH:=h.nH
 fr id' h1 h2:=by
  have hne:id'≠id:=by
   rintro rfl
   rcases h.given hι with h3|h3
   ·exact h2 h3
   ·omega
  obtain⟨k3,k4⟩:=h.fr id' h1 h2
  exact⟨by simp only[St.kill,upd,if_neg hne];exact k3,fun j=>by simp only[St.kill,if_neg hne];exact k4 j⟩
theorem Zx6 {sz:Nat}{ys fs:List V}(h:Zj6 sz (nfL ys)=some fs):∃gs,Zj6 sz ys=some gs/\nfL gs=fs/\gs.all V.sc=true:=by
 unfold Zj6 at h⊢
 rw[Zik]at h
 split at h
 ·rename_i hf
  cases h
  refine⟨_,if_pos hf, ?_, ?_⟩
  ·rw[Zce,List.map_flatMap,Zce,List.flatMap_map]
   congr 1;funext v;rw[Zbv,Zce]
  ·simp only[List.all_flatMap]
   unfold fits at hf
   refine Xal.2 fun x hx=> ?_
   have:=Xal.1 hf x hx
   simp only[Xai]at this
   exact this.2
 ·cases h
theorem Zs0 {H:Hp}{nl:Bool}{sz:Nat}{v u:V}{ts:List V}(h:Zgc nl H v=some u)(hs:∀id off len cap s,v= .osl id off len cap s->s=sz)(ht:Zb2 H sz u=some ts):Zb2 H sz v=some ts:=by
 unfold Zgc at h
 split at h
 ·rename_i id off len cap s
  obtain rfl:=hs _ _ _ _ _ rfl
  simp only[Zb2,if_true]
  split at h
  ·rename_i h0
   cases h
   rw[if_pos h0]
   simpa[Zb2]using ht
  ·rename_i h0
   rw[if_neg h0]
   simp only[Xab]at h
   obtain⟨cs,hcs,h⟩:=h
   split at h
   ·rename_i hle
    cases h
    simp only[Zb2,true_or,if_true]at ht
    rw[hcs,Xak,if_pos hle];exact ht
   ·cases h
 ·cases h;exact ht
theorem Z02 (h:Sat κ S ι s){x:Opd}{sz:Nat}(hk:Zzb sz (S.opd x)=true){id off len cap s':Nat}(he:evO s.tm x= .osl id off len cap s'):s'=sz:=by
 cases hx:S.opd x with
 |none=>rw[hx]at hk;cases hk
 |some y=>
  rw[hx]at hk
  have ha:=h.opd hx
  rw[he]at ha
  cases y with
  |tup az=>cases hk
  |agg ss z=>
   obtain⟨⟨cs,hcs,_⟩,_⟩:=ha
   cases hcs
  | «at» b=>
   cases b with
   |osl o f n c s0=>obtain⟨i,_,e⟩:=ha;cases e;exact Xah hk
   |osc o f n i s0=>obtain⟨i',kd,m,cp,_,_,_,_,e⟩:=ha;simp only[V.osl.injEq]at e;rw[e.2.2.2.2];exact Xah hk
   |osx o i s0=>obtain⟨i',m,cp,_,_,_,e,_⟩:=ha;cases e;exact Xah hk
   |osv o i j s0=>obtain⟨i',m,m',cp,_,_,_,_,_,e,_⟩:=ha;cases e;exact Xah hk
   |n i own sc=>
    have h2:=h.cln _ (Xam ha.1)
    simp[V.nf,V.clean]at h2
   |c v own=>
    have h2:=ha.2.1
    have h1:=ha.1
    rw[<-h1]at h2
    simp[V.nf,V.clean]at h2
   |_=>cases hk
theorem Z13 (h:Sat κ S ι s){sz:Nat}{x y:Opd}(hk:op1 (BV Γ f) ow d (.appo sz x y) S k=some r):Res1 κ GA gl d (.appo sz x y) g a s k r:=by
 simp only[op1]at hk
 split at hk
 ·rename_i o j s' hx
  split at hk
  ·rename_i w n hs hw hn
   simp only[Xai]at hs
   obtain⟨hs,htl⟩:=hs
   obtain rfl:=Xah hs
   obtain⟨id,m,cap,hid,e2,e3,e1,e4⟩:=h.opd hx
   rw[hn]at e2;cases e2
   obtain⟨cs,q1,q2,q3,q4⟩:=Zmx h hid hw
   obtain⟨ys,S1,u,h1,h2,h3,h4,h5,h6,_,_⟩:=Zqj h hk
   have h4:=h4 true
   have h6:=h6 true
   subst h4
   simp only[BV,Xab]at h1
   obtain⟨z,hz,l,hl,h1⟩:=h1
   simp only[evp,Zsg,Xab]at hz
   obtain⟨ts,ht,fs,hf,hz⟩:=hz
   split at hz
   ·rename_i hc
    cases hz
    obtain⟨zs,t1,rfl,t2⟩:=Zqv (H:=s.H) h5 ht
    replace t1:=Zs0 h6 (fun _ _ _ _ _ he=>Z02 h htl he) t1
    obtain⟨gs,g1,rfl,g2⟩:=Zx6 hf
    simp only[evp,Zpk,ht,Xak]at hl
    rw[if_pos e3]at hl
    cases hl
    rw[Zap]at hc
    rw[<-q2,Zap]at hc
    have hcl:(V.agg (w.cells.take (m.toNat*s')++nfL gs)).clean=true:=by
     refine Zbh (Zbo (clean_cells q4) _) ?_
     unfold Zj6 at hf
     split at hf
     ·simp only[Xac]at hf
      rw[<-hf]
      refine Zal.2 fun v hv=> ?_
      obtain⟨u,hu,hv⟩:=Xce.1 hv
      exact Zal.1 (clean_cells (Zal.1 t2 u hu)) v hv
     ·cases hf
    have k1:=((h2.push hcl).push (x:= .int .i64 (m+(nfL zs).length)) rfl).kill hid
    have hall:(cs.take (m.toNat*s')++gs).all V.sc=true:=by
     rw[Xeg,Xai]
     exact⟨Xal.2 fun v hv=>Xal.1 q3 v (Xbn hv),g2⟩
    have k2:=k1.newOb (ss:=[.many none (.n S1.nx false false)]) (cs:=cs.take (m.toNat*s')++gs) ⟨cs.take (m.toNat*s')++gs,[], .agg (w.cells.take (m.toNat*s')++nfL gs),by simp,fun m hm=>(by cases hm),fun _=>rfl,hall,(Ext.push _ _).pre _ _ (Zar S1 _),by rw[Zby,Zci,q2];rfl,rfl⟩
    refine⟨_,ι++ [s.nH],(s.turnOb id (cs.take (m.toNat*s')++gs)).put d (.osl s.nH 0 (m.toNat+zs.length) (m.toNat+zs.length) s') false,h1, ?_, ?_⟩
    ·rw[Z6e,e1]
     simp only[St.appOb,t1,q1,g1]
     rw[if_pos ⟨trivial,hc.2.1,hc.2.2.1,hc.2.2.2⟩]
     rfl
    ·have hob:S.ob.length=(((S1.push (V.agg (w.cells.take (m.toNat*s')++nfL gs))).push (.int .i64 (m+(nfL zs).length))).dropOb o).ob.length:=by simp only[PS.push,PS.dropOb,h3.ob,List.length_set]
     rw[hob]
     refine k2.1.put d (v:= .osl s.nH 0 (m.toNat+zs.length) (m.toNat+zs.length) s') (o:=false) ⟨s.nH,m+(nfL zs).length,m.toNat+zs.length,k2.2, ?_,by omega, ?_, ?_⟩
     ·have:=Zar (S1.push (V.agg (w.cells.take (m.toNat*s')++nfL gs))) (.int .i64 (m+(nfL zs).length))
      rw[show(S1.push (V.agg (w.cells.take (m.toNat*s')++nfL gs))).nx=S1.nx+1 by simp[PS.push,PS.nx]]at this
      exact this
     ·rw[Zap];congr 1;omega
     ·rw[Zap];omega
   ·cases hz
  ·cases hk
 ·cases hk
theorem Zmt (h:Sat κ S ι s){o id off n:Nat}{cs ys:List V}{q:List Seg}(hid:ι[o]? =some id)(hn:ys.length=n)(hq:SegsS ι S.vals q (Zav cs off ys) (fun j=>(s.setOb id cs off ys).own (.cell id j)) 0):Sat κ (S.setOb o q) ι (s.setOb id cs off ys):=
 h.objUpd (s':=s.setOb id cs off ys) hid rfl (fun t=>rfl) rfl (fun id' hne=>⟨by simp only[St.setOb,upd,if_neg hne],fun j=>by rw[Zc2,if_neg (by omega)]⟩) (by rw[Zfs,if_pos rfl]) hq
theorem Ztk (h:Sat κ S ι s){S1:PS V}(h1:Sat κ S1 ι s)(he:Ext S S1){o id off q i n:Nat}{ss:List Seg}{sn:Option Nat}{a':At}{w:V}{ys:List V}(hid:ι[o]? =some id)(hss:S.cob o=some ss)(hs:Zdj ss off 0=some (.many sn a',q,i))
  (hw:AtV S.vals a' w) (hwc:w.clean=true) (hle:q+n<=w.cells.length) (hn:ys.length=n) (hsc:ys.all V.sc=true) (hyc:Zac (nfL ys)=true):
  ∃cs,Zat s.H id=some cs/\off+n<=cs.length/\Sat κ ((S1.push (.agg (Zav w.cells q (nfL ys)))).setOb o (spl ss i 1 [.many sn (.n S1.nx false false)])) ι (s.setOb id cs off ys):=by
 obtain⟨id',cs,q1,q2,q3⟩:=h.cob o ss hss
 rw[hid]at q1;cases q1
 have hcl:(V.agg (Zav w.cells q (nfL ys))).clean=true:=Zea (clean_cells hwc) hyc _
 have hpre:=he.pre.trans (Ext.push S1 (V.agg (Zav w.cells q (nfL ys)))).pre
 have:=Zqh (ow':=fun j=>(s.setOb id cs off ys).own (.cell id j)) (ys:=ys) (i':=S1.nx) (x:=w) (q3.mono (.refl _) hpre) hs (fun w' hw'=>by
  have:=AtV.mono hpre hw
  cases a' with
  |c v o=>exact hw'.1.symm.trans this.1
  |n i o sc=>exact Option.some.inj (hw'.symm.trans this)
  |_=>exact hw'.elim) (by omega) hn hsc (Zar _ _) rfl (fun j hj=>by rw[Zc2,if_neg (by omega)])
 exact⟨cs,q2,this.1,Zmt (h1.push hcl) hid hn this.2⟩
theorem Zjc (b:Bytes)(n:Nat):(encB b).take n=encB (b.take n):=by simp only[encB,Xdw]
theorem Z37 (h:Sat κ S ι s){x y:Opd}(hk:op1 (BV Γ f) ow d (.cpy x y) S k=some r):Res1 κ GA gl d (.cpy x y) g a s k r:=by
 simp only[op1]at hk
 split at hk
 ·rename_i o off n cap hx
  split at hk
  ·rename_i ss hss hpos
   split at hk
   ·rename_i sn a' q i hs
    have hpos':0<n:=Xa6 hpos
    obtain⟨id,hid,e1⟩:=h.opd hx
    obtain⟨cs0,w,p1,p2,p3⟩:=Zmf h hid hss hs
    simp only[mat]at hk
    split at hk
    ·rename_i x' hx'
     obtain⟨rfl,hwc⟩:=h.valV p2 hx'
     obtain⟨ys,S1,h1,h2,h3,h4,h5⟩:=h.matL hk
     subst h4
     simp only[Xaq,Xbg,nfL,BV,Xab]at h1
     obtain⟨z,hz,m,hm,h1⟩:=h1
     simp only[evp]at hz hm
     unfold Z6g at hz
     split at hz
     ·rename_i b e2
      split at hz
      ·rename_i hle
       cases hz
       rw[e2]at hm
       simp only[Z3z]at hm
       cases hm
       have hen:nfL ((encB b).take n)=(encB b).take n:=by rw[Zjc,Zlr]
       have hec:Zac (nfL ((encB b).take n))=true:=by rw[Zjc,Zlr];exact Zfp _
       have hes:((encB b).take n).all V.sc=true:=by
        rw[Zjc]
        exact Xal.2 fun v hv=>by obtain⟨u,_,rfl⟩:=Xa9.1 hv;rfl
       have hel:((encB b).take n).length<=n:=by rw[Xbr];omega
       obtain⟨cs,q1,q2,q3⟩:=Ztk h h2 h3 (ys:=(encB b).take n) (n:=((encB b).take n).length) hid hss hs p2 hwc (by omega) rfl hes hec
       rw[p1]at q1;cases q1
       obtain⟨p4,_⟩:=p3 0 n (by omega)
       rw[hen]at q3
       have hb:(encB b).length=b.length:=by simp[encB]
       have h6:Sat κ (((S1.push (.agg (Zav x'.cells q ((encB b).take n)))).setOb o (spl ss i 1 [.many sn (.n S1.nx false false)])).push (.int .i64 (min (b.length:Int) n))) ι (s.setOb id cs0 off ((encB b).take n)):=q3.push rfl
       refine⟨_,ι,(s.setOb id cs0 off ((encB b).take n)).put d (.int .i64 (min ((encB b).length:Int) n)) false,h1, ?_, ?_⟩
       ·rw[Z8m,e1,Zei e2]
        simp only[St.cpyOb,vSrc,p1]
        rw[if_pos ⟨by omega,hpos'⟩]
        rfl
       ·rw[hb]
        have h7:(S1.push (.agg (Zav x'.cells q ((encB b).take n)))).nx=S1.nx+1:=by simp[PS.push,PS.nx]
        have h8:=Zar ((S1.push (.agg (Zav x'.cells q ((encB b).take n)))).setOb o (spl ss i 1 [.many sn (.n S1.nx false false)])) (.int .i64 (min (b.length:Int) n))
        rw[show((S1.push (.agg (Zav x'.cells q ((encB b).take n)))).setOb o (spl ss i 1 [.many sn (.n S1.nx false false)])).nx=S1.nx+1 from h7]at h8
        exact h6.put d (y:= .at (.n (S1.nx+1) false true)) ⟨h8,(fun h=>nomatch h),fun _=>rfl⟩
      ·cases hz
     ·cases hz
    ·cases hk
   ·cases hk
  ·cases hk
 ·cases hk
theorem Z2j (h:Sat κ S ι s){o id off:Nat}{w:V}{ys:List V}(hid:ι[o]? =some id)(hw:rowVal (BV Γ f) S o=some w)(hle:off+ys.length<=w.cells.length)(hsc:ys.all V.sc=true)(hyc:Zac (nfL ys)=true):
  ∃cs,Zat s.H id=some cs/\off+ys.length<=cs.length/\Sat κ ((S.push (.agg (Zav w.cells off (nfL ys)))).setOb o [.many none (.n S.nx false false)]) ι (s.setOb id cs off ys):=by
 obtain⟨cs,q1,q2,q3,q4⟩:=Zmx h hid hw
 have hcl:(V.agg (Zav w.cells off (nfL ys))).clean=true:=Zea (clean_cells q4) hyc _
 have hl:off+ys.length<=cs.length:=by rw[<-q2,Zap]at hle;exact hle
 refine⟨cs,q1,hl,Zmt (h.push hcl) hid rfl ⟨Zav cs off ys,[], .agg (Zav w.cells off (nfL ys)),by simp,(fun m hm=>by cases hm),fun _=>rfl, ?_,Zar _ _, ?_,rfl⟩⟩
 ·simp only[Zav,Xeg,Xai]
  exact⟨⟨Xal.2 fun x hx=>Xal.1 q3 x (Xbn hx),hsc⟩,Xal.2 fun x hx=>Xal.1 q3 x (Xb2 hx)⟩
 ·rw[Zn8,q2];rfl
theorem Z45 (h:Sat κ S ι s){z:List V}{x:Opd}(hk:op1 (BV Γ f) ow d (.clr z x) S k=some r):Res1 κ GA gl d (.clr z x) g a s k r:=by
 simp only[op1]at hk
 split at hk
 ·rename_i o j i z0 hx
  split at hk
  ·rename_i w n p hw hn hp hz0
   obtain⟨id,m,kd,p',cap,hid,e2,e3,e4,e5,e1⟩:=h.opd hx
   rw[hn]at e2;cases e2
   rw[hp]at e3;cases e3
   simp only[BV,Xab]at hk
   obtain⟨y,hy,hk⟩:=hk
   simp only[evp,Z4n]at hy
   obtain⟨r1,r2,r3⟩:=Zey hz0 (m.toNat-p'.toNat)
   split at hy
   ·rename_i hle
    cases hy
    obtain⟨cs,q1,q2,q3⟩:=Z2j h (off:=p'.toNat) (ys:=List.replicate (m.toNat-p'.toNat) z0) hid hw (by simp;omega) r3 (by rw[r1];exact r2)
    rw[r1]at q3
    refine⟨_,ι,(s.setOb id cs p'.toNat (List.replicate (m.toNat-p'.toNat) z0)).put d Nil false,hk, ?_,q3.put d (y:= .at .nil) rfl⟩
    rw[Z40,e1]
    simp only[St.clrOb,q1,Xcw]
    rw[if_pos ⟨by simpa using q2,by omega,(Zil hz0).2.2⟩]
    rfl
   ·cases hy
  ·cases hk
 ·rename_i o off n cap z0 hx
  split at hk
  ·rename_i ss hss hb
   simp only[Xai]at hb
   have hpos':0<n:=Xa6 hb.1
   obtain⟨r1,r2,r3⟩:=Zey hb.2 n
   split at hk
   ·rename_i sn a' q i hs
    obtain⟨id,hid,e1⟩:=h.opd hx
    obtain⟨cs0,w,p1,p2,p3⟩:=Zmf h hid hss hs
    simp only[mat]at hk
    split at hk
    ·rename_i x' hx'
     obtain⟨rfl,hwc⟩:=h.valV p2 hx'
     simp only[BV,Xab]at hk
     obtain⟨y,hy,hk⟩:=hk
     simp only[evp]at hy
     unfold Z5p at hy
     split at hy
     ·rename_i hle
      cases hy
      obtain⟨cs,q1,q2,q3⟩:=Ztk h h (.refl S) (ys:=List.replicate n z0) hid hss hs p2 hwc hle (by simp) r3 (by rw[r1];exact r2)
      rw[r1]at q3
      refine⟨_,ι,(s.setOb id cs off (List.replicate n z0)).put d Nil false,hk, ?_,q3.put d (y:= .at .nil) rfl⟩
      rw[Z40,e1]
      simp only[St.clrOb,q1]
      rw[if_pos ⟨q2,hpos',(Zil hb.2).2.2⟩]
      rfl
     ·cases hy
    ·cases hk
   ·cases hk
  ·cases hk
 ·cases hk
theorem Zu8 (xs:List V):nfL (xs.flatMap V.cells)=(nfL xs).flatMap V.cells:=by
 induction xs with
 |nil=>rfl
 |cons x r ih=>simp only[Xbp,Zby,nfL,ih,Zbv]
theorem Z5f (h:Sat κ S ι s){n:Nat}{x:Opd}(hk:op1 (BV Γ f) ow d (.s2a n x) S k=some r):Res1 κ GA gl d (.s2a n x) g a s k r:=by
 simp only[op1]at hk
 obtain⟨ys,S1,h1,h2,h3,h4,h5⟩:=h.matL hk
 simp only[BV,Xab]at h1
 obtain⟨z,hz,h1⟩:=h1
 subst h4
 simp only[Xaq,Xbg,nfL,evp,Zyn]at hz
 simp only[Xaq,Xbg,nfL,Zac,Xch]at h5
 split at hz
 ·rename_i b xs e
  obtain⟨_,nl,rs,e3,rfl,hn⟩:=Zgv e
  split at hz
  ·rename_i hc
   cases hz
   rw[Zap,Zik]at hc
   have hne:rs≠ []:=fun e=>hc.2.1 (by rw[e];rfl)
   have hnl:nl=false:=by cases nl;rfl;exact absurd (hn rfl) hne
   subst hnl
   rw[e]at h5
   have hcl:(V.agg ((nfL rs).flatMap V.cells)).clean=true:=by
    show Zac _=true
    refine Zal.2 fun v hv=> ?_
    obtain⟨w,hw,hv⟩:=Xce.1 hv
    exact Zal.1 (clean_cells (Zal.1 (show Zac (nfL rs)=true from h5) w hw)) v hv
   refine⟨_,ι,s.put d (.el (rs.flatMap V.cells) 0) false,h1,by rw[Z9v,e3];simp[vS2a,hc.1,hne,hc.2.2],(h2.push hcl).put d (y:= .at (.el S1.nx 0)) ⟨_,Zar _ _, ?_⟩⟩
   show V.el (nfL (rs.flatMap V.cells)) 0=_
   rw[Zu8];rfl
  ·cases hz
 ·cases hz
theorem Z4b (h:Sat κ S ι s){cs:List V}(hk:op1 (BV Γ f) ow d (.new cs) S k=some r):Res1 κ GA gl d (.new cs) g a s k r:=by
 simp only[op1]at hk
 split at hk
 ·rename_i ss hss
  obtain⟨h1,h2⟩:=h.newOb (Zmr (ι:=ι) (vs:=S.vals) (ow':=fun _=>false) (j:=0) hss).1
  exact⟨_,ι++ [s.nH],_,hk,Z9f cs,h1.put d (y:= .at (.ptr S.ob.length 0)) (v:= .ptr s.nH 0) (o:=false) ⟨s.nH,h2,rfl⟩⟩
 ·cases hk
theorem Z6c (h:Sat κ S ι s){x:Opd}(hk:op1 (BV Γ f) ow d (.box x) S k=some r):Res1 κ GA gl d (.box x) g a s k r:=by
 simp only[op1]at hk
 split at hk
 ·rename_i ss z hx
  obtain⟨⟨cs,e1,h1⟩,_⟩:=h.opd hx
  obtain⟨h2,h3⟩:=h.newOb (h1.noOwn (fun _=>false) 0 0)
  exact⟨_,ι++ [s.nH],_,hk,by rw[Z12,e1,Zww,if_pos h1.all_sc],h2.put d (y:= .at (.ptr S.ob.length 0)) (v:= .ptr s.nH 0) (o:=false) ⟨s.nH,h3,rfl⟩⟩
 ·cases hk
 ·rename_i a' hx
  have ha:=h.opd hx
  split at hk
  ·rename_i ho
   have hsc:=AtS.one ha ho
   have hseg:SegsS ι S.vals [.one a'.noOwn] (evO s.tm x).cells (fun _=>false) 0:=by rw[Zla hsc];exact⟨_,[],rfl,AtS.noOwn ha _,hsc,rfl⟩
   obtain⟨h2,h3⟩:=h.newOb hseg
   exact⟨_,ι++ [s.nH],_,hk,by rw[Z12,if_pos hseg.all_sc],h2.put d (y:= .at (.ptr S.ob.length 0)) (v:= .ptr s.nH 0) (o:=false) ⟨s.nH,h3,rfl⟩⟩
  ·obtain⟨S1,h1,h2,h3,h4⟩:=h.mat ha hk
   simp only[BV,Xab]at h1
   obtain⟨z,hz,h1⟩:=h1
   simp only[evp]at hz
   split at hz
   ·rename_i hsc
    cases hz
    rw[Zbv,Zfd]at hsc
    have h5:=h2.push h4
    have hseg:SegsS ι (S1.push (evO s.tm x).nf).vals [.many none (.n S1.nx false false)] (evO s.tm x).cells (fun _=>false) 0:=⟨_,[],(evO s.tm x).nf,by simp,fun m hm=>by(cases hm),fun _=>rfl,hsc,Zar _ _,by rw[Zbv],rfl⟩
    obtain⟨h6,h7⟩:=h5.newOb hseg
    have hob:(S1.push (evO s.tm x).nf).ob.length=S.ob.length:=by show S1.ob.length=_;rw[h3.ob]
    rw[hob]at h7
    exact⟨_,ι++ [s.nH],_,h1,by rw[Z12,if_pos hsc],h6.put d (y:= .at (.ptr S.ob.length 0)) (v:= .ptr s.nH 0) (o:=false) ⟨s.nH,h7,rfl⟩⟩
   ·cases hz
 ·cases hk
theorem Zih {q:KK}{a b:V}{p:Bool}(h:Zd4 q a.nf b.nf=some p):Zd4 q a b=some p:=by
 obtain⟨f,ks⟩:=q
 cases f with
 |true=>
  cases ha:a.nf<;>rw[ha]at h<;>simp only[Zd4,reduceCtorEq]at h
  cases hb:b.nf<;>rw[hb]at h<;>simp only[Zd4,reduceCtorEq]at h
  obtain⟨xs,rfl,rfl⟩:=Zki ha
  obtain⟨ys,rfl,rfl⟩:=Zki hb
  exact Zg5 h
 |false=>
  have key:∀x y:V,Zd4 (false,ks) x y=if x.sc=true/\y.sc=true then Zaw ks [x] [y]else none:=fun x y=>by cases x<;>cases y<;>rfl
  rw[key]at h⊢
  rw[Zo3,Zo3]at h
  split at h
  ·rename_i hc
   rw[if_pos hc]
   exact Zg5 (a:=[a]) (b:=[b]) h
  ·cases h
def nfP (p:V×V):V×V:=(p.1.nf,p.2.nf)
theorem Znn (l:List (V×V)):(mpV l).nf=mpV (l.map nfP):=by
 simp only[mpV,V.nf]
 congr 2
 rw[Zce,Xdm,Xdm]
 rfl
theorem Zz3 :∀l:List (V×V),unM (l.map fun p=> .tup [p.1,p.2])=some l
 | []=>rfl
 |(k,v)::r=>by simp only[Xaq,unM,Zz3 r,Xas]
theorem Zmb (l:List (V×V)):unMp (mpV l)=some l:=Zz3 l
theorem Zry {q:KK}{k:V}:∀{l:List (V×V)} {r:Option V},Zfv q k.nf (l.map nfP)=some r-> ∃r0,Zfv q k l=some r0/\r=r0.map V.nf
 | [],r,h=>by simp only[Xbg,Zfv,Xac]at h;subst h;exact⟨none,rfl,rfl⟩
 |p::l,r,h=>by
  simp only[Xaq,Zfv,Xab]at h
  obtain⟨b,hb,h⟩:=h
  have hb':=Zih (a:=k) (b:=p.1) hb
  cases b with
  |true=>
   simp only[if_true,Xac]at h
   exact⟨some p.2,by simp[Zfv,hb'],h.symm⟩
  |false=>
   simp only[Xat,if_false]at h
   obtain⟨r0,h1,h2⟩:=Zry h
   exact⟨r0,by simp[Zfv,hb',h1],h2⟩
theorem Zun {q:KK}{k x:V}:∀{l l':List (V×V)},mPut q k.nf x.nf (l.map nfP)=some l'-> ∃l0,mPut q k x l=some l0/\l'=l0.map nfP
 | [],l',h=>by simp only[Xbg,mPut,Xac]at h;subst h;exact⟨[(k,x)],rfl,rfl⟩
 |p::l,l',h=>by
  simp only[Xaq,mPut,Xab]at h
  obtain⟨b,hb,h⟩:=h
  have hb':=Zih (a:=k) (b:=p.1) hb
  cases b with
  |true=>
   simp only[if_true,Xac]at h
   subst h
   exact⟨(k,x)::l,by simp[mPut,hb'],rfl⟩
  |false=>
   simp only[Xat,if_false,Xaa]at h
   obtain⟨l1,h,rfl⟩:=h
   obtain⟨l0,h1,h2⟩:=Zun h
   exact⟨p::l0,by simp[mPut,hb',h1],by rw[h2];rfl⟩
def Zrh (l:List (V×V)):Prop:=∀p∈l,p.1.clean=true/\p.2.clean=true
theorem Zin {l:List (V×V)}:(mpV l).clean=true<->Zrh l:=by
 simp only[mpV,V.clean,Zal,Xa9]
 constructor
 ·intro h p hp
  have:=h _ ⟨p,hp,rfl⟩
  simp only[V.clean,Zac,Xch,Xai]at this
  exact this
 ·rintro h v ⟨p,hp,rfl⟩
  simp only[V.clean,Zac,Xch,Xai]
  exact h p hp
theorem Zjx {q:KK}{k:V}:∀{l:List (V×V)} {r:Option V},Zfv q k l=some r->Zrh l-> ∀v,r=some v->v.clean=true
 | [],r,h,_,v,hv=>by simp only[Zfv,Xac]at h;subst h;cases hv
 |p::l,r,h,hc,v,hv=>by
  simp only[Zfv,Xab]at h
  obtain⟨b,_,h⟩:=h
  cases b with
  |true=>
   simp only[if_true,Xac]at h
   subst h;cases hv
   exact(hc p (by simp)).2
  |false=>
   simp only[Xat,if_false]at h
   exact Zjx h (fun p hp=>hc p (Xbk _ hp)) v hv
theorem Zks {q:KK}{k x:V}(hk:k.clean=true)(hx:x.clean=true):∀{l l':List (V×V)},mPut q k x l=some l'->Zrh l->Zrh l'
 | [],l',h,_=>by
  simp only[mPut,Xac]at h;subst h
  intro p hp
  rw[Xa1.1 hp];exact⟨hk,hx⟩
 |p::l,l',h,hc=>by
  simp only[mPut,Xab]at h
  obtain⟨b,_,h⟩:=h
  cases b with
  |true=>
   simp only[if_true,Xac]at h
   subst h
   intro p' hp'
   rcases Xa0.1 hp' with rfl|hp'
   ·exact⟨hk,hx⟩
   ·exact hc p' (Xbk _ hp')
  |false=>
   simp only[Xat,if_false,Xaa]at h
   obtain⟨l1,h,rfl⟩:=h
   intro p' hp'
   rcases Xa0.1 hp' with rfl|hp'
   ·exact hc _ (by simp)
   ·exact Zks hk hx h (fun p hp=>hc p (Xbk _ hp)) p' hp'
theorem Zup {v:V}(h:v.nf= .nilmap):v= .nilmap:=by
 cases v<;>simp_all[V.nf]
 all_goals (rename_i nl sz xs;cases nl<;>cases xs<;>simp[V.nf]at h)
theorem Ztq (h:Sat κ S ι s){m:Opd}{M:V}(hm:mapV (BV Γ f) S (S.opd m)=some M):∃l,Zjh s.H (evO s.tm m)=some l/\M=(mpV l).nf/\M.clean=true:=by
 unfold mapV at hm
 split at hm
 ·rename_i o ho
  simp only[Xab]at hm
  obtain⟨i,hi,hm⟩:=hm
  obtain⟨id,l,h1,h2,h3⟩:=h.mpo hi
  obtain⟨id',h4,h5⟩:=h.opd ho
  rw[h1]at h4;cases h4
  rw[hm]at h3;cases h3
  exact⟨l,by rw[h5];exact h2,rfl,h.cln _ (Xam hm)⟩
 ·rename_i w ho
  cases hm
  have h1:=h.opd ho
  exact⟨[],by rw[Zup h1.1];rfl,rfl,rfl⟩
 ·cases hm
theorem Z8x :exec1 GA gl ⟨d, .nmp,g,a⟩ s=some (s.newMp.put d (.map s.nH) false):=rfl
theorem Z7x (q:KK)(z:V)(ok:Bool)(m k:Opd):exec1 GA gl ⟨d, .mlk q z ok m k,g,a⟩ s=putV s d (vMlk s.H q z ok (evO s.tm m) (evO s.tm k)):=Za2 _
theorem Z8t (m:Opd):exec1 GA gl ⟨d, .mln m,g,a⟩ s=putV s d (vMln s.H (evO s.tm m)):=Za2 _
theorem Z9h (q:KK)(m k x:Opd):exec1 GA gl ⟨d, .mup q m k x,g,a⟩ s=(s.upMp q (evO s.tm m) (evO s.tm k) (evO s.tm x)).map fun s=>s.put d Nil false:=rfl
theorem Z3e (h:Sat κ S ι s)(hk:op1 (BV Γ f) ow d .nmp S k=some r):Res1 κ GA gl d .nmp g a s k r:=by
 simp only[op1]at hk
 have h1:=h.push (x:=mpV []) rfl
 have h2:=h1.newObS (s':=s.newMp) (ss:=[.one (.mpc S.nx)]) rfl (fun _=>rfl) rfl (fun id' hne=>⟨by simp only[St.newMp,upd,if_neg hne],fun j=>by simp only[St.newMp,if_neg hne]⟩)
  (.mp [] (by simp[hMap,St.newMp,upd]) (Zar S _))
 exact⟨_,_,_,hk,Z8x,h2.1.put d (v:= .map s.nH) (o:=false) ⟨s.nH,h2.2,rfl⟩⟩
theorem Z32 (h:Sat κ S ι s){q:KK}{z:V}{ok:Bool}{m x:Opd}(hk:op1 (BV Γ f) ow d (.mlk q z ok m x) S k=some r):Res1 κ GA gl d (.mlk q z ok m x) g a s k r:=by
 simp only[op1]at hk
 split at hk
 ·rename_i M hM hz
  obtain⟨l,hl,rfl,hc⟩:=Ztq h hM
  cases hx:S.opd x with
  |none=>rw[hx]at hk;simp[mat,BV]at hk
  |some y=>
   rw[hx]at hk
   obtain⟨S1,h1,h2,h3,h4⟩:=h.mat (h.opd hx) hk
   simp only[doX,BV,Xab]at h1
   obtain⟨w,hw,h1⟩:=h1
   rw[Znn]at hw hc
   simp only[evp,Zxe,Zmb,Xak]at hw
   split at hw
   ·rename_i hkk
    simp only[Xab]at hw
    obtain⟨r1,hr1,hw⟩:=hw
    obtain⟨r0,hr0,rfl⟩:=Zry hr1
    have hcl:=Zjx hr1 (Zin.1 hc)
    have hg:(r0.map V.nf).getD z.nf=(r0.getD z).nf:=by cases r0<;>rfl
    have hgc:((r0.map V.nf).getD z.nf).clean=true:=by
     cases r0 with
     |none=>exact hz
     |some v=>exact hcl _ rfl
    rw[hg]at hw hgc
    have hex:vMlk s.H q z ok (evO s.tm m) (evO s.tm x)=some (if ok then .tup [r0.getD z, .bool r0.isSome]else r0.getD z):=by
     simp only[vMlk,hl,Xak,if_pos (Zih hkk),hr0,Xas]
    have hsome:(r0.map V.nf).isSome=r0.isSome:=by cases r0<;>rfl
    have key:(if ok=true then V.tup [r0.getD z, .bool r0.isSome]else r0.getD z).nf=w/\w.clean=true/\(Prim.one (.mlk q z.nf ok)=true->(if ok=true then V.tup [r0.getD z, .bool r0.isSome]else r0.getD z).sc=true):=by
     cases ok with
     |true=>
      simp only[if_true,Xac,hsome]at hw⊢
      subst hw
      refine⟨rfl, ?_,fun h=>by simp[Prim.one]at h⟩
      simp only[V.clean,Zac,hgc,Xcc]
     |false=>
      simp only[Xat,if_false]at hw⊢
      split at hw
      ·cases hw
      ·rename_i hns
       cases hw
       refine⟨rfl,hgc,fun h=> ?_⟩
       simp only[Prim.one,Bool.not_false,Xe0]at h
       cases hs:(r0.getD z).sc with
       |true=>rfl
       |false=>exact absurd ⟨h,by rw[Zo3];exact hs⟩ hns
    exact⟨_,ι,_,h1,by rw[Z7x,hex];rfl,h2.putN key.1 key.2.1 (fun h=>nomatch h) key.2.2⟩
   ·cases hw
 ·cases hk
theorem Z5n (h:Sat κ S ι s){m:Opd}(hk:op1 (BV Γ f) ow d (.mln m) S k=some r):Res1 κ GA gl d (.mln m) g a s k r:=by
 simp only[op1]at hk
 split at hk
 ·rename_i M hM
  obtain⟨l,hl,rfl,hc⟩:=Ztq h hM
  simp only[doX,BV,Xab]at hk
  obtain⟨w,hw,h1⟩:=hk
  rw[Znn]at hw
  simp only[evp,Zxa,Zmb,Xas,Xcf,Xac]at hw
  subst hw
  exact⟨_,ι,s.put d (.int .i64 l.length) false,h1,by rw[Z8t];simp only[vMln,hl];rfl,h.putN rfl rfl (fun h=>nomatch h) (fun _=>rfl)⟩
 ·cases hk
theorem Z3c (h:Sat κ S ι s){q:KK}{m x y:Opd}(hk:op1 (BV Γ f) ow d (.mup q m x y) S k=some r):Res1 κ GA gl d (.mup q m x y) g a s k r:=by
 simp only[op1]at hk
 split at hk
 ·rename_i o ho
  split at hk
  ·rename_i M hM
   have hM0:=hM
   rw[ho]at hM
   unfold mapV at hM
   simp only[Xab]at hM
   obtain⟨i,hi,hM⟩:=hM
   obtain⟨id,l,g1,g2,g3⟩:=h.mpo hi
   obtain⟨id',g4,g5⟩:=h.opd ho
   rw[g1]at g4;cases g4
   rw[hM]at g3;cases g3
   have hc:=h.cln _ (Xam hM)
   obtain⟨ys,S1,h1,h2,h3,h4,h5⟩:=h.matL hk
   simp only[Xaq,Xbg,nfL]at h4
   subst h4
   simp only[BV,Xab]at h1
   obtain⟨w,hw,h1⟩:=h1
   simp only[Zac,Xch,Xai]at h5
   rw[Znn]at hw hc
   simp only[evp,Zyv,Zmb,Xak]at hw
   split at hw
   ·rename_i hkk
    simp only[Xaa]at hw
    obtain⟨l1,hl1,rfl⟩:=hw
    obtain⟨l0,hl0,rfl⟩:=Zun hl1
    have hcl:=Zks h5.1 h5.2 hl1 (Zin.1 hc)
    rw[<-Znn]at h1
    have hcl2:(mpV l0).nf.clean=true:=by rw[Znn];exact Zin.2 hcl
    have hu:s.upMp q (evO s.tm m) (evO s.tm x) (evO s.tm y)=some (s.setMp id l0):=by
     rw[g5]
     simp only[St.upMp,g2,Xak,if_pos (Zih hkk),hl0,Xas]
    have hid:ι[o]? =some id:=g1
    have h6:=(h2.push hcl2).objUpdS (o:=o) (s':=s.setMp id l0) (ss:=[.one (.mpc S1.nx)]) hid rfl (fun _=>rfl) rfl (fun id' hne=>⟨by simp only[St.setMp,upd,if_neg hne],fun j=>by simp only[St.setMp,if_neg hne]⟩)
     (.mp l0 (by simp[hMap,St.setMp,upd]) (Zar S1 _))
    exact⟨_,ι,_,h1,by rw[Z9h,hu];rfl,h6.put d (y:= .at .nil) (v:=Nil) (o:=false) rfl⟩
   ·cases hw
  ·cases hk
 ·cases hk
theorem Zy3 (h:Sat κ S ι s)(hΓ:GamOK GA gl Γ ow){op:AOp}(hk:op1 (BV Γ f) ow d op S k=some r):Res1 κ GA gl d op g a s k r:=by
 cases op with
 |mv x=>exact Z75 h hk
 |mvo t=>exact Z28 h hk
 |pick c x y=>exact Z1m h hk
 |un op x=>exact Z9y h hk
 |bin op q x y=>exact Z4r h hk
 |len sb x=>exact Z5x h hk
 |iaddr sz x i=>exact Zyc h hk
 |iarr n sz x i=>exact Z1v h hk
 |faddr off x=>exact Zw4 h hk
 |load n x=>exact Z1w h hΓ hk
 |ldp n x=>exact Z3k h hΓ hk
 |ldo x=>exact Z47 h hk
 |fld n off x=>exact Z4p h hk
 |slca n sz x lo hi mx=>exact Z1i h hk
 |slc sz x lo hi mx=>exact Z4h h hk
 |nro sz=>exact Z4m h hk
 |mko sz z l c=>exact Z50 h hk
 |appo sz x y=>exact Z13 h hk
 |cpy x y=>exact Z37 h hk
 |clr z x=>exact Z45 h hk
 |build z ps=>exact Zwx h hk
 |app sz x y=>exact Z6a h hk
 |b2s x=>exact Z38 h hk
 |s2a n x=>exact Z5f h hk
 |nilck x=>exact Zxx h hk
 |call f' xs=>exact Z1p h hΓ hk
 |callh f' xs=>exact Zxv h hΓ hk
 |callvh x xs=>exact Zwj h hΓ hk
 |new cs=>exact Z4b h hk
 |box x=>exact Z6c h hk
 |store n x y=>exact Zxq h hk
 |sto x t=>exact Z55 h hk
 |ext t i=>exact Z30 h hk
 |callv x xs=>cases hk
 |mnx m x y=>exact Zbd h rfl hk
 |idx x i=>exact Zbd h rfl hk
 |idxa l sz n x i=>exact Zbd h rfl hk
 |sls x lo hi=>exact Zbd h rfl hk
 |bsl sz xs=>exact Zbd h rfl hk
 |mks sz z l c=>
  cases hp:Zi7 (.mks sz z l c)with
  |none=>
   have hk':(match Zi7 (.mks sz z l c)with|some (p,os,own)=>doP (BV Γ f) S p os d own k|none=>(BV Γ f).fail)=some r:=hk
   rw[hp]at hk';cases hk'
  |some q=>
   obtain⟨p,os,own⟩:=q
   have hk':(match Zi7 (.mks sz z l c)with|some (p,os,own)=>doP (BV Γ f) S p os d own k|none=>(BV Γ f).fail)=some r:=hk
   rw[hp]at hk'
   exact Zbd h hp hk'
 |s2b x=>exact Zbd h rfl hk
 |i2i kd x=>exact Zbd h rfl hk
 |s2s x=>exact Zbd h rfl hk
 |mkf f' xs=>exact Z51 h hk
 |mkm f' xs=>exact Z6f h hk
 |nmp=>exact Z3e h hk
 |mlk q z ok x y=>exact Z32 h hk
 |mup q x y z=>exact Z3c h hk
 |mln x=>exact Z5n h hk
end Go.Abs
