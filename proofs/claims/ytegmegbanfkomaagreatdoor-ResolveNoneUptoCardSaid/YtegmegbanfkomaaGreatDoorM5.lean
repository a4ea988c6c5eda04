/-
  Parts of the proof, one behind the other. Own work of this seat; some printed by its programs.
-/
import Derived.Test.YtegmegbanfkomaaGreatDoorM2
import Derived.Test.YtegmegbanfkomaaGreatDoorM4
import Derived.Test.YtegmegbanfkomaaGreatDoorM3
import Derived.Test.YtegmegbanfkomaaGreatDoorCards
import Derived.Test.YtegmegbanfkomaaGreatDoorTie
import Derived.ProofKit
import Derived.OpenShut
import Derived.Deep.DeepHandedRow
import Derived.Lib.LaidTab
namespace Go.Abs
variable {P:Program}{tabs:List FE}{ow:Cfg}
structure Ent (P:Program)(tabs:List FE)(ow:Cfg) where
 f:Nat
 l:Nat
 g:Gam->List V->Option V
 ok:∀(e:Nat->List V->Option V) (Γ:Gam) (xs:List V) (r:V),g Γ xs=some r->Go.Abs.step P tabs e ow Γ f l xs=some r
def Fv :Nat->Type
 |0=>Option V
 |n+1=>V->Fv n
def apv :(n:Nat)->Fv n->List V->Option V
 |0,a,[]=>a
 |n+1,a,x::r=>apv n (a x) r
 |_,_,_=>none
def Isv :(n:Nat)->Fv n->(List V->Option V)->Prop
 |0,a,F=>F []=a
 |n+1,a,F=> ∀x,Isv n (a x) fun r=>F (x::r)
theorem Zz7 :∀{n:Nat} {a:Fv n} {F:List V->Option V} {xs:List V} {r:V},Isv n a F->apv n a xs=some r->F xs=some r
 |0,a,F,[],r,h,hr=>by rw[show F []=a from h];exact hr
 |0,a,F,_::_,r,h,hr=>by cases hr
 |n+1,a,F,[],r,h,hr=>by cases hr
 |n+1,a,F,x::xs,r,h,hr=>Zz7 (F:=fun r=>F (x::r)) (h x) hr
def Ent.of (n f l:Nat)(a:Gam->Fv n)(h:∀e Γ,Isv n (a Γ) (Go.Abs.step P tabs e ow Γ f l)):Ent P tabs ow:=
 ⟨f,l,fun Γ=>apv n (a Γ),fun e Γ _ _ hr=>Zz7 (h e Γ) hr⟩
def look (f l:Nat):List (Ent P tabs ow)->Option (Ent P tabs ow)
 | []=>none
 |q::r=>match Nat.beq q.f f&&Nat.beq q.l l with|true=>some q|false=>look f l r
theorem Zun {f l:Nat}:∀{T:List (Ent P tabs ow)} {q:Ent P tabs ow},look f l T=some q->q.f=f/\q.l=l
 | [],_,h=>by cases h
 |p::r,q,h=>by
  unfold look at h
  split at h
  ·cases h
   simp_all
  ·exact Zun h
noncomputable def runY (T:List (Ent P tabs ow))(e0:Nat->List V->Option V):Nat->Gam
 |0=>fun _ _ _=>none
 |n+1=>fun f l xs=>match look f l T with
  |some q=>q.g (runY T e0 n) xs
  |none=>match l with
   |0=>match e0 f xs with|some r=>some r|none=>Go.Abs.step P tabs (fun _ _=>none) ow (runY T e0 n) f 0 xs
   |l+1=>Go.Abs.step P tabs (fun _ _=>none) ow (runY T e0 n) f (l+1) xs
theorem Zvu {e:Nat->List V->Option V}{Γ:Gam}{f l:Nat}{xs:List V}{r:V}(h:Go.Abs.step P tabs (fun _ _=>none) ow Γ f l xs=some r):Go.Abs.step P tabs e ow Γ f l xs=some r:=by
 unfold Go.Abs.step at h⊢
 split at h
 ·exact h
 ·split at h<;>cases h
theorem Zvg {T:List (Ent P tabs ow)}{e0 e:Nat->List V->Option V}(h0:∀f xs r,e0 f xs=some r->val P tabs e ow f 0 xs=some r):∀n,Le (runY T e0 n) (val P tabs e ow)
 |0=>fun _ _ _ _ h=>by cases h
 |n+1=>fun f l xs r h=>by
  have go:∀{l},Go.Abs.step P tabs (fun _ _=>none) ow (runY T e0 n) f l xs=some r->val P tabs e ow f l xs=some r:=fun h=>by
   rw[Zll]
   exact Zgp (Zvg h0 n) _ _ _ _ (Zvu h)
  unfold runY at h
  split at h
  ·rename_i q hq
   obtain⟨rfl,rfl⟩:=Zun hq
   rw[Zll]
   exact Zgp (Zvg h0 n) _ _ _ _ (q.ok e _ xs r h)
  ·split at h
   ·split at h
    ·cases h;exact h0 _ _ _ (by assumption)
    ·exact go h
   ·exact go h
theorem Zm7 {T:List (Ent P tabs ow)}{e0 e:Nat->List V->Option V}(h0:∀f xs r,e0 f xs=some r->val P tabs e ow f 0 xs=some r)(n:Nat){f l:Nat}{xs:List V}{r:V}(h:runY T e0 n f l xs=some r):val P tabs e ow f l xs=some r:=Zvg h0 n f l xs r h
end Go.Abs
namespace Go.Proofs.YtegmegbanfkomaaGreatDoor
open Go.Abs
set_option maxRecDepth 20000
variable {e:Ev}
def dA :Bytes:=[109,111,100,117,108,101,32,97]
def xF :Bytes:=[120,47,102,46,103,111]
def S18 :List Fi:=[(goMod,dA),(xF,[])]
def nA :Bytes:=Zas Za6 dA
def n0 :Bytes:=Zas Za6 []
def tX :Bytes:=Zbb [⟨[102,46,103,111],false,n0⟩]
def idX :Bytes:=Zas Zbm tX
def tR :Bytes:=Zbb [⟨goMod,false,nA⟩,⟨[120],true,idX⟩]
theorem Qal :nA≠n0:=by decide+kernel
theorem Qbe :idX≠Zas Zbm tR:=by decide+kernel
theorem en1 :EnOK [⟨[102,46,103,111],false,n0⟩] where
 nm:=fun x hx=>by simp only[Xax]at hx;subst hx;exact⟨by decide,by decide⟩
 id:=fun x hx=>by simp only[Xax]at hx;subst hx;exact Zah _ _
 up:=by simp
 len:=by simp
theorem en2 :EnOK [⟨goMod,false,nA⟩,⟨[120],true,idX⟩] where
 nm:=fun x hx=>by simp only[Xau,Xcc,or_false]at hx;rcases hx with rfl|rfl<;>exact⟨by decide,by decide⟩
 id:=fun x hx=>by simp only[Xau,Xcc,or_false]at hx;rcases hx with rfl|rfl<;>exact Zah _ _
 up:=by simp;decide
 len:=by simp
theorem tr18 :Tr S18 [] 0 S18.length [] (Zas Zbm tR) [(nA,dA),(n0,[])] [(idX,tX),(Zas Zbm tR,tR)]:=by
 refine .blob (x:=goMod) (by decide) rfl ?_
 refine Tr.dir (k:=1) (x:=[120]) (id1:=idX) (p1:=[(n0,[])]) (q1:=[]) (p2:=[(idX,tX)]) (q2:=[(Zas Zbm tR,tR)]) (by decide) (by decide) (fun i h1 h2=> ?_) (fun h=>absurd h (by decide)) ?_ ?_
 ·obtain rfl:i=1:=by omega
  exact⟨[[102,46,103,111]],by simp,rfl⟩
 ·exact .blob (x:=[102,46,103,111]) (by decide) rfl (.done en1)
 ·exact .done en2
theorem so18 :SoOK S18 where
 good:=by decide
 data:=by decide
 len:=by decide
 up:=fun i j h1 h2=>by
  have:i=0/\j=1:=by simp only[S18,Xaq,Xa0]at h2;omega
  obtain⟨rfl,rfl⟩:=this
  decide
 free:=fun i j h1 h2 hne R h=>by
  have:(i=0/\j=1) \/(i=1/\j=0):=by simp only[S18,Xaq,Xa0]at h1 h2;omega
  rcases this with⟨rfl,rfl⟩|⟨rfl,rfl⟩
  ·have e1:pS S18 0=[goMod]:=rfl
   have e2:pS S18 1=[[120],[102,46,103,111]]:=rfl
   rw[e1,e2]at h
   have:=congrArg List.length h
   simp at this
  ·have e1:pS S18 0=[goMod]:=rfl
   have e2:pS S18 1=[[120],[102,46,103,111]]:=rfl
   rw[e1,e2]at h
   simp only[Xbk,Xbw]at h
   exact absurd h.1 (by decide)
theorem Qbn :whyB S18=0:=by
 have h:∀i,i<S18.length->okI S18 i:=fun i hi=>by
  have:i=0 \/i=1:=by simp only[S18,Xaq,Xa0]at hi;omega
  rcases this with rfl|rfl
  ·refine⟨by decide,fun k hk hne=> ?_⟩
   obtain rfl:k=1:=by simp only[S18,Xaq,Xa0]at hk;omega
   decide
  ·refine⟨by decide,fun k hk hne=> ?_⟩
   obtain rfl:k=0:=by simp only[S18,Xaq,Xa0]at hk;omega
   decide
 unfold whyB
 rw[if_neg (by decide),if_pos h,if_pos (by decide)]
theorem Zrm {a b x z:Bytes}(h:a≠b):Cons [(a,x),(b,z)]:=fun p hp q hq hh=>by
 simp only[Xau,Xcc,or_false]at hp hq
 rcases hp with rfl|rfl<;>rcases hq with rfl|rfl
 ·rfl
 ·exact absurd hh h
 ·exact absurd hh.symm h
 ·rfl
theorem Z3t :Made S18 S18 (Zas Zbm tR) [(nA,dA),(n0,[])] [(idX,tX),(Zas Zbm tR,tR)] where
 perm:= .refl _
 ok:=so18
 tr:=tr18
 c1:=Zrm Qal
 c2:=Zrm Qbe
 why:=Qbn
 len:=by decide
 sz:=by decide
def unS :List V->Option (List Bytes)
 | []=>some []
 | .str s::r=>(unS r).map (s:: ·)
 |_=>none
theorem Z0w :∀{l:List V} {r:List Bytes},unS l=some r->l=r.map .str
 | [],r,h=>by cases h;rfl
 |v::l,r,h=>by
  cases v<;>simp only[unS,reduceCtorEq,Xaa]at h
  obtain⟨q,h1,rfl⟩:=h
  rw[Z0w h1];rfl
def e18 :Nat->List V->Option V:=fun f xs=>match f,xs with
 |110,[.str s, .str [c]]=>if s.length<4000000000 then some (strs (Zac c s))else none
 |50,[.str s, .str [c]]=>if s.length<4000000000 then some (.bool (decide (c∈s)))else none
 |49,[.str s, .str c]=>if s.length<4000000000 then some (cutE (Lib.cut s c))else none
 |99,[.sl false 1 l, .str s]=>match unS l with
  |some l=>if l.length<=1000000000/\(Zey s l).length<=140737488355328 then some (.str (Zey s l))else none
  |none=>none
 |104,[.str s, .str c]=>if s.length<4000000000 then some (I (Lib.index s c))else none
 |154,[.str s, .fn 155 []]=>if s.length<4000000000 then some (strs (fldB Zfl s []))else none
 |250,[.str s, .str [34,39,96,92,40,41,44,61,62]]=>if s.length<4000000000 then some (.bool (s.any fun b=>chars9.contains b))else none
 |_,_=>none
theorem Zov (he:EnvM e)(f:Nat)(xs:List V)(r:V)(h:e18 f xs=some r):vl e f 0 xs=some r:=by
 unfold e18 at h
 split at h
 ·split at h
  ·cases h;exact v.split he.toEnvT _ _ (by omega)
  ·cases h
 ·split at h
  ·cases h;exact v.contains he.toEnvT _ _ (by omega)
  ·cases h
 ·split at h
  ·cases h;exact v.cut he _ _ (by omega)
  ·cases h
 ·split at h
  ·split at h
   ·rename_i hl hc
    cases h
    rw[Z0w hl];exact v.join he.toEnvT _ _ hc.1 hc.2
   ·cases h
  ·cases h
 ·split at h
  ·cases h;exact v.index he _ _ (by omega)
  ·cases h
 ·split at h
  ·cases h;exact v.fields he _ (by omega)
  ·cases h
 ·split at h
  ·cases h;exact Zd8 (by kernel_rfl) (he.cany _ (by omega) rfl)
  ·cases h
 ·cases h
abbrev mo18 :V:= .agg [.str [97],I 0, .sl false 2 [],I 0]
abbrev ms18 :SM:=[([],mo18)]
abbrev ds18 :SM:=[([120], .bool true)]
def pl18 (F:V)(d p:Bytes)(k:Int)(x:Bytes)(e:Ev):Prop:=vl e 10273 1 [.str d, .str p,F,mS ms18,mS ds18]=some (.tup [plV k x,F,mS ms18,mS ds18])
theorem Z9j (he:EnvM e)(F:V):pl18 F [] [97,47,120] 1 [120] e:=Zm7 (T:=[]) (Zov he) 100 (by kernel_rfl)
theorem Z9u (he:EnvM e)(F:V):pl18 F [120] [97,47,121] 5 [] e:=Zm7 (T:=[]) (Zov he) 100 (by kernel_rfl)
theorem Qa6 (he:EnvM e)(F:V):pl18 F [] [102,109,116] 2 [] e:=Zm7 (T:=[]) (Zov he) 100 (by kernel_rfl)
theorem Qap (he:EnvM e)(F:V):pl18 F [] [98,46,99,111,109,47,122] 4 [] e:=Zm7 (T:=[]) (Zov he) 100 (by kernel_rfl)
theorem Z3q (he:EnvM e):vl e 58 0 [.str dA]=some mo18:=Zm7 (T:=[]) (Zov he) 100 (by kernel_rfl)
theorem v.alive18 (he:EnvM e):vl e 12 0 []=some (.bool true):=by
 have hp:∀f∈S18,Zbc f.1=goMod->vl e 58 0 [.str f.2]=some mo18:=fun f hf hb=>by
  simp only[S18,Xau,Xcc,or_false]at hf
  rcases hf with rfl|rfl
  ·exact Z3q he
  ·exact absurd hb (by decide)
 have h1:=v.made18 he.toEnvT Z3t (by decide) (fun _=>mo18) hp
 rw[show Zha (fun _=>mo18) S18 []=ms18 from rfl,show Zhw S18 []=ds18 from rfl]at h1
 have a:=Z9j he (inpV (outs S18 0 S18.length))
 have b:=Z9u he (inpV (outs S18 0 S18.length))
 have c:=Qa6 he (inpV (outs S18 0 S18.length))
 have d:=Qap he (inpV (outs S18 0 S18.length))
 unfold pl18 at a b c d
 have f1:evp (.cat [none,none]) [.str [103,111,46,109,111,100], .str [109,111,100,117,108,101,32,97]]=some (fv (goMod,dA)):=rfl
 have f2:evp (.cat [none,none]) [.str [120,47,102,46,103,111], .str []]=some (fv (xF,[])):=rfl
 have f3:evp (.cat [none]) [.str [120,47,102,46,103,111]]=some (.agg [.str xF]):=rfl
 have f4:evp (.bsl 2) [fv (goMod,dA),fv (xF,[])]=some (Zad S18):=rfl
 have q1:evp (.bin .eql (.flat [(some .i64,true),(none,true)])) [plV 1 [120],plV 1 [120]]=some (.bool true):=rfl
 have q2:∀k:Int,evp (.bin .eql (.flat [(some .i64,true),(none,true)])) [plV k [],plV k []]=some (.bool true):=fun k=>by
  show some (V.bool _)=_
  simp
 rw[w0 s.zq60];unfold y.zq60
 simp only[yy,f1,f2,f3,f4,h1,Int.one_ne_zero,if_false,a,b,c,d,cat1,cat2,q1,q2]
theorem q.resolveNone' (he:EnvM e)(a:List Fi)(ha:a.length<=1000000000/\ ∀f∈a,f.1.length<=1000000000/\f.2.length<=1000000000)(d p:Bytes)(hd:d.length<=100000000)(hp:p.length<=100000000):
  vl e 4 0 [Zad a, .str d, .str p]=some (.bool true):=q.resolveNone he (v.alive18 he) a ha d p hd hp
end Go.Proofs.YtegmegbanfkomaaGreatDoor
namespace Go.Proofs.YtegmegbanfkomaaGreatDoor
open Go.Abs
structure T.File where
 Path:Bytes
 Data:Bytes
 deriving DecidableEq
def C.File (x:T.File):List V:=[(V.str x.Path)]++ [(V.str x.Data)]
def E.File (x:T.File):V:= .agg (C.File x)
theorem E.File_clean (x:T.File):(E.File x).clean=true:=(Zbj (Zen rfl rfl) (Zen rfl rfl))
def E.LFile (l:(List T.File)):V:= .sl false 2 (l.map E.File)
end Go.Proofs.YtegmegbanfkomaaGreatDoor
namespace Go.Proofs.YtegmegbanfkomaaGreatDoor
open Go.ChangeShapes Go.WideShapes Go.RowKit Go.Abs
theorem ownK :ownKnob Tryz.prog.godebug=none:=by kernel_rfl
theorem kids :Kids Tryz.prog (· <Tryz.prog.types.size):=kids_rows (by kernel_rfl) (by kernel_rfl)
theorem full :∀t e,t<Tryz.prog.types.size->Tryz.prog.underlying t=some (.slice e)->0<Tryz.prog.cellsOf e:=slices_full_of Tryz.prog (by kernel_rfl)
section
variable {P:Program}{m:Nat}{t e:TypeId}{vs:List V}
theorem Z7s (hu:P.underlying t=some .string)(h:HasT P (m+1) t vs):∃x:Bytes,nfL vs=[V.str x]:=by
 simp only[HasT,hu]at h
 obtain⟨b,rfl⟩:=h;exact⟨b,rfl⟩
theorem Qag {α:Type}{E:α->V}{c:Nat}(hu:P.underlying t=some (.slice e))(hc:P.cellsOf e=c)(he:∀ws,HasT P m e ws-> ∃x,(elV P e ws).nf=E x)(h:HasT P (m+1) t vs):∃l:List α,nfL vs=[V.sl false c (l.map E)]:=by
 simp only[HasT,hu,hc]at h
 rcases h with rfl|⟨xs,rfl,hx⟩
 ·exact⟨[],rfl⟩
 ·have:∃l:List α,nfL xs=l.map E:=by
   clear hc
   induction xs with
   |nil=>exact⟨[],rfl⟩
   |cons x r ih=>
    obtain⟨l,hl⟩:=ih fun y hy=>hx y (by simp[hy])
    obtain⟨ws,hw,rfl⟩:=hx x (by simp)
    obtain⟨a,ha⟩:=he ws hw
    exact⟨a::l,by rw[nfL,ha,hl];rfl⟩
  obtain⟨l,hl⟩:=this
  exact⟨l,by show [V.sl false c (nfL xs)]=_;rw[hl]⟩
theorem Z5y (ha:Zea P t=true){l:List V}(h:nfL vs=l):(elV P t vs).nf= .agg l:=by
 unfold elV;rw[if_pos ha];show V.agg (nfL vs)=_;rw[h]
theorem Zv8 (ha:Zea P t=false){v:V}(h:nfL vs=[v]):(elV P t vs).nf=v:=by
 unfold elV;rw[if_neg (by simp[ha])]
 cases vs with
 |nil=>cases h
 |cons x r=>rw[nfL]at h;exact(List.cons.inj h).1
theorem nfL_flat :∀{wss:List (List V)},nfL wss.flatten=(wss.map nfL).flatten
 | []=>rfl
 |w::r=>by rw[Xcq,Zby,nfL_flat];rfl
end
mutual
theorem Z73 :∀v:V,v.nf.wt<=v.wt
 | .agg cs=>by simp only[V.nf,V.wt];have:=Zxk cs;omega
 | .sl true sz []=>by simp[V.nf,V.wt]
 | .sl true _ (x::xs)=>by simp[V.nf,V.wt]
 | .sl false sz xs=>by simp only[V.nf,V.wt];have:=Zxk xs;omega
 | .el cs off=>by simp[V.nf,V.wt]
 | .tup cs=>by simp[V.nf,V.wt]
 | .fn f cs=>by simp[V.nf,V.wt]
 | .mfn f cs=>by simp[V.nf,V.wt]
 | .iface t v=>by simp[V.nf,V.wt]
 | .bool b=>Xaf _
 | .int k n=>Xaf _
 | .str s=>Xaf _
 | .osl a b c d e=>Xaf _
 | .gp g o=>Xaf _
 | .ptr i o=>Xaf _
 | .nilptr=>Xaf _
 | .map i=>Xaf _
 | .nilmap=>Xaf _
 | .nilfn=>Xaf _
 | .nilif=>Xaf _
theorem Zxk :∀l:List V,wtL (nfL l)<=wtL l
 | []=>Xaf _
 |v::r=>by simp only[nfL,wtL];have:=Z73 v;have:=Zxk r;omega
end
theorem Z22 {v w:V}{n:Nat}(h:v.nf=w)(hn:v.wt<=n):w.wt<=n:=by rw[<-h];exact Xbh (Z73 v) hn
theorem Qbl {α:Type}{E:α->V}{c:Nat}{l:List α}{n:Nat}(h:(V.sl false c (l.map E)).wt<=n):l.length<=n/\ ∀a∈l,(E a).wt<=n:=by
 simp only[V.wt]at h
 refine⟨by have:=Ztc (l.map E);simp at this;omega,fun a ha=> ?_⟩
 have:=Zxq (Xc1 (f:=E) ha)
 omega
theorem Zry {s:Bytes}{n:Nat}(h:(V.str s).wt<=n):s.length<=n:=by simp only[V.wt]at h;omega
theorem Zzw {cs:List V}{v:V}{n:Nat}(h:(V.agg cs).wt<=n)(hv:v∈cs):v.wt<=n:=by
 simp only[V.wt]at h
 have:=Zxq hv;omega
end Go.Proofs.YtegmegbanfkomaaGreatDoor
namespace Go.Proofs.YtegmegbanfkomaaGreatDoor
open Go.Abs
variable {e:Ev}
def fiOf (x:T.File):Fi:=(x.Path,x.Data)
theorem Zx9 (l:List T.File):E.LFile l=Zad (l.map fiOf):=by
 unfold E.LFile Zad
 rw[Xcs];rfl
theorem Zzb {l:List T.File}(h:(E.LFile l).wt<=1048576):(l.map fiOf).length<=1000000000/\ ∀f∈l.map fiOf,f.1.length<=1000000000/\f.2.length<=1000000000:=by
 obtain⟨h1,h2⟩:=Qbl (E:=E.File) h
 refine⟨by rw[Xb1];omega,fun f hf=> ?_⟩
 obtain⟨x,hx,rfl⟩:=Xa7.1 hf
 have h3:=h2 x hx
 have a1:=Zry (Zzw h3 (v:= .str x.Path) (by simp[C.File]))
 have a2:=Zry (Zzw h3 (v:= .str x.Data) (by simp[C.File]))
 exact⟨by show x.Path.length<=_;omega,by show x.Data.length<=_;omega⟩
theorem Zlq (he:EnvM e)(a:List T.File)(d p:Bytes)(ha:(E.LFile a).wt<=1048576)(hd:(V.str d).wt<=1048576)(hp:(V.str p).wt<=1048576):vl e 4 0 [E.LFile a, .str d, .str p]=some (.bool true):=by
 rw[Zx9]
 have a1:=Zry hd
 have a2:=Zry hp
 exact q.resolveNone' he _ (Zzb ha) d p (by omega) (by omega)
end Go.Proofs.YtegmegbanfkomaaGreatDoor
namespace Go.Proofs.YtegmegbanfkomaaGreatDoor
open Go.Abs Go.RowKit
def exts :List FC:=[K.strings_Split,K.strings_Contains,K.strings_Join,K.strings_Cut,K.strings_Index,K.strings_FieldsFunc_3,K.strings_ContainsAny,K.strconv_Atoi,K.strconv_Itoa]
theorem Z2m (w:World)(hw:EnvE w):∀c∈exts,c.Holds (cxD w):=by
 intro c hc
 simp only[exts,Xau,Xcc,or_false]at hc
 rcases hc with rfl|rfl|rfl|rfl|rfl|rfl|rfl|rfl|rfl
 ·exact H.strings_Split w hw.toOK
 ·exact H.strings_Contains w hw.toOK
 ·exact H.strings_Join w hw.toOK
 ·exact H.strings_Cut w hw.toOK
 ·exact H.strings_Index w hw.toOK
 ·exact H.strings_FieldsFunc_3 w hw.toOK
 ·exact H.strings_ContainsAny w hw.toOK
 ·exact H.strconv_Atoi w hw
 ·exact H.strconv_Itoa w hw
theorem Zzi :∀c∈exts,cfg.ow c.f=true->c.own=true:=by
 intro c hc h
 simp only[exts,Xau,Xcc,or_false]at hc
 rcases hc with rfl|rfl|rfl|rfl|rfl|rfl|rfl|rfl|rfl
 ·rfl
 ·exact absurd h (by rw[show cfg.ow K.strings_Contains.f=false by kernel_rfl];decide)
 ·exact absurd h (by rw[show cfg.ow K.strings_Join.f=false by kernel_rfl];decide)
 ·exact absurd h (by rw[show cfg.ow K.strings_Cut.f=false by kernel_rfl];decide)
 ·exact absurd h (by rw[show cfg.ow K.strings_Index.f=false by kernel_rfl];decide)
 ·rfl
 ·exact absurd h (by rw[show cfg.ow K.strings_ContainsAny.f=false by kernel_rfl];decide)
 ·exact absurd h (by rw[show cfg.ow K.strconv_Atoi.f=false by kernel_rfl];decide)
 ·exact absurd h (by rw[show cfg.ow K.strconv_Itoa.f=false by kernel_rfl];decide)
theorem envX :EnvM (Ztv exts) where
 split s c hs:=Zdk (cs:=exts) (c:=K.strings_Split) rfl ⟨(s,[c]),Zac c s,rfl,by simp[g.strings_Split,hs],rfl⟩
 contains s c hs:=Zdk (cs:=exts) (c:=K.strings_Contains) rfl ⟨(s,[c]),decide (c∈s),rfl,by simp[g.strings_Contains,hs],rfl⟩
 join l s hl hj:=Zdk (cs:=exts) (c:=K.strings_Join) rfl ⟨(l,s),Zey s l,rfl,by simp only[g.strings_Join,Zm0];rw[if_pos ⟨hl,hj⟩],rfl⟩
 cut s c hs:=Zdk (cs:=exts) (c:=K.strings_Cut) rfl ⟨(s,c),Lib.cut s c,rfl,by simp[g.strings_Cut,hs],rfl⟩
 index s c hs:=Zdk (cs:=exts) (c:=K.strings_Index) rfl ⟨(s,c),Lib.index s c,rfl,by simp[g.strings_Index,hs],rfl⟩
 fields s hs:=Zdk (cs:=exts) (c:=K.strings_FieldsFunc_3) rfl ⟨s,fldB Zfl s [],rfl,by simp[g.strings_FieldsFunc_3,hs],rfl⟩
 cany s hs _:=Zdk (cs:=exts) (c:=K.strings_ContainsAny) rfl ⟨(s,chars9),s.any fun b=>chars9.contains b,rfl,if_pos ⟨hs,by show chars9.length<_;decide,by show 4<=chars9.length;decide,by show ascB chars9=true;decide⟩,rfl⟩
 atoi s hs:=Zdk (cs:=exts) (c:=K.strconv_Atoi) rfl ⟨s,Zjn s,rfl,by simp[g.strconv_Atoi,hs],rfl⟩
 itoa n h0 h1:=Zdk (cs:=exts) (c:=K.strconv_Itoa) rfl ⟨n,Lib.itoa n,rfl,by simp[g.strconv_Itoa,h0,h1],rfl⟩
end Go.Proofs.YtegmegbanfkomaaGreatDoor
namespace Go.Proofs.YtegmegbanfkomaaGreatDoor
open Go.Abs Go.RowKit Go.ChangeShapes Go.WideShapes
section
variable {P:Program}{w:World}
theorem Zmn {n:String}{d:DataW Unit}:∀{l:List (String×DataW Unit)} {ps:List MemPlace},DataW.LaidVars P w l ps->(n,d)∈l->
  ∃g t cs fuel p,P.globalNamed n=some g/\(P.globals[g]?).map (·.type)=some t/\w.var? P n=some cs/\DataW.trod (fun _=>()) P w 0 (fun _=>true) false fuel t cs.toList=some (d,p)
 | [],_,_,h=>by cases h
 |(m,c)::r,ps,hl,h=>by
  obtain⟨g,t,cs,fuel,p,q,h1,h2,h3,h4,h5,_⟩:=hl
  rcases Xau.1 h with e|h
  ·cases e;exact⟨g,t,cs,fuel,p,h1,h2,h3,h4⟩
  ·exact Zmn h5 h
theorem Znf {n:String}{g:Nat}{cs:Array Value}(hg:P.globalNamed n=some g)(h:w.var? P n=some cs):∃t x,w.heap[g]? =some (.cells cs t x):=by
 unfold World.var? at h
 rw[hg,Xas]at h
 split at h
 ·rename_i c t x hx;cases h;exact⟨t,x,hx⟩
 ·cases h
theorem trod_int {enc:TypeId×Value->Unit}{held:Bool}{fuel:Nat}{e:TypeId}{k k':IntKind}{cs:List Value}{n:Int}{p:List MemPlace}(he:P.underlying e=some (.int k))(h:DataW.trod enc P w 0 (fun _=>true) held fuel e cs=some (.lit (.int k' n),p)):cs=[.int k n]/\k'=k:=by
 cases fuel with
 |zero=>simp[DataW.trod]at h
 |succ m=>
  unfold DataW.trod at h
  rw[he]at h
  split at h<;>simp_all
theorem Zy9 {enc:TypeId×Value->Unit}{held:Bool}{fuel:Nat}{e:TypeId}{cs:List Value}{s:Bytes}{p:List MemPlace}(he:P.underlying e=some .string)(h:DataW.trod enc P w 0 (fun _=>true) held fuel e cs=some (.lit (.string s),p)):∃b:ByteArray,cs=[.string b]/\b.data.toList=s:=by
 cases fuel with
 |zero=>simp[DataW.trod]at h
 |succ m=>
  unfold DataW.trod at h
  rw[he]at h
  split at h<;>simp_all
theorem Z1q {laid:List (String×DataW Unit)}{n:String}{d:DataW Unit}{g:Nat}{t e:TypeId}{k:IntKind}{m:Nat}(ns:List Int)(h:laidMet P laid w)(hm:(n,d)∈laid)(hg:P.globalNamed n=some g)(ht:(P.globals[g]?).map (·.type)=some t)
  (hu:P.underlying t=some (.array m e)) (he:P.underlying e=some (.int k)) (hc:P.cellsOf e=1) (hct:P.cellsOf t=ns.length) (hd:d= .agg (ns.map fun i=> .lit (.int k i))):Row w (G0 w) (fun _=>none) (ns.map (V.int k)) g 0/\(ns.map (V.int k)).length<=G0 w g:=by
 obtain⟨ps,hl,_,_⟩:=h
 obtain⟨g',t',cs,fuel,p,h1,h2,h3,h4⟩:=Zmn hl hm
 rw[hg]at h1;cases h1
 rw[ht]at h2;cases h2
 obtain⟨t1,x1,hh⟩:=Znf hg h3
 obtain⟨xs,fu,_,hx,hlen,hxl,hel⟩:=DataW.trod_array hu h4
 have hxs:xs.map (·.1)=ns.map fun i=>(DataW.lit (.int k i):DataW Unit):=by
  have:=(Prod.mk.inj hx).1
  rw[hd]at this
  exact(DataW.agg.inj this).symm
 have hnl:xs.length=ns.length:=by have:=congrArg List.length hxs;simpa using this
 have hsz:cs.size=ns.length:=by rw[<-hct, <-hlen];simp
 have hcell:∀i,(hi:i<ns.length)->cs[i]? =some (.int k ns[i]):=by
  intro i hi
  have h5:=hel i (by omega)
  rw[hc,Xc8,Xad (by omega)]at h5
  have h6:xs[i].1=DataW.lit (.int k ns[i]):=by
   have h7:(xs.map (·.1))[i]? =(ns.map fun i=>(DataW.lit (.int k i):DataW Unit))[i]? :=by rw[hxs]
   rw[Xbj,Xbj,Xad (by omega),Xad hi]at h7
   simpa using h7
  obtain⟨h8,_⟩:=trod_int (n:=ns[i]) (p:=xs[i].2) (k':=k) he (by rw[h5];exact congrArg some (Prod.ext h6 rfl))
  have hi':i<cs.toList.length:=by simp;omega
  rw[Xai hi',Xdh,Xcj]at h8
  have h9:=(List.cons.inj h8).1
  rw[Xa1 (by omega)]
  simpa using h9
 refine⟨⟨fun c hc=> ?_,fun i c hc=> ?_⟩, ?_⟩
 ·obtain⟨j,_,rfl⟩:=Xa7.1 hc;rfl
 ·rw[Xbj]at hc
  obtain⟨j,hj,rfl⟩:=Xaa.1 hc
  obtain⟨hi,hj⟩:=Xao.1 hj
  refine⟨.int k j, ?_, .int k j⟩
  rw[Xar]
  simp only[World.cell?,hh]
  rw[<-hj];exact hcell i hi
 ·simp only[Xb1,G0,hh];omega
theorem Zxx {laid:List (String×DataW Unit)}{n:String}{d:DataW Unit}{g:Nat}{t e:TypeId}(ss:List Bytes)(h:laidMet P laid w)(hm:(n,d)∈laid)(hg:P.globalNamed n=some g)(ht:(P.globals[g]?).map (·.type)=some t)
  (hu:P.underlying t=some (.slice e)) (he:P.underlying e=some .string) (hc:P.cellsOf e=1) (hd:∃r,d= .slice (ss.map fun s=> .lit (.string s)) r) (hne:ss≠ []):Row w (G0 w) (fun _=>none) [.sl false 1 (ss.map V.str)] g 0/\([V.sl false 1 (ss.map V.str)]:List V).length<=G0 w g:=by
 obtain⟨ps,hl,_,_⟩:=h
 obtain⟨g',t',cs,fuel,p,h1,h2,h3,h4⟩:=Zmn hl hm
 rw[hg]at h1;cases h1
 rw[ht]at h2;cases h2
 obtain⟨t1,x1,hh⟩:=Znf hg h3
 obtain⟨rr,hd⟩:=hd
 rcases DataW.trod_slice hu h4 with⟨_,hx⟩|⟨a,len,cap,elems,rest,fu,_,hcs,hx,_,hlc,_,hel,hget,_,_⟩
 ·have:=(Prod.mk.inj hx).1;rw[hd]at this;cases this
 ·have hxs:elems.map (·.1)=ss.map fun s=>(DataW.lit (.string s):DataW Unit):=by
   have:=(Prod.mk.inj hx).1
   rw[hd]at this
   exact(DataW.slice.inj this).1.symm
  have hnl:elems.length=ss.length:=by have:=congrArg List.length hxs;simpa using this
  have hcell:∀i,(hi:i<ss.length)-> ∃b:ByteArray,w.cell? ((a.add i).add 0)=some (.string b)/\b.data.toList=ss[i]:=by
   intro i hi
   have h5:=hget i (by omega)
   rw[hc,Xc8,Xad (by omega)]at h5
   obtain⟨cc,h51,h52⟩:=Xab.1 h5
   have h6:elems[i].1=DataW.lit (.string ss[i]):=by
    have h7:(elems.map (·.1))[i]? =(ss.map fun s=>(DataW.lit (.string s):DataW Unit))[i]? :=by rw[hxs]
    rw[Xbj,Xbj,Xad (by omega),Xad hi]at h7
    simpa using h7
   obtain⟨b,rfl,hb⟩:=Zy9 (s:=ss[i]) (p:=elems[i].2) he (by rw[h52];exact congrArg some (Prod.ext h6 rfl))
   refine⟨b, ?_,hb⟩
   have h8:=(World.cells?_some h51).2.2 0 (by decide)
   simpa using h8
  have hpos:0<ss.length:=Xap.2 hne
  obtain⟨ab,ao,am⟩:=a
  have ham:am=none:=by
   obtain⟨b,hb,_⟩:=hcell 0 hpos
   unfold World.cell? at hb
   split at hb
   ·cases am with
    |none=>rfl
    |some _=>simp[Addr.add]at hb
   ·cases hb
  subst ham
  have hcell:∀i,(hi:i<ss.length)-> ∃b:ByteArray,w.cell? ⟨ab,ao+i,none⟩=some (.string b)/\b.data.toList=ss[i]:=by
   intro i hi
   obtain⟨b,h1,h2⟩:=hcell i hi
   rw[Zb0,Zb0,Xdw]at h1
   exact⟨b,h1,h2⟩
  have hsz:cs= #[.slice (some ⟨ab,ao,none⟩) len cap]:=by cases cs;simp_all
  refine⟨⟨fun c hc=> ?_,fun i c hc=> ?_⟩, ?_⟩
  ·obtain rfl:=Xax.1 hc;rfl
  ·cases i with
   |succ i=>simp at hc
   |zero=>
    simp at hc;subst hc
    refine⟨.slice (some ⟨ab,ao,none⟩) len cap,by simp[World.cell?,hh,hsz], ?_⟩
    have hlen:(ss.map V.str).length=len:=by simp;omega
    have hrep:=Rep.sl (W:=w) (G:=G0 w) (φ:=fun _=>none) 1 (ss.map V.str) ab ao cap (fun k=>(w.cell? ⟨ab,ao+k,none⟩).getD undef) (by omega) ?_ ?_ ?_ ?_
    ·rw[hlen]at hrep;exact hrep
    ·obtain⟨b,hb,_⟩:=hcell (ss.length-1) (by omega)
     have:=(Zp5 hb).2
     simp only[Xb1,Xc8];omega
    ·intro x hx
     obtain⟨s,_,rfl⟩:=Xa7.1 hx
     exact⟨rfl,fun c hc=>by obtain rfl:=Xax.1 hc;rfl⟩
    ·intro k hk
     simp only[Xb1,Xc8]at hk
     obtain⟨b,hb,_⟩:=hcell k hk
     have hb':w.cell? ⟨ab,ao+k,none⟩=some (.string b):=hb
     rw[hb'];rfl
    ·intro i x j c hx hj
     rw[Xbj]at hx
     obtain⟨s,hs,rfl⟩:=Xaa.1 hx
     obtain⟨hi,hs⟩:=Xao.1 hs
     cases j with
     |succ j=>simp[V.cells]at hj
     |zero=>
      simp[V.cells]at hj;subst hj
      obtain⟨b,hb,hbs⟩:=hcell i hi
      have hb':w.cell? ⟨ab,ao+(i*1+0),none⟩=some (.string b):=by rw[Xc8];exact hb
      show Rep _ _ _ _ ((w.cell? ⟨ab,ao+(i*1+0),none⟩).getD undef)
      rw[hb'];exact .str s b (by rw[hbs,hs])
  ·simp only[G0,hh,hsz];simp
end
noncomputable def cxG (gls:Nat->Option (List V))(w:World):Cx:=⟨Tryz.prog,w,gls⟩
theorem Z7b {gls:Nat->Option (List V)}{w W:World}{G:Nat->Nat}(h:OKW (cxG gls w) W G):OKW (cxD w) W G:=⟨h.below,h.Glo,h.Gz⟩
theorem Qa3 {gls:Nat->Option (List V)}{w:World}{f:FuncId}{args:List V}{r:V×Bool}(h:PC (cxD w) f args r):PC (cxG gls w) f args r:=⟨h.1,fun W G φ xs ho hr=>h.2 W G φ xs (Z7b ho) hr⟩
theorem Z28 {gls:Nat->Option (List V)}{w:World}{c:FC}(h:c.Holds (cxD w)):c.Holds (cxG gls w):=fun args y hr=>by
 obtain⟨v,o,h1,h2⟩:=h args y hr
 exact⟨v,o,Qa3 h1,h2⟩
theorem Z0j {laid:List (String×DataW Unit)}{w:World}(h:laidMetH Tryz.prog laid w)(hn:(laid.filter fun x=>x.2.handleName?.isSome)=[]):laidMet Tryz.prog laid w:=by
 unfold laidMetH at h
 rw[hn]at h;exact h
end Go.Proofs.YtegmegbanfkomaaGreatDoor
