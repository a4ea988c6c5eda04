/-
  Parts of the proof, one behind the other. Own work of this seat; some printed by its programs.
-/
import Derived.Test.YtegmegbanfkomaaGreatDoorM4
import Derived.Test.YtegmegbanfkomaaGreatDoorM3
import Derived.Test.YtegmegbanfkomaaGreatDoorCards
import Derived.Test.YtegmegbanfkomaaGreatDoorTie
import Derived.ProofKit
import Derived.OpenShut
import Derived.Deep.DeepHandedRow
import Derived.Lib.LaidTab
namespace Go.Proofs.YtegmegbanfkomaaGreatDoor
open Go.Abs
set_option maxRecDepth 20000
variable {e:Ev}
def dA :Bytes:=[109,111,100,117,108,101,32,97]
def xF :Bytes:=[120,47,102,46,103,111]
def S18 :List Fi:=[(goMod,dA),(xF,[])]
def nA :Bytes:=Zas Za3 dA
def n0 :Bytes:=Zas Za3 []
def tX :Bytes:=Zba [⟨[102,46,103,111],false,n0⟩]
def idX :Bytes:=Zas Zbm tX
def tR :Bytes:=Zba [⟨goMod,false,nA⟩,⟨[120],true,idX⟩]
theorem Qbn :nA≠n0:=by decide+kernel
theorem Qaq :idX≠Zas Zbm tR:=by decide+kernel
theorem en1 :EnOK [⟨[102,46,103,111],false,n0⟩] where
 nm:=fun x hx=>by simp only[Xax]at hx;subst hx;exact⟨by decide,by decide⟩
 id:=fun x hx=>by simp only[Xax]at hx;subst hx;exact Zah _ _
 up:=by simp
 len:=by simp
theorem en2 :EnOK [⟨goMod,false,nA⟩,⟨[120],true,idX⟩] where
 nm:=fun x hx=>by simp only[Xau,Xcb,or_false]at hx;rcases hx with rfl|rfl<;>exact⟨by decide,by decide⟩
 id:=fun x hx=>by simp only[Xau,Xcb,or_false]at hx;rcases hx with rfl|rfl<;>exact Zah _ _
 up:=by simp;decide
 len:=by simp
theorem tr18 :Tr S18 [] 0 S18.length [] (Zas Zbm tR) [(nA,dA),(n0,[])] [(idX,tX),(Zas Zbm tR,tR)]:=by
 refine .blob (x:=goMod) (by decide) rfl ?_
 refine Tr.dir (k:=1) (x:=[120]) (id1:=idX) (p1:=[(n0,[])]) (q1:=[]) (p2:=[(idX,tX)]) (q2:=[(Zas Zbm tR,tR)]) (by decide) (by decide) (fun i h1 h2=> ?_) (fun h=>absurd h (by decide)) ?_ ?_
 ·obtain rfl:i=1:=by omega
  exact⟨[[102,46,103,111]],by simp,rfl⟩
 ·exact .blob (x:=[102,46,103,111]) (by decide) rfl (.done en1)
 ·exact .done en2
theorem so18 :SoOK S18 where
 good:=by decide
 data:=by decide
 len:=by decide
 up:=fun i j h1 h2=>by
  have:i=0/\j=1:=by simp only[S18,Xar,Xa0]at h2;omega
  obtain⟨rfl,rfl⟩:=this
  decide
 free:=fun i j h1 h2 hne R h=>by
  have:(i=0/\j=1) \/(i=1/\j=0):=by simp only[S18,Xar,Xa0]at h1 h2;omega
  rcases this with⟨rfl,rfl⟩|⟨rfl,rfl⟩
  ·have e1:pS S18 0=[goMod]:=rfl
   have e2:pS S18 1=[[120],[102,46,103,111]]:=rfl
   rw[e1,e2]at h
   have:=congrArg List.length h
   simp at this
  ·have e1:pS S18 0=[goMod]:=rfl
   have e2:pS S18 1=[[120],[102,46,103,111]]:=rfl
   rw[e1,e2]at h
   simp only[Xbk,Xbv]at h
   exact absurd h.1 (by decide)
theorem Z89 :whyB S18=0:=by
 have h:∀i,i<S18.length->okI S18 i:=fun i hi=>by
  have:i=0 \/i=1:=by simp only[S18,Xar,Xa0]at hi;omega
  rcases this with rfl|rfl
  ·refine⟨by decide,fun k hk hne=> ?_⟩
   obtain rfl:k=1:=by simp only[S18,Xar,Xa0]at hk;omega
   decide
  ·refine⟨by decide,fun k hk hne=> ?_⟩
   obtain rfl:k=0:=by simp only[S18,Xar,Xa0]at hk;omega
   decide
 unfold whyB
 rw[if_neg (by decide),if_pos h,if_pos (by decide)]
theorem Zr2 {a b x z:Bytes}(h:a≠b):Cons [(a,x),(b,z)]:=fun p hp q hq hh=>by
 simp only[Xau,Xcb,or_false]at hp hq
 rcases hp with rfl|rfl<;>rcases hq with rfl|rfl
 ·rfl
 ·exact absurd hh h
 ·exact absurd hh.symm h
 ·rfl
theorem Z2p :Made S18 S18 (Zas Zbm tR) [(nA,dA),(n0,[])] [(idX,tX),(Zas Zbm tR,tR)] where
 perm:= .refl _
 ok:=so18
 tr:=tr18
 c1:=Zr2 Qbn
 c2:=Zr2 Qaq
 why:=Z89
 len:=by decide
 sz:=by decide
def unS :List V->Option (List Bytes)
 | []=>some []
 | .str s::r=>(unS r).map (s:: ·)
 |_=>none
theorem Z0u :∀{l:List V} {r:List Bytes},unS l=some r->l=r.map .str
 | [],r,h=>by cases h;rfl
 |v::l,r,h=>by
  cases v<;>simp only[unS,reduceCtorEq,Xaa]at h
  obtain⟨q,h1,rfl⟩:=h
  rw[Z0u h1];rfl
def e18 :Nat->List V->Option V:=fun f xs=>match f,xs with
 |110,[.str s, .str [c]]=>if s.length<4000000000 then some (strs (Zac c s))else none
 |50,[.str s, .str [c]]=>if s.length<4000000000 then some (.bool (decide (c∈s)))else none
 |49,[.str s, .str c]=>if s.length<4000000000 then some (cutE (Lib.cut s c))else none
 |99,[.sl false 1 l, .str s]=>match unS l with
  |some l=>if l.length<=1000000000/\(Zgc s l).length<=140737488355328 then some (.str (Zgc s l))else none
  |none=>none
 |104,[.str s, .str c]=>if s.length<4000000000 then some (I (Lib.index s c))else none
 |154,[.str s, .fn 155 []]=>if s.length<4000000000 then some (strs (fldB Zfh s []))else none
 |250,[.str s, .str [34,39,96,92,40,41,44,61,62]]=>if s.length<4000000000 then some (.bool (s.any fun b=>chars9.contains b))else none
 |_,_=>none
theorem Zpb (he:EnvM e)(f:Nat)(xs:List V)(r:V)(h:e18 f xs=some r):vl e f 0 xs=some r:=by
 unfold e18 at h
 split at h
 ·split at h
  ·cases h;exact v.split he.toEnvT _ _ (by omega)
  ·cases h
 ·split at h
  ·cases h;exact v.contains he.toEnvT _ _ (by omega)
  ·cases h
 ·split at h
  ·cases h;exact v.cut he _ _ (by omega)
  ·cases h
 ·split at h
  ·split at h
   ·rename_i hl hc
    cases h
    rw[Z0u hl];exact v.join he.toEnvT _ _ hc.1 hc.2
   ·cases h
  ·cases h
 ·split at h
  ·cases h;exact v.index he _ _ (by omega)
  ·cases h
 ·split at h
  ·cases h;exact v.fields he _ (by omega)
  ·cases h
 ·split at h
  ·cases h;exact Zec (by kernel_rfl) (he.cany _ (by omega) rfl)
  ·cases h
 ·cases h
abbrev mo18 :V:= .agg [.str [97],I 0, .sl false 2 [],I 0]
abbrev ms18 :SM:=[([],mo18)]
abbrev ds18 :SM:=[([120], .bool true)]
def pl18 (F:V)(d p:Bytes)(k:Int)(x:Bytes)(e:Ev):Prop:=vl e 10273 1 [.str d, .str p,F,mS ms18,mS ds18]=some (.tup [plV k x,F,mS ms18,mS ds18])
theorem Qa9 (he:EnvM e)(F:V):pl18 F [] [97,47,120] 1 [120] e:=Zos (T:=[]) (Zpb he) 100 (by kernel_rfl)
theorem Qbh (he:EnvM e)(F:V):pl18 F [120] [97,47,121] 5 [] e:=Zos (T:=[]) (Zpb he) 100 (by kernel_rfl)
theorem Qba (he:EnvM e)(F:V):pl18 F [] [102,109,116] 2 [] e:=Zos (T:=[]) (Zpb he) 100 (by kernel_rfl)
theorem Qat (he:EnvM e)(F:V):pl18 F [] [98,46,99,111,109,47,122] 4 [] e:=Zos (T:=[]) (Zpb he) 100 (by kernel_rfl)
theorem Z1k (he:EnvM e):vl e 58 0 [.str dA]=some mo18:=Zos (T:=[]) (Zpb he) 100 (by kernel_rfl)
theorem v.alive18 (he:EnvM e):vl e 12 0 []=some (.bool true):=by
 have hp:∀f∈S18,Za9 f.1=goMod->vl e 58 0 [.str f.2]=some mo18:=fun f hf hb=>by
  simp only[S18,Xau,Xcb,or_false]at hf
  rcases hf with rfl|rfl
  ·exact Z1k he
  ·exact absurd hb (by decide)
 have h1:=v.made18 he.toEnvT Z2p (by decide) (fun _=>mo18) hp
 rw[show Zgy (fun _=>mo18) S18 []=ms18 from rfl,show Zhu S18 []=ds18 from rfl]at h1
 have a:=Qa9 he (inpV (outs S18 0 S18.length))
 have b:=Qbh he (inpV (outs S18 0 S18.length))
 have c:=Qba he (inpV (outs S18 0 S18.length))
 have d:=Qat he (inpV (outs S18 0 S18.length))
 unfold pl18 at a b c d
 have f1:evp (.cat [none,none]) [.str [103,111,46,109,111,100], .str [109,111,100,117,108,101,32,97]]=some (fv (goMod,dA)):=rfl
 have f2:evp (.cat [none,none]) [.str [120,47,102,46,103,111], .str []]=some (fv (xF,[])):=rfl
 have f3:evp (.cat [none]) [.str [120,47,102,46,103,111]]=some (.agg [.str xF]):=rfl
 have f4:evp (.bsl 2) [fv (goMod,dA),fv (xF,[])]=some (Zad S18):=rfl
 have q1:evp (.bin .eql (.flat [(some .i64,true),(none,true)])) [plV 1 [120],plV 1 [120]]=some (.bool true):=rfl
 have q2:∀k:Int,evp (.bin .eql (.flat [(some .i64,true),(none,true)])) [plV k [],plV k []]=some (.bool true):=fun k=>by
  show some (V.bool _)=_
  simp
 rw[w0 s.zq60];unfold y.zq60
 simp only[yy,f1,f2,f3,f4,h1,Int.one_ne_zero,if_false,a,b,c,d,cat1,cat2,q1,q2]
theorem q.resolveNone' (he:EnvM e)(a:List Fi)(ha:a.length<=1000000000/\ ∀f∈a,f.1.length<=1000000000/\f.2.length<=1000000000)(d p:Bytes)(hd:d.length<=100000000)(hp:p.length<=100000000):
  vl e 4 0 [Zad a, .str d, .str p]=some (.bool true):=q.resolveNone he (v.alive18 he) a ha d p hd hp
end Go.Proofs.YtegmegbanfkomaaGreatDoor
namespace Go.Proofs.YtegmegbanfkomaaGreatDoor
open Go.Abs
structure T.File where
 Path:Bytes
 Data:Bytes
 deriving DecidableEq
def C.File (x:T.File):List V:=[(V.str x.Path)]++ [(V.str x.Data)]
def E.File (x:T.File):V:= .agg (C.File x)
theorem E.File_clean (x:T.File):(E.File x).clean=true:=(Zbh (Zed rfl rfl) (Zed rfl rfl))
def E.LFile (l:(List T.File)):V:= .sl false 2 (l.map E.File)
end Go.Proofs.YtegmegbanfkomaaGreatDoor
namespace Go.Proofs.YtegmegbanfkomaaGreatDoor
open Go.ChangeShapes Go.WideShapes Go.RowKit Go.Abs
theorem ownK :ownKnob Tryz.prog.godebug=none:=by kernel_rfl
theorem kids :Kids Tryz.prog (· <Tryz.prog.types.size):=kids_rows (by kernel_rfl) (by kernel_rfl)
theorem full :∀t e,t<Tryz.prog.types.size->Tryz.prog.underlying t=some (.slice e)->0<Tryz.prog.cellsOf e:=slices_full_of Tryz.prog (by kernel_rfl)
section
variable {P:Program}{m:Nat}{t e:TypeId}{vs:List V}
theorem Z6u (hu:P.underlying t=some .string)(h:HasT P (m+1) t vs):∃x:Bytes,nfL vs=[V.str x]:=by
 simp only[HasT,hu]at h
 obtain⟨b,rfl⟩:=h;exact⟨b,rfl⟩
theorem Z9y {α:Type}{E:α->V}{c:Nat}(hu:P.underlying t=some (.slice e))(hc:P.cellsOf e=c)(he:∀ws,HasT P m e ws-> ∃x,(elV P e ws).nf=E x)(h:HasT P (m+1) t vs):∃l:List α,nfL vs=[V.sl false c (l.map E)]:=by
 simp only[HasT,hu,hc]at h
 rcases h with rfl|⟨xs,rfl,hx⟩
 ·exact⟨[],rfl⟩
 ·have:∃l:List α,nfL xs=l.map E:=by
   clear hc
   induction xs with
   |nil=>exact⟨[],rfl⟩
   |cons x r ih=>
    obtain⟨l,hl⟩:=ih fun y hy=>hx y (by simp[hy])
    obtain⟨ws,hw,rfl⟩:=hx x (by simp)
    obtain⟨a,ha⟩:=he ws hw
    exact⟨a::l,by rw[nfL,ha,hl];rfl⟩
  obtain⟨l,hl⟩:=this
  exact⟨l,by show [V.sl false c (nfL xs)]=_;rw[hl]⟩
theorem Z5e (ha:Zea P t=true){l:List V}(h:nfL vs=l):(elV P t vs).nf= .agg l:=by
 unfold elV;rw[if_pos ha];show V.agg (nfL vs)=_;rw[h]
theorem Zv6 (ha:Zea P t=false){v:V}(h:nfL vs=[v]):(elV P t vs).nf=v:=by
 unfold elV;rw[if_neg (by simp[ha])]
 cases vs with
 |nil=>cases h
 |cons x r=>rw[nfL]at h;exact(List.cons.inj h).1
theorem nfL_flat :∀{wss:List (List V)},nfL wss.flatten=(wss.map nfL).flatten
 | []=>rfl
 |w::r=>by rw[Xcp,Zbx,nfL_flat];rfl
end
mutual
theorem Z4t :∀v:V,v.nf.wt<=v.wt
 | .agg cs=>by simp only[V.nf,V.wt];have:=Zxe cs;omega
 | .sl true sz []=>by simp[V.nf,V.wt]
 | .sl true _ (x::xs)=>by simp[V.nf,V.wt]
 | .sl false sz xs=>by simp only[V.nf,V.wt];have:=Zxe xs;omega
 | .el cs off=>by simp[V.nf,V.wt]
 | .tup cs=>by simp[V.nf,V.wt]
 | .fn f cs=>by simp[V.nf,V.wt]
 | .mfn f cs=>by simp[V.nf,V.wt]
 | .iface t v=>by simp[V.nf,V.wt]
 | .bool b=>Xaf _
 | .int k n=>Xaf _
 | .str s=>Xaf _
 | .osl a b c d e=>Xaf _
 | .gp g o=>Xaf _
 | .ptr i o=>Xaf _
 | .nilptr=>Xaf _
 | .map i=>Xaf _
 | .nilmap=>Xaf _
 | .nilfn=>Xaf _
 | .nilif=>Xaf _
theorem Zxe :∀l:List V,wtL (nfL l)<=wtL l
 | []=>Xaf _
 |v::r=>by simp only[nfL,wtL];have:=Z4t v;have:=Zxe r;omega
end
theorem Z3b {v w:V}{n:Nat}(h:v.nf=w)(hn:v.wt<=n):w.wt<=n:=by rw[<-h];exact Xbh (Z4t v) hn
theorem Z9n {α:Type}{E:α->V}{c:Nat}{l:List α}{n:Nat}(h:(V.sl false c (l.map E)).wt<=n):l.length<=n/\ ∀a∈l,(E a).wt<=n:=by
 simp only[V.wt]at h
 refine⟨by have:=Zs2 (l.map E);simp at this;omega,fun a ha=> ?_⟩
 have:=Zwi (Xc0 (f:=E) ha)
 omega
theorem Zrl {s:Bytes}{n:Nat}(h:(V.str s).wt<=n):s.length<=n:=by simp only[V.wt]at h;omega
theorem Z0j {cs:List V}{v:V}{n:Nat}(h:(V.agg cs).wt<=n)(hv:v∈cs):v.wt<=n:=by
 simp only[V.wt]at h
 have:=Zwi hv;omega
end Go.Proofs.YtegmegbanfkomaaGreatDoor
namespace Go.Proofs.YtegmegbanfkomaaGreatDoor
open Go.Abs
variable {e:Ev}
def fiOf (x:T.File):Fi:=(x.Path,x.Data)
theorem Zzm (l:List T.File):E.LFile l=Zad (l.map fiOf):=by
 unfold E.LFile Zad
 rw[Xcr];rfl
theorem Zyl {l:List T.File}(h:(E.LFile l).wt<=1048576):(l.map fiOf).length<=1000000000/\ ∀f∈l.map fiOf,f.1.length<=1000000000/\f.2.length<=1000000000:=by
 obtain⟨h1,h2⟩:=Z9n (E:=E.File) h
 refine⟨by rw[Xb0];omega,fun f hf=> ?_⟩
 obtain⟨x,hx,rfl⟩:=Xa6.1 hf
 have h3:=h2 x hx
 have a1:=Zrl (Z0j h3 (v:= .str x.Path) (by simp[C.File]))
 have a2:=Zrl (Z0j h3 (v:= .str x.Data) (by simp[C.File]))
 exact⟨by show x.Path.length<=_;omega,by show x.Data.length<=_;omega⟩
theorem Zlr (he:EnvM e)(a:List T.File)(d p:Bytes)(ha:(E.LFile a).wt<=1048576)(hd:(V.str d).wt<=1048576)(hp:(V.str p).wt<=1048576):vl e 4 0 [E.LFile a, .str d, .str p]=some (.bool true):=by
 rw[Zzm]
 have a1:=Zrl hd
 have a2:=Zrl hp
 exact q.resolveNone' he _ (Zyl ha) d p (by omega) (by omega)
end Go.Proofs.YtegmegbanfkomaaGreatDoor
namespace Go.Proofs.YtegmegbanfkomaaGreatDoor
open Go.Abs Go.RowKit
def exts :List FC:=[K.strings_Split,K.strings_Contains,K.strings_Join,K.strings_Cut,K.strings_Index,K.strings_FieldsFunc_3,K.strings_ContainsAny,K.strconv_Atoi,K.strconv_Itoa]
theorem Z1d (w:World)(hw:EnvE w):∀c∈exts,c.Holds (cxD w):=by
 intro c hc
 simp only[exts,Xau,Xcb,or_false]at hc
 rcases hc with rfl|rfl|rfl|rfl|rfl|rfl|rfl|rfl|rfl
 ·exact H.strings_Split w hw.toOK
 ·exact H.strings_Contains w hw.toOK
 ·exact H.strings_Join w hw.toOK
 ·exact H.strings_Cut w hw.toOK
 ·exact H.strings_Index w hw.toOK
 ·exact H.strings_FieldsFunc_3 w hw.toOK
 ·exact H.strings_ContainsAny w hw.toOK
 ·exact H.strconv_Atoi w hw
 ·exact H.strconv_Itoa w hw
theorem Zy0 :∀c∈exts,cfg.ow c.f=true->c.own=true:=by
 intro c hc h
 simp only[exts,Xau,Xcb,or_false]at hc
 rcases hc with rfl|rfl|rfl|rfl|rfl|rfl|rfl|rfl|rfl
 ·rfl
 ·exact absurd h (by rw[show cfg.ow K.strings_Contains.f=false by kernel_rfl];decide)
 ·exact absurd h (by rw[show cfg.ow K.strings_Join.f=false by kernel_rfl];decide)
 ·exact absurd h (by rw[show cfg.ow K.strings_Cut.f=false by kernel_rfl];decide)
 ·exact absurd h (by rw[show cfg.ow K.strings_Index.f=false by kernel_rfl];decide)
 ·rfl
 ·exact absurd h (by rw[show cfg.ow K.strings_ContainsAny.f=false by kernel_rfl];decide)
 ·exact absurd h (by rw[show cfg.ow K.strconv_Atoi.f=false by kernel_rfl];decide)
 ·exact absurd h (by rw[show cfg.ow K.strconv_Itoa.f=false by kernel_rfl];decide)
theorem envX :EnvM (Ztj exts) where
 split s c hs:=Zdm (cs:=exts) (c:=K.strings_Split) rfl ⟨(s,[c]),Zac c s,rfl,by simp[g.strings_Split,hs],rfl⟩
 contains s c hs:=Zdm (cs:=exts) (c:=K.strings_Contains) rfl ⟨(s,[c]),decide (c∈s),rfl,by simp[g.strings_Contains,hs],rfl⟩
 join l s hl hj:=Zdm (cs:=exts) (c:=K.strings_Join) rfl ⟨(l,s),Zgc s l,rfl,by simp only[g.strings_Join,Zn9];rw[if_pos ⟨hl,hj⟩],rfl⟩
 cut s c hs:=Zdm (cs:=exts) (c:=K.strings_Cut) rfl ⟨(s,c),Lib.cut s c,rfl,by simp[g.strings_Cut,hs],rfl⟩
 index s c hs:=Zdm (cs:=exts) (c:=K.strings_Index) rfl ⟨(s,c),Lib.index s c,rfl,by simp[g.strings_Index,hs],rfl⟩
 fields s hs:=Zdm (cs:=exts) (c:=K.strings_FieldsFunc_3) rfl ⟨s,fldB Zfh s [],rfl,by simp[g.strings_FieldsFunc_3,hs],rfl⟩
 cany s hs _:=Zdm (cs:=exts) (c:=K.strings_ContainsAny) rfl ⟨(s,chars9),s.any fun b=>chars9.contains b,rfl,if_pos ⟨hs,by show chars9.length<_;decide,by show 4<=chars9.length;decide,by show ascB chars9=true;decide⟩,rfl⟩
 atoi s hs:=Zdm (cs:=exts) (c:=K.strconv_Atoi) rfl ⟨s,Zjd s,rfl,by simp[g.strconv_Atoi,hs],rfl⟩
 itoa n h0 h1:=Zdm (cs:=exts) (c:=K.strconv_Itoa) rfl ⟨n,Lib.itoa n,rfl,by simp[g.strconv_Itoa,h0,h1],rfl⟩
end Go.Proofs.YtegmegbanfkomaaGreatDoor
namespace Go.Proofs.YtegmegbanfkomaaGreatDoor
open Go.Abs Go.RowKit Go.ChangeShapes Go.WideShapes
section
variable {P:Program}{w:World}
theorem Zmc {n:String}{d:DataW Unit}:∀{l:List (String×DataW Unit)} {ps:List MemPlace},DataW.LaidVars P w l ps->(n,d)∈l->
  ∃g t cs fuel p,P.globalNamed n=some g/\(P.globals[g]?).map (·.type)=some t/\w.var? P n=some cs/\DataW.trod (fun _=>()) P w 0 (fun _=>true) false fuel t cs.toList=some (d,p)
 | [],_,_,h=>by cases h
 |(m,c)::r,ps,hl,h=>by
  obtain⟨g,t,cs,fuel,p,q,h1,h2,h3,h4,h5,_⟩:=hl
  rcases Xau.1 h with e|h
  ·cases e;exact⟨g,t,cs,fuel,p,h1,h2,h3,h4⟩
  ·exact Zmc h5 h
theorem Zmy {n:String}{g:Nat}{cs:Array Value}(hg:P.globalNamed n=some g)(h:w.var? P n=some cs):∃t x,w.heap[g]? =some (.cells cs t x):=by
 unfold World.var? at h
 rw[hg,Xan]at h
 split at h
 ·rename_i c t x hx;cases h;exact⟨t,x,hx⟩
 ·cases h
theorem trod_int {enc:TypeId×Value->Unit}{held:Bool}{fuel:Nat}{e:TypeId}{k k':IntKind}{cs:List Value}{n:Int}{p:List MemPlace}(he:P.underlying e=some (.int k))(h:DataW.trod enc P w 0 (fun _=>true) held fuel e cs=some (.lit (.int k' n),p)):cs=[.int k n]/\k'=k:=by
 cases fuel with
 |zero=>simp[DataW.trod]at h
 |succ m=>
  unfold DataW.trod at h
  rw[he]at h
  split at h<;>simp_all
theorem Zyd {enc:TypeId×Value->Unit}{held:Bool}{fuel:Nat}{e:TypeId}{cs:List Value}{s:Bytes}{p:List MemPlace}(he:P.underlying e=some .string)(h:DataW.trod enc P w 0 (fun _=>true) held fuel e cs=some (.lit (.string s),p)):∃b:ByteArray,cs=[.string b]/\b.data.toList=s:=by
 cases fuel with
 |zero=>simp[DataW.trod]at h
 |succ m=>
  unfold DataW.trod at h
  rw[he]at h
  split at h<;>simp_all
theorem Z1l {laid:List (String×DataW Unit)}{n:String}{d:DataW Unit}{g:Nat}{t e:TypeId}{k:IntKind}{m:Nat}(ns:List Int)(h:laidMet P laid w)(hm:(n,d)∈laid)(hg:P.globalNamed n=some g)(ht:(P.globals[g]?).map (·.type)=some t)
  (hu:P.underlying t=some (.array m e)) (he:P.underlying e=some (.int k)) (hc:P.cellsOf e=1) (hct:P.cellsOf t=ns.length) (hd:d= .agg (ns.map fun i=> .lit (.int k i))):Row w (G0 w) (fun _=>none) (ns.map (V.int k)) g 0/\(ns.map (V.int k)).length<=G0 w g:=by
 obtain⟨ps,hl,_,_⟩:=h
 obtain⟨g',t',cs,fuel,p,h1,h2,h3,h4⟩:=Zmc hl hm
 rw[hg]at h1;cases h1
 rw[ht]at h2;cases h2
 obtain⟨t1,x1,hh⟩:=Zmy hg h3
 obtain⟨xs,fu,_,hx,hlen,hxl,hel⟩:=DataW.trod_array hu h4
 have hxs:xs.map (·.1)=ns.map fun i=>(DataW.lit (.int k i):DataW Unit):=by
  have:=(Prod.mk.inj hx).1
  rw[hd]at this
  exact(DataW.agg.inj this).symm
 have hnl:xs.length=ns.length:=by have:=congrArg List.length hxs;simpa using this
 have hsz:cs.size=ns.length:=by rw[<-hct, <-hlen];simp
 have hcell:∀i,(hi:i<ns.length)->cs[i]? =some (.int k ns[i]):=by
  intro i hi
  have h5:=hel i (by omega)
  rw[hc,Xc7,Xad (by omega)]at h5
  have h6:xs[i].1=DataW.lit (.int k ns[i]):=by
   have h7:(xs.map (·.1))[i]? =(ns.map fun i=>(DataW.lit (.int k i):DataW Unit))[i]? :=by rw[hxs]
   rw[Xbj,Xbj,Xad (by omega),Xad hi]at h7
   simpa using h7
  obtain⟨h8,_⟩:=trod_int (n:=ns[i]) (p:=xs[i].2) (k':=k) he (by rw[h5];exact congrArg some (Prod.ext h6 rfl))
  have hi':i<cs.toList.length:=by simp;omega
  rw[Xaj hi',Xdg,Xcj]at h8
  have h9:=(List.cons.inj h8).1
  rw[Xa1 (by omega)]
  simpa using h9
 refine⟨⟨fun c hc=> ?_,fun i c hc=> ?_⟩, ?_⟩
 ·obtain⟨j,_,rfl⟩:=Xa6.1 hc;rfl
 ·rw[Xbj]at hc
  obtain⟨j,hj,rfl⟩:=Xaa.1 hc
  obtain⟨hi,hj⟩:=Xao.1 hj
  refine⟨.int k j, ?_, .int k j⟩
  rw[Xas]
  simp only[World.cell?,hh]
  rw[<-hj];exact hcell i hi
 ·simp only[Xb0,G0,hh];omega
theorem Zwo {laid:List (String×DataW Unit)}{n:String}{d:DataW Unit}{g:Nat}{t e:TypeId}(ss:List Bytes)(h:laidMet P laid w)(hm:(n,d)∈laid)(hg:P.globalNamed n=some g)(ht:(P.globals[g]?).map (·.type)=some t)
  (hu:P.underlying t=some (.slice e)) (he:P.underlying e=some .string) (hc:P.cellsOf e=1) (hd:∃r,d= .slice (ss.map fun s=> .lit (.string s)) r) (hne:ss≠ []):Row w (G0 w) (fun _=>none) [.sl false 1 (ss.map V.str)] g 0/\([V.sl false 1 (ss.map V.str)]:List V).length<=G0 w g:=by
 obtain⟨ps,hl,_,_⟩:=h
 obtain⟨g',t',cs,fuel,p,h1,h2,h3,h4⟩:=Zmc hl hm
 rw[hg]at h1;cases h1
 rw[ht]at h2;cases h2
 obtain⟨t1,x1,hh⟩:=Zmy hg h3
 obtain⟨rr,hd⟩:=hd
 rcases DataW.trod_slice hu h4 with⟨_,hx⟩|⟨a,len,cap,elems,rest,fu,_,hcs,hx,_,hlc,_,hel,hget,_,_⟩
 ·have:=(Prod.mk.inj hx).1;rw[hd]at this;cases this
 ·have hxs:elems.map (·.1)=ss.map fun s=>(DataW.lit (.string s):DataW Unit):=by
   have:=(Prod.mk.inj hx).1
   rw[hd]at this
   exact(DataW.slice.inj this).1.symm
  have hnl:elems.length=ss.length:=by have:=congrArg List.length hxs;simpa using this
  have hcell:∀i,(hi:i<ss.length)-> ∃b:ByteArray,w.cell? ((a.add i).add 0)=some (.string b)/\b.data.toList=ss[i]:=by
   intro i hi
   have h5:=hget i (by omega)
   rw[hc,Xc7,Xad (by omega)]at h5
   obtain⟨cc,h51,h52⟩:=Xab.1 h5
   have h6:elems[i].1=DataW.lit (.string ss[i]):=by
    have h7:(elems.map (·.1))[i]? =(ss.map fun s=>(DataW.lit (.string s):DataW Unit))[i]? :=by rw[hxs]
    rw[Xbj,Xbj,Xad (by omega),Xad hi]at h7
    simpa using h7
   obtain⟨b,rfl,hb⟩:=Zyd (s:=ss[i]) (p:=elems[i].2) he (by rw[h52];exact congrArg some (Prod.ext h6 rfl))
   refine⟨b, ?_,hb⟩
   have h8:=(World.cells?_some h51).2.2 0 (by decide)
   simpa using h8
  have hpos:0<ss.length:=Xap.2 hne
  obtain⟨ab,ao,am⟩:=a
  have ham:am=none:=by
   obtain⟨b,hb,_⟩:=hcell 0 hpos
   unfold World.cell? at hb
   split at hb
   ·cases am with
    |none=>rfl
    |some _=>simp[Addr.add]at hb
   ·cases hb
  subst ham
  have hcell:∀i,(hi:i<ss.length)-> ∃b:ByteArray,w.cell? ⟨ab,ao+i,none⟩=some (.string b)/\b.data.toList=ss[i]:=by
   intro i hi
   obtain⟨b,h1,h2⟩:=hcell i hi
   rw[Zb1,Zb1,Xd8]at h1
   exact⟨b,h1,h2⟩
  have hsz:cs= #[.slice (some ⟨ab,ao,none⟩) len cap]:=by cases cs;simp_all
  refine⟨⟨fun c hc=> ?_,fun i c hc=> ?_⟩, ?_⟩
  ·obtain rfl:=Xax.1 hc;rfl
  ·cases i with
   |succ i=>simp at hc
   |zero=>
    simp at hc;subst hc
    refine⟨.slice (some ⟨ab,ao,none⟩) len cap,by simp[World.cell?,hh,hsz], ?_⟩
    have hlen:(ss.map V.str).length=len:=by simp;omega
    have hrep:=Rep.sl (W:=w) (G:=G0 w) (φ:=fun _=>none) 1 (ss.map V.str) ab ao cap (fun k=>(w.cell? ⟨ab,ao+k,none⟩).getD undef) (by omega) ?_ ?_ ?_ ?_
    ·rw[hlen]at hrep;exact hrep
    ·obtain⟨b,hb,_⟩:=hcell (ss.length-1) (by omega)
     have:=(Zpf hb).2
     simp only[Xb0,Xc7];omega
    ·intro x hx
     obtain⟨s,_,rfl⟩:=Xa6.1 hx
     exact⟨rfl,fun c hc=>by obtain rfl:=Xax.1 hc;rfl⟩
    ·intro k hk
     simp only[Xb0,Xc7]at hk
     obtain⟨b,hb,_⟩:=hcell k hk
     have hb':w.cell? ⟨ab,ao+k,none⟩=some (.string b):=hb
     rw[hb'];rfl
    ·intro i x j c hx hj
     rw[Xbj]at hx
     obtain⟨s,hs,rfl⟩:=Xaa.1 hx
     obtain⟨hi,hs⟩:=Xao.1 hs
     cases j with
     |succ j=>simp[V.cells]at hj
     |zero=>
      simp[V.cells]at hj;subst hj
      obtain⟨b,hb,hbs⟩:=hcell i hi
      have hb':w.cell? ⟨ab,ao+(i*1+0),none⟩=some (.string b):=by rw[Xc7];exact hb
      show Rep _ _ _ _ ((w.cell? ⟨ab,ao+(i*1+0),none⟩).getD undef)
      rw[hb'];exact .str s b (by rw[hbs,hs])
  ·simp only[G0,hh,hsz];simp
end
noncomputable def cxG (gls:Nat->Option (List V))(w:World):Cx:=⟨Tryz.prog,w,gls⟩
theorem Z4a {gls:Nat->Option (List V)}{w W:World}{G:Nat->Nat}(h:OKW (cxG gls w) W G):OKW (cxD w) W G:=⟨h.below,h.Glo,h.Gz⟩
theorem Z9t {gls:Nat->Option (List V)}{w:World}{f:FuncId}{args:List V}{r:V×Bool}(h:PC (cxD w) f args r):PC (cxG gls w) f args r:=⟨h.1,fun W G φ xs ho hr=>h.2 W G φ xs (Z4a ho) hr⟩
theorem Z2t {gls:Nat->Option (List V)}{w:World}{c:FC}(h:c.Holds (cxD w)):c.Holds (cxG gls w):=fun args y hr=>by
 obtain⟨v,o,h1,h2⟩:=h args y hr
 exact⟨v,o,Z9t h1,h2⟩
theorem Z0y {laid:List (String×DataW Unit)}{w:World}(h:laidMetH Tryz.prog laid w)(hn:(laid.filter fun x=>x.2.handleName?.isSome)=[]):laidMet Tryz.prog laid w:=by
 unfold laidMetH at h
 rw[hn]at h;exact h
end Go.Proofs.YtegmegbanfkomaaGreatDoor
