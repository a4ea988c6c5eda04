/-
  Parts of the proof, one behind the other. Own work of this seat; some printed by its programs.
-/
import Derived.Test.YtegmegbanfkomaaGreatDoorM3
import Derived.Lib.SmallJoins
import Derived.Laws.RangeAny
import Derived.Laws.Runes
import Derived.WalkMore
import Derived.Lib.OthersKept
import Derived.BigRegion
import Derived.Deep.RegionWith
import Derived.Deep.WholeRow
import Derived.Test.YtegmegbanfkomaaGreatDoorM2
import Derived.Test.YtegmegbanfkomaaGreatDoorCards
import Derived.Test.YtegmegbanfkomaaGreatDoorTie
import Derived.ProofKit
import Derived.OpenShut
import Derived.Deep.DeepHandedRow
import Derived.Lib.LaidTab
namespace Go.Proofs.YtegmegbanfkomaaGreatDoor
open Go.Abs
set_option maxRecDepth 10000
theorem Zbn (c:UInt8):∀s:Bytes,(Zad c s).length<=s.length+1
 | []=>by simp[Zad]
 |b::r=>by
  have:=Zbn c r
  simp only[Zad]
  split
  ·simp;omega
  ·split
   ·simp
   ·rename_i x xs h;rw[h]at this;simp at this⊢;omega
def tot (k:Nat):List Bytes->Nat
 | []=>0
 |x::r=>x.length+k+tot k r
theorem Zxm (k:Nat):∀{l:List Bytes} {x:Bytes},x∈l->x.length+k<=tot k l
 |y::r,x,h=>by
  rcases Xap.1 h with rfl|h
  ·simp[tot]
  ·have:=Zxm k h;grind[tot]
theorem Zj8 (c:UInt8):∀s:Bytes,tot 1 (Zad c s)=s.length+1
 | []=>by simp[Zad,tot]
 |b::r=>by
  have ih:=Zj8 c r
  simp only[Zad]
  split
  ·simp[tot,ih];omega
  ·split
   ·rename_i h;exact absurd h (Zaw _ _)
   ·rename_i x xs h;rw[h]at ih;simp[tot]at ih⊢;omega
def Zew (sep:Bytes):List Bytes->Bytes
 | []=> []
 | [x]=>x
 |x::y::r=>x++sep++Zew sep (y::r)
theorem Zof (sep:Bytes):∀l:List Bytes,Lib.join l sep=Zew sep l
 | []=>rfl
 | [x]=>by simp_all[Lib.join,Zew]
 |x::y::r=>by
  have ih:=Zof sep (y::r)
  simp only[Lib.join,List.intercalate]at ih⊢
  rw[Zew, <-ih];simp[List.intersperse]
theorem Zh8 (sep:Bytes):∀l:List Bytes,(Zew sep l).length<=tot sep.length l
 | []=>by grind[Zew]
 | [x]=>by simp[Zew,tot]
 |x::y::r=>by
  have:=Zh8 sep (y::r)
  simp[Zew,tot]at this⊢;omega
theorem Zc0 {c:UInt8}:∀{s:Bytes},c∉s->Zad c s=[s]
 | [],_=>rfl
 |b::r,h=>by
  simp only[Xap,not_or]at h
  simp only[Zad,if_neg (Ne.symm h.1),Zc0 h.2]
def cmpB (a b:Bytes):Int:=if Op.bytesLess a b then-1 else if Op.bytesLess b a then 1 else 0
theorem Zdu {a b:Bytes}:cmpB a b=0<->a=b:=by
 grind[Zl5,Zcq,cmpB]
theorem Znp (a b:Bytes):cmpB b a= -cmpB a b:=by
 grind[Zkn,cmpB]
theorem Zmd {a b:Bytes}:cmpB a b<0<->Op.bytesLess a b=true:=by
 grind[cmpB]
theorem Zs3 {a b c:Bytes}(h1:cmpB a b<0)(h2:cmpB b c<0):cmpB a c<0:=Zmd.2 (Zen (Zmd.1 h1) (Zmd.1 h2))
theorem Zs8 (a b:Bytes):cmpB a b= -1 \/cmpB a b=0 \/cmpB a b=1:=by
 grind[cmpB]
def cmpL :List Bytes->List Bytes->Int
 | [],[]=>0
 | [],_::_=> -1
 |_::_,[]=>1
 |a::r,b::s=>if cmpB a b=0 then cmpL r s else cmpB a b
theorem cmpL_zero :∀{a b:List Bytes},cmpL a b=0<->a=b
 | [],[]=>by simp[cmpL]
 | [],_::_=>by simp[cmpL]
 |_::_,[]=>by simp[cmpL]
 |a::r,b::s=>by
  simp only[cmpL]
  split<;>simp_all[cmpL_zero,Zdu]
theorem Zgu :∀(a b:List Bytes),cmpL b a= -cmpL a b
 | [],[]=>rfl
 | [],_::_=>rfl
 |_::_,[]=>rfl
 |a::r,b::s=>by
  simp only[cmpL]
  rw[Znp a b,Zgu r s]
  by_cases h:cmpB a b=0
  ·simp[h]
  ·simp[h]
theorem Zkw :∀{a b c:List Bytes},cmpL a b<0->cmpL b c<0->cmpL a c<0
 | [],[],_,h,_=>by omega
 |_::_,[],_,h,_=>by grind[cmpL]
 |_,_::_,[],_,h=>by grind[cmpL]
 | [],_::_,_::_,_,_=>by simp[cmpL]
 |a::r,b::s,c::t,h1,h2=>by
  simp only[cmpL]at h1 h2⊢
  by_cases e1:cmpB a b=0
  ·have:=Zdu.1 e1;subst this
   rw[if_pos e1]at h1
   by_cases e2:cmpB a c=0
   ·rw[if_pos e2]at h2⊢;exact Zkw h1 h2
   omega
  grind[Zdu,Zs3,cmpB]
theorem Zkk :∀(a b:List Bytes),cmpL a b= -1 \/cmpL a b=0 \/cmpL a b=1
 | [],[]=>by simp[cmpL]
 | [],_::_=>by simp[cmpL]
 |_::_,[]=>by simp[cmpL]
 |a::r,b::s=>by
  simp only[cmpL]
  split
  ·exact Zkk r s
  ·exact Zs8 a b
def Zag (c:UInt8):List Bytes->Bytes
 | []=> []
 | [x]=>x
 |x::y::r=>x++c::Zag c (y::r)
theorem Zbb (c:UInt8):∀s:Bytes,Zag c (Zad c s)=s
 | []=>rfl
 |b::r=>by
  simp only[Zad]
  have ih:=Zbb c r
  split
  ·rename_i h
   subst h
   cases h':Zad b r with
   |nil=>exact absurd h' (Zaw _ _)
   |cons x xs=>rw[h']at ih;simp[Zag,ih]
  ·cases h':Zad c r with
   |nil=>exact absurd h' (Zaw _ _)
   |cons x xs=>
    rw[h']at ih
    cases xs with
    |nil=>simp[Zag]at ih⊢;exact ih
    |cons y ys=>simp only[Zag]at ih⊢;rw[<-ih];rfl
def Zb8 (p:Bytes):List Bytes:=if p=[]then []else Zad 47 p
theorem Zth {p q:Bytes}(h:Zb8 p=Zb8 q):p=q:=by
 unfold Zb8 at h
 split at h
 ·grind[Zaw]
 ·split at h
  ·grind[Zaw]
  ·have:=congrArg (Zag 47) h;grind[Zbb]
def pcmp (p q:Bytes):Int:=cmpL (Zb8 p) (Zb8 q)
theorem Zuv {p q:Bytes}:pcmp p q=0<->p=q:=cmpL_zero.trans ⟨Zth,fun h=>by rw[h]⟩
theorem Zjv (p q:Bytes):pcmp q p= -pcmp p q:=Zgu _ _
theorem Zs5 {p q r:Bytes}(h1:pcmp p q<0)(h2:pcmp q r<0):pcmp p r<0:=Zkw h1 h2
theorem Zti (p q:Bytes):pcmp p q= -1 \/pcmp p q=0 \/pcmp p q=1:=Zkk _ _
def Zbe (s:Bytes):Bool:= !decide (s=[])&& !decide (s=[46])&& !decide (s=[46,46])&& !decide ((0:UInt8)∈s)&& !decide ((47:UInt8)∈s)
def Zco (p:Bytes):Bool:=decide (p.length<=128)&&decide ((Zad 47 p).length<=16)&&(Zad 47 p).all Zbe
def Zb9 (d p:Bytes):Option Bytes:=if d=[]then(if p=[]then none else some p)else if p.take (d.length+1)=d++ [47]/\p.drop (d.length+1)≠ []then some (p.drop (d.length+1))else none
theorem Zay (c:UInt8){s x:Bytes}(h:x∈Zad c s):x.length<=s.length:=by
 have:=Zxm 1 h
 grind[Zj8]
theorem Zf0 {p:Bytes}(h:Zco p=true):∀x∈Zad 47 p,Zbe x=true:=by
 simp_all[Zco]
theorem Zhn {s:Bytes}(h:Zbe s=true):s≠ []:=by rintro rfl;simp[Zbe]at h
theorem Zhj {s:Bytes}(h:Zbe s=true):(47:UInt8)∉s:=by
 simp_all[Zbe]
theorem Z2r {p:Bytes}(h:Zco p=true):p≠ []:=by rintro rfl;simp[Zco,Zad,Zbe]at h
theorem Zig {p:Bytes}(h:Zco p=true):p.length<=128:=by
 simp_all[Zco]
theorem Zct (c:UInt8)(x:Bytes):∀l:List Bytes,l≠ []->Zag c (x::l)=x++c::Zag c l
 | [],h=>absurd rfl h
 |_::_,_=>rfl
theorem Zdi (c:UInt8):∀a b:List Bytes,a≠ []->b≠ []->Zag c (a++b)=Zag c a++c::Zag c b
 | [],_,h,_=>absurd rfl h
 | [x],b,_,hb=>by rw[Xci,Zct _ _ _ hb];rfl
 |x::y::r,b,_,hb=>by
  have:=Zdi c (y::r) b (by simp) hb
  rw[Xb4,Zct _ _ _ (by simp),this]
  simp[Zag]
theorem Ze6 {D:List Bytes}(h:D≠ [])(hp:∀x∈D,Zbe x=true):Zag 47 D≠ []:=by
 cases D with
 |nil=>grind
 |cons x r=>
  have:=Zhn (hp x (by simp))
  cases r<;>simp_all[Zag]
theorem Zhp {D:List Bytes}(h:D≠ [])(hp:∀x∈D,Zbe x=true):Zad 47 (Zag 47 D)=D:=by
 induction D with
 |nil=>grind
 |cons x r ih=>
  cases r with
  |nil=>exact Zc0 (Zhj (hp x (by simp)))
  |cons z r=>
   grind[Zct,Zgi,Zc0,Zhj]
theorem Zlm {D R:List Bytes}{p:Bytes}(hD:∀x∈D,Zbe x=true)(hR:∀x∈R,Zbe x=true)(hRn:R≠ [])(hp:Zad 47 p=D++R):Zb9 (Zag 47 D) p=some (Zag 47 R):=by
 have hj:=Zbb 47 p
 rw[hp]at hj
 have hr:=Ze6 hRn hR
 by_cases h:D=[]
 ·grind[Zb9,Zag]
 ·rw[Zdi 47 D R h hRn]at hj
  unfold Zb9
  rw[if_neg (Ze6 h hD), <-hj]
  have e1:(Zag 47 D++47::Zag 47 R)=(Zag 47 D++ [47])++Zag 47 R:=by simp
  grind
theorem Zhq {D:List Bytes}{p r:Bytes}(hD:∀x∈D,Zbe x=true)(h:Zb9 (Zag 47 D) p=some r):∃R,R≠ []/\Zad 47 p=D++R:=by
 unfold Zb9 at h
 by_cases h0:D=[]
 ·simp_all[Zaw]
 ·rw[if_neg (Ze6 h0 hD)]at h
  split at h
  ·rename_i hc
   refine⟨Zad 47 (p.drop ((Zag 47 D).length+1)),Zaw _ _, ?_⟩
   have:p=Zag 47 D++47::p.drop ((Zag 47 D).length+1):=by
    grind[List.take_append_drop]
   grind[Zgi,Zhp]
  ·cases h
theorem Zod {d p r:Bytes}(h:Zb9 d p=some r):r.length<=p.length:=by
 grind[Zb9]
structure EnvT (e:Ev):Prop where
 split:∀(s:Bytes) (c:UInt8),s.length<4294967281->e 110 [.str s, .str [c]]=some (strs (Zad c s))
 contains:∀(s:Bytes) (c:UInt8),s.length<4294967281->e 50 [.str s, .str [c]]=some (.bool (decide (c∈s)))
 join:∀(l:List Bytes) (s:Bytes),l.length<=1000000000->(Zew s l).length<=140737488355328->e 99 [strs l, .str s]=some (.str (Zew s l))
variable {e:Ev}
theorem v.split (he:EnvT e)(s:Bytes)(c:UInt8)(hs:s.length<=4000000000):vl e 110 0 [.str s, .str [c]]=some (strs (Zad c s)):=Zd5 (by kernel_rfl) (he.split s c (by omega))
theorem v.contains (he:EnvT e)(s:Bytes)(c:UInt8)(hs:s.length<=4000000000):vl e 50 0 [.str s, .str [c]]=some (.bool (decide (c∈s))):=Zd5 (by kernel_rfl) (he.contains s c (by omega))
theorem v.join (he:EnvT e)(l:List Bytes)(s:Bytes)(hl:l.length<=1000000000)(hj:(Zew s l).length<=140737488355328):vl e 99 0 [strs l, .str s]=some (.str (Zew s l)):=Zd5 (by kernel_rfl) (he.join l s hl hj)
theorem v.pSplit (he:EnvT e)(p:Bytes)(hp:p.length<=4000000000):vl e 122 0 [.str p]=some (strs (Zb8 p)):=by
 rw[w1 s.zq30];unfold y.zq30 Zb8
 by_cases h:p=[]<;>simp_all[yy,v.split]
theorem v.isNaN (s:Bytes):vl e 236 0 [.str s]=some (.bool false):=by
 simp_all[w1 s.zq1,yy,y.zq1]
theorem v.cmpStr (a b:Bytes):vl e 186 0 [.str a, .str b]=some (I (cmpB a b)):=by
 rw[w2 s.zq0];unfold y.zq0
 have h1:evp (.bin .gtr .no) [.str a, .str b]=some (.bool (Op.bytesLess b a)):=by
  show some (V.bool (!(Op.bytesLess a b||decide (a=b))))=_
  rw[Zlo]
 unfold cmpB
 simp only[yy,v.isNaN,h1,Qa5]
 grind
theorem v.slCmp8 (a b:List Bytes)(ha:a.length<=1000000000)(hb:b.length<=1000000000):∀(n i:Nat),i+n=a.length->i<=b.length->vl e 137 8 [strs a,strs b,strs a,I a.length,I i]=some (I (cmpL (a.drop i) (b.drop i))):=by
 intro n
 induction n with
 |zero=>
  intro i hi hib
  rw[w5 s.zq91_8];unfold y.zq91_8
  have e1:a.drop i=[]:=Xas (by omega)
  rw[e1]
  by_cases h:a.length<b.length
  ·simp only[yy,if_neg (show ¬((i:Int)<(a.length:Int))by omega),if_pos (show(a.length:Int)<(b.length:Int)by omega)]
   rw[Xah (show i<b.length by omega)];rfl
  ·simp only[yy,if_neg (show ¬((i:Int)<(a.length:Int))by omega),if_neg (show ¬(a.length:Int)<(b.length:Int)by omega)]
   rw[Xas (show b.length<=i by omega)];rfl
 |succ n ih=>
  intro i hi hib
  have ha':i<a.length:=by omega
  rw[w5 s.zq91_8];unfold y.zq91_8
  by_cases hb':i<b.length
  ·have:=ih (i+1) (by omega) (by omega)
   have hd1:=Xah ha'
   have hd2:=Xah hb'
   rw[hd1,hd2,cmpL]
   by_cases hz:cmpB a[i] b[i]=0
   ·rw[if_pos hz]
    simp only[yy,if_pos (show(i:Int)<(a.length:Int)by omega),Zdv ha',Zch,if_neg (show ¬(b.length:Int)<=(i:Int)by omega),Zdv hb',v.cmpStr,if_pos hz,Zai ha' (by omega)]
    exact this
   ·rw[if_neg hz]
    simp only[yy,if_pos (show(i:Int)<(a.length:Int)by omega),Zdv ha',Zch,if_neg (show ¬(b.length:Int)<=(i:Int)by omega),Zdv hb',v.cmpStr,if_neg hz]
  ·rw[Xah ha',Xas (show b.length<=i by omega)]
   simp only[yy,if_pos (show(i:Int)<(a.length:Int)by omega),Zdv ha',Zch,if_pos (show(b.length:Int)<=(i:Int)by omega)]
   rfl
theorem Zdh (s:Bytes):(Zb8 s).length<=s.length+1:=by
 grind[Zbn,Zb8]
theorem v.pCompare (he:EnvT e)(a b:Bytes)(ha:a.length<=1000000)(hb:b.length<=1000000):vl e 92 0 [.str a, .str b]=some (I (pcmp a b)):=by
 have h1:=Zdh a
 have h2:=Zdh b
 have h3:vl e 137 0 [strs (Zb8 a),strs (Zb8 b)]=some (I (pcmp a b)):=by
  rw[w2 s.zq91];unfold y.zq91
  simp only[yy,Zef]
  exact v.slCmp8 (Zb8 a) (Zb8 b) (by omega) (by omega) (Zb8 a).length 0 (Xao _) (Xbz _)
 rw[w2 s.zq23];unfold y.zq23
 simp only[yy,v.pSplit he a (by omega),v.pSplit he b (by omega),h3]
theorem v.ord (he:EnvT e):Ord e (fun f=>f.1.length<=1000000) (fun a b=>pcmp a.1 b.1) where
 run a b ha hb:=by
  show vl e 91 0 ([fv a,fv b]++ [])=_
  simp_all[w2 s.zq52,yy,v.pCompare,y.zq52,evp]
 asy a b h:=by grind[Zjv]
 tr a b c h1 h2 h3:=by
  grind[Zti,Zjv,Zuv,Zs5]
theorem v.part (he:EnvT e)(s:Bytes)(hs:s.length<=4000000000):vl e 139 0 [.str s]=some (.bool (Zbe s)):=by
 rw[w1 s.zq32];unfold y.zq32 Zbe
 by_cases h1:s=[]
 ·simp_all[yy]
 by_cases h2:s=[46]
 ·simp_all[yy]
 by_cases h3:s=[46,46]
 ·simp_all[yy]
 by_cases h4:(0:UInt8)∈s<;>simp_all[yy,v.contains]
theorem v.gIdx (he:EnvT e)(l:List Bytes)(hl:l.length<=1000000)(hb:∀x∈l,x.length<=4000000000):∀(n i:Nat),i+n=l.length-> ∃z:Int,vl e 145 8 [strs l, .fn 138 [],I l.length,I i]=some (I z)/\(0<=z<->(l.drop i).all Zbe=false):=by
 intro n
 induction n with
 |zero=>
  intro i hi
  refine⟨-1, ?_,by rw[Xas (by omega)];simp⟩<;>grind[w4 s.zq97_8,yy,y.zq97_8]
 |succ n ih=>
  intro i hi
  have hlt:i<l.length:=by omega
  have hp:Ze4 (vl e) (.fn 138 []) [.str l[i]]=some (.bool (!Zbe l[i])):=by
   show vl e 138 0 ([.str l[i]]++ [])=_
   simp_all[w1 s.zq27,yy,v.part,y.zq27]
  have hd:=Xah hlt
  rw[w4 s.zq97_8];unfold y.zq97_8
  cases hg:Zbe l[i]with
  |false=>
   rw[hg]at hp
   refine⟨i, ?_,by rw[hd,Xcs,hg];simp⟩<;>simp_all[yy,Zdv,Zch,cv]
  |true=>
   rw[hg]at hp
   obtain⟨z,h1,h2⟩:=ih (i+1) (by omega)
   refine⟨z, ?_,by grind⟩
   simp only[yy,if_pos (show(i:Int)<(l.length:Int)by omega),Zdv hlt,Zch,cv,hp,Zai hlt (by omega)]
   exact h1
theorem v.Good (he:EnvT e)(p:Bytes)(hp:p.length<=1000000):vl e 93 0 [.str p]=some (.bool (Zco p)):=by
 rw[w1 s.zq26];unfold y.zq26 Zco
 by_cases h1:p.length<=128
 ·have hl:=Zbn 47 p
  by_cases h2:(Zad 47 p).length<=16
  ·obtain⟨z,q1,q2⟩:=v.gIdx he (Zad 47 p) (by omega) (fun x hx=>by have:=Zay 47 hx;omega) _ 0 (Xao _)
   have hc:vl e 120 0 [strs (Zad 47 p), .fn 138 []]=some (.bool (decide ((0:Int)<=z))):=by
    simp_all[w2 s.zq97,yy,w2 s.zq93,y.zq97,y.zq93]
   simp only[yy,if_neg (show ¬((128:Int)<(p.length:Int))by omega),v.split he p 47 (by omega),if_pos (show((Zad 47 p).length:Int)<=16 by omega),hc]
   grind
  ·simp only[yy,if_neg (show ¬((128:Int)<(p.length:Int))by omega),v.split he p 47 (by omega),if_neg (show ¬((Zad 47 p).length:Int)<=16 by omega)]
   simp[h2]
 ·simp only[yy,if_pos (show(128:Int)<(p.length:Int)by omega)]
  simp[h1]
theorem v.Under (d p:Bytes)(hd:d.length<=1000000)(hp:p.length<=1000000):∃x:Bytes,vl e 94 0 [.str d, .str p]=some (.tup [.str x, .bool (Zb9 d p).isSome])/\ ∀r,Zb9 d p=some r->x=r:=by
 rw[w2 s.zq31];unfold y.zq31 Zb9
 by_cases h:d=[]
 ·refine⟨p, ?_,fun r hr=> ?_⟩
  ·simp only[yy,if_pos h]
   by_cases h2:p=[]<;>simp[h2,h]
  grind
 ·have ea:evp (.bin .add .no) [.str d, .str [47]]=some (.str (d++ [47])):=Zj6 (by simp;omega)
  have hc:=v.cutPrefix (e:=e) p (d++ [47])
  have e2:(d++ [47]).length=d.length+1:=by simp
  rw[e2]at hc
  by_cases h1:p.take (d.length+1)=d++ [47]
  ·rw[if_pos h1,decide_eq_true h1]at hc
   refine⟨p.drop (d.length+1), ?_,fun r hr=> ?_⟩
   ·simp only[yy,if_neg h,ea,hc]
    grind
   grind
  simp_all[yy]
end Go.Proofs.YtegmegbanfkomaaGreatDoor
namespace Go.Proofs.YtegmegbanfkomaaGreatDoor
open Go.Abs
set_option maxRecDepth 10000
variable {e:Ev}
theorem v.rParts (p:Bytes)(hp:p.length<=1000000000):vl e 43 0 [.str p]=some (strs (Zad 47 p)):=by
 have hLim:Lim=4294967296:=rfl
 have key:∀(n i f:Nat) (acc:List Bytes),p.length+1=n+i->f<=i->acc.length<=i->
   (i<=p.length->vl e 43 12 [.str p,strs acc,I f,I i]=some (strs (acc++addH ((p.take i).drop f) (Zad 47 (p.drop i)))))/\(i=p.length+1->vl e 43 12 [.str p,strs acc,I f,I i]=some (strs acc)):=by
  intro n
  induction n with
  |zero=>
   intro i f acc hn hf ha
   refine⟨fun h=>by omega,fun h=> ?_⟩
   rw[w4 s.zq76_12];unfold y.zq76_12
   simp only[yy,if_neg (show ¬((i:Int)<=(p.length:Int))by omega)]
  |succ n ih=>
   intro i f acc hn hf ha
   refine⟨fun hil=> ?_,fun h=>by omega⟩
   have e1:IntKind.i64.wrap ((i:Int)+1)=((i+1:Nat):Int):=w64 _ (by omega)
   rw[w4 s.zq76_12];unfold y.zq76_12
   by_cases he:i=p.length
   ·have hih:=(ih (i+1) (i+1) (acc++ [(p.take i).drop f]) (by omega) (Xae _) (by simp;omega)).2 (by omega)
    simp only[yy,if_pos (show(i:Int)<=(p.length:Int)by omega),if_pos (show(i:Int)=(p.length:Int)by omega),Zt9 hf hil,Zhw,Zmv (show acc.length+1<=Lim by omega),e1,hih]
    grind[Zad,addH]
   ·have hlt:i<p.length:=by omega
    by_cases hc:p[i]=47
    ·have hih:=(ih (i+1) (i+1) (acc++ [(p.take i).drop f]) (by omega) (Xae _) (by simp;omega)).1 (by omega)
     have hc':((p[i].toNat:Nat):Int)=47:=by rw[hc];rfl
     simp only[yy,if_pos (show(i:Int)<=(p.length:Int)by omega),if_neg (show ¬((i:Int)=(p.length:Int))by omega),Zib (Xad hlt),byteV,if_pos hc',Zt9 hf hil,Zhw,Zmv (show acc.length+1<=Lim by omega),e1]
     grind[List.drop_eq_getElem_cons,Znv,Zqt,Zaw]
    ·have hih:=(ih (i+1) f acc (by omega) (by omega) (by omega)).1 (by omega)
     have hne: ¬((p[i].toNat:Int)=47):=fun h=>hc (Xc1.1 (by grind))
     simp only[yy,if_pos (show(i:Int)<=(p.length:Int)by omega),if_neg (show ¬((i:Int)=(p.length:Int))by omega),Zib (Xad hlt),byteV,if_neg hne,e1]
     grind[List.drop_eq_getElem_cons,Zn5]
 rw[w1 s.zq76];unfold y.zq76
 refine((key (p.length+1) 0 0 [] (by omega) (Xae _) (Xae _)).1 (Xbz _)).trans ?_
 grind[Zqt,Zaw]
theorem Zjf {a b:UInt8}:((a.toNat:Nat):Int)=((b.toNat:Nat):Int)<->a=b:=⟨fun h=>Xc1.1 (by omega),fun h=>by rw[h]⟩
theorem v.rPart8 (s:Bytes)(hs:s.length<=1000000000):∀(n i:Nat),i+n=s.length->vl e 44 8 [.str s,I i]=some (.bool (decide ((0:UInt8)∉s.drop i)&&decide ((47:UInt8)∉s.drop i)&&(!decide (s=[])&& !decide (s=[46])&& !decide (s=[46,46])))):=by
 intro n
 induction n with
 |zero=>
  intro i hi
  rw[w2 s.zq75_8,Xas (show s.length<=i by omega)];unfold y.zq75_8
  by_cases h1:s=[]
  ·simp_all[yy]
  by_cases h2:s=[46]<;>simp_all[yy]
 |succ n ih=>
  intro i hi
  have hlt:i<s.length:=by omega
  have hd:=Xah hlt
  rw[w2 s.zq75_8];unfold y.zq75_8
  by_cases h0:s[i]=0
  ·simp_all[yy,Zib,byteV]
  ·have h0': ¬((s[i].toNat:Nat):Int)=0:=fun h=>h0 (Zjf.1 (by rw[h];rfl))
   by_cases h1:s[i]=47
   ·simp_all[yy,Zib,byteV]
   ·have h1': ¬((s[i].toNat:Nat):Int)=47:=fun h=>h1 (Zjf.1 (by rw[h];rfl))
    simp only[yy,if_pos (show(i:Int)<(s.length:Int)by omega),Zib (Xad hlt),byteV,if_neg h0',if_neg h1',Zai hlt (by omega)]
    grind
theorem v.rPart (s:Bytes)(hs:s.length<=1000000000):vl e 44 0 [.str s]=some (.bool (Zbe s)):=by
 rw[w1 s.zq75];unfold y.zq75
 refine(v.rPart8 s hs s.length 0 (Xao _)).trans ?_<;>grind[Zbe]
theorem v.rGood10 (p:Bytes)(l:List Bytes)(hl:l.length<=1000000000)(hb:∀x∈l,x.length<=1000000000):∀(n i:Nat),i+n=l.length->vl e 14 10 [.str p,strs l,strs l,I l.length,I i]=some (.bool ((l.drop i).all Zbe&&(decide (p.length<=128)&&decide (l.length<=16)))):=by
 intro n
 induction n with
 |zero=>
  intro i hi
  rw[w5 s.zq73_10,Xas (show l.length<=i by omega)];unfold y.zq73_10
  by_cases h:p.length<=128
  ·simp only[yy,if_neg (show ¬((i:Int)<(l.length:Int))by omega),if_pos (show(p.length:Int)<=128 by omega)]
   grind[decide]
  ·simp only[yy,if_neg (show ¬((i:Int)<(l.length:Int))by omega),if_neg (show ¬(p.length:Int)<=128 by omega)]
   simp[h]
 |succ n ih=>
  intro i hi
  have hlt:i<l.length:=by omega
  have hd:=Xah hlt
  have hp:=v.rPart (e:=e) l[i] (hb _ (Xam hlt))
  rw[w5 s.zq73_10];unfold y.zq73_10
  cases hg:Zbe l[i]with
  |false=>
   rw[hg]at hp
   simp only[yy,if_pos (show(i:Int)<(l.length:Int)by omega),Zdv hlt,Zch,hp]
   grind
  |true=>
   rw[hg]at hp
   simp only[yy,if_pos (show(i:Int)<(l.length:Int)by omega),Zdv hlt,Zch,hp,Zai hlt (by omega)]
   rw[ih (i+1) (by omega),hd,Xcs,hg,Bool.true_and]
theorem v.rGood (p:Bytes)(hp:p.length<=100000000):vl e 14 0 [.str p]=some (.bool (Zco p)):=by
 have hl:=Zbn 47 p
 rw[w1 s.zq73];unfold y.zq73
 simp only[yy,v.rParts p (by omega),Zef]
 refine(v.rGood10 p (Zad 47 p) (by omega) (fun x hx=>by have:=Zay 47 hx;omega) _ 0 (Xao _)).trans ?_<;>simp_all[Xd2,Zco]
theorem v.rUnder (d p:Bytes)(hd:d.length<=1000000)(hp:p.length<=1000000):∃x:Bytes,vl e 33 0 [.str d, .str p]=some (.tup [.str x, .bool (Zb9 d p).isSome]):=by
 rw[w2 s.zq78];unfold y.zq78 Zb9
 by_cases h:d=[]
 ·refine⟨p, ?_⟩<;>grind[yy]
 ·have e1:IntKind.i64.wrap ((d.length:Int)+1)=((d.length+1:Nat):Int):=Zai (show d.length<d.length+1 by omega) (by omega)
  have hdl:0<d.length:=Xal.2 h
  by_cases h1:p.length<=d.length+1
  ·refine⟨[], ?_⟩
   simp only[yy,if_neg h,e1,if_pos (show(p.length:Int)<=((d.length+1:Nat):Int)by omega)]
   simp_all
  ·have hlt:d.length<p.length:=by omega
   have ht:p.take (d.length+1)=p.take d.length++ [p[d.length]]:=Xbi hlt
   by_cases h2:p.take d.length=d
   ·by_cases h3:p[d.length]=47
    ·have h3':((p[d.length].toNat:Nat):Int)=47:=by rw[h3];rfl
     refine⟨p.drop (d.length+1), ?_⟩
     simp only[yy,if_neg h,e1,if_neg (show ¬(p.length:Int)<=((d.length+1:Nat):Int)by omega),Zh9 (show d.length<=p.length by omega),if_pos h2,Zib (Xad hlt),byteV,if_pos h3',Zh6 (show d.length+1<=p.length by omega)]
     simp_all
    ·have h3': ¬((p[d.length].toNat:Nat):Int)=47:=fun hh=>h3 (Zjf.1 (by rw[hh];rfl))
     refine⟨[], ?_⟩
     simp only[yy,if_neg h,e1,if_neg (show ¬(p.length:Int)<=((d.length+1:Nat):Int)by omega),Zh9 (show d.length<=p.length by omega),if_pos h2,Zib (Xad hlt),byteV,if_neg h3']
     simp_all
   ·refine⟨[], ?_⟩
    simp only[yy,if_neg h,e1,if_neg (show ¬(p.length:Int)<=((d.length+1:Nat):Int)by omega),Zh9 (show d.length<=p.length by omega),if_neg h2]
    rw[if_neg (fun hc=>h2 (by
     have:=congrArg (List.take d.length) hc.1
     grind))]
    rfl
theorem Zc1 {l:List Fi}{i:Nat}(h:i<l.length):evp (.elem 2) [Zac l,I i]=some (fv l[i]):=Zf6 (by simp[h])
theorem Zf5 {x:Fi}:evp (.ld (some 2) 0) [fv x]=some (fv x):=rfl
theorem Zb1 {x:Fi}:evp (.cat [some 2]) [fv x]=some (fv x):=rfl
theorem Zek {x:Fi}:evp (.ld none 0) [fv x]=some (.str x.1):=rfl
theorem Zqp {x:Fi}:evp (.ld none 1) [fv x]=some (.str x.2):=rfl
theorem Zf8 {l:List Fi}:evp (.len false) [Zac l]=some (I l.length):=by rw[Zac,Zsr,Xb2]
theorem v.great10 (l:List Fi)(hl:l.length<=1000000000)(hb:∀f∈l,f.1.length<=1000000000/\f.2.length<=1000000000)(q by_:Nat)(hby:by_<=1000000000):∀(n i m:Nat),i+n=l.length->m<=by_-> ∃b:Bool,vl e 40 10 [Zac l,I q,I by_,I m,Zac l,I l.length,I i]=some (.bool b)/\(b=false->l.length<=q/\ ∀k (h:k<l.length),i<=k->l[k].1.length+l[k].2.length<=by_):=by
 intro n
 induction n with
 |zero=>
  intro i m hi hm
  refine⟨decide ((q:Int)<(l.length:Int)), ?_,fun h=>⟨by have:=of_decide_eq_false h;omega,fun k hk hik=>by omega⟩⟩<;>grind[w7 s.zq82_10,yy,y.zq82_10]
 |succ n ih=>
  intro i m hi hm
  have hlt:i<l.length:=by omega
  obtain⟨h1,h2⟩:=hb _ (Xam hlt)
  have a1:IntKind.i64.wrap ((l[i].1.length:Int)+(l[i].2.length:Int))=((l[i].1.length+l[i].2.length:Nat):Int):=Zer (by omega)
  have a2:IntKind.i64.wrap ((m:Int)+((l[i].1.length+l[i].2.length:Nat):Int))=((m+(l[i].1.length+l[i].2.length):Nat):Int):=Zer (by omega)
  rw[w7 s.zq82_10];unfold y.zq82_10
  by_cases hc:by_<m+(l[i].1.length+l[i].2.length)
  ·refine⟨true, ?_,fun h=>by cases h⟩
   simp only[yy,if_pos (show(i:Int)<(l.length:Int)by omega),Zc1 hlt,Zf5,Zb1,Zek,Zqp,a1,a2,if_pos (show(by_:Int)<((m+(l[i].1.length+l[i].2.length):Nat):Int)by omega)]
  ·obtain⟨b,r1,r2⟩:=ih (i+1) (m+(l[i].1.length+l[i].2.length)) (by omega) (by omega)
   refine⟨b, ?_,fun h=>⟨(r2 h).1,fun k hk hik=> ?_⟩⟩
   ·simp only[yy,if_pos (show(i:Int)<(l.length:Int)by omega),Zc1 hlt,Zf5,Zb1,Zek,Zqp,a1,a2,if_neg (show ¬(by_:Int)<((m+(l[i].1.length+l[i].2.length):Nat):Int)by omega),Zai hlt (by omega)]
    exact r1
   grind
theorem v.great (l:List Fi)(hl:l.length<=1000000000)(hb:∀f∈l,f.1.length<=1000000000/\f.2.length<=1000000000)(q by_:Nat)(hby:by_<=1000000000):∃b:Bool,vl e 40 0 [Zac l,I q,I by_]=some (.bool b)/\(b=false->l.length<=q/\ ∀f∈l,f.1.length+f.2.length<=by_):=by
 obtain⟨b,r1,r2⟩:=v.great10 (e:=e) l hl hb q by_ hby l.length 0 0 (Xao _) (Xbz _)
 refine⟨b, ?_,fun h=>⟨(r2 h).1,fun f hf=> ?_⟩⟩
 ·simp_all[w3 s.zq82,yy,y.zq82]
 ·obtain⟨k,hk,rfl⟩:=Xbt.1 hf
  grind
def Zcr (x f:Bytes):Bool:=(Zb9 x f).isSome||decide (x=f)
def okI (l:List Fi)(i:Nat):Prop:=Zco (l.getD i ([],[])).1=true/\ ∀k,k<l.length->k≠i->Zcr (l.getD k ([],[])).1 (l.getD i ([],[])).1=false
open Classical in
noncomputable def whyB (l:List Fi):Int:=if 512<l.length then 3 else if ∀i,i<l.length->okI l i then(if ∀f∈l,f.2.length<=32768 then 0 else 3)else 1
theorem Zbg {l:List Fi}{i:Nat}(h:i<l.length):l.getD i ([],[])=l[i]:=by simp[List.getD,h]
section
variable (l:List Fi)(hl:l.length<=1000000)(hb:∀f∈l,f.1.length<=1000000/\f.2.length<=1000000000)
include hl hb
omit hb in
theorem v.why64 :∀(n i:Nat),i+n=l.length->vl e 41 64 [Zac l,I l.length,I i]=some (I (if ∀f∈l.drop i,f.2.length<=32768 then 0 else 3)):=by
 intro n
 induction n with
 |zero=>
  intro i hi
  rw[w3 s.zq84_64];unfold y.zq84_64
  simp only[yy,if_neg (show ¬((i:Int)<(l.length:Int))by omega)]
  rw[Xas (by omega),if_pos (by simp)]
 |succ n ih=>
  intro i hi
  have hlt:i<l.length:=by omega
  have hd:=Xah hlt
  rw[w3 s.zq84_64];unfold y.zq84_64
  by_cases hc:32768<l[i].2.length
  ·simp only[yy,if_pos (show(i:Int)<(l.length:Int)by omega),Zc1 hlt,Zf5,Zb1,Zqp,if_pos (show(32768:Int)<(l[i].2.length:Int)by omega)]
   rw[if_neg (fun h=>by have:=h l[i] (by rw[hd];exact Xdc);omega)]
  ·simp only[yy,if_pos (show(i:Int)<(l.length:Int)by omega),Zc1 hlt,Zf5,Zb1,Zqp,if_neg (show ¬(32768:Int)<(l[i].2.length:Int)by omega),Zai hlt (by omega)]
   rw[ih (i+1) (by omega),hd]
   have:(∀f∈l.drop (i+1),f.2.length<=32768)<-> ∀f∈l[i]::l.drop (i+1),f.2.length<=32768:=by
    simp only[Xap,forall_eq_or_imp]
    exact⟨fun h=>⟨by omega,h⟩,fun h=>h.2⟩
   by_cases hp:∀f∈l.drop (i+1),f.2.length<=32768
   ·rw[if_pos hp,if_pos (this.1 hp)]
   ·rw[if_neg hp,if_neg (fun h=>hp (this.2 h))]
open Classical in
theorem v.why38 (i:Nat)(hi:i<l.length):∀(n k:Nat),k+n=l.length->
  vl e 41 38 [Zac l,I i,Zac l,I l.length,I i,Zac l,I l.length,I k,fv l[i]]=if ∀j,j<l.length->k<=j->j≠i->Zcr (l.getD j ([],[])).1 l[i].1=false then vl e 41 16 [Zac l,Zac l,I l.length,I (i+1:Nat)]else some (I 1):=by
 intro n
 induction n with
 |zero=>
  intro k hk
  rw[w9 s.zq84_38];unfold y.zq84_38
  simp only[yy,if_neg (show ¬((k:Int)<(l.length:Int))by omega),Zai hi (by omega)]
  rw[if_pos (fun j h1 h2=>by omega)]
 |succ n ih=>
  intro k hk
  have hlt:k<l.length:=by omega
  obtain⟨x,hx⟩:=v.rUnder (e:=e) l[k].1 l[i].1 (hb _ (Xam hlt)).1 (hb _ (Xam hi)).1
  have hih:=ih (k+1) (by omega)
  have step:(k=i \/Zcr l[k].1 l[i].1=false)->((∀j,j<l.length->k+1<=j->j≠i->Zcr (l.getD j ([],[])).1 l[i].1=false)<-> ∀j,j<l.length->k<=j->j≠i->Zcr (l.getD j ([],[])).1 l[i].1=false):=by
   intro h0
   refine⟨fun h j h1 h2 h3=> ?_,fun h j h1 h2 h3=>h j h1 (by omega) h3⟩
   rcases Xbf h2 with h'|rfl
   ·exact h j h1 h' h3
   ·rcases h0 with h0|h0
    ·exact absurd h0 h3
    ·rw[Zbg h1];exact h0
  have cong:(k=i \/Zcr l[k].1 l[i].1=false)->(if ∀j,j<l.length->k+1<=j->j≠i->Zcr (l.getD j ([],[])).1 l[i].1=false then vl e 41 16 [Zac l,Zac l,I l.length,I (i+1:Nat)]else some (I 1))=if ∀j,j<l.length->k<=j->j≠i->Zcr (l.getD j ([],[])).1 l[i].1=false then vl e 41 16 [Zac l,Zac l,I l.length,I (i+1:Nat)]else some (I 1):=by
   intro h0
   by_cases hp:∀j,j<l.length->k+1<=j->j≠i->Zcr (l.getD j ([],[])).1 l[i].1=false
   ·rw[if_pos hp,if_pos ((step h0).1 hp)]
   ·rw[if_neg hp,if_neg (fun h=>hp ((step h0).2 h))]
  have bad:k≠i->Zcr l[k].1 l[i].1=true->some (V.int .i64 1)=if ∀j,j<l.length->k<=j->j≠i->Zcr (l.getD j ([],[])).1 l[i].1=false then vl e 41 16 [Zac l,Zac l,I l.length,I (i+1:Nat)]else some (I 1):=by
   intro h0 h1
   rw[if_neg (fun h=>by have:=h k hlt (Xae _) h0;rw[Zbg hlt,h1]at this;cases this)]
  rw[w9 s.zq84_38];unfold y.zq84_38
  by_cases hki:k=i
  ·rw[<-cong (.inl hki), <-hih]
   simp only[yy,if_pos (show(k:Int)<(l.length:Int)by omega),Zc1 hlt,Zf5,Zb1,Zek,hx,if_pos (show(k:Int)=(i:Int)by omega),Zai hlt (by omega)]
  ·cases hu:(Zb9 l[k].1 l[i].1).isSome with
   |true=>
    rw[hu]at hx
    rw[<-bad hki (by unfold Zcr;rw[hu];rfl)]
    simp only[yy,if_pos (show(k:Int)<(l.length:Int)by omega),Zc1 hlt,Zf5,Zb1,Zek,hx,if_neg (show ¬(k:Int)=(i:Int)by omega)]
   |false=>
    rw[hu]at hx
    by_cases he:l[k].1=l[i].1
    ·rw[<-bad hki (by unfold Zcr;rw[decide_eq_true he,Bool.or_true])]
     simp only[yy,if_pos (show(k:Int)<(l.length:Int)by omega),Zc1 hlt,Zf5,Zb1,Zek,hx,if_neg (show ¬(k:Int)=(i:Int)by omega),if_pos he]
    ·rw[<-cong (.inr (by unfold Zcr;rw[hu,decide_eq_false he];rfl)), <-hih]
     simp only[yy,if_pos (show(k:Int)<(l.length:Int)by omega),Zc1 hlt,Zf5,Zb1,Zek,hx,if_neg (show ¬(k:Int)=(i:Int)by omega),if_neg he,Zai hlt (by omega)]
open Classical in
theorem v.why16 :∀(n i:Nat),i+n=l.length->vl e 41 16 [Zac l,Zac l,I l.length,I i]=some (I (if ∀j,j<l.length->i<=j->okI l j then(if ∀f∈l,f.2.length<=32768 then 0 else 3)else 1)):=by
 intro n
 induction n with
 |zero=>
  intro i hi
  rw[w4 s.zq84_16];unfold y.zq84_16
  simp only[yy,if_neg (show ¬((i:Int)<(l.length:Int))by omega),Zf8]
  have:=v.why64 (e:=e) l hl l.length 0 (Xao _)
  rw[Xbq]at this
  rw[if_pos (fun j h1 h2=>by omega)]
  exact this
 |succ n ih=>
  intro i hi
  have hlt:i<l.length:=by omega
  have hg:=v.rGood (e:=e) l[i].1 (Xba (hb _ (Xam hlt)).1 (by decide))
  have h38:=v.why38 (e:=e) l hl hb i hlt l.length 0 (Xao _)
  rw[w4 s.zq84_16];unfold y.zq84_16
  cases hgd:Zco l[i].1 with
  |false=>
   rw[hgd]at hg
   simp only[yy,if_pos (show(i:Int)<(l.length:Int)by omega),Zc1 hlt,Zf5,Zb1,Zek,hg]
   rw[if_neg (fun h=>by have:=(h i hlt (Xae _)).1;rw[Zbg hlt,hgd]at this;cases this)]
  |true=>
   rw[hgd]at hg
   simp only[yy,if_pos (show(i:Int)<(l.length:Int)by omega),Zc1 hlt,Zf5,Zb1,Zek,hg,Zf8]
   refine h38.trans ?_
   by_cases hc:∀j,j<l.length->0<=j->j≠i->Zcr (l.getD j ([],[])).1 l[i].1=false
   ·rw[if_pos hc,ih (i+1) (by omega)]
    have hok:okI l i:=⟨by rw[Zbg hlt];exact hgd,fun k h1 h2=>by rw[Zbg hlt];exact hc k h1 (Xbz _) h2⟩
    have:(∀j,j<l.length->i+1<=j->okI l j)<-> ∀j,j<l.length->i<=j->okI l j:=by
     refine⟨fun h j h1 h2=> ?_,fun h j h1 h2=>h j h1 (by omega)⟩
     rcases Xbf h2 with h'|rfl
     ·exact h j h1 h'
     ·exact hok
    by_cases hp:∀j,j<l.length->i+1<=j->okI l j
    ·rw[if_pos hp,if_pos (this.1 hp)]
    ·rw[if_neg hp,if_neg (fun h=>hp (this.2 h))]
   ·rw[if_neg hc,if_neg (fun h=>hc fun j h1 _ h2=>by have:=(h i hlt (Xae _)).2 j h1 h2;rw[Zbg hlt]at this;exact this)]
theorem v.why :vl e 41 0 [Zac l]=some (I (whyB l)):=by
 rw[w1 s.zq84];unfold y.zq84 whyB
 by_cases h:512<l.length
 ·simp only[yy,Zf8,if_pos (show(512:Int)<(l.length:Int)by omega)]
  rw[if_pos h]
 ·simp only[yy,Zf8,if_neg (show ¬(512:Int)<(l.length:Int)by omega)]
  rw[if_neg h]
  refine(v.why16 l hl hb l.length 0 (Xao _)).trans ?_<;>grind
end
theorem Zu0 :∀l:List Fi,(l.map fv).flatMap V.cells=fl l
 | []=>rfl
 |f::r=>by rw[Xan,Xcc,Zu0 r];rfl
theorem v.CloneF (l:List Fi)(hl:l.length<=1000000):vl e 11424 1 [Zac l]=some (.tup [I l.length,aggF l]):=by
 rw[w1 s.zq89_h0];unfold y.zq89_h0
 have h1:evp (.rapp 2) [.agg [], .int .i64 0,Zac l]=some (aggF l):=by
  show Ztc 2 (.agg []) (I 0) (Zac l)=_
  have hf:fits 2 (l.map fv)=true:=by simp_all[fits]
  simp only[Ztc,Zb2,Xaw,Zkg,hf,if_true,true_or]
  grind[Zu0,Lim]
 have h2:evp (.rlen 2) [.int .i64 0,Zac l]=some (I l.length):=by
  show Zqn 2 (I 0) (Zac l)=_
  simp[Zqn,Zb2]
 simp only[yy,h1,h2]
 cases l with
 |nil=>
  have:vamb (V.sl false 2 []) (some (V.tup [.int .i64 0, .agg []])) (some (V.tup [.int .i64 0, .agg []]))=some (V.tup [.int .i64 0, .agg []]):=by
   grind[vamb]
  exact this
 |cons x r=>rfl
end Go.Proofs.YtegmegbanfkomaaGreatDoor
namespace Go.Proofs.YtegmegbanfkomaaGreatDoor
open Go.Abs
set_option maxRecDepth 10000
abbrev W32 :=BitVec 32
def bv (x:W32):V:= .int .u32 (x.toNat:Int)
theorem Zq7 (n:Int):IntKind.u32.wrap n=n % 4294967296:=by simp[IntKind.wrap,IntKind.signed,IntKind.bits]
theorem Z42 (n:Int):IntKind.u8.wrap n=n % 256:=by simp[IntKind.wrap,IntKind.signed,IntKind.bits]
theorem Zdp (n:Int):IntKind.u64.wrap n=n % 18446744073709551616:=by simp[IntKind.wrap,IntKind.signed,IntKind.bits]
theorem Zlz (x:W32):IntKind.u32.wrap (x.toNat:Int)=(x.toNat:Int):=by rw[Zq7];have:=x.isLt;omega
theorem Zqk (x:W32):BitVec.ofInt IntKind.u32.bits (x.toNat:Int)=x:=by
 show BitVec.ofInt 32 (x.toNat:Int)=x
 grind
theorem b_add (x y:W32):evp (.bin .add .no) [bv x,bv y]=some (bv (x+y)):=by
 show some (V.int .u32 (IntKind.u32.wrap ((x.toNat:Int)+(y.toNat:Int))))=_
 grind[Zq7,bv]
theorem b_and (x y:W32):evp (.bin .and .no) [bv x,bv y]=some (bv (x&&&y)):=by
 show some (V.int .u32 (IntKind.u32.wrap ((BitVec.ofInt IntKind.u32.bits (x.toNat:Int)&&&BitVec.ofInt IntKind.u32.bits (y.toNat:Int)).toNat:Nat)))=_
 rw[Zqk,Zqk];exact congrArg (fun n=>some (V.int .u32 n)) (Zlz (x&&&y))
theorem b_or (x y:W32):evp (.bin .or .no) [bv x,bv y]=some (bv (x|||y)):=by
 show some (V.int .u32 (IntKind.u32.wrap ((BitVec.ofInt IntKind.u32.bits (x.toNat:Int)|||BitVec.ofInt IntKind.u32.bits (y.toNat:Int)).toNat:Nat)))=_
 rw[Zqk,Zqk];exact congrArg (fun n=>some (V.int .u32 n)) (Zlz (x|||y))
theorem b_xor (x y:W32):evp (.bin .xor .no) [bv x,bv y]=some (bv (x^^^y)):=by
 show some (V.int .u32 (IntKind.u32.wrap ((BitVec.ofInt IntKind.u32.bits (x.toNat:Int)^^^BitVec.ofInt IntKind.u32.bits (y.toNat:Int)).toNat:Nat)))=_
 rw[Zqk,Zqk];exact congrArg (fun n=>some (V.int .u32 n)) (Zlz (x^^^y))
theorem Z4p (x:W32):evp (.un .xor) [bv x]=some (bv (~~~x)):=by
 show some (V.int .u32 (IntKind.u32.wrap ((BitVec.ofInt 32 4294967295^^^BitVec.ofInt 32 (x.toNat:Int)).toNat:Nat)))=_
 rw[show BitVec.ofInt 32 (x.toNat:Int)=x from Zqk x,show BitVec.ofInt 32 4294967295=BitVec.allOnes 32 by decide,BitVec.allOnes_xor];exact congrArg (fun n=>some (V.int .u32 n)) (Zlz (~~~x))
theorem Zmy (x:W32)(k:Nat)(kd:IntKind)(hk:k<=32):evp (.bin .shl .no) [bv x, .int kd (k:Int)]=some (bv (x<<<k)):=by
 show(if(k:Int)<0 then none else some (V.int .u32 (IntKind.u32.wrap ((x.toNat:Int)*2^(min (k:Int).toNat IntKind.u32.bits)))))=_
 rw[if_neg (by omega),Zq7]
 unfold bv
 rw[BitVec.toNat_shiftLeft,Xdm]
 have:min (k:Int).toNat IntKind.u32.bits=k:=by show min _ 32=k;omega
 grind
theorem Znk (x:W32)(k:Nat)(kd:IntKind)(hk:k<=32):evp (.bin .shr .no) [bv x, .int kd (k:Int)]=some (bv (x>>>k)):=by
 show(if(k:Int)<0 then none else some (V.int .u32 ((x.toNat:Int).fdiv (2^(min (k:Int).toNat IntKind.u32.bits)))))=_
 have:min (k:Int).toNat IntKind.u32.bits=k:=by show min _ 32=k;omega
 grind[Nat.shiftRight_eq_div_pow,bv]
def bw (b:UInt8):W32:=BitVec.ofNat 32 b.toNat
theorem Z0z (b:UInt8):evp (.i2i .u32) [byteV b]=some (bv (bw b)):=by
 show some (V.int .u32 (IntKind.u32.wrap (b.toNat:Int)))=_
 grind[Zq7,bv,bw]
def wb (x:W32):UInt8:=UInt8.ofNat x.toNat
theorem Zq5 (x:W32):evp (.i2i .u8) [bv x]=some (byteV (wb x)):=by
 show some (V.int .u8 (IntKind.u8.wrap (x.toNat:Int)))=_
 simp_all[Z42,byteV,wb]
def Zdb (x:W32)(k:Nat):W32:=(x>>>k)|||(x<<<(32-k))
variable {e:Ev}
theorem v.turn (x:W32)(k:Nat)(hk:k<=32):vl e 212 0 [bv x, .int .u64 (k:Int)]=some (bv (Zdb x k)):=by
 have e1:IntKind.u64.wrap (32-(k:Int))=((32-k:Nat):Int):=by grind[Zdp]
 rw[w2 s.zq70];unfold y.zq70
 simp only[yy,Znk x k .u64 hk,e1,Zmy x (32-k) .u64 (by omega),b_or];rfl
theorem v.rot (x:W32)(k:Nat)(hk:k<=32)(h1:1<=k)(hw:evp (.bin .and .no) [.int .u64 (IntKind.u64.wrap (-(k:Int))), .int .u64 31]=some (.int .u64 ((32-k:Nat):Int))):vl e 356 0 [bv x, .int .i64 (-(k:Int))]=some (bv (Zdb x k)):=by
 have e0:evp (.i2i .u64) [.int .i64 (-(k:Int))]=some (.int .u64 (IntKind.u64.wrap (-(k:Int)))):=rfl
 have e1:IntKind.u64.wrap (32-((32-k:Nat):Int))=(k:Int):=by grind[Zdp]
 simp_all[w2 s.zq11,yy,Zmy,Znk,b_or,BitVec.or_comm,y.zq11,Zdb]
def Zot (x:W32)(i j k:Nat):W32:=(Zdb x i^^^Zdb x j)^^^Zdb x k
theorem v.three (x:W32)(i j k:Nat)(hi:i<=32)(hj:j<=32)(hk:k<=32):vl e 213 0 [bv x, .int .u64 (i:Int), .int .u64 (j:Int), .int .u64 (k:Int)]=some (bv (Zot x i j k)):=by
 rw[w4 s.zq69];unfold y.zq69
 simp only[yy,v.turn x i hi,v.turn x j hj,v.turn x k hk,b_xor];rfl
abbrev wl (l:List W32):V:= .agg (l.map bv)
abbrev bl (l:Bytes):V:= .agg (l.map byteV)
theorem Zfj {m:Nat}{k:IntKind}{i:Int}(h0:0<=i)(h:i<m):evp (.chk m) [.int k i]=some (.int k i):=by
 show vChk m (.int k i)=_
 exact if_pos ⟨h0,h⟩
theorem Ztp {l:List W32}{k:IntKind}{i:Nat}(h:i<l.length):evp (.ldd none 0 1) [wl l, .int k (i:Int)]=some (bv l[i]):=by
 show(l.map bv)[0+(i:Int).toNat*1]? =_
 grind
theorem Zvr {l:List W32}{k:IntKind}{i:Nat}{x:W32}(h:i<l.length):evp (.std 1 0 1) [wl l, .int k (i:Int),bv x]=some (wl (l.set i x)):=by
 show vSet 1 (0+(i:Int).toNat*1) (wl l) (bv x)=_
 have hc:(wl l).cells=l.map bv:=rfl
 have hb:(bv x).cells=[bv x]:=rfl
 unfold vSet
 rw[Xao,Xdn,Xc0,hc,hb,if_pos ⟨rfl,rfl,by simp;omega⟩,wl,List.map_set,Xb9,if_pos (by simpa using h)]
 simp[Zas]
theorem Zkt {l:Bytes}{k:IntKind}{i:Nat}{x:UInt8}(h:i<l.length):evp (.std 1 0 1) [bl l, .int k (i:Int),byteV x]=some (bl (l.set i x)):=by
 show vSet 1 (0+(i:Int).toNat*1) (bl l) (byteV x)=_
 have hc:(bl l).cells=l.map byteV:=rfl
 have hb:(byteV x).cells=[byteV x]:=rfl
 unfold vSet
 rw[Xao,Xdn,Xc0,hc,hb,if_pos ⟨rfl,rfl,by simp;omega⟩,bl,List.map_set,Xb9,if_pos (by simpa using h)]
 simp[Zas]
end Go.Proofs.YtegmegbanfkomaaGreatDoor
namespace Go.Proofs.YtegmegbanfkomaaGreatDoor
open Go.Abs
set_option maxRecDepth 10000
variable {e:Ev}
def Zvf (b:Bytes)(i:Nat):W32:=(((bw (b.getD i 0)<<<24)|||(bw (b.getD (i+1) 0)<<<16))|||(bw (b.getD (i+2) 0)<<<8))|||bw (b.getD (i+3) 0)
def Znf (b:Bytes):Nat->Nat->List W32->List W32
 |0,_,ws=>ws
 |n+1,i,ws=>Znf b n (i+1) (ws.set i (Zvf b (4*i)))
def sig0 (x:W32):W32:=(Zdb x 7^^^Zdb x 18)^^^(x>>>3)
def sig1 (x:W32):W32:=(Zdb x 17^^^Zdb x 19)^^^(x>>>10)
def schW :Nat->Nat->List W32->List W32
 |0,_,ws=>ws
 |n+1,i,ws=>schW n (i+1) (ws.set i (((ws.getD (i-16) 0+sig0 (ws.getD (i-15) 0))+ws.getD (i-7) 0)+sig1 (ws.getD (i-2) 0)))
def rndW (K ws:List W32):Nat->Nat->W32->W32->W32->W32->W32->W32->W32->W32->List W32
 |0,_,a,b,c,d,e,f,g,h=> [a,b,c,d,e,f,g,h]
 |n+1,i,a,b,c,d,e,f,g,h=>
  let p:=(((h+Zot e 6 11 25)+((e&&&f)^^^(~~~e&&&g)))+K.getD i 0)+ws.getD i 0
  let q:=Zot a 2 13 22+(((a&&&b)^^^(a&&&c))^^^(b&&&c))
  rndW K ws n (i+1) (p+q) a b c (d+p) e f g
def addW (x:List W32):Nat->Nat->List W32->List W32
 |0,_,st=>st
 |n+1,i,st=>addW x n (i+1) (st.set i (st.getD i 0+x.getD i 0))
def allW (b:Bytes):List W32:=schW 48 16 (Znf b 16 0 (List.replicate 64 0))
def Zds (K:List W32)(st:List W32)(b:Bytes):List W32:=
 addW (rndW K (allW b) 64 0 (st.getD 0 0) (st.getD 1 0) (st.getD 2 0) (st.getD 3 0) (st.getD 4 0) (st.getD 5 0) (st.getD 6 0) (st.getD 7 0)) 8 0 st
theorem Zg9 (b:Bytes):∀(n i:Nat) (ws:List W32),(Znf b n i ws).length=ws.length
 |0,_,_=>rfl
 |n+1,i,ws=>by rw[Znf,Zg9 b n];simp
theorem Zq3 :∀(n i:Nat) (ws:List W32),(schW n i ws).length=ws.length
 |0,_,_=>rfl
 |n+1,i,ws=>by rw[schW,Zq3 n];simp
theorem Zsh (b:Bytes):(allW b).length=64:=by rw[allW,Zq3,Zg9];simp
theorem Zl8 (x:List W32):∀(n i:Nat) (st:List W32),(addW x n i st).length=st.length
 |0,_,_=>rfl
 |n+1,i,st=>by rw[addW,Zl8 x n];simp
theorem Zgj {α:Type}{l:List α}{d:α}{i:Nat}(h:i<l.length):l.getD i d=l[i]:=by grind
theorem v_eb {b:Bytes}{i:Nat}(h:i<b.length):evp (.elem 1) [.sl false 1 (b.map byteV), .int .i64 (i:Int)]=some (byteV (b.getD i 0)):=Zf6 (by grind)
theorem Z54 {c:UInt8}:evp (.ld none 0) [byteV c]=some (byteV c):=rfl
theorem v.word (b:Bytes)(h:4<=b.length):vl e 355 0 [.sl false 1 (b.map byteV)]=some (bv (Zvf b 0)):=by
 have h0:evp (.elem 1) [.sl false 1 (b.map byteV), .int .i64 0]=some (byteV (b.getD 0 0)):=v_eb (i:=0) (by omega)
 have h1:evp (.elem 1) [.sl false 1 (b.map byteV), .int .i64 1]=some (byteV (b.getD 1 0)):=v_eb (i:=1) (by omega)
 have h2:evp (.elem 1) [.sl false 1 (b.map byteV), .int .i64 2]=some (byteV (b.getD 2 0)):=v_eb (i:=2) (by omega)
 have h3:evp (.elem 1) [.sl false 1 (b.map byteV), .int .i64 3]=some (byteV (b.getD 3 0)):=v_eb (i:=3) (by omega)
 have s24:∀x:W32,evp (.bin .shl .no) [bv x, .int .u64 24]=some (bv (x<<<24)):=fun x=>Zmy x 24 .u64 (by decide)
 have s16:∀x:W32,evp (.bin .shl .no) [bv x, .int .u64 16]=some (bv (x<<<16)):=fun x=>Zmy x 16 .u64 (by decide)
 have s8:∀x:W32,evp (.bin .shl .no) [bv x, .int .u64 8]=some (bv (x<<<8)):=fun x=>Zmy x 8 .u64 (by decide)
 rw[w1 s.zq88];unfold y.zq88
 simp only[yy,h0,h1,h2,h3,Z54,Z0z,s24,s16,s8,b_or];rfl
theorem Ztb (b:Bytes)(i:Nat):Zvf (b.drop i) 0=Zvf b i:=by
 grind[Zvf]
theorem Zzn (c:UInt8):(bw c).toNat<256:=by
 unfold bw
 rw[BitVec.toNat_ofNat]
 have:=c.toNat_lt
 omega
theorem Zuo {x y:W32}(k:Nat)(hx:x.toNat % 2^k=0)(hy:y.toNat<2^k):x+y=x|||y:=by
 refine BitVec.add_eq_or_of_and_eq_zero x y ?_
 apply BitVec.eq_of_toNat_eq
 rw[BitVec.toNat_and]
 obtain⟨q,hq⟩:∃q,x.toNat=2^k*q:=⟨x.toNat/2^k,by grind[Nat.div_add_mod]⟩
 show x.toNat&&&y.toNat=0
 rw[hq]
 apply Nat.eq_of_testBit_eq
 intro j
 rw[Nat.testBit_and,Nat.zero_testBit,Nat.testBit_two_pow_mul]
 by_cases hj:k<=j
 ·rw[Nat.testBit_lt_two_pow (Xbn hy (Nat.pow_le_pow_right (by decide) hj)),Xem]
 grind
theorem Zyk (a b c d:UInt8):(((bw a<<<24)+(bw b<<<16))+(bw c<<<8))+bw d=(((bw a<<<24)|||(bw b<<<16))|||(bw c<<<8))|||bw d:=by
 have ha:=Zzn a;have hb:=Zzn b;have hc:=Zzn c;have hd:=Zzn d
 have e24:(bw a<<<24).toNat=(bw a).toNat*16777216:=by grind[Nat.shiftLeft_eq]
 have e16:(bw b<<<16).toNat=(bw b).toNat*65536:=by grind[Nat.shiftLeft_eq]
 have e8:(bw c<<<8).toNat=(bw c).toNat*256:=by grind[Nat.shiftLeft_eq]
 have h1:(bw a<<<24)+(bw b<<<16)=(bw a<<<24)|||(bw b<<<16):=Zuo 24 (by rw[e24];omega) (by rw[e16];omega)
 have t1:((bw a<<<24)+(bw b<<<16)).toNat=(bw a).toNat*16777216+(bw b).toNat*65536:=by grind
 have h2:((bw a<<<24)+(bw b<<<16))+(bw c<<<8)=((bw a<<<24)+(bw b<<<16))|||(bw c<<<8):=Zuo 16 (by rw[t1];omega) (by rw[e8];omega)
 have t2:(((bw a<<<24)+(bw b<<<16))+(bw c<<<8)).toNat=(bw a).toNat*16777216+(bw b).toNat*65536+(bw c).toNat*256:=by grind
 have h3:(((bw a<<<24)+(bw b<<<16))+(bw c<<<8))+bw d=(((bw a<<<24)+(bw b<<<16))+(bw c<<<8))|||bw d:=Zuo 8 (by rw[t2];omega) (by omega)
 rw[h3,h2,h1]
theorem Z2w {b:Bytes}(hb:b.length=64){i:Nat}(hi:i<64):evp (.snapd 0 64) [bl b, .int .i64 (i:Int)]=some (.sl false 1 ((b.drop i).map byteV)):=by
 refine(if_pos (show 0<=(i:Int)/\(i:Int)<(64:Nat)/\0+64<=(bl b).cells.length from⟨by omega,by omega,by show _<=(b.map byteV).length;simp;omega⟩)).trans ?_<;>simp_all[Xa1]
theorem Z89 {x:W32}:evp .flr [bv x]=some (bv x):=rfl
theorem mul4 {i:Nat}(h:i<64):IntKind.i64.wrap (4*(i:Int))=((4*i:Nat):Int):=by grind[w64]
theorem v.load (st:V)(b:Bytes)(hb:b.length=64):∀(n i:Nat) (ws:List W32),i+n=16->ws.length=64->
  vl e 15136 8 [I i,st,bl b,wl ws]=vl e 15136 25 [I 16,st,bl b,wl (Znf b n i ws)]
 |0,i,ws,hi,hw=>by
  rw[w4 s.zq49_h0_8];unfold y.zq49_h0_8
  simp only[yy,if_neg (show ¬((i:Int)<16)by omega)];rfl
 |n+1,i,ws,hi,hw=>by
  have hd:=v.word (e:=e) (b.drop (4*i)) (by simp;omega)
  rw[Ztb]at hd
  rw[w4 s.zq49_h0_8];unfold y.zq49_h0_8
  simp only[yy,if_pos (show(i:Int)<16 by omega),Zkh,mul4 (show i<64 by omega),Zfj (m:=64) (k:= .i64) (i:=((4*i:Nat):Int)) (by omega) (by omega),Z2w hb (show 4*i<64 by omega),hd,Z89,Zfj (m:=64) (k:= .i64) (i:=(i:Int)) (by omega) (by omega),Zvr (show i<ws.length by omega),Zai (show i<64 by omega) (by decide)]
  exact v.load st b hb n (i+1) _ (by omega) (by simpa using hw)
theorem v.nload (st K z:V)(b:Bytes)(hb:b.length=64):∀(n i:Nat) (ws:List W32),i+n=16->ws.length=64->
  vl e 168 10 [.sl false 1 (b.map byteV),I i,st,K,z,wl ws]=vl e 168 25 [I 16,st,K,z,wl (Znf b n i ws)]
 |0,i,ws,hi,hw=>by
  rw[w6 s.zq65_10];unfold y.zq65_10
  simp only[yy,if_neg (show ¬((i:Int)<16)by omega)];rfl
 |n+1,i,ws,hi,hw=>by
  have s24:∀x:W32,evp (.bin .shl .no) [bv x, .int .u64 24]=some (bv (x<<<24)):=fun x=>Zmy x 24 .u64 (by decide)
  have s16:∀x:W32,evp (.bin .shl .no) [bv x, .int .u64 16]=some (bv (x<<<16)):=fun x=>Zmy x 16 .u64 (by decide)
  have s8:∀x:W32,evp (.bin .shl .no) [bv x, .int .u64 8]=some (bv (x<<<8)):=fun x=>Zmy x 8 .u64 (by decide)
  have e1:IntKind.i64.wrap (((4*i:Nat):Int)+1)=((4*i+1:Nat):Int):=by grind[w64]
  have e2:IntKind.i64.wrap (((4*i:Nat):Int)+2)=((4*i+2:Nat):Int):=by grind[w64]
  have e3:IntKind.i64.wrap (((4*i:Nat):Int)+3)=((4*i+3:Nat):Int):=by grind[w64]
  rw[w6 s.zq65_10];unfold y.zq65_10
  simp only[yy,if_pos (show(i:Int)<16 by omega),Zkh,mul4 (show i<64 by omega),e1,e2,e3,v_eb (show 4*i<b.length by omega),v_eb (show 4*i+1<b.length by omega),v_eb (show 4*i+2<b.length by omega),v_eb (show 4*i+3<b.length by omega),Z54,Z0z,s24,s16,s8,b_add,Zyk,
   Zfj (m:=64) (k:= .i64) (i:=(i:Int)) (by omega) (by omega),Zvr (show i<ws.length by omega),Zai (show i<64 by omega) (by decide)]
  exact v.nload st K z b hb n (i+1) _ (by omega) (by simpa using hw)
theorem Zo3 {l:List W32}{i j:Nat}{x:Int}(hj:IntKind.i64.wrap x=(j:Int))(h:j<64)(hl:l.length=64):evp (.chk 64) [.int .i64 (IntKind.i64.wrap x)]=some (.int .i64 (j:Int))/\evp (.ldd none 0 1) [wl l, .int .i64 (j:Int)]=some (bv (l.getD j 0)):=by
 grind[Zfj,Ztp]
theorem Zhx {i k:Nat}(h:k<=i)(hi:i<1000):IntKind.i64.wrap ((i:Int)-(k:Int))=((i-k:Nat):Int):=by grind[w64]
theorem v.sched (a0 a1 a2 a3 a4 a5 a6 a7:W32)(b:V):∀(n i:Nat) (ws:List W32),i+n=64->16<=i->ws.length=64->
  vl e 15136 25 [I i,wl [a0,a1,a2,a3,a4,a5,a6,a7],b,wl ws]=vl e 15136 48 [bv a0,bv a1,bv a2,bv a3,bv a4,bv a5,bv a6,bv a7,wl (schW n i ws),I 0,wl [a0,a1,a2,a3,a4,a5,a6,a7],b]
 |0,i,ws,hi,_,hw=>by
  have l:∀k x,([a0,a1,a2,a3,a4,a5,a6,a7].map bv)[k]? =some x->evp (.ld none k) [wl [a0,a1,a2,a3,a4,a5,a6,a7]]=some x:=fun k x h=>h
  rw[w4 s.zq49_h0_25];unfold y.zq49_h0_25
  simp only[yy,if_neg (show ¬((i:Int)<64)by omega),l 0 _ rfl,l 1 _ rfl,l 2 _ rfl,l 3 _ rfl,l 4 _ rfl,l 5 _ rfl,l 6 _ rfl,l 7 _ rfl];rfl
 |n+1,i,ws,hi,h16,hw=>by
  obtain⟨c15,l15⟩:=Zo3 (l:=ws) (i:=i) (j:=i-15) (x:=(i:Int)-15) (Zhx (k:=15) (by omega) (by omega)) (by omega) hw
  obtain⟨c2,l2⟩:=Zo3 (l:=ws) (i:=i) (j:=i-2) (x:=(i:Int)-2) (Zhx (k:=2) (by omega) (by omega)) (by omega) hw
  obtain⟨c16,l16⟩:=Zo3 (l:=ws) (i:=i) (j:=i-16) (x:=(i:Int)-16) (Zhx (k:=16) (by omega) (by omega)) (by omega) hw
  obtain⟨c7,l7⟩:=Zo3 (l:=ws) (i:=i) (j:=i-7) (x:=(i:Int)-7) (Zhx (k:=7) (by omega) (by omega)) (by omega) hw
  have r7:∀x:W32,vl e 356 0 [bv x, .int .i64 (-7)]=some (bv (Zdb x 7)):=fun x=>v.rot x 7 (by decide) (by decide) rfl
  have r18:∀x:W32,vl e 356 0 [bv x, .int .i64 (-18)]=some (bv (Zdb x 18)):=fun x=>v.rot x 18 (by decide) (by decide) rfl
  have r17:∀x:W32,vl e 356 0 [bv x, .int .i64 (-17)]=some (bv (Zdb x 17)):=fun x=>v.rot x 17 (by decide) (by decide) rfl
  have r19:∀x:W32,vl e 356 0 [bv x, .int .i64 (-19)]=some (bv (Zdb x 19)):=fun x=>v.rot x 19 (by decide) (by decide) rfl
  have s3:∀x:W32,evp (.bin .shr .no) [bv x, .int .u64 3]=some (bv (x>>>3)):=fun x=>Znk x 3 .u64 (by decide)
  have s10:∀x:W32,evp (.bin .shr .no) [bv x, .int .u64 10]=some (bv (x>>>10)):=fun x=>Znk x 10 .u64 (by decide)
  rw[w4 s.zq49_h0_25];unfold y.zq49_h0_25
  simp only[yy,if_pos (show(i:Int)<64 by omega),c15,l15,c2,l2,c16,l16,c7,l7,r7,r18,r17,r19,s3,s10,b_xor,b_add,Zfj (m:=64) (k:= .i64) (i:=(i:Int)) (by omega) (by omega),Zvr (show i<ws.length by omega),Zai (show i<64 by omega) (by decide)]
  exact v.sched a0 a1 a2 a3 a4 a5 a6 a7 b n (i+1) _ (by omega) (by omega) (by simpa using hw)
theorem v.nsched (a0 a1 a2 a3 a4 a5 a6 a7:W32)(K z:V):∀(n i:Nat) (ws:List W32),i+n=64->16<=i->ws.length=64->
  vl e 168 25 [I i,wl [a0,a1,a2,a3,a4,a5,a6,a7],K,z,wl ws]=vl e 168 48 [bv a0,bv a1,bv a2,bv a3,bv a4,bv a5,bv a6,bv a7,I 0,wl [a0,a1,a2,a3,a4,a5,a6,a7],K,z,wl (schW n i ws)]
 |0,i,ws,hi,_,hw=>by
  have l:∀k x,([a0,a1,a2,a3,a4,a5,a6,a7].map bv)[k]? =some x->evp (.ld none k) [wl [a0,a1,a2,a3,a4,a5,a6,a7]]=some x:=fun k x h=>h
  rw[w5 s.zq65_25];unfold y.zq65_25
  simp only[yy,if_neg (show ¬((i:Int)<64)by omega),l 0 _ rfl,l 1 _ rfl,l 2 _ rfl,l 3 _ rfl,l 4 _ rfl,l 5 _ rfl,l 6 _ rfl,l 7 _ rfl];rfl
 |n+1,i,ws,hi,h16,hw=>by
  obtain⟨c15,l15⟩:=Zo3 (l:=ws) (i:=i) (j:=i-15) (x:=(i:Int)-15) (Zhx (k:=15) (by omega) (by omega)) (by omega) hw
  obtain⟨c2,l2⟩:=Zo3 (l:=ws) (i:=i) (j:=i-2) (x:=(i:Int)-2) (Zhx (k:=2) (by omega) (by omega)) (by omega) hw
  obtain⟨c16,l16⟩:=Zo3 (l:=ws) (i:=i) (j:=i-16) (x:=(i:Int)-16) (Zhx (k:=16) (by omega) (by omega)) (by omega) hw
  obtain⟨c7,l7⟩:=Zo3 (l:=ws) (i:=i) (j:=i-7) (x:=(i:Int)-7) (Zhx (k:=7) (by omega) (by omega)) (by omega) hw
  have r7:∀x:W32,vl e 212 0 [bv x, .int .u64 7]=some (bv (Zdb x 7)):=fun x=>v.turn x 7 (by decide)
  have r18:∀x:W32,vl e 212 0 [bv x, .int .u64 18]=some (bv (Zdb x 18)):=fun x=>v.turn x 18 (by decide)
  have r17:∀x:W32,vl e 212 0 [bv x, .int .u64 17]=some (bv (Zdb x 17)):=fun x=>v.turn x 17 (by decide)
  have r19:∀x:W32,vl e 212 0 [bv x, .int .u64 19]=some (bv (Zdb x 19)):=fun x=>v.turn x 19 (by decide)
  have s3:∀x:W32,evp (.bin .shr .no) [bv x, .int .u64 3]=some (bv (x>>>3)):=fun x=>Znk x 3 .u64 (by decide)
  have s10:∀x:W32,evp (.bin .shr .no) [bv x, .int .u64 10]=some (bv (x>>>10)):=fun x=>Znk x 10 .u64 (by decide)
  rw[w5 s.zq65_25];unfold y.zq65_25
  simp only[yy,if_pos (show(i:Int)<64 by omega),c15,l15,c2,l2,c16,l16,c7,l7,r7,r18,r17,r19,s3,s10,b_xor,b_add,Zfj (m:=64) (k:= .i64) (i:=(i:Int)) (by omega) (by omega),Zvr (show i<ws.length by omega),Zai (show i<64 by omega) (by decide)]
  exact v.nsched a0 a1 a2 a3 a4 a5 a6 a7 K z n (i+1) _ (by omega) (by omega) (by simpa using hw)
end Go.Proofs.YtegmegbanfkomaaGreatDoor
namespace Go.Proofs.YtegmegbanfkomaaGreatDoor
open Go.Abs
set_option maxRecDepth 10000
variable {e:Ev}
def KT :List W32:=[1116352408,1899447441,3049323471,3921009573,961987163,1508970993,2453635748,2870763221,3624381080,310598401,607225278,1426881987,1925078388,2162078206,2614888103,3248222580,3835390401,4022224774,264347078,604807628,770255983,1249150122,1555081692,1996064986,2554220882,2821834349,2952996808,3210313671,3336571891,3584528711,113926993,338241895,666307205,773529912,1294757372,1396182291,1695183700,1986661051,2177026350,2456956037,2730485921,2820302411,3259730800,3345764771,3516065817,3600352804,4094571909,275423344,430227734,506948616,659060556,883997877,958139571,1322822218,1537002063,1747873779,1955562222,2024104815,2227730452,2361852424,2428436474,2756734187,3204031479,3329325298]
theorem Qbu :tb9=KT.map bv:=rfl
theorem Zu1 :KT.length=64:=rfl
theorem Qbt {k:IntKind}{i:Nat}(h:i<64):evp (.ldd none 0 1) [.agg tb9, .int k (i:Int)]=some (bv (KT.getD i 0)):=by
 grind[Qbu,Zu1,Ztp]
theorem Zw5 {m:Nat}{l:List W32}{i:Nat}(h:i<l.length)(hm:i<m):evp (.idxa m 1 none) [wl l, .int .i64 (i:Int)]=some (bv (l.getD i 0)):=by
 show(if 0<=(i:Int)/\(i:Int)<(m:Int)then(l.map bv)[(i:Int).toNat*1]? else none)=_
 grind
theorem v.rounds (st b:V)(ws:List W32)(hw:ws.length=64):∀(n i:Nat) (a b1 c d e1 f g h:W32),i+n=64->
  vl e 15136 48 [bv a,bv b1,bv c,bv d,bv e1,bv f,bv g,bv h,wl ws,I i,st,b]=vl e 15136 72 [wl (rndW KT ws n i a b1 c d e1 f g h),I 0,st,b]
 |0,i,a,b1,c,d,e1,f,g,h,hi=>by
  have hc:evp (.cat [none,none,none,none,none,none,none,none]) [bv a,bv b1,bv c,bv d,bv e1,bv f,bv g,bv h]=some (wl [a,b1,c,d,e1,f,g,h]):=rfl
  rw[w12 s.zq49_h0_48];unfold y.zq49_h0_48
  simp only[yy,if_neg (show ¬((i:Int)<64)by omega),hc];rfl
 |n+1,i,a,b1,c,d,e1,f,g,h,hi=>by
  have r (k:Nat) (hk:k<=32) (h1:1<=k) (hq:evp (.bin .and .no) [.int .u64 (IntKind.u64.wrap (-(k:Int))), .int .u64 31]=some (.int .u64 ((32-k:Nat):Int))) (x:W32):=v.rot (e:=e) x k hk h1 hq
  have r6:∀x:W32,vl e 356 0 [bv x, .int .i64 (-6)]=some (bv (Zdb x 6)):=r 6 (by decide) (by decide) rfl
  have r11:∀x:W32,vl e 356 0 [bv x, .int .i64 (-11)]=some (bv (Zdb x 11)):=r 11 (by decide) (by decide) rfl
  have r25:∀x:W32,vl e 356 0 [bv x, .int .i64 (-25)]=some (bv (Zdb x 25)):=r 25 (by decide) (by decide) rfl
  have r2:∀x:W32,vl e 356 0 [bv x, .int .i64 (-2)]=some (bv (Zdb x 2)):=r 2 (by decide) (by decide) rfl
  have r13:∀x:W32,vl e 356 0 [bv x, .int .i64 (-13)]=some (bv (Zdb x 13)):=r 13 (by decide) (by decide) rfl
  have r22:∀x:W32,vl e 356 0 [bv x, .int .i64 (-22)]=some (bv (Zdb x 22)):=r 22 (by decide) (by decide) rfl
  rw[w12 s.zq49_h0_48];unfold y.zq49_h0_48
  simp only[yy,if_pos (show(i:Int)<64 by omega),Zw5 (m:=64) (l:=ws) (i:=i) (by omega) (by omega),r6,r11,r25,b_xor,b_add,b_and,Z4p,Zfj (m:=64) (k:= .i64) (i:=(i:Int)) (by omega) (by omega)]
  refine Zpg (Qbt (show i<64 by omega)) ?_
  simp only[yy,b_add,r2,r13,r22,b_xor,b_and,Zai (show i<64 by omega) (by decide)]
  exact v.rounds st b ws hw n (i+1) _ _ _ _ _ _ _ _ (by omega)
theorem v.nrounds (st z:V)(ws:List W32)(hw:ws.length=64)(a0 a1 a2 a3 a4 a5 a6 a7:W32):∀(n i:Nat) (a b1 c d e1 f g h:W32),i+n=64->
  vl e 168 48 [bv a,bv b1,bv c,bv d,bv e1,bv f,bv g,bv h,I i,wl [a0,a1,a2,a3,a4,a5,a6,a7],wl KT,z,wl ws]=some (wl (addW (rndW KT ws n i a b1 c d e1 f g h) 8 0 [a0,a1,a2,a3,a4,a5,a6,a7]))
 |0,i,a,b1,c,d,e1,f,g,h,hi=>by
  have l:∀k x,([a0,a1,a2,a3,a4,a5,a6,a7].map bv)[k]? =some x->evp (.ld none k) [wl [a0,a1,a2,a3,a4,a5,a6,a7]]=some x:=fun k x h=>h
  have hc:∀x0 x1 x2 x3 x4 x5 x6 x7:W32,evp (.cat [none,none,none,none,none,none,none,none]) [bv x0,bv x1,bv x2,bv x3,bv x4,bv x5,bv x6,bv x7]=some (wl [x0,x1,x2,x3,x4,x5,x6,x7]):=fun _ _ _ _ _ _ _ _=>rfl
  rw[w13 s.zq65_48];unfold y.zq65_48
  simp only[yy,if_neg (show ¬((i:Int)<64)by omega),l 0 _ rfl,l 1 _ rfl,l 2 _ rfl,l 3 _ rfl,l 4 _ rfl,l 5 _ rfl,l 6 _ rfl,l 7 _ rfl,b_add,hc];rfl
 |n+1,i,a,b1,c,d,e1,f,g,h,hi=>by
  have t6:∀x:W32,vl e 213 0 [bv x, .int .u64 6, .int .u64 11, .int .u64 25]=some (bv (Zot x 6 11 25)):=fun x=>v.three x 6 11 25 (by decide) (by decide) (by decide)
  have t2:∀x:W32,vl e 213 0 [bv x, .int .u64 2, .int .u64 13, .int .u64 22]=some (bv (Zot x 2 13 22)):=fun x=>v.three x 2 13 22 (by decide) (by decide) (by decide)
  have lk:evp (.ldd none 0 1) [wl KT, .int .i64 (i:Int)]=some (bv (KT.getD i 0)):=by grind[Ztp,Zu1]
  have lw:evp (.ldd none 0 1) [wl ws, .int .i64 (i:Int)]=some (bv (ws.getD i 0)):=by grind[Ztp]
  rw[w13 s.zq65_48];unfold y.zq65_48
  simp only[yy,if_pos (show(i:Int)<64 by omega),t6,t2,b_xor,b_add,b_and,Z4p,Zfj (m:=64) (k:= .i64) (i:=(i:Int)) (by omega) (by omega),lk,lw,Zai (show i<64 by omega) (by decide)]
  exact v.nrounds st z ws hw a0 a1 a2 a3 a4 a5 a6 a7 n (i+1) _ _ _ _ _ _ _ _ (by omega)
theorem v.addR (b:V)(x:List W32)(hx:x.length=8):∀(n i:Nat) (st:List W32),i+n=8->st.length=8->
  vl e 15136 72 [wl x,I i,wl st,b]=some (.tup [wl (addW x n i st),b])
 |0,i,st,hi,hs=>by
  rw[w4 s.zq49_h0_72];unfold y.zq49_h0_72
  simp only[yy,if_neg (show ¬((i:Int)<8)by omega)];rfl
 |n+1,i,st,hi,hs=>by
  have lw:evp (.ldd none 0 1) [wl st, .int .i64 (i:Int)]=some (bv (st.getD i 0)):=by grind[Ztp]
  rw[w4 s.zq49_h0_72];unfold y.zq49_h0_72
  simp only[yy,if_pos (show(i:Int)<8 by omega),Zw5 (m:=8) (l:=x) (i:=i) (by omega) (by omega),Zfj (m:=8) (k:= .i64) (i:=(i:Int)) (by omega) (by omega),lw,b_add,Zvr (show i<st.length by omega),Zai (show i<8 by omega) (by decide)]
  exact v.addR b x hx n (i+1) _ (by omega) (by simpa using hs)
theorem Zqx (K ws:List W32):∀(n i:Nat) (a b c d e f g h:W32),(rndW K ws n i a b c d e f g h).length=8
 |0,_,_,_,_,_,_,_,_,_=>rfl
 |n+1,i,a,b,c,d,e,f,g,h=>Zqx K ws n (i+1) _ _ _ _ _ _ _ _
theorem Z55 {l:List W32}(h:l.length=8):∃a b c d e f g h,l=[a,b,c,d,e,f,g,h]:=by
 match l,h with
 | [a,b,c,d,e,f,g,h],_=>grind
theorem v.block (st:List W32)(hs:st.length=8)(b:Bytes)(hb:b.length=64):vl e 15136 1 [wl st,bl b]=some (.tup [wl (Zds KT st b),bl b]):=by
 obtain⟨a0,a1,a2,a3,a4,a5,a6,a7,rfl⟩:=Z55 hs
 rw[w2 s.zq49_h0];unfold y.zq49_h0
 have hz:V.agg (repl 64 (.int .u32 0))=wl (List.replicate 64 0):=rfl
 rw[hz]
 have h1:=v.load (e:=e) (wl [a0,a1,a2,a3,a4,a5,a6,a7]) b hb 16 0 (List.replicate 64 0) (by decide) (by simp)
 have h2:=v.sched (e:=e) a0 a1 a2 a3 a4 a5 a6 a7 (bl b) 48 16 (Znf b 16 0 (List.replicate 64 0)) (by decide) (by decide) (by rw[Zg9];simp)
 have h3:=v.rounds (e:=e) (wl [a0,a1,a2,a3,a4,a5,a6,a7]) (bl b) (allW b) (Zsh b) 64 0 a0 a1 a2 a3 a4 a5 a6 a7 (by decide)
 have h4:=v.addR (e:=e) (bl b) (rndW KT (allW b) 64 0 a0 a1 a2 a3 a4 a5 a6 a7) (Zqx ..) 8 0 [a0,a1,a2,a3,a4,a5,a6,a7] (by decide) rfl
 exact h1.trans (h2.trans (h3.trans h4))
theorem v.Next (st:List W32)(hs:st.length=8)(b:Bytes)(hb:b.length=64):vl e 168 0 [wl st, .sl false 1 (b.map byteV),wl KT]=some (wl (Zds KT st b)):=by
 obtain⟨a0,a1,a2,a3,a4,a5,a6,a7,rfl⟩:=Z55 hs
 rw[w3 s.zq65];unfold y.zq65
 have hz:V.agg (repl 64 (.int .u32 0))=wl (List.replicate 64 0):=rfl
 have hz8:V.agg [.int .u32 0, .int .u32 0, .int .u32 0, .int .u32 0, .int .u32 0, .int .u32 0, .int .u32 0, .int .u32 0]=wl (List.replicate 8 0):=rfl
 have hsc:∀l:List W32,evp .scs [wl l]=some (wl l):=fun l=>if_pos (by
  simp_all[bv])
 rw[hz]
 simp only[yy,hsc]
 have h1:=v.nload (e:=e) (wl [a0,a1,a2,a3,a4,a5,a6,a7]) (wl KT) (wl (List.replicate 8 0)) b hb 16 0 (List.replicate 64 0) (by decide) (by simp)
 have h2:=v.nsched (e:=e) a0 a1 a2 a3 a4 a5 a6 a7 (wl KT) (wl (List.replicate 8 0)) 48 16 (Znf b 16 0 (List.replicate 64 0)) (by decide) (by decide) (by rw[Zg9];simp)
 have h3:=v.nrounds (e:=e) (wl [a0,a1,a2,a3,a4,a5,a6,a7]) (wl (List.replicate 8 0)) (allW b) (Zsh b) a0 a1 a2 a3 a4 a5 a6 a7 64 0 a0 a1 a2 a3 a4 a5 a6 a7 (by decide)
 exact h1.trans (h2.trans h3)
theorem v.Numbers :vl e 167 0 []=some (wl KT):=by
 rw[w0 s.zq66];rfl
end Go.Proofs.YtegmegbanfkomaaGreatDoor
namespace Go.Proofs.YtegmegbanfkomaaGreatDoor
open Go.Abs
set_option maxRecDepth 10000
variable {e:Ev}
theorem fill {α:Type}{F Z:List α}{i:Nat}(hi:i<F.length)(hl:F.length=Z.length):(F.take i++Z.drop i).set i F[i]=F.take (i+1)++Z.drop (i+1):=by
 have hz:Z.drop i=Z[i]'(by omega)::Z.drop (i+1):=Xah (by omega)
 have ht:F.take (i+1)=F.take i++ [F[i]]:=by simp
 have hlt:(F.take i).length=i:=by simp;omega
 rw[ht,hz,Xdf _ _ (by omega),hlt,Nat.sub_self,List.set_cons_zero,Xar];rfl
def outB (st:List W32):Bytes:=(List.range 32).map fun i=>wb ((st.getD (i/4) 0)>>>(24-8*(i % 4)))
theorem Zha (st:List W32):(outB st).length=32:=by simp[outB]
theorem Zsi (st:List W32){i:Nat}(h:i<(outB st).length):(outB st)[i]=wb ((st.getD (i/4) 0)>>>(24-8*(i % 4))):=by simp[outB]
theorem Zbc {o:Bytes}(h:o.length=32):evp (.cat [some 32]) [bl o]=some (bl o):=by
 show(catV [some 32] [bl o]).map V.agg=_
 simp_all[byteV,catV]
theorem Z5r :V.agg (repl 32 (.int .u8 0))=bl (List.replicate 32 0):=rfl
theorem v.out (z:V)(st:List W32)(hs:st.length=8):∀(n i:Nat),i+n=32->
  vl e 282 64 [I i,z,wl st,bl ((outB st).take i++(List.replicate 32 0).drop i)]=some (bl (outB st))
 |0,i,hi=>by
  have hl:=Zha st
  rw[Xa1 (by omega),Xas (by simp;omega),Xax]
  rw[w4 s.zq86_64];simp_all[yy,Zbc,y.zq86_64]
 |n+1,i,hi=>by
  have hl:=Zha st
  have hq:evp (.bin .quo .no) [.int .i64 (i:Int), .int .i64 4]=some (.int .i64 ((i/4:Nat):Int)):=Zyd (k:=4) (by decide) (by omega)
  have hr:evp (.bin .rem .no) [.int .i64 (i:Int), .int .i64 4]=some (.int .i64 ((i % 4:Nat):Int)):=Zut (k:=4) (by decide)
  have e1:IntKind.i64.wrap (8*((i % 4:Nat):Int))=((8*(i % 4):Nat):Int):=by grind[w64]
  have e2:IntKind.i64.wrap (24-((8*(i % 4):Nat):Int))=((24-8*(i % 4):Nat):Int):=by grind[w64]
  have lw:evp (.ldd none 0 1) [wl st, .int .i64 ((i/4:Nat):Int)]=some (bv (st.getD (i/4) 0)):=by rw[Ztp (by omega),Zgj (by omega)]
  have hset:((outB st).take i++(List.replicate 32 0).drop i).set i (wb ((st.getD (i/4) 0)>>>(24-8*(i % 4))))=(outB st).take (i+1)++(List.replicate 32 0).drop (i+1):=by
   rw[<-Zsi st (by omega)];grind[fill]
  have hst:=Zkt (k:= .i64) (l:=(outB st).take i++(List.replicate 32 0).drop i) (i:=i) (x:=wb ((st.getD (i/4) 0)>>>(24-8*(i % 4)))) (by grind)
  rw[hset]at hst
  rw[w4 s.zq86_64];unfold y.zq86_64
  simp only[yy,if_pos (show(i:Int)<32 by omega),hq,Zfj (m:=8) (k:= .i64) (i:=((i/4:Nat):Int)) (by omega) (by omega),lw,hr,Zkh,e1,e2,Znk (st.getD (i/4) 0) (24-8*(i % 4)) .i64 (by omega),Zq5,Zfj (m:=32) (k:= .i64) (i:=(i:Int)) (by omega) (by omega),hst,Zai (show i<64 by omega) (by decide)]
  exact v.out z st hs n (i+1) (by omega)
theorem v.nout45 (st:List W32)(hs:st.length=8)(i:Nat)(hi:i<8):∀(n j:Nat),j+n=4->
  vl e 127 45 [I i,bv (st.getD i 0),I j,wl st,I i,V.agg (repl 32 (.int .u8 0)),bl ((outB st).take (4*i+j)++(List.replicate 32 0).drop (4*i+j))]=
   vl e 127 31 [wl st,I ((i+1:Nat):Int),V.agg (repl 32 (.int .u8 0)),bl ((outB st).take (4*(i+1))++(List.replicate 32 0).drop (4*(i+1)))]
 |0,j,hj=>by
  rw[w7 s.zq67_45];unfold y.zq67_45
  have:4*i+j=4*(i+1):=by omega
  rw[this]
  simp only[yy,if_neg (show ¬((j:Int)<4)by omega),Zai (show i<64 by omega) (by decide)]
 |n+1,j,hj=>by
  have hl:=Zha st
  have e0:IntKind.i64.wrap (4*(i:Int))=((4*i:Nat):Int):=mul4 (by omega)
  have e1:IntKind.i64.wrap (((4*i:Nat):Int)+(j:Int))=((4*i+j:Nat):Int):=by grind[w64]
  have e2:IntKind.i64.wrap (8*(j:Int))=((8*j:Nat):Int):=by grind[w64]
  have e3:IntKind.i64.wrap (24-((8*j:Nat):Int))=((24-8*j:Nat):Int):=by grind[w64]
  have e4:evp (.i2i .u64) [.int .i64 ((24-8*j:Nat):Int)]=some (.int .u64 ((24-8*j:Nat):Int)):=by
   show some (V.int .u64 (IntKind.u64.wrap ((24-8*j:Nat):Int)))=_
   grind[Zdp]
  have hd:(4*i+j)/4=i/\(4*i+j) % 4=j:=by omega
  have hset:((outB st).take (4*i+j)++(List.replicate 32 0).drop (4*i+j)).set (4*i+j) (wb ((st.getD i 0)>>>(24-8*j)))=(outB st).take (4*i+(j+1))++(List.replicate 32 0).drop (4*i+(j+1)):=by
   have:=Zsi st (i:=4*i+j) (by omega)
   grind[fill]
  have hst:=Zkt (k:= .i64) (l:=(outB st).take (4*i+j)++(List.replicate 32 0).drop (4*i+j)) (i:=4*i+j) (x:=wb ((st.getD i 0)>>>(24-8*j))) (by grind)
  rw[hset]at hst
  rw[w7 s.zq67_45];unfold y.zq67_45
  simp only[yy,if_pos (show(j:Int)<4 by omega),Zkh,e0,e1,e2,e3,e4,Znk (st.getD i 0) (24-8*j) .u64 (by omega),Zq5,Zfj (m:=32) (k:= .i64) (i:=((4*i+j:Nat):Int)) (by omega) (by omega),hst,Zai (show j<64 by omega) (by decide)]
  exact v.nout45 st hs i hi n (j+1) (by omega)
theorem v.nout (st:List W32)(hs:st.length=8):∀(n i:Nat),i+n=8->
  vl e 127 31 [wl st,I i,V.agg (repl 32 (.int .u8 0)),bl ((outB st).take (4*i)++(List.replicate 32 0).drop (4*i))]=some (bl (outB st))
 |0,i,hi=>by
  simp_all[Zha,Xa1,w4 s.zq67_31,yy,Zbc,y.zq67_31]
 |n+1,i,hi=>by
  rw[w4 s.zq67_31];unfold y.zq67_31
  simp only[yy,if_pos (show(i:Int)<8 by omega),Zw5 (m:=8) (l:=st) (i:=i) (by omega) (by omega)]
  exact(v.nout45 st hs i (by omega) 4 0 (by omega)).trans (v.nout st hs n (i+1) (by omega))
def lenB (n:Nat):Bytes:=(List.range 8).map fun i=>UInt8.ofNat (8*n/2^(56-8*i))
theorem Zg2 (n:Nat):(lenB n).length=8:=by simp[lenB]
theorem Zyu (n:Nat){i:Nat}(h:i<(lenB n).length):(lenB n)[i]=UInt8.ofNat (8*n/2^(56-8*i)):=by simp[lenB]
theorem Zd9 (n:Nat):V.int .u8 (IntKind.u8.wrap (n:Int))=byteV (UInt8.ofNat n):=by
 simp_all[Z42,byteV]
theorem v.lens (s:Bytes)(hs:s.length<=1000000000000)(o st:V)(base z:Bytes)(hb:base.length=56)(hz:z.length=8):∀(n i:Nat),i+n=8->
  vl e 282 43 [.str s,I i,o,st,bl (base++((lenB s.length).take i++z.drop i))]=vl e 282 43 [.str s,I 8,o,st,bl (base++lenB s.length)]
 |0,i,hi=>by
  grind[Zg2]
 |n+1,i,hi=>by
  have hl:=Zg2 s.length
  have e0:IntKind.i64.wrap (56+(i:Int))=((56+i:Nat):Int):=by grind[w64]
  have e1:IntKind.i64.wrap (8*(i:Int))=((8*i:Nat):Int):=by grind[w64]
  have e2:IntKind.i64.wrap (56-((8*i:Nat):Int))=((56-8*i:Nat):Int):=by grind[w64]
  have e3:evp (.i2i .u64) [.int .i64 (s.length:Int)]=some (.int .u64 (s.length:Int)):=by
   show some (V.int .u64 (IntKind.u64.wrap (s.length:Int)))=_
   grind[Zdp]
  have e4:evp (.bin .shl .no) [.int .u64 (s.length:Int), .int .u64 3]=some (.int .u64 ((8*s.length:Nat):Int)):=by
   show some (V.int .u64 (IntKind.u64.wrap ((s.length:Int)*2^3)))=_
   grind[Zdp]
  have e5:evp (.bin .shr .no) [.int .u64 ((8*s.length:Nat):Int), .int .i64 ((56-8*i:Nat):Int)]=some (.int .u64 ((8*s.length/2^(56-8*i):Nat):Int)):=by
   show(if((56-8*i:Nat):Int)<0 then none else some (V.int .u64 (((8*s.length:Nat):Int).fdiv (2^(min ((56-8*i:Nat):Int).toNat IntKind.u64.bits)))))=_
   have:min ((56-8*i:Nat):Int).toNat IntKind.u64.bits=56-8*i:=by show min _ 64=_;omega
   grind
  have e6:evp (.i2i .u8) [.int .u64 ((8*s.length/2^(56-8*i):Nat):Int)]=some (byteV (UInt8.ofNat (8*s.length/2^(56-8*i)))):=congrArg some (Zd9 _)
  have hset:(base++((lenB s.length).take i++z.drop i)).set (56+i) (UInt8.ofNat (8*s.length/2^(56-8*i)))=base++((lenB s.length).take (i+1)++z.drop (i+1)):=by
   rw[Xdf _ _ (by omega),show 56+i-base.length=i by omega, <-Zyu s.length (by omega),fill (by omega) (by omega)]
  have hst:=Zkt (k:= .i64) (l:=base++((lenB s.length).take i++z.drop i)) (i:=56+i) (x:=UInt8.ofNat (8*s.length/2^(56-8*i))) (by grind)
  rw[hset]at hst
  rw[w5 s.zq86_43];unfold y.zq86_43
  simp only[yy,if_pos (show(i:Int)<8 by omega),e0,e3,e4,Zkh,e1,e2,e5,e6,Zfj (m:=64) (k:= .i64) (i:=((56+i:Nat):Int)) (by omega) (by omega),hst,Zai (show i<64 by omega) (by decide)]
  exact v.lens s hs o st base z hb hz n (i+1) (by omega)
theorem v.endOf (s:Bytes)(hs:s.length<=1000000000000)(o:V)(st:List W32)(h8:st.length=8)(base z:Bytes)(hb:base.length=56)(hz:z.length=8):
  vl e 282 39 [.str s,o,wl st,bl (base++z)]=some (bl (outB (Zds KT st (base++lenB s.length)))):=by
 have h1:=v.lens (e:=e) s hs o (wl st) base z hb hz 8 0 (by omega)
 rw[Xcw,Xbq,Xbl]at h1
 have hl:=Zg2 s.length
 have hblk:=v.block (e:=e) st h8 (base++lenB s.length) (by simp;omega)
 have h2:=v.out (e:=e) o (Zds KT st (base++lenB s.length)) (by grind[Zl8,Zds]) 32 0 (by omega)
 rw[Xcw,Xbq,Xbl]at h2
 rw[w4 s.zq86_39];unfold y.zq86_39
 refine h1.trans ?_
 rw[w5 s.zq86_43];unfold y.zq86_43
 simp only[yy,if_neg (show ¬((8:Int)<8)by omega),hblk]
 exact h2
end Go.Proofs.YtegmegbanfkomaaGreatDoor
namespace Go.Proofs.YtegmegbanfkomaaGreatDoor
open Go.Abs
set_option maxRecDepth 10000
variable {e:Ev}
def padN (k:Nat):Nat:=(119-k % 64) % 64
def padB (n:Nat)(r:Bytes):Bytes:=r++(128::(List.replicate (padN r.length) 0++lenB n))
def Zpt (K:List W32):Nat->Bytes->List W32->List W32
 |0,_,st=>st
 |m+1,b,st=>Zpt K m (b.drop 64) (Zds K st (b.take 64))
theorem Zq1 (n:Nat)(r:Bytes):(padB n r).length=r.length+9+padN r.length:=by grind[Zg2,padB]
theorem Zo1 (k:Nat):(k+9+padN k) % 64=0/\padN k<64:=by unfold padN;omega
theorem Zfx (K st:List W32)(b:Bytes):(Zds K st b).length=st.length:=by unfold Zds;rw[Zl8]
def Zmm (n:Nat)(r:Bytes)(st:List W32):List W32:=Zpt KT ((r.length+9+padN r.length)/64) (padB n r) st
theorem Zvl {n:Nat}{r:Bytes}(h:64<=r.length)(st:List W32):Zmm n r st=Zmm n (r.drop 64) (Zds KT st (r.take 64)):=by
 have hp:padN (r.length-64)=padN r.length:=by grind[padN]
 have hm:(r.length+9+padN r.length)/64=(r.length-64+9+padN r.length)/64+1:=by omega
 grind[Zmm,Zpt,padB]
theorem Zk7 {n:Nat}{r:Bytes}(h:r.length<56)(st:List W32):Zmm n r st=Zds KT st ((r++(128::List.replicate (55-r.length) 0))++lenB n):=by
 have hp:padN r.length=55-r.length:=by grind[padN]
 have hm:(r.length+9+padN r.length)/64=1:=by omega
 grind[Zq1,List.take_of_length_le,Zmm,Zpt,padB]
theorem Zw9 {n:Nat}{r:Bytes}(h:56<=r.length)(h2:r.length<64)(st:List W32):Zmm n r st=Zds KT (Zds KT st (r++(128::List.replicate (63-r.length) 0))) (List.replicate 56 0++lenB n):=by
 have hp:padN r.length=(63-r.length)+56:=by grind[padN]
 have hm:(r.length+9+padN r.length)/64=2:=by omega
 have e1:padB n r=(r++(128::List.replicate (63-r.length) 0))++(List.replicate 56 0++lenB n):=by
  grind[List.replicate_append_replicate,padB]
 have l1:(r++(128::List.replicate (63-r.length) 0)).length=64:=by simp;omega
 have l2:(List.replicate 56 (0:UInt8)++lenB n).length=64:=by simp[Zg2]
 grind[Zmm,Zpt]
theorem Zwb {b:Bytes}(hb:b.length=64)(r:Bytes):evp (.cpya 0 64) [bl b, .str r]=some (bl (r.take 64++b.drop (r.take 64).length)):=by
 refine(if_pos (show 0+64<=(bl b).cells.length by show _<=(b.map byteV).length;simp;omega)).trans ?_<;>simp_all[Zas,encB]
theorem Z0y {r:Bytes}:∃x,evp (.cpyn 64) [.str r]=some x:=⟨_,rfl⟩
theorem Zxt {b:Bytes}(hb:b.length=64):evp (.clra (.int .u8 0) 0 64) [bl b]=some (bl (List.replicate 64 0)):=by
 refine(if_pos (show 0+64<=(bl b).cells.length by show _<=(b.map byteV).length;simp;omega)).trans ?_<;>simp_all[byteV]
theorem v.sha12 (s:Bytes)(hs:s.length<=1000000000000):∀(m:Nat) (r:Bytes) (st:List W32) (b:Bytes),r.length<=m->st.length=8->b.length=64->
  vl e 282 12 [.str s, .str r,V.agg (repl 32 (.int .u8 0)),wl st,bl b]=some (bl (outB (Zmm s.length r st))):=by
 intro m
 induction m with
 |zero=>
  intro r st b hr h8 hb
  obtain rfl:r=[]:=Xa0 (by omega)
  obtain⟨x,hx⟩:=Z0y (r:=[])
  have hend:=v.endOf (e:=e) s hs (V.agg (repl 32 (.int .u8 0))) st h8 (128::List.replicate 55 0) (List.replicate 8 0) (by simp) (by simp)
  rw[Zk7 (by decide)]
  have hst:=Zkt (k:= .i64) (l:=List.replicate 64 0) (i:=0) (x:=128) (by simp)
  have hcp:=Zwb (b:=List.replicate 64 0) (by simp) []
  rw[w5 s.zq86_12];simp_all[yy,Zxt,Zfj,y.zq86_12,byteV]
 |succ m ih=>
  intro r st b hr h8 hb
  obtain⟨x,hx⟩:=Z0y (r:=r)
  by_cases h64:64<=r.length
  ·have hl64:(r.take 64).length=64:=by simp;omega
   have hcp:=Zwb hb r
   rw[hl64,Xas (by omega),Xax]at hcp
   have hblk:=v.block (e:=e) st h8 (r.take 64) hl64
   have hsl:evp (.sls true false) [.str r, .int .i64 64]=some (.str (r.drop 64)):=Zh6 (l:=64) (by omega)
   rw[Zvl h64]
   rw[w5 s.zq86_12];unfold y.zq86_12
   simp only[yy,if_pos (show(64:Int)<=(r.length:Int)by omega),hcp,hx,hblk,hsl]
   grind[Zfx]
  ·have htk:r.take 64=r:=Xa1 (by omega)
   have hcp:=Zwb (b:=List.replicate 64 0) (by simp) r
   rw[htk,List.drop_replicate]at hcp
   have hst:=Zkt (k:= .i64) (l:=r++List.replicate (64-r.length) 0) (i:=r.length) (x:=128) (by simp;omega)
   have hset:(r++List.replicate (64-r.length) 0).set r.length 128=r++(128::List.replicate (63-r.length) 0):=by
    rw[Xdf _ _ (Xae _),Nat.sub_self,show 64-r.length=(63-r.length)+1 by omega,Xc4,List.set_cons_zero]
   rw[hset]at hst
   have e128:V.int .u8 128=byteV 128:=rfl
   rw[w5 s.zq86_12];unfold y.zq86_12
   by_cases h56:56<=r.length
   ·have l1:(r++(128::List.replicate (63-r.length) 0)).length=64:=by simp;omega
    have hblk:=v.block (e:=e) st h8 (r++(128::List.replicate (63-r.length) 0)) l1
    have hend:=v.endOf (e:=e) s hs (V.agg (repl 32 (.int .u8 0))) (Zds KT st (r++(128::List.replicate (63-r.length) 0))) (by grind[Zfx]) (List.replicate 56 0) (List.replicate 8 0) (by simp) (by simp)
    rw[Xc2]at hend
    rw[Zw9 h56 (by omega)]
    simp only[yy,if_neg (show ¬((64:Int)<=(r.length:Int))by omega),Zxt hb,hcp,hx,Zfj (m:=64) (k:= .i64) (i:=(r.length:Int)) (by omega) (by omega),e128,hst,if_pos (show(56:Int)<=(r.length:Int)by omega),hblk,Zxt l1]
    exact hend
   ·have hend:=v.endOf (e:=e) s hs (V.agg (repl 32 (.int .u8 0))) st h8 (r++(128::List.replicate (55-r.length) 0)) (List.replicate 8 0) (by simp;omega) (by simp)
    have e1:(r++(128::List.replicate (55-r.length) 0))++List.replicate 8 0=r++(128::List.replicate (63-r.length) 0):=by
     rw[show 63-r.length=(55-r.length)+8 by omega, <-Xc2];simp
    rw[e1]at hend
    rw[Zk7 (by omega)]
    simp only[yy,if_neg (show ¬((64:Int)<=(r.length:Int))by omega),Zxt hb,hcp,hx,Zfj (m:=64) (k:= .i64) (i:=(r.length:Int)) (by omega) (by omega),e128,hst,if_neg (show ¬((56:Int)<=(r.length:Int))by omega)]
    exact hend
def H0 :List W32:=[1779033703,3144134277,1013904242,2773480762,1359893119,2600822924,528734635,1541459225]
def Zre (s:Bytes):Bytes:=outB (Zmm s.length s H0)
theorem Zhr (s:Bytes):(Zre s).length=32:=Zha _
theorem v.shaOf (s:Bytes)(hs:s.length<=1000000000000):vl e 282 0 [.str s]=some (bl (Zre s)):=by
 rw[w1 s.zq86];unfold y.zq86
 exact v.sha12 s hs s.length s H0 (List.replicate 64 0) (Xae _) rfl (by simp)
theorem Zzx {l:Bytes}{x:UInt8}(h:l.length+1<=Lim):evp (.app 1) [bsl l, .sl false 1 [byteV x]]=some (bsl (l++ [x])):=by
 simp_all[Zl1]
theorem Zr6 {l m:Bytes}(h:l.length+m.length<=Lim):evp (.app 1) [bsl l,bsl m]=some (bsl (l++m)):=by
 simp_all[Zl1]
theorem Znt {x:UInt8}:evp (.bsl 1) [byteV x]=some (.sl false 1 [byteV x]):=rfl
theorem v.pad8 (b:Bytes)(hb:b.length<=1000000000):∀(n:Nat) (l:Bytes),n=padN (l.length-1)->1<=l.length->l.length+n<=2000000000->
  vl e 166 8 [bsl b,bsl l]=vl e 166 25 [bsl (l++List.replicate n 0),I b.length, .sl false 1 [],I 0]
 |n,l,hn,h1,h2=>by
  have hLim:Lim=4294967296:=rfl
  have hr:evp (.bin .rem .no) [.int .i64 (l.length:Int), .int .i64 64]=some (.int .i64 ((l.length % 64:Nat):Int)):=Zut (k:=64) (by decide)
  have e0:V.int .u8 0=byteV 0:=rfl
  rw[w2 s.zq68_8];unfold y.zq68_8
  cases n with
  |zero=>
   have:l.length % 64=56:=by grind[padN]
   simp only[yy,hr,if_pos (show((l.length % 64:Nat):Int)=56 by omega)]
   grind
  |succ n=>
   have hn':n=padN ((l++ [0]).length-1):=by grind[padN]
   have:l.length % 64≠56:=by grind[padN]
   simp only[yy,hr,if_neg (show ¬(((l.length % 64:Nat):Int)=56)by omega),e0,Znt,Zzx (show l.length+1<=Lim by omega)]
   have h3:=v.pad8 b hb n (l++ [0]) hn' (by simp) (by simp;omega)
   refine h3.trans ?_
   rw[Xar,Xci, <-Xc4]
def Zxi :Nat->Nat->Bytes->Bytes
 |0,_,t=>t
 |k+1,m,t=>Zxi k (m/256) (UInt8.ofNat (m % 256)::t)
theorem Zbw {x y:Nat}(h:x % 256=y % 256):UInt8.ofNat x=UInt8.ofNat y:=by
 grind[UInt8.toNat_inj,UInt8.toNat_ofNat']
theorem Z1w (n:Nat):Zxi 7 (n/32) [UInt8.ofNat (n % 32*8)]=lenB n:=by
 show [_,_,_,_,_,_,_,_]=[_,_,_,_,_,_,_,_]
 simp only[Xds,Nat.reduceMul,Nat.reduceSub,Nat.reducePow]
 congr 1
 ·exact Zbw (by omega)
 congr 1
 ·exact Zbw (by omega)
 congr 1
 ·exact Zbw (by omega)
 congr 1
 ·exact Zbw (by omega)
 congr 1
 ·exact Zbw (by omega)
 congr 1
 ·exact Zbw (by omega)
 congr 1
 ·grind[Zbw]
 grind[Zbw]
theorem v.pad25 (out:Bytes)(ho:out.length<=2000000000):∀(k i m:Nat) (t:Bytes),i+k=8->1<=i->m<=1000000000->t.length=i->
  vl e 166 25 [bsl out,I m,bsl t,I i]=some (bsl (out++Zxi k m t))
 |0,i,m,t,hi,h1,hm,ht=>by
  have hLim:Lim=4294967296:=rfl
  rw[w4 s.zq68_25];unfold y.zq68_25
  simp only[yy,if_neg (show ¬((i:Int)<8)by omega),Zr6 (show out.length+t.length<=Lim by omega)];rfl
 |k+1,i,m,t,hi,h1,hm,ht=>by
  have hLim:Lim=4294967296:=rfl
  have hr:evp (.bin .rem .no) [.int .i64 (m:Int), .int .i64 256]=some (.int .i64 ((m % 256:Nat):Int)):=Zut (k:=256) (by decide)
  have hq:evp (.bin .quo .no) [.int .i64 (m:Int), .int .i64 256]=some (.int .i64 ((m/256:Nat):Int)):=Zyd (k:=256) (by decide) (by omega)
  have hn:evp (.i2i .u8) [.int .i64 ((m % 256:Nat):Int)]=some (byteV (UInt8.ofNat (m % 256))):=congrArg some (Zd9 _)
  have ha:evp (.app 1) [.sl false 1 [byteV (UInt8.ofNat (m % 256))],bsl t]=some (bsl (UInt8.ofNat (m % 256)::t)):=Zr6 (l:=[UInt8.ofNat (m % 256)]) (by simp;omega)
  rw[w4 s.zq68_25];unfold y.zq68_25
  simp only[yy,if_pos (show(i:Int)<8 by omega),if_neg (show ¬((i:Int)=0)by omega),hr,hn,Znt,ha,hq,Zai (show i<64 by omega) (by decide)]
  exact v.pad25 out ho k (i+1) (m/256) _ (by omega) (by omega) (by omega) (by simp;omega)
theorem v.Padded (b:Bytes)(hb:b.length<=1000000000):vl e 166 0 [bsl b]=some (bsl (padB b.length b)):=by
 have hLim:Lim=4294967296:=rfl
 have hpn:=(Zo1 b.length).2
 have e128:V.int .u8 128=byteV 128:=rfl
 have h0:evp (.bsl 1) []=some (bsl []):=rfl
 have h8:=v.pad8 (e:=e) b hb (padN b.length) (b++ [128]) (by simp) (by simp) (by simp;omega)
 have hr:evp (.bin .rem .no) [.int .i64 (b.length:Int), .int .i64 32]=some (.int .i64 ((b.length % 32:Nat):Int)):=Zut (k:=32) (by decide)
 have hq:evp (.bin .quo .no) [.int .i64 (b.length:Int), .int .i64 32]=some (.int .i64 ((b.length/32:Nat):Int)):=Zyd (k:=32) (by decide) (by omega)
 have hm:IntKind.i64.wrap (((b.length % 32:Nat):Int)*8)=((b.length % 32*8:Nat):Int):=by grind[w64]
 have hn:evp (.i2i .u8) [.int .i64 ((b.length % 32*8:Nat):Int)]=some (byteV (UInt8.ofNat (b.length % 32*8))):=congrArg some (Zd9 _)
 have ha:evp (.app 1) [.sl false 1 [byteV (UInt8.ofNat (b.length % 32*8))], .sl false 1 []]=some (bsl [UInt8.ofNat (b.length % 32*8)]):=Zr6 (l:=[UInt8.ofNat (b.length % 32*8)]) (m:=[]) (by simp;omega)
 have h25:=v.pad25 (e:=e) (b++ [128]++List.replicate (padN b.length) 0) (by simp;omega) 7 1 (b.length/32) [UInt8.ofNat (b.length % 32*8)] (by omega) (by omega) (by omega) rfl
 rw[Z1w]at h25
 rw[w1 s.zq68];unfold y.zq68
 simp only[yy,h0,Zr6 (l:=[]) (m:=b) (by simp;omega),e128,Znt]
 rw[Xbl,Zzx (by omega)]
 simp only[yy]
 refine h8.trans ?_
 rw[w4 s.zq68_25];unfold y.zq68_25
 simp only[yy,if_pos (show(0:Int)<8 by omega),if_true,hr,Zkh,hm,hn,Znt,ha,hq]
 refine h25.trans ?_
 grind[padB]
theorem Qa6 {l:Bytes}{i j:Nat}(h1:i<=j)(h2:j<=l.length):evp (.slc 1 true true false) [bsl l, .int .i64 (i:Int), .int .i64 (j:Int)]=some (bsl ((l.take j).drop i)):=by
 simp_all[evp,Ztf,vSlc,vOpt,cut3]
theorem Z0s {l:List W32}(n:Nat)(h:l.length=n):evp (.cat [some n]) [wl l]=some (wl l):=by
 show((if(wl l).cells.length=n/\(wl l).cells.all V.sc=true then(catV [] []).map ((wl l).cells++ ·)else none)).map V.agg=_
 rw[if_pos ⟨by simp_all,by
  simp_all[bv]⟩]
 show some (V.agg ((wl l).cells++ []))=_
 simp_all
theorem v.nOf14 (all:Bytes)(ha:all.length<=2000000000):∀(n j:Nat) (st:List W32),all.length=64*(j+n)->st.length=8->
  vl e 127 14 [bsl all,I ((64*j:Nat):Int),V.agg (repl 32 (.int .u8 0)),wl st,wl KT]=some (bl (outB (Zpt KT n (all.drop (64*j)) st)))
 |0,j,st,hj,h8=>by
  rw[w5 s.zq67_14];unfold y.zq67_14
  simp only[yy,if_neg (show ¬(((64*j:Nat):Int)<(all.length:Int))by omega)]
  have h:=v.nout (e:=e) st h8 8 0 (by omega)
  rw[Nat.mul_zero,Xcw,Xbq,Xbl]at h
  exact h
 |n+1,j,st,hj,h8=>by
  have e1:IntKind.i64.wrap (((64*j:Nat):Int)+64)=((64*(j+1):Nat):Int):=by grind[w64]
  have hsl:=Qa6 (l:=all) (i:=64*j) (j:=64*(j+1)) (by omega) (by omega)
  have hcl:(all.take (64*(j+1))).drop (64*j)=(all.drop (64*j)).take 64:=by grind
  rw[hcl]at hsl
  have hN:=v.Next (e:=e) st h8 ((all.drop (64*j)).take 64) (by simp;omega)
  rw[w5 s.zq67_14];unfold y.zq67_14
  simp only[yy,if_pos (show((64*j:Nat):Int)<(all.length:Int)by omega),e1,hsl,hN,Z0s 8 (show(Zds KT st ((all.drop (64*j)).take 64)).length=8 by grind[Zfx])]
  have h:=v.nOf14 all ha n (j+1) (Zds KT st ((all.drop (64*j)).take 64)) (by omega) (by grind[Zfx])
  grind[List.drop_drop,Zpt]
theorem v.refOf (b:Bytes)(hb:b.length<=1000000000):vl e 127 0 [bsl b]=some (bl (Zre b)):=by
 have hpn:=Zo1 b.length
 have hl:=Zq1 b.length b
 have hc:evp (.cat [none,none,none,none,none,none,none,none]) [.int .u32 1779033703, .int .u32 3144134277, .int .u32 1013904242, .int .u32 2773480762, .int .u32 1359893119, .int .u32 2600822924, .int .u32 528734635, .int .u32 1541459225]=some (wl H0):=rfl
 have h:=v.nOf14 (e:=e) (padB b.length b) (by omega) ((b.length+9+padN b.length)/64) 0 H0 (by omega) rfl
 rw[w1 s.zq67];unfold y.zq67
 simp only[yy,hc,v.Padded b hb,v.Numbers,Z0s 64 Zu1]
 exact h
end Go.Proofs.YtegmegbanfkomaaGreatDoor
namespace Go.Proofs.YtegmegbanfkomaaGreatDoor
open Go.Abs
set_option maxRecDepth 10000
variable {e:Ev}
def numB (n:Nat):Bytes:=(List.range 8).map fun i=>UInt8.ofNat (n/2^(56-8*i))
theorem Zb7 (n:Nat):(numB n).length=8:=by simp[numB]
theorem Zy4 (n:Nat){i:Nat}(h:i<(numB n).length):(numB n)[i]=UInt8.ofNat (n/2^(56-8*i)):=by simp[numB]
theorem Z4v {l:Bytes}{k:Nat}(h:l.length=k):evp (.b2so 0 k) [bl l]=some (.str l):=by
 show(if 0+k<=(l.map byteV).length then(Zb4 (((l.map byteV).drop 0).take k)).map V.str else none)=_
 grind[Zev]
theorem v.num10 (n:Nat)(hn:n<=1000000000000):∀(m i:Nat),i+m=8->vl e 74 10 [I n,I i,bl ((numB n).take i++(List.replicate 8 0).drop i)]=some (.str (numB n))
 |0,i,hi=>by
  have hl:=Zb7 n
  rw[Xa1 (by omega),Xas (by simp;omega),Xax]
  have hb:evp (.b2so 0 8) [bl (numB n)]=some (.str (numB n)):=Z4v (by omega)
  rw[w3 s.zq3_10];simp_all[yy,y.zq3_10]
 |m+1,i,hi=>by
  have hl:=Zb7 n
  have e1:IntKind.i64.wrap (8*(i:Int))=((8*i:Nat):Int):=by grind[w64]
  have e2:IntKind.i64.wrap (56-((8*i:Nat):Int))=((56-8*i:Nat):Int):=by grind[w64]
  have e3:evp (.i2i .u64) [.int .i64 (n:Int)]=some (.int .u64 (n:Int)):=by
   show some (V.int .u64 (IntKind.u64.wrap (n:Int)))=_
   grind[Zdp]
  have e5:evp (.bin .shr .no) [.int .u64 (n:Int), .int .i64 ((56-8*i:Nat):Int)]=some (.int .u64 ((n/2^(56-8*i):Nat):Int)):=by
   show(if((56-8*i:Nat):Int)<0 then none else some (V.int .u64 ((n:Int).fdiv (2^(min ((56-8*i:Nat):Int).toNat IntKind.u64.bits)))))=_
   have:min ((56-8*i:Nat):Int).toNat IntKind.u64.bits=56-8*i:=by show min _ 64=_;omega
   grind
  have e6:evp (.i2i .u8) [.int .u64 ((n/2^(56-8*i):Nat):Int)]=some (byteV (UInt8.ofNat (n/2^(56-8*i)))):=congrArg some (Zd9 _)
  have hset:((numB n).take i++(List.replicate 8 0).drop i).set i (UInt8.ofNat (n/2^(56-8*i)))=(numB n).take (i+1)++(List.replicate 8 0).drop (i+1):=by
   rw[<-Zy4 n (by omega)];grind[fill]
  have hst:=Zkt (k:= .i64) (l:=(numB n).take i++(List.replicate 8 0).drop i) (i:=i) (x:=UInt8.ofNat (n/2^(56-8*i))) (by grind)
  rw[hset]at hst
  rw[w3 s.zq3_10];unfold y.zq3_10
  simp only[yy,if_pos (show(i:Int)<8 by omega),e3,Zkh,e1,e2,e5,e6,Zfj (m:=8) (k:= .i64) (i:=(i:Int)) (by omega) (by omega),hst,Zai (show i<64 by omega) (by decide)]
  exact v.num10 n hn m (i+1) (by omega)
theorem v.codeNum (n:Nat)(hn:n<=1000000000000):vl e 74 0 [I n]=some (.str (numB n)):=by
 have h:=v.num10 (e:=e) n hn 8 0 (by omega)
 rw[Xcw,Xbq,Xbl]at h
 rw[w1 s.zq3];exact h
theorem Qbe (n:Nat):Zxi 8 n []=numB n:=by
 show [_,_,_,_,_,_,_,_]=[_,_,_,_,_,_,_,_]
 simp only[Xds,Nat.reduceMul,Nat.reduceSub,Nat.reducePow]
 congr 1
 ·grind[Zbw]
 congr 1
 ·grind[Zbw]
 congr 1
 ·grind[Zbw]
 congr 1
 ·grind[Zbw]
 congr 1
 ·grind[Zbw]
 grind[Zbw]
theorem v.num12 :∀(k i m:Nat) (t:Bytes),i+k=8->t.length=i->m<=1000000000000->vl e 76 12 [.int .u64 (m:Int), .str t,I i]=some (.str (Zxi k m t))
 |0,i,m,t,hi,ht,hm=>by
  rw[w3 s.zq64_12];unfold y.zq64_12
  simp only[yy,if_neg (show ¬((i:Int)<8)by omega)];rfl
 |k+1,i,m,t,hi,ht,hm=>by
  have hr:evp (.bin .rem .no) [.int .u64 (m:Int), .int .u64 256]=some (.int .u64 ((m % 256:Nat):Int)):=by
   show some (V.int .u64 ((m:Int).tmod (256:Nat)))=_
   grind
  have hq:evp (.bin .quo .no) [.int .u64 (m:Int), .int .u64 256]=some (.int .u64 ((m/256:Nat):Int)):=by
   show some (V.int .u64 (IntKind.u64.wrap ((m:Int).tdiv (256:Nat))))=_
   grind[Zdp]
  have hn:evp (.i2i .u8) [.int .u64 ((m % 256:Nat):Int)]=some (byteV (UInt8.ofNat (m % 256))):=congrArg some (Zd9 _)
  have hb:evp .b2s [.sl false 1 [byteV (UInt8.ofNat (m % 256))]]=some (.str [UInt8.ofNat (m % 256)]):=Z65 (l:=[UInt8.ofNat (m % 256)])
  have:=Xek m 256
  rw[w3 s.zq64_12];unfold y.zq64_12
  simp only[yy,if_pos (show(i:Int)<8 by omega),hr,hn,Znt,hb,Zj6 (show([UInt8.ofNat (m % 256)]:Bytes).length+t.length<=4611686018427387904 by simp;omega),hq,Zai (show i<64 by omega) (by decide)]
  exact v.num12 k (i+1) (m/256) _ (by omega) (by simp;omega) (by omega)
theorem v.refNum (n:Nat)(hn:n<=1000000000000):vl e 76 0 [I n]=some (.str (numB n)):=by
 have e3:evp (.i2i .u64) [.int .i64 (n:Int)]=some (.int .u64 (n:Int)):=by
  show some (V.int .u64 (IntKind.u64.wrap (n:Int)))=_
  grind[Zdp]
 rw[w1 s.zq64];unfold y.zq64
 simp only[yy,e3]
 exact(v.num12 8 0 n [] (by omega) rfl hn).trans (by rw[Qbe])
def Zbo (l:List Bytes):Bytes:=(l.map fun p=>numB p.length++p).flatten
def Zck (l:List Bytes):Bytes:=numB l.length++Zbo l
def sumL (l:List Bytes):Nat:=(l.map fun p=>8+p.length).sum
theorem Zfa (x:Bytes)(r:List Bytes):sumL (x::r)=8+x.length+sumL r:=rfl
theorem Zcw (x:Bytes)(r:List Bytes):Zbo (x::r)=numB x.length++x++Zbo r:=rfl
theorem Zhk :∀l:List Bytes,(Zbo l).length=sumL l
 | []=>rfl
 |x::r=>by
  have:=Zhk r
  simp only[Zbo,sumL,Xan,Xcd,Xaf,List.sum_cons,Zb7]at this⊢;omega
theorem Zdg (m:List Bytes):8*m.length<=sumL m:=by
 induction m<;>grind[sumL]
theorem Zwv {l:Bytes}{s:Bytes}(h:l.length+s.length<=Lim):evp (.app 1) [bsl l, .str s]=some (bsl (l++s)):=by
 show Zyb 1 (bsl l) (.str s)=_
 show(if(l.map byteV).length+(encB s).length<=Lim/\1=1 then some (V.sl false 1 (l.map byteV++encB s))else none)=_
 grind[encB]
theorem v.join31 (l:List Bytes)(hl:sumL l<=1000000000):∀(n i:Nat) (out:Bytes),i+n=l.length->out.length+sumL (l.drop i)<=2000000000->
  vl e 75 31 [bsl out,strs l,I l.length,I i]=some (.str (out++Zbo (l.drop i)))
 |0,i,out,hi,ho=>by
  rw[w4 s.zq2_31,Xas (by omega)];simp_all[yy,Z65,y.zq2_31,Zbo]
 |n+1,i,out,hi,ho=>by
  have hLim:Lim=4294967296:=rfl
  have hlt:i<l.length:=by omega
  rw[Xah hlt]at ho⊢
  rw[Zfa]at ho
  rw[Zcw]
  have hn:=Zb7 l[i].length
  have hlen:=Zdg l
  rw[w4 s.zq2_31];unfold y.zq2_31
  simp only[yy,if_pos (show(i:Int)<(l.length:Int)by omega),Zdv hlt,Zch,v.codeNum l[i].length (by omega),Zwv (show out.length+(numB l[i].length).length<=Lim by omega),Zwv (show(out++numB l[i].length).length+l[i].length<=Lim by simp;omega),Zai hlt (by omega)]
  refine(v.join31 l hl n (i+1) _ (by omega) (by simp only[Xaf];omega)).trans ?_<;>grind
theorem Zg8 :∀{l:List Bytes} {x:Bytes},x∈l->8+x.length<=sumL l
 |y::r,x,h=>by
  rcases Xap.1 h with rfl|h
  ·simp[sumL]
  ·have:=Zg8 h;grind[sumL]
theorem v.join10 (l:List Bytes)(hl:sumL l<=1000000000):∀(n i m:Nat),i+n=l.length->m+sumL (l.drop i)<=2000000000->
  vl e 75 10 [strs l,I m,strs l,I l.length,I i]=some (.str (Zck l))
 |0,i,m,hi,hm=>by
  have hLim:Lim=4294967296:=rfl
  have h8:=Zdg l
  have hn:=Zb7 l.length
  have hk:evp (.mks 1) [.int .i64 0, .int .i64 (m:Int)]=some (bsl []):=by
   show(if(0:Int)=0/\0<=(m:Int)/\(m:Int)<=Lim then some (⟨.sl false 1 [],true,none⟩:Res)else none).map (·.v)=_
   grind
  rw[w5 s.zq2_10];unfold y.zq2_10
  simp only[yy,if_neg (show ¬((i:Int)<(l.length:Int))by omega),hk,v.codeNum l.length (by omega),Zwv (l:=[]) (s:=numB l.length) (by simp;omega)]
  refine(v.join31 l hl l.length 0 _ (by omega) (by grind)).trans ?_
  simp[Zck]
 |n+1,i,m,hi,hm=>by
  have hlt:i<l.length:=by omega
  rw[Xah hlt]at hm
  rw[Zfa]at hm
  have h8:=Zdg l
  have e1:IntKind.i64.wrap (8+(l[i].length:Int))=((8+l[i].length:Nat):Int):=by grind[w64]
  have e2:IntKind.i64.wrap ((m:Int)+((8+l[i].length:Nat):Int))=((m+(8+l[i].length):Nat):Int):=by grind[w64]
  rw[w5 s.zq2_10];unfold y.zq2_10
  simp only[yy,if_pos (show(i:Int)<(l.length:Int)by omega),Zdv hlt,Zch,e1,e2,Zai hlt (by omega)]
  exact v.join10 l hl n (i+1) _ (by omega) (by omega)
theorem v.codeJoin (l:List Bytes)(hl:sumL l<=1000000000):vl e 75 0 [strs l]=some (.str (Zck l)):=by
 rw[w1 s.zq2];unfold y.zq2
 simp only[yy]
 exact v.join10 l hl l.length 0 8 (by omega) (by grind)
theorem v.rjoin10 (l:List Bytes)(hl:sumL l<=1000000000):∀(n i:Nat) (out:Bytes),i+n=l.length->out.length+sumL (l.drop i)<=2000000000->
  vl e 77 10 [.str out,strs l,I l.length,I i]=some (.str (out++Zbo (l.drop i)))
 |0,i,out,hi,ho=>by
  rw[w4 s.zq63_10,Xas (by omega)];simp_all[yy,y.zq63_10,Zbo]
 |n+1,i,out,hi,ho=>by
  have hlt:i<l.length:=by omega
  rw[Xah hlt]at ho⊢
  rw[Zfa]at ho
  rw[Zcw]
  have hn:=Zb7 l[i].length
  have h8:=Zdg l
  rw[w4 s.zq63_10];unfold y.zq63_10
  simp only[yy,if_pos (show(i:Int)<(l.length:Int)by omega),Zdv hlt,Zch,v.refNum l[i].length (by omega),Zj6 (show out.length+(numB l[i].length).length<=4611686018427387904 by omega),Zj6 (show(out++numB l[i].length).length+l[i].length<=4611686018427387904 by simp;omega),Zai hlt (by omega)]
  refine(v.rjoin10 l hl n (i+1) _ (by omega) (by simp only[Xaf];omega)).trans ?_<;>grind
theorem v.refJoin (l:List Bytes)(hl:sumL l<=1000000000):vl e 77 0 [strs l]=some (.str (Zck l)):=by
 have h8:=Zdg l
 have hn:=Zb7 l.length
 rw[w1 s.zq63];unfold y.zq63
 simp only[yy,v.refNum l.length (by omega)]
 refine(v.rjoin10 l hl l.length 0 _ (by omega) (by grind)).trans ?_
 simp[Zck]
theorem Zea (l:List Bytes):(Zck l).length=8+sumL l:=by simp[Zck,Zb7,Zhk]
def Zar (p s:Bytes):Bytes:=Zre (Zck [p,s])
theorem Zah (p s:Bytes):(Zar p s).length=32:=Zhr _
theorem Zj0 {x y:Bytes}:evp (.bsl 1) [.str x, .str y]=some (strs [x,y]):=rfl
theorem Z27 {x y:Bytes}:evp (.app 1) [.sl false 1 [.str x], .sl false 1 [.str y]]=some (strs [x,y]):=by
 have:=Zmv (l:=[x]) (x:=y) (show 1+1<=Lim by decide)
 exact this
theorem v.shaSum (p s:Bytes)(hp:p.length<=100)(hs:s.length<=100000000):vl e 237 0 [.str p, .sl false 1 [.str s]]=some (bl (Zar p s)):=by
 have hl:sumL [p,s]=16+p.length+s.length:=by grind[sumL]
 have hj:=Zea [p,s]
 rw[w2 s.zq87];unfold y.zq87
 simp only[yy,Zhw,Z27,v.codeJoin [p,s] (by omega),v.shaOf (Zck [p,s]) (by omega),Zbc (Zhr (Zck [p,s]))]
 rfl
theorem v.refSum (p s:Bytes)(hp:p.length<=100)(hs:s.length<=100000000):vl e 71 0 [.str p, .str s]=some (bl (Zar p s)):=by
 have hl:sumL [p,s]=16+p.length+s.length:=by grind[sumL]
 have hj:=Zea [p,s]
 have h2:evp .s2b [.str (Zck [p,s])]=some (bsl (Zck [p,s])):=rfl
 rw[w2 s.zq79];unfold y.zq79
 simp only[yy,Zj0,v.refJoin [p,s] (by omega),h2,v.refOf (Zck [p,s]) (by omega),Zbc (Zhr (Zck [p,s]))]
 rfl
theorem Zp7 :∀{n:Nat} {x y:Bytes},x.length=n->y.length=n->Zat (List.replicate n (some .u8,true)) (x.map byteV) (y.map byteV)=some (decide (x=y))
 |0,[],[],_,_=>rfl
 |n+1,a::x,b::y,hx,hy=>by
  have ih:=Zp7 (n:=n) (x:=x) (y:=y) (by simpa using hx) (by simpa using hy)
  show(kdEq (some .u8,true) (byteV a) (byteV b)).bind (fun c=>(Zat (List.replicate n (some .u8,true)) (x.map byteV) (y.map byteV)).map (c&& ·))=_
  rw[ih]
  show some (decide ((a.toNat:Int)=(b.toNat:Int))&&decide (x=y))=_
  have:((a.toNat:Int)=(b.toNat:Int))<->a=b:=⟨fun h=>Xc1.1 (by omega),fun h=>by rw[h]⟩
  by_cases h1:a=b
  ·subst h1;simp
  ·rw[decide_eq_false (fun h=>h1 (this.1 h))];simp[h1]
theorem Zv4 {x y:Bytes}(hx:x.length=32)(hy:y.length=32):evp (.bin .eql (.flat [(some .u8,true),(some .u8,true),(some .u8,true),(some .u8,true),(some .u8,true),(some .u8,true),(some .u8,true),(some .u8,true),(some .u8,true),(some .u8,true),(some .u8,true),(some .u8,true),(some .u8,true),(some .u8,true),(some .u8,true),(some .u8,true),(some .u8,true),(some .u8,true),(some .u8,true),(some .u8,true),(some .u8,true),(some .u8,true),(some .u8,true),(some .u8,true),(some .u8,true),(some .u8,true),(some .u8,true),(some .u8,true),(some .u8,true),(some .u8,true),(some .u8,true),(some .u8,true)])) [bl x,bl y]=some (.bool (decide (x=y))):=by
 show(Zat (List.replicate 32 (some .u8,true)) (x.map byteV) (y.map byteV)).map V.bool=_
 grind[Zp7]
end Go.Proofs.YtegmegbanfkomaaGreatDoor
namespace Go.Proofs.YtegmegbanfkomaaGreatDoor
open Go.Abs
set_option maxRecDepth 10000
variable {e:Ev}
abbrev MB :=List (Bytes×Bytes)
def mkP (p:Bytes×Bytes):V×V:=(bl p.1, .str p.2)
abbrev mv (M:MB):V:=mpV (M.map mkP)
abbrev qK :KK:=(true,repl 32 (some .u8,true))
def putM :MB->Bytes->Bytes->MB
 | [],k,x=> [(k,x)]
 |p::r,k,x=>if k=p.1 then(k,x)::r else p::putM r k x
def getM :MB->Bytes->Option Bytes
 | [],_=>none
 |p::r,k=>if k=p.1 then some p.2 else getM r k
def keyL (M:MB):Prop:=∀p∈M,p.1.length=32
theorem Zle (l:List (V×V)):unMp (mpV l)=some l:=by
 show unM (l.map fun p=> .tup [p.1,p.2])=some l
 induction l<;>grind[unM]
theorem Zip {x z:Bytes}(hx:x.length=32)(hz:z.length=32):Zdr qK (bl x) (bl z)=some (decide (x=z)):=Zp7 (n:=32) hx hz
theorem Zwe {k x:Bytes}(hk:k.length=32):∀{M:MB},keyL M->mPut qK (bl k) (.str x) (M.map mkP)=some ((putM M k x).map mkP)
 | [],_=>rfl
 |p::r,h=>by
  have ih:=Zwe (x:=x) hk (M:=r) fun q hq=>h q (by simp[hq])
  simp only[Xan,mPut,putM,mkP]at ih⊢
  rw[Zip hk (h p (by simp)),Xaw]
  by_cases he:k=p.1
  ·rw[if_pos (decide_eq_true he),if_pos he];rfl
  ·rw[if_neg (by simpa using he),if_neg he,ih];rfl
theorem Zry {k:Bytes}(hk:k.length=32):∀{M:MB},keyL M->Ze3 qK (bl k) (M.map mkP)=some ((getM M k).map V.str)
 | [],_=>rfl
 |p::r,h=>by
  have ih:=Zry hk (M:=r) fun q hq=>h q (by simp[hq])
  simp only[Xan,Ze3,getM,mkP]at ih⊢
  rw[Zip hk (h p (by simp)),Xaw]
  by_cases he:k=p.1
  ·rw[if_pos (decide_eq_true he),if_pos he];rfl
  ·rw[if_neg (by simpa using he),if_neg he,ih]
theorem Z5k {M:MB}{k x:Bytes}(hM:keyL M)(hk:k.length=32):evp (.mup qK) [mv M,bl k, .str x]=some (mv (putM M k x)):=by
 show Zsz qK (mv M) (bl k) (.str x)=_
 grind[Zle,Zip,Zwe,Zsz]
theorem Z67 {M:MB}{k:Bytes}(hM:keyL M)(hk:k.length=32):evp (.mlk qK (.str []) true) [mv M,bl k]=some (.tup [.str ((getM M k).getD []), .bool (getM M k).isSome]):=by
 show Ztj qK (.str []) true (mv M) (bl k)=_
 simp_all[Zle,Zip,Zry,Ztj]
def Zo4 (M:MB):List Bytes:=M.map (·.1)
theorem Zem (p:Bytes×Bytes)(r:MB):Zo4 (p::r)=p.1::Zo4 r:=rfl
theorem Zn6 (k x:Bytes):∀M:MB,Zo4 (putM M k x)=if k∈Zo4 M then Zo4 M else Zo4 M++ [k]
 | []=>rfl
 |p::r=>by
  have ih:=Zn6 k x r
  by_cases h:k=p.1
  ·rw[putM,if_pos h,if_pos (by rw[Zem,h];exact Xdc),Zem,Zem,h]
  ·rw[putM,if_neg h,Zem,ih,Zem]
   by_cases h2:k∈Zo4 r
   ·rw[if_pos h2,if_pos (Xbb _ h2)]
   ·rw[if_neg h2,if_neg (fun hc=>(Xap.1 hc).elim h h2)];rfl
def Zd3 (ps:MB)(M:MB):MB:=ps.foldl (fun M p=>putM M p.1 p.2) M
theorem Znr {M:MB}{k x:Bytes}(hM:keyL M)(hk:k.length=32):keyL (putM M k x):=by
 intro p hp
 have:p.1∈Zo4 (putM M k x):=Xcq hp
 rw[Zn6]at this
 split at this
 ·obtain⟨q,hq,he⟩:=Xa7.1 this
  rw[<-he];exact hM q hq
 ·rcases Xaz.1 this with h|h
  ·obtain⟨q,hq,he⟩:=Xa7.1 h
   rw[<-he];exact hM q hq
  grind
theorem Zed :∀{ps M:MB},keyL ps->keyL M->keyL (Zd3 ps M)
 | [],_,_,h=>h
 |p::r,_,hp,h=>Zed (ps:=r) (fun q hq=>hp q (by simp[hq])) (Znr h (hp p (by simp)))
theorem Znb (a b M:MB):Zd3 (a++b) M=Zd3 b (Zd3 a M):=by simp[Zd3,List.foldl_append]
abbrev z32 :V:= .agg (repl 32 (.int .u8 0))
def Za2 :Bytes:=[98,108,111,98]
def Zbl :Bytes:=[116,114,101,101]
theorem v.PutBlob (d:Bytes)(hd:d.length<=32768)(M1:MB)(hM:keyL M1)(m2 m3:V):vl e 12240 1 [.str d,mv M1,m2,m3]=some (.tup [bl (Zar Za2 d),I 0,mv (putM M1 (Zar Za2 d) d),m2,m3]):=by
 have h1:vl e 187 0 [.str d]=some (bl (Zar Za2 d)):=by
  rw[w1 s.zq16];unfold y.zq16
  have:=v.shaSum (e:=e) Za2 d (by decide) (by omega)
  simp_all[yy,Zhw,Zbc,Zah,Za2]
 rw[w4 s.zq54_h0];unfold y.zq54_h0
 simp only[yy,if_neg (show ¬(32768:Int)<(d.length:Int)by omega),h1,Zbc (Zah _ _),Z5k hM (Zah _ _)]
structure En where
 nm:Bytes
 tr:Bool
 id:Bytes
def ev (x:En):V:= .agg (.str x.nm:: .bool x.tr::x.id.map byteV)
abbrev entV (l:List En):V:= .sl false 34 (l.map ev)
theorem Zf9 {l:List En}{i:Nat}(h:i<l.length):evp (.elem 34) [entV l,I i]=some (ev l[i]):=Zf6 (by simp[h])
theorem Zm1 {l:List En}:evp (.len false) [entV l]=some (I l.length):=by rw[entV,Zsr,Xb2]
theorem Zlh (x:En):(ev x).cells= .str x.nm:: .bool x.tr::x.id.map byteV:=rfl
theorem Znl {x:En}(h:x.id.length=32):(ev x).cells.length=34:=by rw[Zlh];simp[h]
theorem Z5i (x:En):(ev x).cells.all V.sc=true:=by
 rw[Zlh,Xcs,Xcs,Xav.2]
 ·rfl
 ·intro c hc;obtain⟨b,_,rfl⟩:=Xa7.1 hc;rfl
theorem Zo2 {x:En}(h:x.id.length=32):evp (.ld (some 34) 0) [ev x]=some (ev x):=by
 show Zak (some 34) (ev x).cells 0=_
 simp only[Zak]
 rw[if_pos (by grind[Znl]),Xbq,Xa1 (by grind[Znl])];rfl
theorem Zh3 {x:En}(h:x.id.length=32):evp (.cat [some 34]) [ev x]=some (ev x):=by
 show(catV [some 34] [ev x]).map V.agg=_
 simp only[catV]
 rw[if_pos ⟨Znl h,Z5i x⟩]
 simp only[Xay,Xax];rfl
theorem Zly {x:En}:evp (.ld none 0) [ev x]=some (.str x.nm):=rfl
theorem Zpn {x:En}:evp (.ld none 1) [ev x]=some (.bool x.tr):=rfl
theorem Zyh {x:En}(h:x.id.length=32):evp (.b2so 2 32) [ev x]=some (.str x.id):=by
 show Zyc 2 32 (ev x)=_
 grind[Zlh,List.take_of_length_le,Zev,Zyc]
structure EnOK (l:List En):Prop where
 nm:∀x∈l,Zbe x.nm=true/\x.nm.length<=128
 id:∀x∈l,x.id.length=32
 up:l.Pairwise fun a b=>Op.bytesLess a.nm b.nm=true
 len:l.length<=512
theorem Zwu {s:Bytes}(h:Zbe s=true)(hl:s.length<=128):Zco s=true:=by
 grind[Zc0,Zhj,Zco]
theorem v.last (s:Bytes)(c:UInt8)(hs:s.length<=1000000000)(hc:c∉s):vl e 105 0 [.str s,byteV c]=some (I (-1)):=by
 have key:∀(n:Nat),n<=s.length->vl e 147 8 [.str s,byteV c,I ((n:Int)-1)]=some (I (-1)):=by
  intro n
  induction n with
  |zero=>
   intro _
   rw[w3 s.zq6_8];simp_all[yy,y.zq6_8]
  |succ n ih=>
   intro hn
   have hlt:n<s.length:=by omega
   have hne: ¬((s[n].toNat:Int)=(c.toNat:Int)):=fun h=>hc (by grind[Zjf])
   have e0:((n+1:Nat):Int)-1=(n:Int):=by omega
   have:=ih (by omega)
   rw[w3 s.zq6_8];unfold y.zq6_8
   rw[e0]
   have e1:IntKind.i64.wrap ((n:Int)-1)=(n:Int)-1:=w64 _ (by omega)
   simp_all[yy,Zib,byteV]
 rw[w2 s.zq116];unfold y.zq116
 have h1:vl e 147 0 [.str s,byteV c]=some (I (-1)):=by
  rw[w2 s.zq6];unfold y.zq6
  have e1:IntKind.i64.wrap ((s.length:Int)-1)=(s.length:Int)-1:=w64 _ (by omega)
  simp_all[yy]
 grind
theorem v.Dir1 (s:Bytes)(hs:s.length<=1000000000)(hc:(47:UInt8)∉s):vl e 51 0 [.str s]=some (.str []):=by
 rw[w1 s.zq24];unfold y.zq24
 have h1:=v.last (e:=e) s 47 hs hc
 have h2:evp (.mnx true) [.int .i64 (-1), .int .i64 0]=some (.int .i64 0):=rfl
 have h3:evp (.sls false true) [.str s, .int .i64 0]=some (.str []):=Zh9 (h:=0) (Xbz _)
 simp_all[yy,byteV]
theorem v.GoodTree8 (he:EnvT e)(l:List En)(h:EnOK l):∀(n i:Nat),i+n=l.length->vl e 238 8 [entV l,entV l,I l.length,I i]=some (.bool true):=by
 intro n
 induction n with
 |zero=>
  intro i hi
  have hlen:=h.len
  rw[w4 s.zq18_8];unfold y.zq18_8
  simp only[yy,if_neg (show ¬((i:Int)<(l.length:Int))by omega),Zm1]
  grind
 |succ n ih=>
  intro i hi
  have hlen:=h.len
  have hlt:i<l.length:=by omega
  have hid:=h.id _ (Xam hlt)
  obtain⟨hp,hpl⟩:=h.nm _ (Xam hlt)
  have hg:=v.Good he l[i].nm (by omega)
  rw[Zwu hp hpl]at hg
  have hd:=v.Dir1 (e:=e) l[i].nm (by omega) (Zhj hp)
  have hn:(!decide (([]:Bytes)=[]))=false:=rfl
  have:=ih (i+1) (by omega)
  rw[w4 s.zq18_8];unfold y.zq18_8
  by_cases h0:0<i
  ·have hlt':i-1<l.length:=by omega
   have hup:Op.bytesLess l[i-1].nm l[i].nm=true:=Xa3.1 h.up (i-1) i hlt' hlt (by omega)
   have hge:evp (.bin .geq .no) [.str l[i-1].nm, .str l[i].nm]=some (.bool false):=by
    show some (V.bool (!Op.bytesLess l[i-1].nm l[i].nm))=_
    rw[hup];rfl
   simp only[yy,if_pos (show(i:Int)<(l.length:Int)by omega),Zf9 hlt,Zo2 hid,Zh3 hid,Zly,hg,hd,if_pos (show(0:Int)<(i:Int)by omega),Zi1 (show 1<=i by omega) (by omega),Zf9 hlt',hge,Zai hlt (by omega)]
   grind
  ·simp only[yy,if_pos (show(i:Int)<(l.length:Int)by omega),Zf9 hlt,Zo2 hid,Zh3 hid,Zly,hg,hd,if_neg (show ¬(0:Int)<(i:Int)by omega),Zai hlt (by omega)]
   grind
theorem v.GoodTree (he:EnvT e)(l:List En)(h:EnOK l):vl e 238 0 [entV l]=some (.bool true):=by
 rw[w1 s.zq18];unfold y.zq18
 simp only[yy,Zm1]
 exact v.GoodTree8 he l h l.length 0 (Xao _)
def enP (x:En):List Bytes:=[if x.tr then Zbl else Za2,x.nm,x.id]
def Zbi (l:List En):List Bytes:=l.flatMap enP
theorem Zee (l:List En):(Zbi l).length=3*l.length:=by
 unfold Zbi
 induction l<;>grind[enP]
theorem Zxb (a b:List Bytes):sumL (a++b)=sumL a+sumL b:=by simp[sumL]
theorem Zdl {l:List En}(h1:∀x∈l,x.nm.length<=128)(h2:∀x∈l,x.id.length=32):sumL (Zbi l)<=188*l.length:=by
 unfold Zbi
 induction l<;>grind[enP,Zbl,Za2,sumL]
theorem Zw8 {a:List Bytes}{x u t:Bytes}(h:a.length+3<=Lim):evp (.app 1) [strs a, .sl false 1 [.str x, .str u, .str t]]=some (strs (a++ [x,u,t])):=by
 simp_all[Zl1]
theorem v.PutTree18 (l:List En)(h:EnOK l):∀(n i:Nat),i+n=l.length->vl e 188 18 [strs (Zbi (l.take i)),entV l,I l.length,I i]=some (.tup [.str (Zck (Zbi l)),I 0]):=by
 intro n
 induction n with
 |zero=>
  intro i hi
  have hlen:=h.len
  have hs:=Zdl (fun x hx=>(h.nm x hx).2) h.id
  have hj:=v.codeJoin (e:=e) (Zbi l) (by omega)
  rw[w4 s.zq19_18];simp_all[yy,y.zq19_18]
 |succ n ih=>
  intro i hi
  have hlen:=h.len
  have hlt:i<l.length:=by omega
  have hid:=h.id _ (Xam hlt)
  have hal:(Zbi (l.take i)).length+3<=Lim:=by grind[Zee,Lim]
  have hto:Zbi (l.take (i+1))=Zbi (l.take i)++enP l[i]:=by
   grind[List.take_succ_eq_append_getElem,Zbi]
  have:=ih (i+1) (by omega)
  rw[hto]at this
  have hb3:∀a b c:Bytes,evp (.bsl 1) [.str a, .str b, .str c]=some (.sl false 1 [.str a, .str b, .str c]):=fun _ _ _=>rfl
  rw[w4 s.zq19_18];unfold y.zq19_18
  cases ht:l[i].tr with
  |false=>
   rw[enP,ht]at this
   simp only[yy,if_pos (show(i:Int)<(l.length:Int)by omega),Zf9 hlt,Zo2 hid,Zh3 hid,Zpn,ht,Zly,Zyh hid,hb3,Zw8 hal,Zai hlt (by omega)]
   exact this
  |true=>
   rw[enP,ht]at this
   simp only[yy,if_pos (show(i:Int)<(l.length:Int)by omega),Zf9 hlt,Zo2 hid,Zh3 hid,Zpn,ht,Zly,Zyh hid,hb3,Zw8 hal,Zai hlt (by omega)]
   exact this
def Za8 (l:List En):Bytes:=Zck (Zbi l)
theorem v.PutTree (he:EnvT e)(l:List En)(h:EnOK l)(m1 m3:V)(M2:MB)(hM:keyL M2):vl e 12256 1 [entV l,m1,mv M2,m3]=some (.tup [bl (Zar Zbl (Za8 l)),I 0,m1,mv (putM M2 (Zar Zbl (Za8 l)) (Za8 l)),m3]):=by
 have hlen:=h.len
 have hs:=Zdl (fun x hx=>(h.nm x hx).2) h.id
 have h1:vl e 188 0 [entV l]=some (.tup [.str (Za8 l),I 0]):=by
  rw[w1 s.zq19];unfold y.zq19
  have:=v.PutTree18 (e:=e) l h l.length 0 (Xao _)
  simp only[yy,v.GoodTree he l h,Zm1]
  exact this
 have h2:vl e 189 0 [.str (Za8 l)]=some (bl (Zar Zbl (Za8 l))):=by
  rw[w1 s.zq20];unfold y.zq20
  have:=v.shaSum (e:=e) Zbl (Za8 l) (by decide) (by grind[Zea,Za8])
  simp_all[yy,Zhw,Zbc,Zah,Zbl]
 simp_all[w4 s.zq55_h0,yy,Zbc,Zah,Z5k,y.zq55_h0]
end Go.Proofs.YtegmegbanfkomaaGreatDoor
namespace Go.Proofs.YtegmegbanfkomaaGreatDoor
open Go.Abs
set_option maxRecDepth 10000
variable {e:Ev}
def Za7 :Bytes->Bytes
 | []=> []
 |x::r=>if x=47 \/47∈r then Za7 r else x::r
def dirB (s:Bytes):Bytes:=s.take (s.length-(Za7 s).length-1)
theorem Zp3 :∀s:Bytes,(47:UInt8)∉Za7 s
 | []=>by simp[Za7]
 |x::r=>by
  unfold Za7
  split
  ·exact Zp3 r
  ·simp_all;grind
theorem Zik :∀s:Bytes,((47:UInt8)∉s/\Za7 s=s) \/ ∃d,s=d++47::Za7 s
 | []=> .inl ⟨by simp,rfl⟩
 |x::r=>by
  unfold Za7
  by_cases h:x=47 \/47∈r
  ·right
   rw[if_pos h]
   rcases Zik r with⟨h1,h2⟩|⟨d,hd⟩
   ·exact⟨[],by rw[h2];simp_all⟩
   ·exact⟨x::d,by rw[Xb4, <-hd]⟩
  ·left
   rw[if_neg h]
   exact⟨by simp_all;grind,rfl⟩
theorem Zmn (s:Bytes):(Za7 s).length<=s.length:=by
 rcases Zik s with⟨_,h⟩|⟨d,h⟩<;>grind
theorem Zqe (s:Bytes):(dirB s).length<=s.length-1:=by
 unfold dirB;simp;omega
theorem Zla :∀s:Bytes,(Zad 47 s).getLastD []=Za7 s
 | []=>rfl
 |x::r=>by
  have ih:=Zla r
  unfold Zad Za7
  by_cases hx:x=47
  ·rw[if_pos hx,if_pos (.inl hx), <-ih]
   cases h:Zad 47 r with
   |nil=>exact absurd h (Zaw 47 r)
   |cons a l=>simp
  ·rw[if_neg hx]
   by_cases hr:(47:UInt8)∈r
   ·rw[if_pos (.inr hr)]
    cases h:Zad 47 r with
    |nil=>exact absurd h (Zaw 47 r)
    |cons a l=>
     cases l with
     |nil=>
      have h3:a=r:=by have:=Zbb 47 r;rw[h]at this;simpa[Zag]using this
      rw[h]at ih
      have hb:=Zp3 r
      rw[<-ih]at hb
      exact absurd hr (by rw[<-h3];exact hb)
     |cons b t=>rw[<-ih,h];simp
   ·rw[if_neg (by simp[hx,hr]),Zc0 hr];rfl
theorem v.Last (s:Bytes)(hs:s.length<=1000000000):vl e 105 0 [.str s,byteV 47]=some (I ((s.length:Int)-((Za7 s).length:Int)-1)):=by
 rcases Zik s with⟨h1,h2⟩|⟨d,hd⟩
 ·grind[v.last]
 ·have hl:=congrArg List.length hd
  simp only[Xaf,Xaq]at hl
  have hb:=Zp3 s
  have key:∀n,n<=(Za7 s).length->vl e 147 8 [.str s,byteV 47,I (d.length+n:Nat)]=some (I d.length):=by
   intro n
   induction n with
   |zero=>
    intro _
    have hx:s[d.length]? =some 47:=by rw[hd];simp
    rw[w3 s.zq6_8];unfold y.zq6_8
    simp only[yy,if_pos (show(0:Int)<=((d.length+0:Nat):Int)by omega),Zib (i:=d.length+0) hx]
    rfl
   |succ n ih=>
    intro hn
    have hlt:d.length+(n+1)<s.length:=by omega
    have hx:s[d.length+(n+1)]? =some ((Za7 s)[n]):=by
     grind
    have hne: ¬(((Za7 s)[n].toNat:Int)=((47:UInt8).toNat:Int)):=fun h=>hb (by rw[<-Zjf.1 h];grind)
    have e1:IntKind.i64.wrap (((d.length+(n+1):Nat):Int)-1)=((d.length+n:Nat):Int):=by grind[w64]
    rw[w3 s.zq6_8];unfold y.zq6_8
    simp only[yy,if_pos (show(0:Int)<=((d.length+(n+1):Nat):Int)by omega),Zib hx,byteV,if_neg hne,e1]
    exact ih (by omega)
  have h1:vl e 147 0 [.str s,byteV 47]=some (I d.length):=by
   rw[w2 s.zq6];unfold y.zq6
   have e1:IntKind.i64.wrap ((s.length:Int)-1)=((d.length+(Za7 s).length:Nat):Int):=by grind[w64]
   simp only[yy,e1]
   grind
  rw[w2 s.zq116];grind[y.zq116]
theorem v.Dir (s:Bytes)(hs:s.length<=1000000000):vl e 51 0 [.str s]=some (.str (dirB s)):=by
 rw[w1 s.zq24];unfold y.zq24
 have hb:=Zmn s
 have h1:=v.Last (e:=e) s hs
 have h2:evp (.mnx true) [I ((s.length:Int)-((Za7 s).length:Int)-1), .int .i64 0]=some (I (s.length-(Za7 s).length-1:Nat)):=by
  rcases Xa6 (s.length-(Za7 s).length) 1 with h|h
  ·have:(s.length:Int)-((Za7 s).length:Int)-1= -1:=by omega
   rw[this,show s.length-(Za7 s).length-1=0 by omega];rfl
  ·have:(s.length:Int)-((Za7 s).length:Int)-1=((s.length-(Za7 s).length-1:Nat):Int):=by omega
   rw[this]
   show some (V.int .i64 _)=_
   congr 2
 rw[show V.int .u8 47=byteV 47 from rfl]
 simp only[yy,h1,h2,Zh9 (s:=s) (h:=s.length-(Za7 s).length-1) (by omega)]
 rfl
theorem Zwd (s:Bytes):s.drop (s.length-(Za7 s).length)=Za7 s:=by
 rcases Zik s with⟨_,h⟩|⟨d,h⟩
 ·rw[h];simp
 ·have:=congrArg List.length h
  simp at this
  conv=>lhs;arg 2;rw[h]
  rw[show s.length-(Za7 s).length=d.length+1 by omega];simp
theorem v.Base (s:Bytes)(hs:s.length<=1000000000):vl e 55 0 [.str s]=some (.str (Za7 s)):=by
 rw[w1 s.zq22];unfold y.zq22
 have hb:=Zmn s
 have h1:=v.Last (e:=e) s hs
 have e1:IntKind.i64.wrap ((s.length:Int)-((Za7 s).length:Int)-1+1)=((s.length-(Za7 s).length:Nat):Int):=by grind[w64]
 simp_all[yy,Zh6,Zwd,byteV]
end Go.Proofs.YtegmegbanfkomaaGreatDoor
namespace Go.Proofs.YtegmegbanfkomaaGreatDoor
open Go.Abs
set_option maxRecDepth 20000
variable {e:Ev}
def Zkd (s p:Bytes):Bool:=decide (p.length<=s.length/\s.drop (s.length-p.length)=p)
theorem Zvm {s p:Bytes}(h:p.length<=s.length)(hs:s.length<=1000000000):IntKind.i64.wrap ((s.length:Int)-(p.length:Int))=((s.length-p.length:Nat):Int):=by
 have:(s.length:Int)-(p.length:Int)=((s.length-p.length:Nat):Int):=by omega
 rw[this];exact w64 _ (by omega)
theorem v.hasSuffix0 (s p:Bytes)(hs:s.length<=1000000000):vl e 199 0 [.str s, .str p]=some (.bool (Zkd s p)):=by
 rw[w2 s.zq10];unfold y.zq10 Zkd
 by_cases h:p.length<=s.length
 ·have hw:=Zvm h hs
  simp only[yy,if_pos (show(p.length:Int)<=(s.length:Int)by omega),hw,Zh6 (s:=s) (l:=s.length-p.length) (by omega)]
  by_cases h2:s.drop (s.length-p.length)=p
  ·rw[decide_eq_true h2,decide_eq_true ⟨h,h2⟩]
  ·rw[decide_eq_false h2,decide_eq_false (fun k=>h2 k.2)]
 ·simp only[yy,if_neg (show ¬((p.length:Int)<=(s.length:Int))by omega)]
  rw[decide_eq_false (fun k=>h k.1)]
theorem Zr0 {s p:Bytes}(h:Zkd s p=true):p.length<=s.length:=(of_decide_eq_true h).1
theorem v.cutSuffix (s p:Bytes)(hs:s.length<=1000000000):vl e 108 0 [.str s, .str p]=some (.tup [.str (if Zkd s p=true then s.take (s.length-p.length)else s), .bool (Zkd s p)]):=by
 rw[w2 s.zq111];unfold y.zq111
 have h1:vl e 150 0 [.str s, .str p]=some (.tup [.str (if Zkd s p=true then s.take (s.length-p.length)else s), .bool (Zkd s p)]):=by
  rw[w2 s.zq8];unfold y.zq8
  cases h:Zkd s p with
  |true=>
   have hle:=Zr0 h
   have hw:=Zvm hle hs
   simp only[yy,v.hasSuffix0 s p hs,h,hw,Zh9 (s:=s) (h:=s.length-p.length) (by omega)]
   simp
  |false=>
   simp only[yy,v.hasSuffix0 s p hs,h]
   simp
 simp only[yy,h1]
def tbS :List Bytes:=[[97,105,120],[97,110,100,114,111,105,100],[100,97,114,119,105,110],[100,114,97,103,111,110,102,108,121],[102,114,101,101,98,115,100],[105,108,108,117,109,111,115],[105,111,115],[106,115],[108,105,110,117,120],[110,101,116,98,115,100],[111,112,101,110,98,115,100],[112,108,97,110,57],[115,111,108,97,114,105,115],[119,97,115,105,112,49],[119,105,110,100,111,119,115]]
def tbP :List Bytes:=[[51,56,54],[97,109,100,54,52],[97,114,109],[97,114,109,54,52],[108,111,111,110,103,54,52],[109,105,112,115],[109,105,112,115,54,52],[109,105,112,115,54,52,108,101],[109,105,112,115,108,101],[112,112,99,54,52],[112,112,99,54,52,108,101],[114,105,115,99,118,54,52],[115,51,57,48,120],[119,97,115,109]]
theorem v.System (o:Bytes):∃b,vl e 111 0 [.str o]=some (.bool b):=by
 refine⟨inB tbS o, ?_⟩
 rw[w1 s.zq120];unfold y.zq120
 have h:=v.Contains (e:=e) tbS o (by decide)
 refine Zpg (v:=strs tbS) rfl ?_
 simp only[yy,h]
theorem v.Processor (o:Bytes):∃b,vl e 112 0 [.str o]=some (.bool b):=by
 refine⟨inB tbP o, ?_⟩
 rw[w1 s.zq119];unfold y.zq119
 have h:=v.Contains (e:=e) tbP o (by decide)
 refine Zpg (v:=strs tbP) rfl ?_
 simp only[yy,h]
def isW (s:Bytes):Bool:=Zkd s [46,103,111]&& !(decide (s.headD 0=95)||decide (s.headD 0=46))
abbrev nmV (is t:Bool)(o a:Bytes):V:= .agg [.bool is, .bool t, .str o, .str a]
theorem Zhd {l:List Bytes}{i:Nat}(h:i<l.length):evp (.elem 1) [strs l,I i]=some (.str (l.getD i [])):=by
 rw[Zdv h];simp[List.getD,h]
theorem cat4 {a b:Bool}{o p:Bytes}:evp (.cat [none,none,none,none]) [.bool a, .bool b, .str o, .str p]=some (nmV a b o p):=rfl
theorem Z5p {x:V}{l:List V}:evp (.slc 1 true false false) [.sl false 1 (x::l), .int .i64 1]=some (.sl false 1 l):=by
 simp only[evp,Ztf,vSlc,vOpt]
 simp[cut3]
theorem Z7a {s:Bytes}:evp .sc [.str s]=some (.str s):=rfl
theorem Z7q {b:Bool}:evp .sc [.bool b]=some (.bool b):=rfl
theorem v.Of26 (ws:List Bytes)(hw:ws.length<=1000000)(t b:Bool)(x0 x1 x2 x3:V)(hb:b=true->2<=ws.length):
  ∃o a,vl e 56 26 [strs ws,I ((ws.length:Int)-1), .bool b,x0,x1,x2,x3, .bool true, .bool t, .str [], .str []]=some (nmV true t o a):=by
 rw[w11 s.zq118_26];unfold y.zq118_26
 cases b with
 |true=>
  have:=hb rfl
  have e1:(ws.length:Int)-1=((ws.length-1:Nat):Int):=by omega
  have e2:IntKind.i64.wrap (((ws.length-1:Nat):Int)-1)=((ws.length-2:Nat):Int):=by rw[w64 _ (by omega)];omega
  rw[e1]
  simp only[yy,e2,Zhd (show ws.length-2<ws.length by omega),Zhd (show ws.length-1<ws.length by omega),Zch,Z7a,cat4]
  exact⟨_,_,rfl⟩
 |false=>
  by_cases h0:ws=[]
  ·subst h0
   simp only[yy,Xa2,if_neg (show ¬((0:Int)<=((0:Nat):Int)-1)by omega),cat4]
   exact⟨_,_,rfl⟩
  ·have hpos:0<ws.length:=Xal.2 h0
   have e1:(ws.length:Int)-1=((ws.length-1:Nat):Int):=by omega
   obtain⟨b1,h1⟩:=v.System (e:=e) (ws.getD (ws.length-1) [])
   obtain⟨b2,h2⟩:=v.Processor (e:=e) (ws.getD (ws.length-1) [])
   rw[e1]
   simp only[yy,if_pos (show(0:Int)<=((ws.length-1:Nat):Int)by omega),Zhd (show ws.length-1<ws.length by omega),Zch,h1,h2,Z7a,cat4]
   cases b1<;>cases b2<;>exact⟨_,_,rfl⟩
theorem v.Of (he:EnvT e)(s:Bytes)(hs:s.length<=1000000):∃t o a,vl e 56 0 [.str s]=some (nmV (isW s) t o a):=by
 have c0:evp (.cat []) []=some (.agg []):=rfl
 have no:∀(x z:V), ∃t o a,vl e 56 9 [x, .bool true,z, .bool false, .str [], .str []]=some (nmV false t o a):=fun x z=>by
  rw[w6 s.zq118_9];unfold y.zq118_9
  simp only[yy,c0,cat4]
  exact⟨_,_,_,rfl⟩
 have hc:=v.cutSuffix (e:=e) s [46,103,111] (by omega)
 have hp1:=v.hasPrefix (e:=e) s [95]
 have hp2:=v.hasPrefix (e:=e) s [46]
 rw[w1 s.zq118];unfold y.zq118
 cases hg:Zkd s [46,103,111]with
 |false=>
  rw[hg]at hc
  rw[show isW s=false by simp[isW,hg]]
  simp only[yy,hc]
  exact no _ _
 |true=>
  rw[hg]at hc
  have hle:=Zr0 hg
  obtain⟨c,r,rfl⟩:∃c r,s=c::r:=by
   cases s with
   |nil=>simp at hle
   |cons c r=>exact⟨c,r,rfl⟩
  have g1:decide ((c::r).take ([95]:Bytes).length=[95])=decide (c=95):=by simp
  have g2:decide ((c::r).take ([46]:Bytes).length=[46])=decide (c=46):=by simp
  rw[g1]at hp1
  rw[g2]at hp2
  simp only[yy,hc,hp1,hp2]
  by_cases h95:c=95
  ·rw[show isW (c::r)=false by simp[isW,h95]]
   rw[if_pos h95]
   exact no _ _
  ·rw[if_neg h95]
   by_cases h46:c=46
   ·rw[show isW (c::r)=false by simp[isW,h46],decide_eq_true h46]
    exact no _ _
   ·rw[show isW (c::r)=true by simp[isW,hg,h95,h46],decide_eq_false h46,if_pos trivial]
    have c1:evp (.cat [none]) [.bool true]=some (.agg [.bool true]):=rfl
    obtain⟨u,hu⟩:∃u,u=(c::r).take ((c::r).length-([46,103,111]:Bytes).length):=⟨_,rfl⟩
    have hul:u.length<=1000000:=by rw[hu,Xbd];omega
    rw[<-hu,w6 s.zq118_9];unfold y.zq118_9
    obtain⟨q,t,hq,hql⟩:∃q t,vl e 108 0 [.str u, .str [95,116,101,115,116]]=some (.tup [.str q, .bool t])/\q.length<=1000000:=by
     refine⟨_,_,v.cutSuffix u _ (by omega), ?_⟩
     split
     ·rw[Xbd];omega
     ·exact hul
    have hsp:=v.split he q 95 (by omega)
    have hlen:=Zbn 95 q
    cases hw:Zad 95 q with
    |nil=>exact absurd hw (Zaw _ _)
    |cons w0 ws=>
     rw[hw]at hsp hlen
     simp only[Xaq]at hlen
     have hsl:evp (.slc 1 true false false) [strs (w0::ws), .int .i64 1]=some (strs ws):=Z5p
     have ew:IntKind.i64.wrap ((ws.length:Int)-1)=(ws.length:Int)-1:=w64 _ (by omega)
     by_cases h2:2<=ws.length
     ·have e1:(ws.length:Int)-1=((ws.length-1:Nat):Int):=by omega
      have e2:IntKind.i64.wrap (((ws.length-1:Nat):Int)-1)=((ws.length-2:Nat):Int):=by rw[w64 _ (by omega)];omega
      have h26:=fun b=>v.Of26 (e:=e) ws (by omega) t b (.bool false) (.bool false) (.str []) (.str []) (fun _=>h2)
      have ew':IntKind.i64.wrap ((ws.length:Int)-1)=((ws.length-1:Nat):Int):=by rw[ew,e1]
      rw[e1]at h26
      obtain⟨b1,k1⟩:=v.System (e:=e) (ws.getD (ws.length-2) [])
      obtain⟨b2,k2⟩:=v.Processor (e:=e) (ws.getD (ws.length-1) [])
      simp only[yy,c1,cat4,hq,Z7q,hsp,hsl,Zef,ew',if_pos (show(0:Int)<((ws.length-1:Nat):Int)by omega),e2,Zhd (show ws.length-2<ws.length by omega),Zhd (show ws.length-1<ws.length by omega),Zch,k1,k2]
      cases b1 with
      |true=>exact⟨t,h26 _⟩
      |false=>exact⟨t,h26 _⟩
     ·have h26:=v.Of26 (e:=e) ws (by omega) t false (.bool false) (.bool false) (.str []) (.str []) (fun h=>by cases h)
      simp only[yy,c1,cat4,hq,Z7q,hsp,hsl,Zef,ew,if_neg (show ¬((0:Int)<(ws.length:Int)-1)by omega)]
      exact⟨t,h26⟩
end Go.Proofs.YtegmegbanfkomaaGreatDoor
namespace Go.Proofs.YtegmegbanfkomaaGreatDoor
open Go.Abs
set_option maxRecDepth 10000
variable {e:Ev}
abbrev aggS (l:List Bytes):V:= .agg (l.map .str)
theorem Zvb {l:List Bytes}{i:Nat}(h:i<l.length):evp (.ldd none 0 1) [aggS l,I i]=some (.str l[i]):=by
 show(l.map V.str)[0+(i:Int).toNat*1]? =_
 simp[h]
theorem Z40 {l:List Bytes}{i:Nat}{x:Bytes}(h:i<l.length):evp (.std 1 0 1) [aggS l,I i, .str x]=some (aggS (l.set i x)):=by
 show vSet 1 (0+(i:Int).toNat*1) (aggS l) (.str x)=_
 unfold vSet
 rw[if_pos (by grind[V.cells,V.sc])]
 simp_all[Xb9,Zas]
theorem Z1z {l:List Bytes}{i:Nat}(h:i<l.length):evp (.clrx (.str [])) [aggS l,I l.length,I i]=some (aggS (l.take i++List.replicate (l.length-i) [])):=by
 show(if 0<=(i:Int)/\(i:Int)<(l.length:Int)/\(l.length:Int).toNat<=(aggS l).cells.length then some (V.agg (Zas (aggS l).cells (i:Int).toNat (List.replicate ((l.length:Int).toNat-(i:Int).toNat) (V.str []))))else none)=_
 rw[if_pos ⟨by omega,by omega,by simp[V.cells]⟩]
 simp only[V.cells,Xc0,Zas,List.length_replicate]
 rw[Xas (by simp;omega)]
 simp
theorem Zyz {l:List Bytes}{i:Nat}(h:i<=l.length):evp .snapx [aggS l,I i]=some (strs (l.take i)):=by
 show(if 0<=(i:Int)/\(i:Int).toNat<=(aggS l).cells.length then some (V.sl false 1 ((aggS l).cells.take (i:Int).toNat))else none)=_
 simp_all
theorem v.CloneS (l:List Bytes)(hl:l.length<=1000000):vl e 11616 1 [strs l]=some (.tup [I l.length,aggS l]):=by
 rw[w1 s.zq90_h0];unfold y.zq90_h0
 have h1:evp (.rapp 1) [.agg [],I (0:Nat),strs l]=some (aggS l):=by
  show Ztc 1 (.agg []) (I (0:Nat)) (strs l)=_
  have hf:fits 1 (l.map V.str)=true:=by simp_all[fits]
  simp only[Ztc,Zb2,Xaw,Zkg,hf,if_true,true_or]
  rw[if_pos ⟨by omega,by omega,by simp,by grind[Lim]⟩]
  have hfl:∀l:List Bytes,(l.map V.str).flatMap V.cells=l.map V.str:=fun l=>by
   induction l<;>simp_all
  grind
 have h2:evp (.rlen 1) [I (0:Nat),strs l]=some (I l.length):=by
  show Zqn 1 (I (0:Nat)) (strs l)=_
  simp[Zqn,Zb2]
 have h1':evp (.rapp 1) [.agg [], .int .i64 0,strs l]=some (aggS l):=h1
 have h2':evp (.rlen 1) [.int .i64 0,strs l]=some (I l.length):=h2
 simp only[yy,h1',h2']
 cases l<;>grind[vamb]
end Go.Proofs.YtegmegbanfkomaaGreatDoor
namespace Go.Proofs.YtegmegbanfkomaaGreatDoor
open Go.Abs
set_option maxRecDepth 10000
variable {e:Ev}
theorem v.isE (x:Bytes):Ze4 (vl e) (.fn 102 []) [.str x]=some (.bool (decide (x=[]))):=by
 show vl e 102 0 ([.str x]++ [])=_
 rw[Xax,w1 s.zq29];unfold y.zq29
 simp only[yy, ]
def nzL (l:List Bytes):List Bytes:=l.filter fun x=> !decide (x=[])
theorem Zpr {x:Bytes}(h:x≠ [])(l:List Bytes):nzL (x::l)=x::nzL l:=by unfold nzL;rw[List.filter_cons,if_pos (by simp[h])]
theorem Zz1 (l:List Bytes):nzL ([]::l)=nzL l:=by unfold nzL;rw[List.filter_cons,if_neg (by simp)]
theorem Zzz (a b:List Bytes):nzL (a++b)=nzL a++nzL b:=List.filter_append ..
theorem v.idxE (l:List Bytes)(hl:l.length<=1000000):∀(n i:Nat),i+n=l.length->
  (∃(j:Nat) (hj:j<l.length),i<=j/\l[j]=[]/\nzL (l.take j)=nzL (l.take i)++(l.take j).drop i/\vl e 12320 8 [I l.length, .fn 102 [],I l.length,I i,aggS l]=some (.tup [I j,aggS l])) \/
  (nzL (l.drop i)=l.drop i/\vl e 12320 8 [I l.length, .fn 102 [],I l.length,I i,aggS l]=some (.tup [I (-1),aggS l]))
 |0,i,hi=>by
  right
  rw[w5 s.zq97_h0_8];unfold y.zq97_h0_8
  simp only[yy,if_neg (show ¬(i:Int)<(l.length:Int)by omega)]
  rw[Xda (by omega)];exact⟨rfl,trivial⟩
 |n+1,i,hi=>by
  have hlt:i<l.length:=by omega
  have hp:=v.isE (e:=e) l[i]
  have hd:=Xah hlt
  have ih:=v.idxE l hl n (i+1) (by omega)
  rw[w5 s.zq97_h0_8];unfold y.zq97_h0_8
  simp only[yy,if_pos (show(i:Int)<(l.length:Int)by omega),Zaz hlt,Zvb hlt,cv,hp,Zai hlt (by omega)]
  by_cases h:l[i]=[]
  ·left
   refine⟨i,hlt,Xae _,h,by simp, ?_⟩
   rw[if_pos h]
  ·rw[if_neg h]
   have ht:l.take (i+1)=l.take i++ [l[i]]:=Xbi hlt
   rcases ih with⟨j,h2,h1,h0,h3,h4⟩|⟨h1,h2⟩
   ·left
    refine⟨j,h2,by omega,h0, ?_,h4⟩
    have e1:(l.take j).drop i=l[i]::(l.take j).drop (i+1):=by
     rw[Xah (by simp;omega)];simp
    rw[h3,ht,e1,Zzz,Zpr h,Xar];rfl
   ·right
    refine⟨?_,h2⟩
    rw[hd,Zpr h,h1]
theorem v.delE (n:Nat)(hn:n<=1000000):∀(k m i:Nat) (a:List Bytes),a.length=n->i+k=n->m<i->
  ∃b:List Bytes,b.length=n/\b.take (m+(nzL (a.drop i)).length)=a.take m++nzL (a.drop i)/\
   vl e 11600 18 [I n, .fn 102 [],I m,I i,aggS a]=some (.tup [I (m+(nzL (a.drop i)).length:Nat),aggS b])
 |0,m,i,a,ha,hi,hw=>by
  subst ha
  have hcx:=Z1z (l:=a) (i:=m) (by omega)
  have hd:a.drop i=[]:=Xda (by omega)
  refine⟨a.take m++List.replicate (a.length-m) [],by simp;omega, ?_, ?_⟩
  ·rw[hd,show nzL []=[]from rfl,Xa2,Xea,Xax,Xc8 (by simp;omega),List.take_take,Nat.min_self]
  ·rw[w5 s.zq95_h0_18];unfold y.zq95_h0_18
   simp only[yy,if_neg (show ¬(i:Int)<(a.length:Int)by omega),Zaz (show m<a.length by omega),hcx,Z3j (show m<=a.length by omega),hd]
   rfl
 |k+1,m,i,a,ha,hi,hw=>by
  subst ha
  have hlt:i<a.length:=by omega
  have hp:=v.isE (e:=e) a[i]
  have hd:=Xah hlt
  by_cases h:a[i]=[]
  ·obtain⟨b,b1,b2,b3⟩:=v.delE a.length hn k m (i+1) a rfl (by omega) (by omega)
   have e1:nzL (a.drop i)=nzL (a.drop (i+1)):=by rw[hd,h,Zz1]
   rw[e1]
   refine⟨b,b1,b2, ?_⟩
   rw[w5 s.zq95_h0_18];unfold y.zq95_h0_18
   simp only[yy,if_pos (show(i:Int)<(a.length:Int)by omega),Zaz hlt,Zvb hlt,cv,hp,Zai hlt (by omega)]
   rw[if_pos h]
   exact b3
  ·obtain⟨b,b1,b2,b3⟩:=v.delE a.length hn k (m+1) (i+1) (a.set m a[i]) (by simp) (by omega) (by omega)
   have e0:(a.set m a[i]).drop (i+1)=a.drop (i+1):=by rw[List.drop_set_of_lt (by omega)]
   have e1:nzL (a.drop i)=a[i]::nzL (a.drop (i+1)):=by rw[hd,Zpr h]
   have e2:(a.set m a[i]).take (m+1)=a.take m++ [a[i]]:=by
    rw[Xbi (by simp;omega),List.take_set_of_le (Xae _)];simp
   rw[e0]at b2 b3
   rw[e2]at b2
   have e3:m+(nzL (a.drop i)).length=m+1+(nzL (a.drop (i+1))).length:=by rw[e1];simp;omega
   rw[e3]
   refine⟨b,b1,by rw[b2,e1];simp, ?_⟩
   rw[w5 s.zq95_h0_18];unfold y.zq95_h0_18
   simp only[yy,if_pos (show(i:Int)<(a.length:Int)by omega),Zaz hlt,Zvb hlt,cv,hp,Zaz (show m<a.length by omega),Z40 (x:=a[i]) (show m<a.length by omega),Zai hlt (by omega),Zai (show m<a.length by omega) (by omega)]
   rw[if_neg h]
   exact b3
theorem v.JoinL (he:EnvT e)(l:List Bytes)(hl:l.length<=1000000)(hs:tot 1 (nzL l)<=1000000000):vl e 48 0 [strs l]=some (.str (Zew [47] (nzL l))):=by
 have hcl:=v.CloneS (e:=e) l hl
 have nl:(nzL l).length<=l.length:=List.length_filter_le _ _
 have nj:(Zew [47] (nzL l)).length<=tot 1 (nzL l):=Zh8 [47] _
 have hj:=v.join he (nzL l) [47] (by omega) (by omega)
 have hfl:∀x:Bytes,evp .flr [.str x]=some (.str x):=fun _=>rfl
 have fin:∀b:List Bytes,(nzL l).length<=b.length->b.take (nzL l).length=nzL l->vl e 11600 1 [I l.length, .fn 102 [],aggS l]=some (.tup [I (nzL l).length,aggS b])->vl e 48 0 [strs l]=some (.str (Zew [47] (nzL l))):=fun b hb ht hdel=>by
  have hsn:=Zyz hb
  rw[ht]at hsn
  rw[w1 s.zq28];unfold y.zq28
  simp only[yy,hcl,hdel,hsn,hj,hfl]
 have hi:=v.idxE (e:=e) l hl l.length 0 (Xao _)
 rcases hi with⟨j,h2,_,hx,h3,h4⟩|⟨h1,h2⟩
 ·obtain⟨b,b1,b2,b3⟩:=v.delE (e:=e) l.length hl (l.length-(j+1)) j (j+1) l rfl (by omega) (by omega)
  have h5:nzL (l.take j)=l.take j:=by rw[h3];rfl
  have h6:nzL l=l.take j++nzL (l.drop (j+1)):=by
   conv=>lhs;rw[<-Xa8 j l,Xah h2,hx]
   rw[Zzz,Zz1,h5]
  have h7:(nzL l).length=j+(nzL (l.drop (j+1))).length:=by rw[h6];simp;omega
  rw[<-h7, <-h6]at b2
  rw[<-h7]at b3
  refine fin b (by rw[b1];exact List.length_filter_le _ _) b2 ?_
  have h8:vl e 12320 1 [I l.length, .fn 102 [],aggS l]=some (.tup [I j,aggS l]):=by
   rw[w3 s.zq97_h0];exact h4
  rw[w3 s.zq95_h0];unfold y.zq95_h0
  simp only[yy,h8,if_neg (show ¬(j:Int)= -1 by omega),Zai h2 (by omega)]
  exact b3
 ·refine fin l (by rw[Xbq]at h1;rw[h1];exact Xae _) (by rw[Xbq]at h1;rw[h1];simp) ?_
  rw[Xbq]at h1
  rw[w3 s.zq95_h0];unfold y.zq95_h0
  have h3:vl e 12320 1 [I l.length, .fn 102 [],aggS l]=some (.tup [I (-1),aggS l]):=by
   rw[w3 s.zq97_h0];exact h2
  simp only[yy,h3,h1]
  simp
theorem v.Join2 (he:EnvT e)(d n:Bytes)(hn:n≠ [])(hd:d.length<=1000000)(hn2:n.length<=1000000):vl e 48 0 [strs [d,n]]=some (.str (if d=[]then n else d++47::n)):=by
 have h1:nzL [d,n]=if d=[]then [n]else [d,n]:=by by_cases h:d=[]<;>simp[nzL,h,hn]
 rw[v.JoinL he [d,n] (by simp) (by rw[h1];split<;>simp[tot]<;>omega),h1]
 split<;>simp[Zew]
end Go.Proofs.YtegmegbanfkomaaGreatDoor
namespace Go.Proofs.YtegmegbanfkomaaGreatDoor
open Go.Abs
set_option maxRecDepth 10000
variable {e:Ev}
def pS (S:List Fi)(i:Nat):List Bytes:=Zad 47 (S.getD i ([],[])).1
structure SoOK (S:List Fi):Prop where
 good:∀f∈S,Zco f.1=true
 data:∀f∈S,f.2.length<=32768
 len:S.length<=512
 up:∀i j,i<j->j<S.length->cmpL (pS S i) (pS S j)<0
 free:∀i j,i<S.length->j<S.length->i≠j-> ∀R,pS S i≠pS S j++R
theorem Zfv (A B:List Bytes):∀D:List Bytes,cmpL (D++A) (D++B)=cmpL A B
 | []=>rfl
 |x::D=>by rw[Xb4,Xb4,cmpL,if_pos (Zdu.2 rfl),Zfv A B D]
theorem Ze8 {x z:Bytes}{A B:List Bytes}(h:cmpL (x::A) (z::B)<0):x=z \/Op.bytesLess x z=true:=by
 grind[Zdu,cmpL,cmpB]
theorem Z0d (p:Nat->Prop):∀n:Nat, ∃k,k<=n/\(∀i,i<k->p i)/\(k<n-> ¬p k)
 |0=>⟨0,Xae _,fun i h=>by omega,fun h=>by omega⟩
 |n+1=>by
  obtain⟨k,h1,h2,h3⟩:=Z0d p n
  by_cases hk:k<n
  ·exact⟨k,by omega,h2,fun _=>h3 hk⟩
  ·by_cases hp:p k
   ·refine⟨k+1,by omega,fun i hi=> ?_,fun h=>by omega⟩
    rcases Xbf (Xee hi)with h|rfl
    ·exact h2 i h
    ·exact hp
   ·exact⟨k,by omega,h2,fun _=>hp⟩
inductive Tr (S:List Fi):List Bytes->Nat->Nat->List En->Bytes->MB->MB->Prop
 |done {D:List Bytes} {a:Nat} {ls:List En} (hok:EnOK ls):Tr S D a a ls (Zar Zbl (Za8 ls)) [] [(Zar Zbl (Za8 ls),Za8 ls)]
 |blob {D:List Bytes} {a b:Nat} {ls:List En} {x id:Bytes} {p1 p2:MB} (hab:a<b) (hx:pS S a=D++ [x]) (h:Tr S D (a+1) b (ls++ [⟨x,false,Zar Za2 (S.getD a ([],[])).2⟩]) id p1 p2):
   Tr S D a b ls id ((Zar Za2 (S.getD a ([],[])).2,(S.getD a ([],[])).2)::p1) p2
 |dir {D:List Bytes} {a b k:Nat} {ls:List En} {x id id1:Bytes} {p1 p2 q1 q2:MB} (hk:0<k) (hkb:a+k<=b) (hrun:∀i,a<=i->i<a+k-> ∃R,R≠ []/\pS S i=D++x::R) (hstop:a+k<b-> ¬ ∃R,R≠ []/\pS S (a+k)=D++x::R)
   (h1:Tr S (D++ [x]) a (a+k) [] id1 p1 p2) (h2:Tr S D (a+k) b (ls++ [⟨x,true,id1⟩]) id q1 q2):Tr S D a b ls id (p1++q1) (p2++q2)
theorem Zgf {a b:Nat}(h:a<=b):evp .vlen [I a,I b]=some (I (b-a:Nat)):=by
 show(if 0<=(a:Int)/\(a:Int)<=(b:Int)then some (V.int .i64 ((b:Int)-(a:Int)))else none)=_
 grind
theorem Zpp {a b l:Nat}(h:a+l<=b):evp .vadd [I a,I b,I l]=some (I (a+l:Nat)):=by
 show(if 0<=(a:Int)/\0<=(l:Int)/\(a:Int)+(l:Int)<=(b:Int)then some (V.int .i64 ((a:Int)+(l:Int)))else none)=_
 grind
theorem Zl7 {a b l:Nat}(h:a+l<b):evp .vidx [I a,I b,I l]=some (I (a+l:Nat)):=by
 show(if 0<=(a:Int)/\0<=(l:Int)/\(a:Int)+(l:Int)<(b:Int)then some (V.int .i64 ((a:Int)+(l:Int)))else none)=_
 grind
theorem Zwn (id:Bytes):(id.map byteV).all V.sc=true:=by
 rw[Xav];intro c hc;obtain⟨b,_,rfl⟩:=Xa7.1 hc;rfl
theorem Z2a {id:Bytes}(h:id.length=32):(bl id).cells.length=32/\(bl id).cells.all V.sc=true:=⟨by simp_all,Zwn id⟩
theorem Zjp {nm id:Bytes}{t:Bool}(h:id.length=32):evp (.cat [none,none,some 32]) [.str nm, .bool t,bl id]=some (ev ⟨nm,t,id⟩):=by
 show(catV [none,none,some 32] [.str nm, .bool t,bl id]).map V.agg=_
 simp only[catV]
 rw[if_pos (show(V.str nm).sc=true from rfl),if_pos (show(V.bool t).sc=true from rfl),if_pos (Z2a h)]
 simp only[Xay,Xax];rfl
theorem Zuf {nm id:Bytes}(h:id.length=32):evp (.cat [none,some 32]) [.str nm,bl id]=some (.agg (.str nm::id.map byteV)):=by
 show(catV [none,some 32] [.str nm,bl id]).map V.agg=_
 simp only[catV]
 rw[if_pos (show(V.str nm).sc=true from rfl),if_pos (Z2a h)]
 simp_all
theorem Zjb {x:En}(h:x.id.length=32):evp (.bsl 34) [ev x]=some (.sl false 34 [ev x]):=by
 have:fits 34 [ev x]=true:=by grind[Znl,Z5i,fits]
 show(if fits 34 [ev x]then some (V.sl false 34 [ev x])else none)=_
 rw[this];rfl
theorem Zkr {l:List En}{x:En}(h:l.length+1<=Lim):evp (.app 34) [entV l, .sl false 34 [ev x]]=some (entV (l++ [x])):=by
 simp_all[Zl1]
theorem Zg6 {D:List Bytes}{x:Bytes}(hD:∀u∈D,Zbe u=true):(if Zag 47 D=[]then x else Zag 47 D++47::x)=Zag 47 (D++ [x]):=by
 by_cases h:D=[]
 ·subst h;rfl
 ·rw[if_neg (Ze6 h hD),Zdi 47 D [x] h (by simp)];rfl
section
variable (he:EnvT e)(S:List Fi)(hS:SoOK S)
include he hS
omit he in
theorem Zg3 {i:Nat}(h:i<S.length):∀x∈pS S i,Zbe x=true:=by
 unfold pS;rw[Zbg h];exact Zf0 (hS.good _ (Xam h))
omit he hS in
theorem Zlj {i:Nat}(h:i<S.length):evp (.ldd none 0 2) [aggF S,I i]=some (.str (S.getD i ([],[])).1):=by rw[Z0n h,Zbg h]
omit he in
theorem Zej {i:Nat}(h:i<S.length):(S.getD i ([],[])).1.length<=128:=by rw[Zbg h];exact Zig (hS.good _ (Xam h))
omit he in
theorem v.below44 (D:List Bytes)(hD:∀u∈D,Zbe u=true)(x:Bytes)(hx:Zbe x=true)(hxl:x.length<=128)(hjl:(Zag 47 (D++ [x])).length<=1000)(a b k:Nat)(hab:a+k<=b)(hb:b<=S.length)(hrun:∀i,a<=i->i<a+k-> ∃R,R≠ []/\pS S i=D++x::R)(hstop:a+k<b-> ¬ ∃R,R≠ []/\pS S (a+k)=D++x::R)
  (ls:List En) (hls:ls.length<=512) (id1:Bytes) (hid:id1.length=32) (m1 m2 m3 n1 n2 n3 z:V)
  (hrec:vl e 11520 1 [.str (Zag 47 (D++ [x])),I a,I (a+k:Nat),aggF S,m1,m2,m3]=some (.tup [bl id1,I 0,aggF S,n1,n2,n3])):∀(n j:Nat),j+n=k->
  vl e 11520 44 [.str (Zag 47 D),I a,I b,entV ls, .str x, .str (Zag 47 (D++ [x])),I j,aggF S,m1,m2,m3,z]=vl e 11520 8 [.str (Zag 47 D),I (a+k:Nat),I b,entV (ls++ [⟨x,true,id1⟩]),aggF S,n1,n2,n3,z]:=by
 have hlen:=hS.len
 have hD':∀u∈D++ [x],Zbe u=true:=fun u hu=>(Xaz.1 hu).elim (hD u) (fun h=>by rw[Xbp.1 h];exact hx)
 have hLim:ls.length+1<=Lim:=by unfold Lim;omega
 intro n
 induction n with
 |zero=>
  intro j hj
  have hjk:j=k:=by omega
  subst hjk
  rw[w12 s.zq57_h0_44];unfold y.zq57_h0_44
  by_cases hc:a+j<b
  ·have hi:a+j<S.length:=by omega
   obtain⟨u,hu,_⟩:=v.Under (e:=e) (Zag 47 (D++ [x])) (S.getD (a+j) ([],[])).1 (by omega) (by have:=Zej S hS hi;omega)
   have hno:(Zb9 (Zag 47 (D++ [x])) (S.getD (a+j) ([],[])).1).isSome=false:=by
    cases h:Zb9 (Zag 47 (D++ [x])) (S.getD (a+j) ([],[])).1 with
    |none=>rfl
    |some r=>
     obtain⟨R,hR,hs⟩:=Zhq hD' h
     exact absurd ⟨R,hR,by rw[pS,hs];simp⟩ (hstop hc)
   rw[hno]at hu
   simp only[yy,Zgf (show a<=b by omega),if_pos (show(j:Int)<((b-a:Nat):Int)by omega),Zl7 hc,Zlj S hi,hu,Zpp (show a+j<=b by omega),hrec,Zbc hid,Zjp hid,Zjb (x:=⟨x,true,id1⟩) hid,Zkr hLim]
   simp
  ·simp only[yy,Zgf (show a<=b by omega),if_neg (show ¬(j:Int)<((b-a:Nat):Int)by omega),Zpp (show a+j<=b by omega),hrec,Zbc hid,Zjp hid,Zjb (x:=⟨x,true,id1⟩) hid,Zkr hLim]
   simp
 |succ n ih=>
  intro j hj
  have hi:a+j<S.length:=by omega
  obtain⟨R,hR,hs⟩:=hrun (a+j) (by omega) (by omega)
  obtain⟨u,hu,_⟩:=v.Under (e:=e) (Zag 47 (D++ [x])) (S.getD (a+j) ([],[])).1 (by omega) (by have:=Zej S hS hi;omega)
  have hpp:=Zg3 S hS hi
  rw[hs]at hpp
  have hyes:=Zlm (p:=(S.getD (a+j) ([],[])).1) hD' (R:=R) (fun c hc=>hpp c (by simp[hc])) hR (by rw[<-pS,hs];simp)
  rw[hyes]at hu
  have:=ih (j+1) (by omega)
  rw[w12 s.zq57_h0_44];unfold y.zq57_h0_44
  simp only[yy,Zgf (show a<=b by omega),if_pos (show(j:Int)<((b-a:Nat):Int)by omega),Zl7 (show a+j<b by omega),Zlj S hi,hu,Xdb,Zai (show j<j+1 by omega) (by omega)]
  exact this
theorem v.below8 :∀(q:Nat) (D:List Bytes) (a b:Nat) (ls:List En),(16-D.length)*513+(b-a)<=q->a<=b->b<=S.length->(∀u∈D,Zbe u=true)->(Zag 47 D).length<=128->(∀i,a<=i->i<b-> ∃R,R≠ []/\pS S i=D++R)->EnOK ls->ls.length+(b-a)<=512->(∀en∈ls, ∀i,a<=i->i<b-> ∀x R,pS S i=D++x::R->Op.bytesLess en.nm x=true)->
  ∃(id:Bytes) (p1 p2:MB),Tr S D a b ls id p1 p2/\id.length=32/\keyL p1/\keyL p2/\ ∀(M1 M2:MB) (m3 z:V),keyL M1->keyL M2->
   vl e 11520 8 [.str (Zag 47 D),I a,I b,entV ls,aggF S,mv M1,mv M2,m3,z]=some (.tup [bl id,I 0,aggF S,mv (Zd3 p1 M1),mv (Zd3 p2 M2),m3]):=by
 have hlen:=hS.len
 intro q
 induction q with
 |zero=>
  intro D a b ls hq hab hb hD hjl hin hls hll hlt
  have hab':a=b:=by omega
  subst hab'
  refine⟨_,_,_, .done hls,Zah _ _,(fun p hp=>by cases hp),(fun p hp=>by grind[Zah]),fun M1 M2 m3 z h1 h2=> ?_⟩
  rw[w9 s.zq57_h0_8];unfold y.zq57_h0_8
  simp only[yy,Zgf (Xae a),if_neg (show ¬(0:Int)<((a-a:Nat):Int)by omega),v.PutTree he ls hls (mv M1) m3 M2 h2,Zbc (Zah _ _)]
  rfl
 |succ q ih=>
  intro D a b ls hq hab hb hD hjl hin hls hll hlt
  rcases Xbf hab with hlt'|rfl
  rotate_left
  ·refine⟨_,_,_, .done hls,Zah _ _,(fun p hp=>by cases hp),(fun p hp=>by grind[Zah]),fun M1 M2 m3 z h1 h2=> ?_⟩
   rw[w9 s.zq57_h0_8];unfold y.zq57_h0_8
   simp only[yy,Zgf (Xae a),if_neg (show ¬(0:Int)<((a-a:Nat):Int)by omega),v.PutTree he ls hls (mv M1) m3 M2 h2,Zbc (Zah _ _)]
   rfl
  have ha:a<S.length:=by omega
  obtain⟨R0,hR0,hs0⟩:=hin a (Xae _) hlt'
  obtain⟨x,R,rfl⟩:∃x R,R0=x::R:=by cases R0<;>grind
  have hpa:=Zg3 S hS ha
  rw[hs0]at hpa
  have hx:Zbe x=true:=hpa x (by simp)
  have hR:∀u∈R,Zbe u=true:=fun u hu=>hpa u (by simp[hu])
  have hxR:∀u∈x::R,Zbe u=true:=fun u hu=>hpa u (by grind)
  have hpl:=Zej S hS ha
  have hgood:Zco (S.getD a ([],[])).1=true:=by rw[Zbg ha];exact hS.good _ (Xam ha)
  have h16:(pS S a).length<=16:=by
   have:=hgood
   simp only[Zco,Xai,decide_eq_true_eq]at this
   exact this.1.2
  have hD16:D.length<16:=by grind
  have hxl:x.length<=128:=by
   have:=Zay 47 (show x∈Zad 47 (S.getD a ([],[])).1 by grind[pS])
   omega
  --what stands behind the directory
  have hund:=Zlm (p:=(S.getD a ([],[])).1) hD hxR (by simp) (by grind[pS])
  obtain⟨r,hr,hr2⟩:=v.Under (e:=e) (Zag 47 D) (S.getD a ([],[])).1 (by omega) (by omega)
  have hr3:=hr2 _ hund
  subst hr3
  rw[hund,Xdb]at hr
  have hrl:=Zod hund
  have hsp:=v.pSplit he (Zag 47 (x::R)) (by omega)
  have hps:Zb8 (Zag 47 (x::R))=x::R:=by
   grind[Ze6,Zhp,Zb8]
  rw[hps]at hsp
  have hnew:∀(t:Bool) (id:Bytes),id.length=32->EnOK (ls++ [⟨x,t,id⟩]):=fun t id hid=> {
   nm:=fun en hen=>(Xaz.1 hen).elim (hls.nm en) (fun h=>by grind)
   id:=fun en hen=>(Xaz.1 hen).elim (hls.id en) (fun h=>by grind)
   up:=Xbs.2 ⟨hls.up,List.pairwise_singleton _ _,fun u hu t ht=>by grind⟩
   len:=by simp;omega}
  by_cases hRn:R=[]
  ·--a file
   subst hRn
   have hd:(S.getD a ([],[])).2.length<=32768:=by rw[Zbg ha];exact hS.data _ (Xam ha)
   obtain⟨id,p1,p2,t1,t2,t3,t4,t5⟩:=ih D (a+1) b (ls++ [⟨x,false,Zar Za2 (S.getD a ([],[])).2⟩]) (by omega) (by omega) hb hD hjl (fun i h1 h2=>hin i (by omega) h2) (hnew _ _ (Zah _ _)) (by simp;omega) (fun en hen i h1 h2 x' R' hs'=>by
    have hup:=hS.up a i (by omega) (by omega)
    rw[hs0,hs',Zfv]at hup
    have hxx:Op.bytesLess x x'=true:=by
     rcases Ze8 hup with rfl|h
     ·exact absurd (by grind) (hS.free i a (by omega) ha (by omega) R')
     ·exact h
    grind)
   refine⟨id,_,_, .blob hlt' hs0 t1,t2,fun p hp=>(Xap.1 hp).elim (fun h=>by grind[Zah]) (t3 p),t4,fun M1 M2 m3 z h1 h2=> ?_⟩
   have hpb:=v.PutBlob (e:=e) (S.getD a ([],[])).2 hd M1 h1 (mv M2) m3
   have hdd:evp (.ldd none 1 2) [aggF S,I a]=some (.str (S.getD a ([],[])).2):=by grind[Z49,Zbg]
   have hi0:evp .vidx [I a,I b, .int .i64 0]=some (I a):=Zl7 (l:=0) (by omega)
   have ha1:evp .vadd [I a,I b, .int .i64 1]=some (I (a+1:Nat)):=Zpp (l:=1) (by omega)
   rw[w9 s.zq57_h0_8];unfold y.zq57_h0_8
   have hjx:Zag 47 [x]=x:=rfl
   rw[hjx]at hr hsp
   simp only[yy,Zgf hab,if_pos (show(0:Int)<((b-a:Nat):Int)by omega),hi0,Zlj S ha,hr,hsp,Zmt,Zch,hdd,hpb,Zbc (Zah _ _),Zuf (Zah _ _),Zjp (Zah _ _),Zjb (x:=⟨x,false,Zar Za2 (S.getD a ([],[])).2⟩) (Zah _ _),Zkr (show ls.length+1<=Lim by grind[Lim]),ha1]
   simp only[if_true]
   exact t5 (putM M1 _ _) M2 m3 z (Znr h1 (Zah _ _)) h2
  ·--a directory
   obtain⟨k,hk1,hk2,hk3⟩:=Z0d (fun t=> ∃R,R≠ []/\pS S (a+t)=D++x::R) (b-a)
   have hk0:0<k:=by
    refine Nat.pos_of_ne_zero fun h=> ?_
    subst h
    grind
   have hrun:∀i,a<=i->i<a+k-> ∃R,R≠ []/\pS S i=D++x::R:=fun i h1 h2=>by
    have:=hk2 (i-a) (by omega)
    rwa[show a+(i-a)=i by omega]at this
   have hstop:a+k<b-> ¬ ∃R,R≠ []/\pS S (a+k)=D++x::R:=fun h=>hk3 (by omega)
   have hD':∀u∈D++ [x],Zbe u=true:=fun u hu=>(Xaz.1 hu).elim (hD u) (fun h=>by grind)
   have hjl':(Zag 47 (D++ [x])).length<=128:=by
    have hj:=Zbb 47 (S.getD a ([],[])).1
    rw[<-pS,hs0,show D++x::R=(D++ [x])++R by simp,Zdi 47 (D++ [x]) R (by simp) hRn]at hj
    grind
   obtain⟨id1,p1,p2,s1,s2,s3,s4,s5⟩:=ih (D++ [x]) a (a+k) [] (by grind) (by omega) (by omega) hD' hjl' (fun i h1 h2=>by
    obtain⟨R',hR',hs'⟩:=hrun i h1 h2
    exact⟨R',hR',by rw[hs'];simp⟩) {nm:=(fun _ h=>by cases h),id:=(fun _ h=>by cases h),up:= .nil,len:=by simp} (by simp;omega) (fun en hen=>by cases hen)
   obtain⟨id,q1,q2,t1,t2,t3,t4,t5⟩:=ih D (a+k) b (ls++ [⟨x,true,id1⟩]) (by omega) (by omega) hb hD hjl (fun i h1 h2=>hin i (by omega) h2) (hnew _ _ s2) (by simp;omega) (fun en hen i h1 h2 x' R' hs'=>by
    --the first behind the directory
    obtain⟨R2,hR2,hs2⟩:=hin (a+k) (by omega) (by omega)
    obtain⟨x2,R3,rfl⟩:∃x2 R3,R2=x2::R3:=by cases R2<;>grind
    have hup:=hS.up a (a+k) (by omega) (by omega)
    rw[hs0,hs2,Zfv]at hup
    have hxx2:Op.bytesLess x x2=true:=by
     rcases Ze8 hup with rfl|h
     ·by_cases hR3:R3=[]
      ·subst hR3
       exact absurd (show pS S a=pS S (a+k)++R by grind) (hS.free a (a+k) ha (by omega) (by omega) R)
      grind
     ·exact h
    have hxx:Op.bytesLess x x'=true:=by
     rcases Xbf h1 with h|rfl
     ·have hup2:=hS.up (a+k) i h (by omega)
      rw[hs2,hs',Zfv]at hup2
      grind[Ze8,Zen]
     grind[List.append_cancel_left]
    rcases Xaz.1 hen with h|h<;>grind)
   refine⟨id,_,_, .dir hk0 (by omega) hrun hstop s1 t1,t2,fun p hp=>(Xaz.1 hp).elim (s3 p) (t3 p),fun p hp=>(Xaz.1 hp).elim (s4 p) (t4 p),fun M1 M2 m3 z h1 h2=> ?_⟩
   have hr8:=s5 M1 M2 m3 z32 h1 h2
   have hrec:vl e 11520 1 [.str (Zag 47 (D++ [x])),I a,I (a+k:Nat),aggF S,mv M1,mv M2,m3]=some (.tup [bl id1,I 0,aggF S,mv (Zd3 p1 M1),mv (Zd3 p2 M2),m3]):=by
    rw[w7 s.zq57_h0];unfold y.zq57_h0
    exact hr8
   have h44:=v.below44 S hS D hD x hx hxl (by omega) a b k (by omega) hb hrun hstop ls (by omega) id1 s2 (mv M1) (mv M2) m3 (mv (Zd3 p1 M1)) (mv (Zd3 p2 M2)) m3 z hrec k 0 (Xao _)
   have hi0:evp .vidx [I a,I b, .int .i64 0]=some (I a):=Zl7 (l:=0) (by omega)
   have hne: ¬x=Zag 47 (x::R):=fun h=>by
    have:=Zhj hx
    rw[h,Zct _ _ _ hRn]at this
    exact this (by simp)
   have hjn:=v.Join2 he (Zag 47 D) x (Zhn hx) (by omega) (by omega)
   rw[Zg6 hD]at hjn
   rw[w9 s.zq57_h0_8];unfold y.zq57_h0_8
   simp only[yy,Zgf hab,if_pos (show(0:Int)<((b-a:Nat):Int)by omega),hi0,Zlj S ha,hr,hsp,Zmt,Zch,if_neg hne,Zj0,hjn]
   refine h44.trans ?_
   rw[t5 _ _ m3 z (Zed s3 h1) (Zed s4 h2),Znb,Znb]
end
end Go.Proofs.YtegmegbanfkomaaGreatDoor
namespace Go.Proofs.YtegmegbanfkomaaGreatDoor
open Go.Abs
set_option maxRecDepth 10000
variable {e:Ev}
theorem Zgt {p:Bytes}(h:Zco p=true):Zb8 p=Zad 47 p:=if_neg (Z2r h)
theorem Zfn {a b:Bytes}(ha:Zco a=true)(hb:Zco b=true):Zcr a b=true<-> ∃R,Zad 47 b=Zad 47 a++R:=by
 have ja:=Zbb 47 a
 constructor
 ·intro h
  unfold Zcr at h
  simp only[Xa4,decide_eq_true_eq]at h
  rcases h with h|h
  ·grind[Option.isSome_iff_exists,Zhq,Zf0]
  simp_all
 ·rintro⟨R,hR⟩
  unfold Zcr
  simp only[Xa4,decide_eq_true_eq]
  by_cases h0:R=[]
  ·grind[Zbb]
  ·left
   have hp:=Zf0 hb
   rw[hR]at hp
   have:=Zlm (Zf0 ha) (fun x hx=>hp x (by simp[hx])) h0 hR
   grind
theorem Zvc :∀{A B R:List Bytes},¬cmpL B A<0-> ¬cmpL (A++R) B<0-> ∃R',B=A++R'
 | [],B,_,_,_=>⟨B,rfl⟩
 |x::A,[],_,h,_=>absurd (show cmpL [] (x::A)<0 by simp[cmpL]) h
 |x::A,z::B,R,h1,h2=>by
  rw[cmpL]at h1
  rw[Xb4,cmpL]at h2
  have hs:=Znp x z
  by_cases h0:cmpB x z=0
  ·have hz:cmpB z x=0:=by omega
   rw[if_pos hz]at h1
   rw[if_pos h0]at h2
   obtain⟨R',hR'⟩:=Zvc h1 h2
   exact⟨R',by rw[hR',Zdu.1 h0];rfl⟩
  ·rw[if_neg (by omega)]at h1
   rw[if_neg h0]at h2
   omega
theorem Zrm :∀(A R:List Bytes),R≠ []->cmpL A (A++R)<0
 | [],R,h=>by cases R<;>grind[cmpL]
 |x::A,R,h=>by simp_all[Zdu,Zrm,cmpL]
def Zox (l:List Fi):Prop:=(∀f∈l,Zco f.1=true)/\l.Pairwise fun a b=>Zcr a.1 b.1=false/\Zcr b.1 a.1=false
theorem Z0m (l:List Fi):(∀i,i<l.length->okI l i)<->Zox l:=by
 constructor
 ·intro h
  refine⟨fun f hf=> ?_,Xa3.2 fun i j hi hj hij=> ?_⟩
  ·obtain⟨i,hi,rfl⟩:=Xbt.1 hf
   have:=(h i hi).1
   grind
  ·have h1:=(h j hj).2 i hi (by omega)
   have h2:=(h i hi).2 j hj (by omega)
   grind
 ·rintro⟨h1,h2⟩ i hi
  have h2:=Xa3.1 h2
  refine⟨by rw[Zbg hi];exact h1 _ (Xam hi),fun k hk hki=> ?_⟩<;>grind
theorem Zrb {l m:List Fi}(h:l.Perm m):Zox l<->Zox m:=by
 have hp:∀{l m:List Fi},l.Perm m->Zox l->Zox m:=fun h hl=>
  ⟨fun f hf=>hl.1 f (h.mem_iff.2 hf),h.pairwise hl.2 (fun hab=>⟨hab.2,hab.1⟩)⟩
 grind
def Zjq (S:List Fi)(j:Nat):Prop:=Zco (S.getD j ([],[])).1=true/\(0<j->Zcr (S.getD (j-1) ([],[])).1 (S.getD j ([],[])).1=false)
abbrev pc (a b:Fi):Int:=pcmp a.1 b.1
theorem Zwy {S:List Fi}(hs:So pc S):(∀j,j<S.length->Zjq S j)<->Zox S:=by
 constructor
 ·intro h
  have hg:∀f∈S,Zco f.1=true:=fun f hf=>by
   obtain⟨i,hi,rfl⟩:=Xbt.1 hf
   have:=(h i hi).1
   grind
  refine⟨hg,Xa3.2 fun i j hi hj hij=> ?_⟩
  have gi:=hg _ (Xam hi)
  have gj:=hg _ (Xam hj)
  have hle: ¬cmpL (Zad 47 S[j].1) (Zad 47 S[i].1)<0:=by
   simp_all[Xa3,Zgt,pcmp]
  have first:Zcr S[i].1 S[j].1=false:=by
   cases hc:Zcr S[i].1 S[j].1 with
   |false=>rfl
   |true=>
    obtain⟨R,hR⟩:=(Zfn gi gj).1 hc
    have hk:i+1<S.length:=by omega
    have gk:=hg _ (Xam hk)
    have h1: ¬cmpL (Zad 47 S[i+1].1) (Zad 47 S[i].1)<0:=by
     simp_all[Xa3,Zgt,pcmp]
    have h2: ¬cmpL (Zad 47 S[i].1++R) (Zad 47 S[i+1].1)<0:=by
     rw[<-hR]
     rcases Xbf (show i+1<=j by omega)with h'|h'
     ·have:=Xa3.1 hs (i+1) j hk hj h'
      simp_all[Zgt,pcmp]
     grind[cmpL_zero]
    obtain⟨R',hR'⟩:=Zvc h1 h2
    have:=(h (i+1) hk).2 (by omega)
    grind[Zfn]
  refine⟨first, ?_⟩
  cases hc:Zcr S[j].1 S[i].1 with
  |false=>rfl
  |true=>
   obtain⟨R,hR⟩:=(Zfn gj gi).1 hc
   by_cases h0:R=[]
   ·grind[Zfn]
   simp_all[Zrm]
 ·rintro⟨h1,h2⟩ j hj
  refine⟨by rw[Zbg hj];exact h1 _ (Xam hj),fun h0=> ?_⟩<;>grind[List.pairwise_iff_getElem]
theorem Z75 {S:List Fi}(hs:So pc S)(ha:Zox S)(hd:∀f∈S,f.2.length<=32768)(hl:S.length<=512):SoOK S:=by
 have free:∀i j,i<S.length->j<S.length->i≠j-> ∀R,pS S i≠pS S j++R:=by
  intro i j hi hj hij R h
  unfold pS at h
  rw[Zbg hi,Zbg hj]at h
  have gi:=ha.1 _ (Xam hi)
  have gj:=ha.1 _ (Xam hj)
  have hc:=(Zfn gj gi).2 ⟨R,h⟩
  rcases Nat.lt_or_gt_of_ne hij with h'|h'
  ·rw[(Xa3.1 ha.2 i j hi hj h').2]at hc;cases hc
  ·rw[(Xa3.1 ha.2 j i hj hi h').1]at hc;cases hc
 refine⟨ha.1,hd,hl,fun i j hij hj=> ?_,free⟩
 have hi:i<S.length:=by omega
 have gi:=ha.1 _ (Xam hi)
 have gj:=ha.1 _ (Xam hj)
 have hle:=Xa3.1 hs i j hi hj hij
 unfold Le pc pcmp at hle
 rw[Zgt gi,Zgt gj]at hle
 have hne:cmpL (pS S i) (pS S j)≠0:=fun h=>free i j hi hj (by omega) [] (by grind[cmpL_zero])
 grind[Zgu,pS]
abbrev zid :Bytes:=List.replicate 32 0
theorem Zov :evp (.cat []) []=some (.agg []):=rfl
theorem Znj :evp (.cat [some 32]) [.agg (repl 32 (.int .u8 0))]=some (bl zid):=by grind[Z5r,Zbc]
section
variable (he:EnvT e)(S:List Fi)(hl:S.length<=1000000)(hb:∀f∈S,f.1.length<=1000000/\f.2.length<=1000000000)(m1 m2 m3 z:V)
include hl
theorem v.build65 :∀(n i:Nat),i+n=S.length->(vl e 10736 65 [I S.length,I S.length,I S.length,I i,m1,m2,m3,z,aggF S]=
  if ∀f∈S.drop i,f.2.length<=32768 then(vl e 10736 65 [I S.length,I S.length,I S.length,I S.length,m1,m2,m3,z,aggF S])else some (.tup [bl zid,I 3,m1,m2,m3])):=by
 intro n
 induction n with
 |zero=>
  grind
 |succ n ih=>
  intro i hi
  have hlt:i<S.length:=by omega
  have hd:=Xah hlt
  rw[w9 s.zq51_h0_65];unfold y.zq51_h0_65
  by_cases hc:32768<S[i].2.length
  ·simp only[yy,if_pos (show(i:Int)<(S.length:Int)by omega),Zaz hlt,Zd1 hlt,Zb1,Zqp,if_pos (show(32768:Int)<(S[i].2.length:Int)by omega),Zov,Znj]
   grind
  ·simp only[yy,if_pos (show(i:Int)<(S.length:Int)by omega),Zaz hlt,Zd1 hlt,Zb1,Zqp,if_neg (show ¬(32768:Int)<(S[i].2.length:Int)by omega),Zai hlt (by omega)]
   rw[ih (i+1) (by omega)]
   have:(∀f∈S.drop (i+1),f.2.length<=32768)<-> ∀f∈S.drop i,f.2.length<=32768:=by
    grind
   grind
include he hb
open Classical in
theorem v.build28 :∀(n i:Nat),i+n=S.length->(vl e 10736 28 [I S.length,I S.length,I S.length,I i,m1,m2,m3,z,aggF S]=
  if ∀j,j<S.length->i<=j->Zjq S j then(vl e 10736 65 [I S.length,I S.length,I S.length,I (0:Nat),m1,m2,m3,z,aggF S])else some (.tup [bl zid,I 1,m1,m2,m3])):=by
 intro n
 induction n with
 |zero=>
  intro i hi
  rw[if_pos (fun j h1 h2=>by omega),w9 s.zq51_h0_28];unfold y.zq51_h0_28
  simp only[yy,if_neg (show ¬(i:Int)<(S.length:Int)by omega)]
  rfl
 |succ n ih=>
  intro i hi
  have hlt:i<S.length:=by omega
  have hg:=v.Good he S[i].1 (hb _ (Xam hlt)).1
  have hih:=ih (i+1) (by omega)
  have cong:Zjq S i->((if ∀j,j<S.length->i+1<=j->Zjq S j then(vl e 10736 65 [I S.length,I S.length,I S.length,I (0:Nat),m1,m2,m3,z,aggF S])else some (.tup [bl zid,I 1,m1,m2,m3]))=
    if ∀j,j<S.length->i<=j->Zjq S j then(vl e 10736 65 [I S.length,I S.length,I S.length,I (0:Nat),m1,m2,m3,z,aggF S])else some (.tup [bl zid,I 1,m1,m2,m3])):=by
   intro h0
   have:(∀j,j<S.length->i+1<=j->Zjq S j)<-> ∀j,j<S.length->i<=j->Zjq S j:=by
    refine⟨fun h j h1 h2=> ?_,fun h j h1 h2=>h j h1 (by omega)⟩
    rcases Xbf h2 with h'|rfl
    ·exact h j h1 h'
    ·exact h0
   by_cases hp:∀j,j<S.length->i+1<=j->Zjq S j
   ·rw[if_pos hp,if_pos (this.1 hp)]
   ·rw[if_neg hp,if_neg (fun h=>hp (this.2 h))]
  have bad: ¬Zjq S i->some (V.tup [bl zid,I 1,m1,m2,m3])=if ∀j,j<S.length->i<=j->Zjq S j then(vl e 10736 65 [I S.length,I S.length,I S.length,I (0:Nat),m1,m2,m3,z,aggF S])else some (.tup [bl zid,I 1,m1,m2,m3]):=by
   intro h0
   rw[if_neg (fun h=>h0 (h i hlt (Xae _)))]
  rw[w9 s.zq51_h0_28];unfold y.zq51_h0_28
  cases hgd:Zco S[i].1 with
  |false=>
   rw[hgd]at hg
   rw[<-bad (fun h=>by have:=h.1;rw[Zbg hlt,hgd]at this;cases this)]
   simp only[yy,if_pos (show(i:Int)<(S.length:Int)by omega),Zaz hlt,Zd1 hlt,Zb1,Zek,hg,Zov,Znj]
  |true=>
   rw[hgd]at hg
   by_cases h0:0<i
   ·have hlt':i-1<S.length:=by omega
    obtain⟨x,hx,_⟩:=v.Under (e:=e) S[i-1].1 S[i].1 (hb _ (Xam hlt')).1 (hb _ (Xam hlt)).1
    have hl1:evp (.ldd none 0 2) [aggF S,I (i-1:Nat)]=some (.str S[i-1].1):=Z0n hlt'
    have p1:=Zi1 (show 1<=i by omega) (show i<=1152921504606846976 by omega)
    cases hu:(Zb9 S[i-1].1 S[i].1).isSome with
    |true=>
     rw[hu]at hx
     rw[<-bad (fun h=>by have:=h.2 h0;rw[Zbg hlt,Zbg hlt',Zcr,hu]at this;cases this)]
     simp only[yy,if_pos (show(i:Int)<(S.length:Int)by omega),Zaz hlt,Zd1 hlt,Zb1,Zek,hg,if_pos (show(0:Int)<(i:Int)by omega),p1,Zaz hlt',hl1,hx,Zov,Znj]
    |false=>
     rw[hu]at hx
     by_cases heq:S[i-1].1=S[i].1
     ·rw[<-bad (fun h=>by have:=h.2 h0;rw[Zbg hlt,Zbg hlt',Zcr,decide_eq_true heq,Bool.or_true]at this;cases this)]
      simp only[yy,if_pos (show(i:Int)<(S.length:Int)by omega),Zaz hlt,Zd1 hlt,Zb1,Zek,hg,if_pos (show(0:Int)<(i:Int)by omega),p1,Zaz hlt',hl1,hx,if_pos heq,Zov,Znj]
     ·rw[<-cong ⟨by rw[Zbg hlt];exact hgd,fun _=>by rw[Zbg hlt,Zbg hlt',Zcr,hu,decide_eq_false heq];rfl⟩, <-hih]
      simp only[yy,if_pos (show(i:Int)<(S.length:Int)by omega),Zaz hlt,Zd1 hlt,Zb1,Zek,hg,if_pos (show(0:Int)<(i:Int)by omega),p1,Zaz hlt',hl1,hx,if_neg heq,Zai hlt (by omega)]
   ·rw[<-cong ⟨by rw[Zbg hlt];exact hgd,fun h=>absurd h h0⟩, <-hih]
    simp only[yy,if_pos (show(i:Int)<(S.length:Int)by omega),Zaz hlt,Zd1 hlt,Zb1,Zek,hg,if_neg (show ¬(0:Int)<(i:Int)by omega),Zai hlt (by omega)]
end
theorem v.Build (he:EnvT e)(l:List Fi)(hl:l.length<=1000000)(hb:∀f∈l,f.1.length<=1000000/\f.2.length<=1000000000):
  ∃(id:Bytes) (p1 p2:MB),id.length=32/\keyL p1/\keyL p2/\(whyB l≠0->p1=[]/\p2=[])/\(whyB l=0-> ∃S,S.Perm l/\SoOK S/\Tr S [] 0 S.length [] id p1 p2)/\
   ∀(M1 M2:MB) (m3:V),keyL M1->keyL M2->vl e 10736 1 [Zac l,mv M1,mv M2,m3]=some (.tup [bl id,I (whyB l),mv (Zd3 p1 M1),mv (Zd3 p2 M2),m3]):=by
 obtain⟨S,hperm,hso,hsort⟩:=v.sort (v.ord he) l (fun f hf=>(hb f hf).1) (by omega)
 have hSl:S.length=l.length:=hperm.length_eq
 have hbS:∀f∈S,f.1.length<=1000000/\f.2.length<=1000000000:=fun f hf=>hb f (hperm.mem_iff.1 hf)
 have start:∀(M1 M2 m3:V),¬512<l.length->vl e 10736 1 [Zac l,M1,M2,m3]=vl e 10736 28 [I S.length,I S.length,I S.length,I (0:Nat),M1,M2,m3,z32,aggF S]:=by
  intro M1 M2 m3 hn
  rw[w4 s.zq51_h0];unfold y.zq51_h0
  simp only[yy,Zf8,if_neg (show ¬(512:Int)<(l.length:Int)by omega),v.CloneF l hl,hsort]
  rw[hSl];rfl
 have hall:=(Zwy hso).trans ((Zrb hperm).trans (Z0m l).symm)
 unfold whyB
 by_cases h512:512<l.length
 ·rw[if_pos h512]
  refine⟨zid,[],[],by simp,(fun _ h=>by cases h),(fun _ h=>by cases h),fun _=>⟨rfl,rfl⟩,fun h=>absurd h (by decide),fun M1 M2 m3 _ _=> ?_⟩
  rw[w4 s.zq51_h0];unfold y.zq51_h0
  simp only[yy,Zf8,if_pos (show(512:Int)<(l.length:Int)by omega),Zov,Znj]
  rfl
 rw[if_neg h512]
 have h28:=fun(m1 m2 m3:V)=>v.build28 he S (by omega) hbS m1 m2 m3 z32 S.length 0 (Xao _)
 by_cases hok:∀i,i<l.length->okI l i
 rotate_left
 ·rw[if_neg hok]
  refine⟨zid,[],[],by simp,(fun _ h=>by cases h),(fun _ h=>by cases h),fun _=>⟨rfl,rfl⟩,fun h=>absurd h (by decide),fun M1 M2 m3 _ _=> ?_⟩
  rw[start _ _ _ h512,h28,if_neg (fun h=>hok (hall.1 fun j hj=>h j hj (Xbz _)))]
  rfl
 rw[if_pos hok]
 have hadj:∀j,j<S.length->0<=j->Zjq S j:=fun j hj _=>hall.2 hok j hj
 have h65:=fun(m1 m2 m3:V)=>v.build65 (e:=e) S (by omega) m1 m2 m3 z32 S.length 0 (Xao _)
 by_cases hd:∀f∈l,f.2.length<=32768
 rotate_left
 ·rw[if_neg hd]
  refine⟨zid,[],[],by simp,(fun _ h=>by cases h),(fun _ h=>by cases h),fun _=>⟨rfl,rfl⟩,fun h=>absurd h (by decide),fun M1 M2 m3 _ _=> ?_⟩
  rw[start _ _ _ h512,h28,if_pos hadj,h65,if_neg (fun h=>hd fun f hf=>h f (by grind))]
  rfl
 rw[if_pos hd]
 have hS:SoOK S:=Z75 hso ((Zwy hso).1 fun j hj=>hadj j hj (Xbz _)) (fun f hf=>hd f (hperm.mem_iff.1 hf)) (by omega)
 obtain⟨id,p1,p2,t1,t2,t3,t4,t5⟩:=v.below8 he S hS _ [] 0 S.length [] (Xae _) (Xbz _) (Xae _) (fun u hu=>by cases hu) (by simp[Zag]) (fun i _ hi=>⟨pS S i,Zaw _ _,rfl⟩) {nm:=(fun _ h=>by cases h),id:=(fun _ h=>by cases h),up:= .nil,len:=by simp} (by simp;omega) (fun en hen=>by cases hen)
 refine⟨id,p1,p2,t2,t3,t4,fun h=>absurd rfl h,fun _=>⟨S,hperm,hS,t1⟩,fun M1 M2 m3 k1 k2=> ?_⟩
 rw[start _ _ _ h512,h28,if_pos hadj,h65,if_pos (fun f hf=>hd f (hperm.mem_iff.1 (by grind)))]
 have hb8:=t5 M1 M2 m3 z32 k1 k2
 have hrec:vl e 11520 1 [.str [],I (0:Nat),I S.length,aggF S,mv M1,mv M2,m3]=some (.tup [bl id,I 0,aggF S,mv (Zd3 p1 M1),mv (Zd3 p2 M2),m3]):=by
  rw[w7 s.zq57_h0];unfold y.zq57_h0
  exact hb8
 rw[w9 s.zq51_h0_65];unfold y.zq51_h0_65
 simp only[yy,if_neg (show ¬(S.length:Int)<(S.length:Int)by omega)]
 simp_all[yy,Zbc]
end Go.Proofs.YtegmegbanfkomaaGreatDoor
namespace Go.Proofs.YtegmegbanfkomaaGreatDoor
open Go.Abs
set_option maxRecDepth 10000
theorem Z5v (n:Nat):(UInt8.ofNat n).toNat=n % 256:=by simp
def valB (b:Bytes):Nat:=b.foldl (fun v c=>v*256+c.toNat) 0
theorem Zzb {n:Nat}(h:n<18446744073709551616):valB (numB n)=n:=by
 have e:numB n=[UInt8.ofNat (n/2^56),UInt8.ofNat (n/2^48),UInt8.ofNat (n/2^40),UInt8.ofNat (n/2^32),UInt8.ofNat (n/2^24),UInt8.ofNat (n/2^16),UInt8.ofNat (n/2^8),UInt8.ofNat (n/2^0)]:=rfl
 rw[e]
 simp only[valB,List.foldl,Z5v,Nat.reducePow]
 omega
theorem Zrt {n m:Nat}(hn:n<18446744073709551616)(hm:m<18446744073709551616)(h:numB n=numB m):n=m:=by
 grind[Zzb]
theorem Zk2 :∀{l m:List Bytes},l.length=m.length->(∀x∈l,x.length<18446744073709551616)->(∀x∈m,x.length<18446744073709551616)->Zbo l=Zbo m->l=m
 | [],[],_,_,_,_=>rfl
 |x::l,z::m,hl,h1,h2,h=>by
  rw[Zcw,Zcw,Xar,Xar]at h
  obtain⟨e1,e2⟩:=Xcj h (by rw[Zb7,Zb7])
  have hx:=Zrt (h1 x (by simp)) (h2 z (by simp)) e1
  obtain⟨e3,e4⟩:=Xcj e2 hx
  rw[e3,Zk2 (by simpa using hl) (fun a ha=>h1 a (by simp[ha])) (fun a ha=>h2 a (by simp[ha])) e4]
theorem Znq {l m:List Bytes}(hl:l.length<18446744073709551616)(hm:m.length<18446744073709551616)(h1:∀x∈l,x.length<18446744073709551616)(h2:∀x∈m,x.length<18446744073709551616)(h:Zck l=Zck m):l=m:=by
 grind[List.append_inj,Zb7,Zk2,Zrt,Zck]
theorem Z3g {x z:En}(h:enP x=enP z):x=z:=by
 obtain⟨a,b,c⟩:=x
 obtain⟨a',b',c'⟩:=z
 grind[enP,Zbl,Za2]
theorem Zjw :∀{l m:List En},Zbi l=Zbi m->l=m
 | [],[],_=>rfl
 | [],x::m,h=>by have:=congrArg List.length h;grind[Zee]
 |x::l,[],h=>by have:=congrArg List.length h;grind[Zee]
 |x::l,z::m,h=>by
  unfold Zbi at h
  rw[Xcc,Xcc]at h
  obtain⟨e1,e2⟩:=Xcj h rfl
  rw[Z3g e1,Zjw (l:=l) (m:=m) e2]
theorem Ztv {l m:List En}(hl:EnOK l)(hm:EnOK m)(h:Za8 l=Za8 m):l=m:=by
 have len:∀{l:List En},EnOK l->(Zbi l).length<18446744073709551616/\ ∀x∈Zbi l,x.length<18446744073709551616:=by
  intro l hl
  have h0:=hl.len
  have hs:=Zdl (fun x hx=>(hl.nm x hx).2) hl.id
  refine⟨by grind[Zee],fun x hx=> ?_⟩
  have:=Zg8 hx
  omega
 exact Zjw (Znq (len hl).1 (len hm).1 (len hl).2 (len hm).2 h)
theorem Zx3 {X es:List En}(h:EnOK es)(he:Za8 X=Za8 es):X=es:=by
 have h0:=h.len
 have hs:=Zdl (fun x hx=>(h.nm x hx).2) h.id
 have l1:sumL (Zbi X)=sumL (Zbi es):=by
  have:=congrArg List.length he
  grind[Zea,Za8]
 have s1:=Zdg (Zbi X)
 have s2:=Zdg (Zbi es)
 exact Zjw (Znq (by omega) (by omega) (fun x hx=>by have:=Zg8 hx;omega) (fun x hx=>by have:=Zg8 hx;omega) he)
def Cons (P:MB):Prop:=∀p∈P, ∀q∈P,p.1=q.1->p.2=q.2
theorem Cons.sub {P Q:MB}(h:Cons P)(hs:∀p∈Q,p∈P):Cons Q:=fun p hp q hq=>h p (hs p hp) q (hs q hq)
theorem Tr.fin {S:List Fi}{D:List Bytes}{a b:Nat}{ls:List En}{id:Bytes}{p1 p2:MB}(h:Tr S D a b ls id p1 p2):∃es,id=Zar Zbl (Za8 (ls++es))/\(Zar Zbl (Za8 (ls++es)),Za8 (ls++es))∈p2:=by
 induction h with
 |done=>exact⟨[],by grind,by grind⟩
 |blob _ _ _ ih=>
  grind
 |dir _ _ _ _ _ _ _ ih=>
  grind
theorem Tr.det {S:List Fi}{D:List Bytes}{a b:Nat}{ls:List En}{id:Bytes}{p1 p2:MB}(h:Tr S D a b ls id p1 p2):∀{id':Bytes} {q1 q2:MB},Tr S D a b ls id' q1 q2->id=id'/\p1=q1/\p2=q2:=by
 induction h with
 |done=>
  intro id' q1 q2 h'
  cases h'<;>grind
 | @blob D a b ls x id p1 p2 hab hx h ih=>
  intro id' q1 q2 h'
  cases h' with
  |done=>omega
  |blob hab' hx' h'=>
   grind[List.append_cancel_left]
  |dir hk hkb hrun hstop h1 h2=>
   obtain⟨R,hR,hs⟩:=hrun a (Xae _) (by omega)
   simp_all
 | @dir D a b k ls x id id1 p1 p2 q1 q2 hk hkb hrun hstop h1 h2 ih1 ih2=>
  intro id' r1 r2 h'
  obtain⟨R,hR,hs⟩:=hrun a (Xae _) (by omega)
  cases h' with
  |done=>omega
  |blob hab' hx' h'=>
   simp_all
  | @dir _ _ _ k' _ x' _ _ _ _ _ _ hk' hkb' hrun' hstop' h1' h2'=>
   obtain⟨R',hR',hs'⟩:=hrun' a (Xae _) (by omega)
   have:=Xcm (hs.symm.trans hs')
   simp only[Xcz]at this
   obtain⟨rfl,_⟩:=this
   have hkk:k=k':=by
    rcases Xbk k k' with h|h|h
    ·exact absurd (hrun' (a+k) (by omega) (by omega)) (hstop (by omega))
    ·exact h
    ·exact absurd (hrun (a+k') (by omega) (by omega)) (hstop' (by omega))
   grind
def relS (S:List Fi)(D:List Bytes)(a b:Nat):List (List Bytes×Bytes):=(List.range' a (b-a)).map fun i=>((pS S i).drop D.length,(S.getD i ([],[])).2)
theorem Zqu (S:List Fi)(D:List Bytes)(a:Nat):relS S D a a=[]:=by simp[relS]
theorem Zrg {S:List Fi}{D:List Bytes}{a b:Nat}(h:a<b):relS S D a b=((pS S a).drop D.length,(S.getD a ([],[])).2)::relS S D (a+1) b:=by
 unfold relS
 rw[show b-a=(b-(a+1))+1 by omega,Xd1];rfl
theorem Zvt {S:List Fi}{D:List Bytes}{a m b:Nat}(h1:a<=m)(h2:m<=b):relS S D a b=relS S D a m++relS S D m b:=by
 unfold relS
 rw[<-Xel]
 have:=List.range'_append_1 (s:=a) (m:=m-a) (n:=b-m)
 grind
theorem Zrx {S:List Fi}{D:List Bytes}{x:Bytes}{a b:Nat}(h:∀i,a<=i->i<b-> ∃R,R≠ []/\pS S i=D++x::R):relS S D a b=(relS S (D++ [x]) a b).map fun p=>(x::p.1,p.2):=by
 unfold relS
 rw[Xcg]
 refine Xc5 fun i hi=> ?_
 rw[List.mem_range'_1]at hi
 obtain⟨R,_,hs⟩:=h i hi.1 (by omega)
 simp_all
theorem Tr.ok {S:List Fi}(hS:SoOK S){D:List Bytes}{a b:Nat}{ls:List En}{id:Bytes}{p1 p2:MB}(h:Tr S D a b ls id p1 p2):id.length=32:=by
 obtain⟨es,h1,_⟩:=h.fin
 grind[Zah]
theorem Tr.inj {S S':List Fi}{P1 P2:MB}(c1:Cons P1)(c2:Cons P2)(okP:∀es,(Zar Zbl (Za8 es),Za8 es)∈P2->EnOK es)
  {D:List Bytes} {a b:Nat} {ls:List En} {id:Bytes} {p1 p2:MB} (h:Tr S D a b ls id p1 p2):(∀p∈p1,p∈P1)->(∀p∈p2,p∈P2)->
  ∀{D':List Bytes} {a' b':Nat} {ls':List En} {q1 q2:MB},Tr S' D' a' b' ls' id q1 q2->(∀p∈q1,p∈P1)->(∀p∈q2,p∈P2)->ls.length=ls'.length->relS S D a b=relS S' D' a' b':=by
 --the whole lists are the same
 have whole:∀{X Y:List En},Zar Zbl (Za8 X)=Zar Zbl (Za8 Y)->(Zar Zbl (Za8 X),Za8 X)∈P2->(Zar Zbl (Za8 Y),Za8 Y)∈P2->X=Y:=by
  intro X Y he h1 h2
  exact Ztv (okP _ h1) (okP _ h2) (c2 _ h1 _ h2 he)
 induction h with
 | @done D a ls hok=>
  intro s1 s2 D' a' b' ls' q1 q2 h' t1 t2 hl
  have hin:(Zar Zbl (Za8 ls),Za8 ls)∈P2:=s2 _ (Xbp.2 rfl)
  have no:∀{e:En} {es:List En},Zar Zbl (Za8 ls)=Zar Zbl (Za8 ((ls'++ [e])++es))->(Zar Zbl (Za8 ((ls'++ [e])++es)),Za8 ((ls'++ [e])++es))∈P2->False:=by
   grind
  rw[Zqu]
  generalize hid:Zar Zbl (Za8 ls)=idd at h'
  cases h' with
  |done=>rw[Zqu]
  |blob hab hx h2=>
   obtain⟨es,e1,e2⟩:=h2.fin
   grind
  |dir hk hkb hrun hstop h1 h2=>
   obtain⟨es,e1,e2⟩:=h2.fin
   grind
 | @blob D a b ls x id p1 p2 hab hx h ih=>
  intro s1 s2 D' a' b' ls' q1 q2 h' t1 t2 hl
  obtain⟨es,e1,e2⟩:=h.fin
  rw[Zrg hab,hx,List.drop_left]
  generalize hid:id=idd at h'
  cases h' with
  |done=>
   grind
  | @blob _ _ _ _ x' _ _ _ hab' hx' h2=>
   subst hid
   obtain⟨es',f1,f2⟩:=h2.fin
   have hw:=whole (e1.symm.trans f1) (s2 _ e2) (t2 _ f2)
   rw[Xar,Xar]at hw
   obtain⟨g1,g2⟩:=Xcj hw hl
   simp only[Xci,Xcz,En.mk.injEq,true_and]at g2
   obtain⟨⟨rfl,hd⟩,_⟩:=g2
   have hdd:=c1 (Zar Za2 (S.getD a ([],[])).2,(S.getD a ([],[])).2) (s1 _ (by simp)) (Zar Za2 (S'.getD a' ([],[])).2,(S'.getD a' ([],[])).2) (t1 _ (by simp)) hd
   simp only at hdd
   rw[Zrg hab',hx',List.drop_left,hdd,ih (fun p hp=>s1 p (by simp[hp])) s2 h2 (fun p hp=>t1 p (by simp[hp])) t2 (by simp[hl])]
  | @dir _ _ _ _ _ x' _ _ _ _ _ _ hk hkb hrun hstop h1 h2=>
   subst hid
   obtain⟨es',f1,f2⟩:=h2.fin
   grind[List.append_inj]
 | @dir D a b k ls x id id1 p1 p2 r1 r2 hk hkb hrun hstop h1 h2 ih1 ih2=>
  intro s1 s2 D' a' b' ls' q1 q2 h' t1 t2 hl
  obtain⟨es,e1,e2⟩:=h2.fin
  have e2':=s2 _ (Xbc _ e2)
  rw[Zvt (show a<=a+k by omega) hkb,Zrx hrun]
  generalize hid:id=idd at h'
  cases h' with
  |done=>
   grind
  | @blob _ _ _ _ x' _ _ _ hab' hx' h2'=>
   subst hid
   obtain⟨es',f1,f2⟩:=h2'.fin
   grind[List.append_inj]
  | @dir _ _ _ k' _ x' _ id1' _ _ _ _ hk' hkb' hrun' hstop' h1' h2'=>
   subst hid
   obtain⟨es',f1,f2⟩:=h2'.fin
   have hw:=whole (e1.symm.trans f1) e2' (t2 _ (Xbc _ f2))
   rw[Xar,Xar]at hw
   obtain⟨g1,g2⟩:=Xcj hw hl
   simp only[Xci,Xcz,En.mk.injEq,true_and]at g2
   obtain⟨⟨rfl,hd⟩,_⟩:=g2
   subst hd
   rw[Zvt (show a'<=a'+k' by omega) hkb',Zrx hrun',
    ih1 (fun p hp=>s1 p (Xbh _ hp)) (fun p hp=>s2 p (Xbh _ hp)) h1' (fun p hp=>t1 p (Xbh _ hp)) (fun p hp=>t2 p (Xbh _ hp)) rfl,
    ih2 (fun p hp=>s1 p (Xbc _ hp)) (fun p hp=>s2 p (Xbc _ hp)) h2' (fun p hp=>t1 p (Xbc _ hp)) (fun p hp=>t2 p (Xbc _ hp)) (by simp[hl])]
theorem Tr.oks {S:List Fi}{D:List Bytes}{a b:Nat}{ls:List En}{id:Bytes}{p1 p2:MB}(h:Tr S D a b ls id p1 p2):∀p∈p2, ∃es,EnOK es/\p=(Zar Zbl (Za8 es),Za8 es):=by
 induction h<;>grind
theorem Tr.finOK {S:List Fi}{D:List Bytes}{a b:Nat}{ls:List En}{id:Bytes}{p1 p2:MB}(h:Tr S D a b ls id p1 p2):∃es,EnOK (ls++es):=by
 induction h with
 |done hok=>exact⟨[],by grind⟩
 |blob _ _ _ ih=>
  grind
 |dir _ _ _ _ _ _ _ ih=>
  grind
theorem Z1p {S S':List Fi}(hS:SoOK S)(hS':SoOK S')(h:relS S [] 0 S.length=relS S' [] 0 S'.length):S=S':=by
 have key:∀S:List Fi,relS S [] 0 S.length=S.map fun f=>(Zad 47 f.1,f.2):=by
  intro S
  unfold relS
  refine Xdk (by simp) fun i h1 h2=> ?_<;>grind[pS]
 rw[key,key]at h
 refine Xdk (by simpa using congrArg List.length h) fun i h1 h2=> ?_
 have:=congrArg (fun l=>l[i]?) h
 grind[Zbb]
theorem Tr.one {S S':List Fi}(hS:SoOK S)(hS':SoOK S'){id id':Bytes}{p1 p2 q1 q2:MB}(h:Tr S [] 0 S.length [] id p1 p2)(h':Tr S' [] 0 S'.length [] id' q1 q2)(c1:Cons (p1++q1))(c2:Cons (p2++q2)):id=id'<->S=S':=by
 constructor
 ·intro he
  subst he
  refine Z1p hS hS' (h.inj c1 c2 (fun es hes=> ?_) (fun p hp=>Xbh _ hp) (fun p hp=>Xbh _ hp) h' (fun p hp=>Xbc _ hp) (fun p hp=>Xbc _ hp) rfl)
  have:∃es',EnOK es'/\(Zar Zbl (Za8 es),Za8 es)=(Zar Zbl (Za8 es'),Za8 es'):=(Xaz.1 hes).elim (h.oks _) (h'.oks _)
  obtain⟨es',o,hq⟩:=this
  rw[Zx3 o (congrArg Prod.snd hq)];exact o
 ·rintro rfl
  exact(h.det h').1
end Go.Proofs.YtegmegbanfkomaaGreatDoor
namespace Go.Proofs.YtegmegbanfkomaaGreatDoor
open Go.Abs
set_option maxRecDepth 10000
variable {e:Ev}
theorem v.rSplit (p:Bytes)(hp:p.length<=1000000):vl e 117 0 [.str p]=some (strs (Zb8 p)):=by
 rw[w1 s.zq77];unfold y.zq77 Zb8
 by_cases h:p=[]
 ·simp_all[yy]
 ·simp only[yy,if_neg h,v.rParts p (by omega)]
theorem Z0l (a b:Bytes):evp (.bin .gtr .no) [.str a, .str b]=some (.bool (Op.bytesLess b a)):=by
 show some (V.bool (!(Op.bytesLess a b||decide (a=b))))=_
 rw[Zlo]
theorem v.rCmp10 (a b:List Bytes)(ha:a.length<=1000000000)(hb:b.length<=1000000000):∀(n i:Nat),i+n=a.length->i<=b.length->vl e 162 10 [strs a,strs b,I i]=some (I (cmpL (a.drop i) (b.drop i))):=by
 intro n
 induction n with
 |zero=>
  intro i hi hib
  rw[w3 s.zq72_10];unfold y.zq72_10
  have e1:a.drop i=[]:=Xas (by omega)
  rw[e1]
  by_cases h:a.length<b.length
  ·simp only[yy,Zef,if_neg (show ¬((i:Int)<(a.length:Int))by omega),if_pos (show(a.length:Int)<(b.length:Int)by omega)]
   rw[Xah (show i<b.length by omega)];rfl
  ·simp only[yy,Zef,if_neg (show ¬((i:Int)<(a.length:Int))by omega),if_neg (show ¬(a.length:Int)<(b.length:Int)by omega),if_neg (show ¬(b.length:Int)<(a.length:Int)by omega)]
   rw[Xas (show b.length<=i by omega)];rfl
 |succ n ih=>
  intro i hi hib
  have ha':i<a.length:=by omega
  rw[w3 s.zq72_10];unfold y.zq72_10
  by_cases hb':i<b.length
  ·have:=ih (i+1) (by omega) (by omega)
   rw[Xah ha',Xah hb',cmpL]
   unfold cmpB
   cases hl:Op.bytesLess a[i] b[i]with
   |true=>
    simp_all[yy,Zdv,Zch]
   |false=>
    cases hg:Op.bytesLess b[i] a[i]with
    |true=>
     simp_all[yy,Zdv,Zch,Z0l]
    |false=>
     simp only[yy,Zef,if_pos (show(i:Int)<(a.length:Int)by omega),if_pos (show(i:Int)<(b.length:Int)by omega),Zdv ha',Zdv hb',Zch,Z0l,hl,hg,Zai ha' (show a.length<=1152921504606846976 by omega)]
     grind
  ·rw[Xah ha',Xas (show b.length<=i by omega)]
   simp only[yy,Zef,if_pos (show(i:Int)<(a.length:Int)by omega),if_neg (show ¬(i:Int)<(b.length:Int)by omega),if_neg (show ¬(a.length:Int)<(b.length:Int)by omega),if_pos (show(b.length:Int)<(a.length:Int)by omega)]
   rfl
theorem v.rCompare (a b:Bytes)(ha:a.length<=1000000)(hb:b.length<=1000000):vl e 162 0 [.str a, .str b]=some (I (pcmp a b)):=by
 have h1:=Zdh a
 have h2:=Zdh b
 rw[w2 s.zq72];unfold y.zq72
 simp only[yy,v.rSplit a ha,v.rSplit b hb]
 exact v.rCmp10 (Zb8 a) (Zb8 b) (by omega) (by omega) (Zb8 a).length 0 (Xao _) (Xbz _)
theorem Z0e {sz:Nat}{l:List V}{i:Nat}(h:i<=l.length):evp (.slc sz false true false) [.sl false sz l, .int .i64 (i:Int)]=some (.sl false sz (l.take i)):=by
 simp_all[evp,Ztf]
theorem Zww {l:List Fi}{i:Nat}(h:i<=l.length):evp (.slc 2 false true false) [Zac l,I i]=some (Zac (l.take i)):=by
 simp_all[Z0e]
theorem Zue {l:List Fi}{i:Nat}(h:i<=l.length):evp (.slc 2 true false false) [Zac l,I i]=some (Zac (l.drop i)):=by
 simp_all[Z09]
theorem Zlc {l m:List Fi}(h:l.length+m.length<=Lim):evp (.app 2) [Zac l,Zac m]=some (Zac (l++m)):=by
 simp_all[Zl1]
theorem Z0p {x:Fi}:evp (.bsl 2) [fv x]=some (Zac [x]):=rfl
theorem Zv1 :evp (.bsl 2) []=some (Zac []):=rfl
theorem v.sorted25 (he:EnvT e)(l:List Fi)(i:Nat)(hi:i<l.length)(hl:l.length<=1000000)(out:List Fi)(ho:out.length<=1000000)(hb:∀f∈out,f.1.length<=1000000)(hf:l[i].1.length<=1000000)(hs:So pc out):
  ∀k,k<=out.length->(∀j (h:j<out.length),k<=j->pc l[i] out[j]<0)->
  ∃R:List Fi,R.Perm (out++ [l[i]])/\So pc R/\vl e 124 25 [Zac out,I k,Zac l,I l.length,I i,fv l[i]]=vl e 124 10 [Zac R,Zac l,I l.length,I (i+1:Nat)]:=by
 have hor:=v.ord (e:=e) he
 intro k
 --the place is found
 have put:∀k,k<=out.length->(∀j (h:j<out.length),k<=j->pc l[i] out[j]<0)->(∀j (h:j<out.length),j<k-> ¬pc l[i] out[j]<0)->(out.take k++l[i]::out.drop k).Perm (out++ [l[i]])/\So pc (out.take k++l[i]::out.drop k):=by
  intro k hk h1 h2
  constructor
  ·grind[List.take_append_drop]
  ·refine Xbs.2 ⟨hs.sublist (Xed _ _),Xby.2 ⟨fun t ht=>hor.asy _ _ (Zfy (P:=fun t=>pc l[i] t<0) h1 t ht),hs.sublist (Xdx _ _)⟩,fun s hs' t ht=> ?_⟩
   have q:=Zjr (P:=fun t=> ¬pc l[i] t<0) h2 s hs'
   rcases Xap.1 ht with rfl|ht
   ·exact q
   ·exact hor.tr _ _ _ q (hor.asy _ _ (Zfy (P:=fun t=>pc l[i] t<0) h1 t ht))
 induction k with
 |zero=>
  intro hk h1
  obtain⟨p1,p2⟩:=put 0 hk h1 (fun j _ h=>by omega)
  refine⟨_,p1,p2, ?_⟩
  have t0:evp (.slc 2 false true false) [Zac out,I (0:Nat)]=some (Zac []):=Zww (l:=out) (i:=0) (Xbz _)
  have d0:evp (.slc 2 true false false) [Zac out,I (0:Nat)]=some (Zac out):=Zue (l:=out) (i:=0) (Xbz _)
  have a0:evp (.app 2) [Zac [],Zac []]=some (Zac []):=Zlc (l:=[]) (m:=[]) (by simp[Lim])
  have a1:evp (.app 2) [Zac [],Zac [l[i]]]=some (Zac [l[i]]):=Zlc (l:=[]) (m:=[l[i]]) (by simp[Lim])
  have a2:evp (.app 2) [Zac [l[i]],Zac out]=some (Zac (l[i]::out)):=Zlc (l:=[l[i]]) (m:=out) (by grind[Lim])
  rw[w6 s.zq83_25];unfold y.zq83_25
  simp only[yy,if_neg (show ¬(0:Int)<((0:Nat):Int)by omega),Zv1,t0,a0,Z0p,a1,d0,a2,Zai hi (show l.length<=1152921504606846976 by omega)]
  rfl
 |succ k ih=>
  intro hk h1
  have hlt:k<out.length:=by omega
  have hc:=v.rCompare (e:=e) out[k].1 l[i].1 (hb _ (Xam hlt)) hf
  have sw:=Zjv out[k].1 l[i].1
  have g1:evp (.elem 2) [Zac out,I k]=some (fv out[k]):=Zc1 hlt
  have p1:IntKind.i64.wrap (((k+1:Nat):Int)-1)=(k:Int):=by rw[Zi1 (by omega) (by omega)];rfl
  by_cases hgt:0<pcmp out[k].1 l[i].1
  ·obtain⟨R,r1,r2,r3⟩:=ih (by omega) (fun j hj hkj=>by
    grind)
   refine⟨R,r1,r2, ?_⟩
   rw[w6 s.zq83_25];simp_all[yy,Zek,y.zq83_25]
  ·have hno:∀j (h:j<out.length),j<k+1-> ¬pc l[i] out[j]<0:=by
    intro j hj hjk
    have q: ¬pc l[i] out[k]<0:=by
     grind
    exact hor.tr _ _ _ (Zfi hor hs (show j<=k by omega) hlt) q
   obtain⟨q1,q2⟩:=put (k+1) hk h1 hno
   refine⟨_,q1,q2, ?_⟩
   have t0:=Zww (l:=out) (i:=k+1) hk
   have d0:=Zue (l:=out) (i:=k+1) hk
   have a0:evp (.app 2) [Zac [],Zac (out.take (k+1))]=some (Zac (out.take (k+1))):=Zlc (l:=[]) (by grind[Lim])
   have a1:evp (.app 2) [Zac (out.take (k+1)),Zac [l[i]]]=some (Zac (out.take (k+1)++ [l[i]])):=Zlc (by grind[Lim])
   have a2:evp (.app 2) [Zac (out.take (k+1)++ [l[i]]),Zac (out.drop (k+1))]=some (Zac ((out.take (k+1)++ [l[i]])++out.drop (k+1))):=Zlc (by grind[Lim])
   rw[w6 s.zq83_25];unfold y.zq83_25
   simp only[yy,if_pos (show(0:Int)<((k+1:Nat):Int)by omega),p1,g1,Zek,hc,if_neg hgt,Zv1,t0,a0,Z0p,a1,d0,a2,Zai hi (show l.length<=1152921504606846976 by omega)]
   grind
theorem v.rSorted (he:EnvT e)(l:List Fi)(hl:l.length<=1000000)(hb:∀f∈l,f.1.length<=1000000):
  ∃R:List Fi,R.Perm l/\So pc R/\vl e 124 0 [Zac l]=some (Zac R):=by
 have key:∀(n i:Nat) (out:List Fi),i+n=l.length->out.Perm (l.take i)->So pc out-> ∃R:List Fi,R.Perm l/\So pc R/\vl e 124 10 [Zac out,Zac l,I l.length,I i]=some (Zac R):=by
  intro n
  induction n with
  |zero=>
   intro i out hi hp hs
   refine⟨out,by rw[Xa1 (by omega)]at hp;exact hp,hs, ?_⟩<;>grind[w4 s.zq83_10,yy,y.zq83_10]
  |succ n ih=>
   intro i out hi hp hs
   have hlt:i<l.length:=by omega
   have hol:out.length=i:=by rw[hp.length_eq,Xbd];omega
   obtain⟨R,r1,r2,r3⟩:=v.sorted25 he l i hlt hl out (by omega) (fun f hf=>hb f (Xcl (hp.mem_iff.1 hf))) (hb _ (Xam hlt)) hs out.length (Xae _) (fun j h1 h2=>by omega)
   obtain⟨R',q1,q2,q3⟩:=ih (i+1) R (by omega) (by
    grind[List.take_succ_eq_append_getElem]) r2
   refine⟨R',q1,q2, ?_⟩<;>simp_all[w4 s.zq83_10,yy,Zc1,Zf5,Zb1,y.zq83_10]
 rw[w1 s.zq83];unfold y.zq83
 simp only[yy,Zf8]
 exact key l.length 0 [] (Xao _) (by simp) .nil
theorem Zvv {α:Type}{r:α->α->Prop}(has:∀a b,r a b-> ¬r b a):∀{l m:List α},l.Perm m->l.Pairwise r->m.Pairwise r->l=m
 | [],m,hp,_,_=>(List.nil_perm.1 hp).symm
 |a::l,[],hp,_,_=>absurd (List.perm_nil.1 hp) (by simp)
 |a::l,b::m,hp,h1,h2=>by
  have h1':=Xby.1 h1
  have h2':=Xby.1 h2
  have hab:a=b:=by
   rcases Xap.1 (hp.mem_iff.1 (Xdc (a:=a) (l:=l)))with h|ha
   ·exact h
   ·rcases Xap.1 (hp.mem_iff.2 (Xdc (a:=b) (l:=m)))with h|hb
    ·exact h.symm
    ·exact absurd (h1'.1 b hb) (has b a (h2'.1 a ha))
  subst hab
  rw[Zvv has (List.perm_cons a|>.1 hp) h1'.2 h2'.2]
theorem Zne {S R:List Fi}(hS:SoOK S)(hR:SoOK R)(h:S.Perm R):S=R:=by
 have pw:∀{S:List Fi},SoOK S->S.Pairwise fun a b=>cmpL (Zad 47 a.1) (Zad 47 b.1)<0:=by
  intro S hS
  refine Xa3.2 fun i j hi hj hij=> ?_
  have:=hS.up i j hij hj
  grind[pS]
 grind[Zvv,Zgu]
theorem Z1v {a:List Bytes}{x:Bytes}(h:a.length+1<=Lim):evp (.app 1) [strs a, .sl false 1 [.str x]]=some (strs (a++ [x])):=Zmv h
theorem Z2b {a:List Bytes}{x u:Bytes}(h:a.length+2<=Lim):evp (.app 1) [strs a,strs [x,u]]=some (strs (a++ [x,u])):=by
 simp_all[Zl1]
theorem v.rTree10 (l:List En)(h:EnOK l):∀(n i:Nat),i+n=l.length->vl e 183 10 [strs (Zbi (l.take i)),entV l,I l.length,I i]=some (.str (Za8 l)):=by
 intro n
 induction n with
 |zero=>
  intro i hi
  have hlen:=h.len
  have hs:=Zdl (fun x hx=>(h.nm x hx).2) h.id
  have hj:=v.refJoin (e:=e) (Zbi l) (by omega)
  rw[w4 s.zq80_10];unfold y.zq80_10
  rw[Xa1 (show l.length<=i by omega)]
  simp only[yy,if_neg (show ¬((i:Int)<(l.length:Int))by omega),hj]
  rfl
 |succ n ih=>
  intro i hi
  have hlen:=h.len
  have hlt:i<l.length:=by omega
  have hid:=h.id _ (Xam hlt)
  have hal:(Zbi (l.take i)).length+3<=Lim:=by grind[Zee,Lim]
  have hto:Zbi (l.take (i+1))=Zbi (l.take i)++enP l[i]:=by
   grind[List.take_succ_eq_append_getElem,Zbi]
  have:=ih (i+1) (by omega)
  rw[hto]at this
  have p1:∀x:Bytes,evp (.app 1) [strs (Zbi (l.take i)), .sl false 1 [.str x]]=some (strs (Zbi (l.take i)++ [x])):=fun x=>Z1v (by omega)
  have p2:∀x a b:Bytes,evp (.app 1) [strs (Zbi (l.take i)++ [x]),strs [a,b]]=some (strs ((Zbi (l.take i)++ [x])++ [a,b])):=fun x a b=>Z2b (by simp;omega)
  rw[w4 s.zq80_10];unfold y.zq80_10
  cases ht:l[i].tr with
  |false=>
   rw[enP,ht]at this
   simp only[yy,if_pos (show(i:Int)<(l.length:Int)by omega),Zf9 hlt,Zo2 hid,Zh3 hid,Zpn,ht,Zly,Zyh hid,Zhw,Zj0,p1,p2,Zai hlt (by omega)]
   rw[Xar];exact this
  |true=>
   rw[enP,ht]at this
   simp only[yy,if_pos (show(i:Int)<(l.length:Int)by omega),Zf9 hlt,Zo2 hid,Zh3 hid,Zpn,ht,Zly,Zyh hid,Zhw,Zj0,p1,p2,Zai hlt (by omega)]
   rw[Xar];exact this
theorem v.rTree (l:List En)(h:EnOK l):vl e 183 0 [entV l]=some (.str (Za8 l)):=by
 rw[w1 s.zq80];unfold y.zq80
 simp only[yy,Zm1]
 exact v.rTree10 l h l.length 0 (Xao _)
structure Obj where
 kind:Bytes
 id:Bytes
 data:Bytes
def ov (o:Obj):V:= .agg (.str o.kind::(o.id.map byteV++ [.str o.data]))
abbrev objV (l:List Obj):V:= .sl false 34 (l.map ov)
def idL (l:List Obj):Prop:=∀o∈l,o.id.length=32
theorem Zo0 {l:List Obj}{i:Nat}(h:i<l.length):evp (.elem 34) [objV l,I i]=some (ov l[i]):=Zf6 (by simp[h])
theorem Zzr {l:List Obj}:evp (.len false) [objV l]=some (I l.length):=by rw[objV,Zsr,Xb2]
theorem Znn {o:Obj}(h:o.id.length=32):(ov o).cells.length=34:=by simp[ov,V.cells,h]
theorem Z5f (o:Obj):(ov o).cells.all V.sc=true:=by
 show(V.str o.kind::(o.id.map byteV++ [.str o.data])).all V.sc=true
 rw[Xcs,List.all_append,Zwn];rfl
theorem Zn8 {o:Obj}(h:o.id.length=32):evp (.ld (some 34) 0) [ov o]=some (ov o):=by
 show Zak (some 34) (ov o).cells 0=_
 simp only[Zak]
 rw[if_pos (by grind[Znn]),Xbq,Xa1 (by grind[Znn])];rfl
theorem Zh0 {o:Obj}(h:o.id.length=32):evp (.cat [some 34]) [ov o]=some (ov o):=by
 show(catV [some 34] [ov o]).map V.agg=_
 simp only[catV]
 rw[if_pos ⟨Znn h,Z5f o⟩]
 simp only[Xay,Xax];rfl
theorem Zo8 {o:Obj}:evp (.ld none 0) [ov o]=some (.str o.kind):=rfl
theorem Zh2 {o:Obj}(h:o.id.length=32):evp (.ld (some 32) 1) [ov o]=some (bl o.id):=by
 show Zak (some 32) (ov o).cells 1=_
 simp only[Zak]
 rw[if_pos (by grind[Znn])]
 show some (V.agg ((o.id.map byteV++ [V.str o.data]).take 32))=_
 grind
theorem Zq0 {o:Obj}(h:o.id.length=32):evp (.ld none 33) [ov o]=some (.str o.data):=by
 show(ov o).cells[33]? =_
 show(V.str o.kind::(o.id.map byteV++ [V.str o.data]))[33]? =_
 grind
theorem Z0u {k id d:Bytes}(h:id.length=32):evp (.cat [none,some 32,none]) [.str k,bl id, .str d]=some (ov ⟨k,id,d⟩):=by
 show(catV [none,some 32,none] [.str k,bl id, .str d]).map V.agg=_
 simp only[catV]
 rw[if_pos (show(V.str k).sc=true from rfl),if_pos (Z2a h),if_pos (show(V.str d).sc=true from rfl)]
 simp only[Xay];rfl
theorem Z00 {o:Obj}(h:o.id.length=32):evp (.bsl 34) [ov o]=some (objV [o]):=by
 have:fits 34 [ov o]=true:=by grind[Znn,Z5f,fits]
 show(if fits 34 [ov o]then some (V.sl false 34 [ov o])else none)=_
 rw[this];rfl
theorem Z0x {l:List Obj}{o:Obj}(h:l.length+1<=Lim):evp (.app 34) [objV l,objV [o]]=some (objV (l++ [o])):=by
 simp_all[Zl1]
theorem v.rPut12 (kind data:Bytes)(L A:List Obj)(hL:idL L)(hLl:L.length+1<=1000000)(z:V):∀(n i:Nat),i+n=L.length->
  ∃L':List Obj,idL L'/\L'.length<=L.length+1/\vl e 12912 12 [.str kind, .str data,objV L,I L.length,I i,objV L,objV A,z,bl (Zar kind data)]=some (.tup [bl (Zar kind data),objV L',objV A]):=by
 intro n
 induction n with
 |zero=>
  intro i hi
  refine⟨L++ [⟨kind,Zar kind data,data⟩],fun o ho=>(Xaz.1 ho).elim (hL o) (fun h=>by grind[Zah]),by simp, ?_⟩
  rw[w9 s.zq46_h0_12];unfold y.zq46_h0_12
  simp only[yy,if_neg (show ¬((i:Int)<(L.length:Int))by omega),Z0u (Zah _ _),Z00 (o:=⟨kind,Zar kind data,data⟩) (Zah _ _),Z0x (show L.length+1<=Lim by grind[Lim]),Zbc (Zah _ _)]
 |succ n ih=>
  intro i hi
  have hlt:i<L.length:=by omega
  have hid:=hL _ (Xam hlt)
  obtain⟨L',r1,r2,r3⟩:=ih (i+1) (by omega)
  rw[w9 s.zq46_h0_12];unfold y.zq46_h0_12
  by_cases hk:L[i].kind=kind
  ·by_cases he:L[i].id=Zar kind data
   ·refine⟨L,hL,by omega, ?_⟩
    simp_all[yy,Zo0,Zn8,Zh0,Zo8,Zh2,Zv4,Zbc]
   ·refine⟨L',r1,r2, ?_⟩
    simp only[yy,if_pos (show(i:Int)<(L.length:Int)by omega),Zo0 hlt,Zn8 hid,Zh0 hid,Zo8,if_pos hk,Zh2 hid,Zv4 hid (Zah _ _),if_neg he,Zai hlt (by omega)]
    exact r3
  ·refine⟨L',r1,r2, ?_⟩
   simp only[yy,if_pos (show(i:Int)<(L.length:Int)by omega),Zo0 hlt,Zn8 hid,Zh0 hid,Zo8,if_neg hk,Zai hlt (by omega)]
   exact r3
theorem v.rPut (kind data:Bytes)(hk:kind.length<=100)(hd:data.length<=100000000)(L A:List Obj)(hL:idL L)(hLl:L.length+1<=1000000)(hA:A.length+1<=1000000):
  ∃L':List Obj,idL L'/\L'.length<=L.length+1/\vl e 12912 1 [.str kind, .str data,objV L,objV A]=some (.tup [bl (Zar kind data),objV L',objV (A++ [⟨kind,Zar kind data,data⟩])]):=by
 obtain⟨L',r1,r2,r3⟩:=v.rPut12 (e:=e) kind data L (A++ [⟨kind,Zar kind data,data⟩]) hL hLl z32 L.length 0 (Xao _)
 refine⟨L',r1,r2, ?_⟩
 rw[w4 s.zq46_h0];unfold y.zq46_h0
 simp only[yy,v.refSum kind data hk hd,Zbc (Zah _ _),Z0u (Zah _ _),Z00 (o:=⟨kind,Zar kind data,data⟩) (Zah _ _),Z0x (show A.length+1<=Lim by grind[Lim]),Zzr]
 exact r3
theorem v.rJoin2 (d n:Bytes)(hn:n≠ [])(hd:d.length<=1000000)(hl:n.length<=1000000):vl e 62 0 [strs [d,n]]=some (.str (if d=[]then n else d++47::n)):=by
 have hn': ¬n=[]:=hn
 have g0:evp (.elem 1) [strs [d,n], .int .i64 0]=some (.str d):=Zdv (l:=[d,n]) (i:=0) (by simp)
 have g1:evp (.elem 1) [strs [d,n], .int .i64 1]=some (.str n):=Zdv (l:=[d,n]) (i:=1) (by simp)
 have j2:∀s:Bytes,vl e 62 10 [.str s,strs [d,n], .int .i64 2, .int .i64 2]=some (.str s):=fun s=>by
  rw[w4 s.zq74_10];rfl
 have k0:∀s:Bytes,s.length<=1000000->evp (.bin .add .no) [.str [], .str s]=some (.str s):=fun s h=>Zj6 (s:=[]) (by simp;omega)
 have j1:∀s:Bytes,s.length<=1000000->vl e 62 10 [.str s,strs [d,n], .int .i64 2, .int .i64 1]=some (.str (if s=[]then n else s++47::n)):=fun s hsl=>by
  have l1:evp (.bin .lss .no) [.int .i64 1, .int .i64 2]=some (.bool true):=rfl
  have l2:evp (.bin .add .no) [.int .i64 1, .int .i64 1]=some (.int .i64 2):=rfl
  rw[w4 s.zq74_10];unfold y.zq74_10
  simp only[pr,l1,l2,g1,Xaw]
  by_cases hs:s=[]
  ·simp_all[yy,Zch]
  ·have a1:evp (.bin .add .no) [.str s, .str [47]]=some (.str (s++ [47])):=Zj6 (by simp;omega)
   have a2:evp (.bin .add .no) [.str (s++ [47]), .str n]=some (.str ((s++ [47])++n)):=Zj6 (by simp;omega)
   simp_all[yy,Zch]
 have l1:evp (.bin .lss .no) [.int .i64 0, .int .i64 2]=some (.bool true):=rfl
 have l2:evp (.bin .add .no) [.int .i64 0, .int .i64 1]=some (.int .i64 1):=rfl
 have j0:vl e 62 10 [.str [],strs [d,n], .int .i64 2, .int .i64 0]=some (.str (if d=[]then n else d++47::n)):=by
  rw[w4 s.zq74_10];unfold y.zq74_10
  simp only[pr,l1,l2,g0,Xaw]
  simp only[yy,Zch,k0 d hd,j1 d hd]
  by_cases hs:d=[]<;>simp[hs]
 rw[w1 s.zq74];unfold y.zq74
 exact j0
end Go.Proofs.YtegmegbanfkomaaGreatDoor
namespace Go.Proofs.YtegmegbanfkomaaGreatDoor
open Go.Abs
set_option maxRecDepth 10000
variable {e:Ev}
def pv (n i:Nat):Nat:=n/2^(64-8*i)
def byn (n i:Nat):Nat:=n/2^(56-8*i) % 256
theorem Z22 (n:Nat){i:Nat}(h:i<8):pv n i*256+byn n i=pv n (i+1):=by
 have e1:64-8*i=(56-8*i)+8:=by omega
 grind[Nat.div_div_eq_div_mul,Nat.div_add_mod,pv,byn]
theorem Z91 (n i:Nat):pv n i<=n:=Xek _ _
theorem pv0 {n:Nat}(h:n<18446744073709551616):pv n 0=0:=Nat.div_eq_of_lt h
theorem pv8 (n:Nat):pv n 8=n:=by simp[pv]
theorem Z1q (n:Nat)(r:Bytes){i:Nat}(h:i<8):(numB n++r)[i]? =some (UInt8.ofNat (n/2^(56-8*i))):=by
 grind[numB]
theorem Ztx (n i:Nat):(UInt8.ofNat (n/2^(56-8*i))).toNat=byn n i:=by simp[byn]
theorem Z6o (n i:Nat):byn n i<256:=Nat.mod_lt _ (by decide)
theorem Qbb {a:Nat}(h:a<1152921504606846):evp (.bin .shl .no) [.int .u64 (a:Int), .int .u64 8]=some (.int .u64 ((a*256:Nat):Int)):=by
 show(if(8:Int)<0 then none else some (V.int .u64 (IntKind.u64.wrap ((a:Int)*2^(min (8:Int).toNat IntKind.u64.bits)))))=_
 rw[if_neg (by decide),Zdp]
 have:(2:Int)^(min (8:Int).toNat IntKind.u64.bits)=256:=rfl
 grind
theorem or64 {a b:Nat}(ha:a<1152921504606846)(hb:b<256):evp (.bin .or .no) [.int .u64 ((a*256:Nat):Int), .int .u64 (b:Int)]=some (.int .u64 ((a*256+b:Nat):Int)):=by
 show some (V.int .u64 (IntKind.u64.wrap ((BitVec.ofInt 64 ((a*256:Nat):Int)|||BitVec.ofInt 64 (b:Int)).toNat:Int)))=_
 have hor:(a*256|||b)=a*256+b:=by
  have:=Nat.shiftLeft_add_eq_or_of_lt (show b<2^8 by omega) a
  grind[Nat.shiftLeft_eq]
 rw[BitVec.ofInt_natCast,BitVec.ofInt_natCast,BitVec.toNat_or,BitVec.toNat_ofNat,BitVec.toNat_ofNat,Nat.mod_eq_of_lt (by omega),Nat.mod_eq_of_lt (by omega),hor,Zdp]
 congr 2
 omega
theorem b64 (c:UInt8):evp (.i2i .u64) [byteV c]=some (.int .u64 (c.toNat:Int)):=by
 show some (V.int .u64 (IntKind.u64.wrap (c.toNat:Int)))=_
 have:=c.toNat_lt
 grind[Zdp]
theorem v.readNum18 (n:Nat)(hn:n<=1000000000)(r:Bytes):∀(m i:Nat),i+m=8->vl e 132 18 [.str (numB n++r), .int .u64 (pv n i:Nat),I i]=some (.tup [I n, .bool true]):=by
 intro m
 induction m with
 |zero=>
  intro i hi
  have:i=8:=by omega
  subst this
  have e1:evp (.i2i .i64) [.int .u64 ((pv n 8:Nat):Int)]=some (I n):=by
   rw[pv8]
   show some (V.int .i64 (IntKind.i64.wrap (n:Int)))=_
   grind[w64]
  rw[w3 s.zq4_18];simp_all[yy,y.zq4_18]
 |succ m ih=>
  intro i hi
  have hpl:=Z91 n i
  have:=ih (i+1) (by omega)
  rw[<-Z22 n (show i<8 by omega), <-Ztx]at this
  rw[w3 s.zq4_18];unfold y.zq4_18
  simp only[yy,if_pos (show(i:Int)<8 by omega),Qbb (a:=pv n i) (by omega),Zib (Z1q n r (show i<8 by omega)),b64,or64 (a:=pv n i) (by omega) (show(UInt8.ofNat (n/2^(56-8*i))).toNat<256 by grind[Ztx,Z6o]),Zai (show i<8 by omega) (by omega)]
  exact this
theorem v.readNum (n:Nat)(hn:n<=1000000000)(r:Bytes):vl e 132 0 [.str (numB n++r)]=some (.tup [I n, .bool true]):=by
 have:=v.readNum18 (e:=e) n hn r 8 0 rfl
 rw[pv0 (by omega)]at this
 rw[w1 s.zq4];unfold y.zq4
 simp only[yy,if_neg (show ¬(((numB n++r).length:Nat):Int)<8 by grind[Zb7])]
 exact this
theorem Z9k (x r:Bytes):(((numB x.length++x++r).take (8+x.length)).drop 8)=x/\(numB x.length++x++r).drop (8+x.length)=r:=by
 grind[numB]
theorem v.split30 (l:List Bytes)(hl:sumL l<=1000000):∀(r out:List Bytes),out++r=l->vl e 79 30 [strs out, .str (Zbo r),I l.length,I out.length]=some (.tup [strs l,I 0]):=by
 intro r
 induction r with
 |nil=>
  intro out ho
  rw[Xax]at ho
  subst ho
  have hp:Zbo []=[]:=rfl
  rw[hp,w4 s.zq5_30];simp_all[yy,y.zq5_30]
 |cons x r ih=>
  intro out ho
  have hll:=Zdg l
  have hx:=Zg8 (show x∈l by grind)
  have hol:out.length<l.length:=by grind
  have hlen:(Zbo (x::r)).length=sumL (x::r):=Zhk _
  rw[Zfa]at hlen
  have hsl:sumL l=sumL out+(8+x.length+sumL r):=by grind[Zxb,Zfa]
  have:=ih (out++ [x]) (by grind)
  rw[Xaf,Xch]at this
  obtain⟨c1,c2⟩:=Z9k x (Zbo r)
  have hN:=v.readNum (e:=e) x.length (by omega) (x++Zbo r)
  rw[<-Xar, <-Zcw]at hN
  rw[<-Zcw]at c1 c2
  have e1:IntKind.i64.wrap ((((Zbo (x::r)).length:Nat):Int)-8)=(((Zbo (x::r)).length-8:Nat):Int):=by grind[w64]
  have e2:IntKind.i64.wrap (8+(x.length:Int))=((8+x.length:Nat):Int):=by grind[w64]
  have s1:evp (.sls true true) [.str (Zbo (x::r)), .int .i64 8,I (8+x.length:Nat)]=some (.str x):=by
   have:=Zt9 (s:=Zbo (x::r)) (l:=8) (h:=8+x.length) (by omega) (by omega)
   grind
  have s2:evp (.sls true false) [.str (Zbo (x::r)),I (8+x.length:Nat)]=some (.str (Zbo r)):=by
   grind[Zh6]
  rw[w4 s.zq5_30];unfold y.zq5_30
  simp only[yy,if_pos (show(out.length:Int)<(l.length:Int)by omega),hN,if_neg (show ¬((x.length:Int)<0)by omega),e1,if_neg (show ¬(((Zbo (x::r)).length-8:Nat):Int)<(x.length:Int)by omega),e2,s1,Zhw,Zmv (show out.length+1<=Lim by grind[Lim]),s2,Zai hol (by omega)]
  exact this
theorem v.codeSplit (l:List Bytes)(hl:sumL l<=1000000):vl e 79 0 [.str (Zck l)]=some (.tup [strs l,I 0]):=by
 have hll:=Zdg l
 have hlen:=Zea l
 have hN:=v.readNum (e:=e) l.length (by omega) (Zbo l)
 rw[<-show Zck l=numB l.length++Zbo l from rfl]at hN
 have s2:evp (.sls true false) [.str (Zck l), .int .i64 8]=some (.str (Zbo l)):=by
  grind[Zh6,Zb7,Zck]
 have hmx:evp (.mnx false) [I l.length, .int .i64 4096]=some (I (min l.length 4096:Nat)):=by
  show vMnx false (I l.length) (.int .i64 4096)=_
  grind[vMnx]
 have hmk:evp (.mks 1) [.int .i64 0,I (min l.length 4096:Nat)]=some (strs []):=by
  show(vMks 1 (.int .i64 0) (I (min l.length 4096:Nat))).map Res.v=_
  grind[vMks,Lim]
 have h17:vl e 79 17 [.str (Zck l),I l.length, .bool false]=some (.tup [strs l,I 0]):=by
  rw[w3 s.zq5_17];unfold y.zq5_17
  simp only[yy,hmx,hmk,s2]
  exact v.split30 l hl l [] rfl
 have q:evp (.bin .quo .no) [I (Zck l).length, .int .i64 8]=some (I ((Zck l).length/8:Nat)):=Zyd (k:=8) (by decide) (by omega)
 rw[w1 s.zq5];unfold y.zq5
 simp only[yy,if_neg (show ¬(1048576:Int)<((Zck l).length:Int)by omega),hN,if_neg (show ¬((l.length:Int)<0)by omega),q,show decide ((((Zck l).length/8:Nat):Int)<(l.length:Int))=false from decide_eq_false (by omega)]
 exact h17
end Go.Proofs.YtegmegbanfkomaaGreatDoor
namespace Go.Proofs.YtegmegbanfkomaaGreatDoor
open Go.Abs
set_option maxRecDepth 10000
variable {e:Ev}
theorem v.New :vl e 10720 1 []=some (.tup [mv [],mv [],mv []]):=by
 rw[w0 s.zq121_h0];rfl
theorem Zn4 (x:Bytes):evp .scs [bl x]=some (bl x):=if_pos (Zwn x)
theorem Ztq {x:Bytes}(h:x.length=32):evp (.ld (some 32) 0) [bl x]=some (bl x):=by
 show Zak (some 32) (bl x).cells 0=_
 simp_all[Xa1]
theorem Z9r {l:List Fi}{n:Nat}(h:l.length<=n)(hn:n<=1000)(h2:∀f∈l,f.1.length+f.2.length<=4096):l.length<=1000000/\ ∀f∈l,f.1.length<=1000000/\f.2.length<=1000000000:=
 ⟨by omega,fun f hf=>by grind⟩
theorem Zzt {S:List Fi}{D:List Bytes}{a b:Nat}{ls:List En}{id:Bytes}{p1 p2:MB}(h:Tr S D a b ls id p1 p2):a<=b/\p1.length<=b-a:=by
 induction h<;>grind
theorem Zvd {S:List Fi}(h16:∀i,i<S.length->(pS S i).length<=16){D:List Bytes}{a b:Nat}{ls:List En}{id:Bytes}{p1 p2:MB}(h:Tr S D a b ls id p1 p2):b<=S.length->(∀i,a<=i->i<b->D.length<(pS S i).length)->p2.length<=1+(b-a)*(16-D.length):=by
 induction h with
 |done=>intro _ _;simp
 | @blob D a b ls x id p1 p2 hab hx h ih=>
  intro hb hi
  have:=ih hb fun i h1 h2=>hi i (by omega) h2
  have h3:b-a=(b-(a+1))+1:=by omega
  grind[Nat.add_mul]
 | @dir D a b k ls x id id1 p1 p2 q1 q2 hk hkb hrun hstop h1 h2 ih1 ih2=>
  intro hb hi
  have r1:=ih1 (by omega) fun i k1 k2=>by
   grind[List.length_pos_iff]
  have r2:=ih2 hb fun i k1 k2=>hi i (by omega) k2
  have ha:=hi a (Xae _) (by omega)
  have ha2:=h16 a (by omega)
  simp only[Xaf,Xaq,Xa2]at r1⊢
  have e1:a+k-a=k:=by omega
  have e2:b-a=k+(b-(a+k)):=by omega
  have e3:16-D.length=(16-(D.length+(0+1)))+1:=by omega
  grind[Nat.add_mul,Nat.mul_succ]
end Go.Proofs.YtegmegbanfkomaaGreatDoor
namespace Go.Proofs.YtegmegbanfkomaaGreatDoor
open Go.Abs
set_option maxRecDepth 10000
variable {e:Ev}
theorem v.oid (id:Bytes)(h:id.length=32):vl e 246 0 [.str id]=some (.tup [bl id, .bool true]):=by
 have hw:∀l:Bytes,(encB l).flatMap V.cells=l.map byteV:=by
  intro l
  induction l<;>grind[byteV,encB,V.cells]
 have hf:fits 1 (encB id)=true:=by
  unfold fits encB
  rw[Xav];intro c hc
  obtain⟨x,_,rfl⟩:=Xa7.1 hc
  rfl
 have hne:encB id≠ []:=fun hn=>by
  grind[List.map_eq_nil_iff]
 have h1:evp (.s2a 32) [.sl false 1 (encB id)]=some (bl id):=by
  show Zzj 32 (.sl false 1 (encB id))=_
  grind[Zpf,Zzj]
 simp_all[Ztq,w1 s.zq21,yy,Qar,Zbc,y.zq21]
theorem Zz8 {l:List Bytes}{x:En}:evp (.slc 1 true false false) [strs (enP x++l), .int .i64 3]=some (strs l):=by
 have:=Z09 (sz:=1) (l:=(enP x++l).map V.str) (i:=3) (by simp[enP])
 rw[<-List.map_drop]at this
 exact this
theorem v.getTree18 (he:EnvT e)(l:List En)(h:EnOK l):∀(r acc:List En),acc++r=l->vl e 198 18 [strs (Zbi r),entV acc]=some (.tup [entV l,I 0]):=by
 have hlen:=h.len
 intro r
 induction r with
 |nil=>
  intro acc ha
  rw[Xax]at ha
  subst ha
  have ht:Zbi []=[]:=rfl
  rw[ht,w2 s.zq17_18];simp_all[yy,v.GoodTree,y.zq17_18]
 |cons x r ih=>
  intro acc ha
  have hid:=h.id x (by grind)
  have hal:acc.length<l.length:=by grind
  have:=ih (acc++ [x]) (by grind)
  have ht:Zbi (x::r)=enP x++Zbi r:=rfl
  have hl3:(strs (enP x++Zbi r))=strs ((if x.tr then Zbl else Za2)::x.nm::x.id::Zbi r):=rfl
  have g0:evp (.elem 1) [strs (enP x++Zbi r), .int .i64 0]=some (.str (if x.tr then Zbl else Za2)):=Zf6 (i:=0) rfl
  have g1:evp (.elem 1) [strs (enP x++Zbi r), .int .i64 1]=some (.str x.nm):=Zf6 (i:=1) rfl
  have g2:evp (.elem 1) [strs (enP x++Zbi r), .int .i64 2]=some (.str x.id):=Zf6 (i:=2) rfl
  have hpos:(0:Int)<((enP x++Zbi r).length:Int):=by grind[enP]
  have hap:=Zkr (l:=acc) (x:=x) (by grind[Lim])
  rw[ht,w2 s.zq17_18];unfold y.zq17_18
  obtain⟨nm,tr,id⟩:=x
  cases tr with
  |false=>
   have k1: ¬(¬(Za2=[98,108,111,98])):=fun h=>h rfl
   have k2: ¬(Za2=[116,114,101,101]):=by decide
   simp only[yy,Zef,if_pos hpos,g2,Zch,v.oid id hid,Zbc hid,g0,g1,if_neg (show ¬(false=true)by decide),show(Za2=[98,108,111,98])=True from eq_true rfl,if_true,show decide (Za2=[116,114,101,101])=false from rfl,Zjp hid,Zjb (x:=⟨nm,false,id⟩) hid,hap,Zz8]
   exact this
  |true=>
   simp only[yy,Zef,if_pos hpos,g2,Zch,v.oid id hid,Zbc hid,g0,g1,if_true,show(Zbl=[98,108,111,98])=False from eq_false (by decide),if_false,show(Zbl=[116,114,101,101])=True from eq_true rfl,decide_true,Zjp hid,Zjb (x:=⟨nm,true,id⟩) hid,hap,Zz8]
   exact this
theorem v.getTree (he:EnvT e)(l:List En)(h:EnOK l):vl e 198 0 [.str (Za8 l)]=some (.tup [entV l,I 0]):=by
 have hlen:=h.len
 have hs:=Zdl (fun x hx=>(h.nm x hx).2) h.id
 have h9:vl e 198 9 [strs (Zbi l), .bool false]=some (.tup [entV l,I 0]):=by
  rw[w2 s.zq17_9];unfold y.zq17_9
  exact v.getTree18 he l h l [] rfl
 have hr:evp (.bin .rem .no) [I (Zbi l).length, .int .i64 3]=some (I 0):=by
  grind[Zut,Zee,Nat.mul_mod_right]
 rw[w1 s.zq17];unfold y.zq17
 simp only[yy,show Za8 l=Zck (Zbi l)from rfl,v.codeSplit (Zbi l) (by omega),Zef,hr]
 exact h9
end Go.Proofs.YtegmegbanfkomaaGreatDoor
namespace Go.Proofs.YtegmegbanfkomaaGreatDoor
open Go.Abs
set_option maxRecDepth 10000
variable {e:Ev}
theorem v.rUnderS {d p r:Bytes}(hd:d.length<=1000000)(h:Zb9 d p=some r):vl e 33 0 [.str d, .str p]=some (.tup [.str r, .bool true]):=by
 unfold Zb9 at h
 rw[w2 s.zq78];unfold y.zq78
 by_cases h0:d=[]
 ·rw[if_pos h0]at h
  by_cases h2:p=[]<;>simp_all[yy]
 ·rw[if_neg h0]at h
  split at h
  ·rename_i hc
   obtain⟨h1,h2⟩:=hc
   simp only[Xac]at h
   subst h
   have hl:d.length+1<p.length:=by
    simp_all
   have hlt:d.length<p.length:=by omega
   have ht:p.take (d.length+1)=p.take d.length++ [p[d.length]]:=Xbi hlt
   rw[ht]at h1
   have e0:=Xcj h1 (by simp;omega)
   have h3:p[d.length]=47:=by grind
   have e1:IntKind.i64.wrap ((d.length:Int)+1)=((d.length+1:Nat):Int):=Zai (show d.length<d.length+1 by omega) (by omega)
   have h3':((p[d.length].toNat:Nat):Int)=47:=by rw[h3];rfl
   simp only[yy,if_neg h0,e1,if_neg (show ¬(p.length:Int)<=((d.length+1:Nat):Int)by omega),Zh9 (show d.length<=p.length by omega),if_pos e0.1,Zib (Xad hlt),byteV,if_pos h3',Zh6 (show d.length+1<=p.length by omega)]
  ·cases h
def Zmo (ls:List En):Bytes:=(ls.getLast?.map En.nm).getD []
theorem Zjm (ls:List En)(x:En):Zmo (ls++ [x])=x.nm:=by simp[Zmo]
theorem Z21 {S:List Fi}(hS:SoOK S){D:List Bytes}{a b k:Nat}{x:Bytes}(hb:b<=S.length)(hin:∀i,a<=i->i<b-> ∃R,R≠ []/\pS S i=D++R)(hk:0<k)(hrun:∀i,a<=i->i<a+k-> ∃R,R≠ []/\pS S i=D++x::R)(hstop:a+k<b-> ¬ ∃R,R≠ []/\pS S (a+k)=D++x::R):
  ∀j,a+k<=j->j<b-> ∀R',pS S j=D++x::R'->False:=by
 intro j hj hjb R' hR'
 obtain⟨R0,hR0,hs0⟩:=hrun a (Xae _) (by omega)
 have free:∀i,i<S.length->i≠a->pS S i≠D++ [x]:=fun i hi hia he=>hS.free a i (by omega) hi (Ne.symm hia) R0 (by grind)
 obtain⟨R2,hR2,hs2⟩:=hin (a+k) (by omega) (by omega)
 obtain⟨x2,R3,rfl⟩:∃x2 R3,R2=x2::R3:=by cases R2<;>grind
 have hup:=hS.up a (a+k) (by omega) (by omega)
 rw[hs0,hs2,Zfv]at hup
 have hxx2:Op.bytesLess x x2=true:=by
  grind[Ze8]
 rcases Xbf hj with h|rfl
 ·have hup2:=hS.up (a+k) j h (by omega)
  rw[hs2,hR',Zfv]at hup2
  rcases Ze8 hup2 with rfl|h<;>grind[Zcq,Zen]
 grind
section
variable (S:List Fi)(hS:SoOK S)
include hS
theorem v.rskip (D:List Bytes)(hD:∀u∈D,Zbe u=true)(hjl:(Zag 47 D).length<=1000)(ls last L A z:V):∀(n i:Nat),i+n<=S.length->(∀k,i<=k->k<i+n-> ¬ ∃R,R≠ []/\pS S k=D++R)->
  vl e 12160 12 [.str (Zag 47 D),Zac S,ls,last,Zac S,I S.length,I i,L,A,z]=vl e 12160 12 [.str (Zag 47 D),Zac S,ls,last,Zac S,I S.length,I (i+n:Nat),L,A,z]:=by
 have hlen:=hS.len
 intro n
 induction n with
 |zero=>grind
 |succ n ih=>
  intro i hi hno
  have hlt:i<S.length:=by omega
  obtain⟨u,hu⟩:=v.rUnder (e:=e) (Zag 47 D) S[i].1 (by omega) (by have:=Zig (hS.good _ (Xam hlt));omega)
  have h0:(Zb9 (Zag 47 D) S[i].1).isSome=false:=by
   cases h:Zb9 (Zag 47 D) S[i].1 with
   |none=>rfl
   |some r=>
    obtain⟨R,hR,hs⟩:=Zhq hD h
    exact absurd ⟨R,hR,by grind[pS]⟩ (hno i (Xae _) (by omega))
  rw[h0]at hu
  have:=ih (i+1) (by omega) (fun k h1 h2=>hno k (by omega) (by omega))
  rw[show i+1+n=i+(n+1)by omega]at this
  rw[w10 s.zq48_h0_12];unfold y.zq48_h0_12
  simp only[yy,if_pos (show(i:Int)<(S.length:Int)by omega),Zc1 hlt,Zf5,Zb1,Zek,hu,Zai hlt (by omega)]
  exact this
theorem Zlf {D R:List Bytes}{x:Bytes}{i:Nat}(hlt:i<S.length)(hD:∀u∈D,Zbe u=true)(hjl:(Zag 47 D).length<=1000)(hs:pS S i=D++x::R):
  vl e 33 0 [.str (Zag 47 D), .str S[i].1]=some (.tup [.str (Zag 47 (x::R)), .bool true])/\vl e 43 0 [.str (Zag 47 (x::R))]=some (strs (x::R))/\Zbe x=true/\x.length<=128:=by
 have hpp:=Zg3 S hS hlt
 rw[hs]at hpp
 have hl:=Zig (hS.good _ (Xam hlt))
 have hxR:∀u∈x::R,Zbe u=true:=fun u hu=>hpp u (Xaz.2 (.inr hu))
 have hu:=Zlm (p:=S[i].1) hD hxR (by simp) (by rw[<-Zbg hlt];exact hs)
 have hrl:=Zod hu
 refine⟨v.rUnderS (by omega) hu, ?_,hxR x (by simp), ?_⟩
 ·grind[v.rParts,Zhp]
 ·have:=Zay 47 (show x∈Zad 47 S[i].1 by grind[Zbg,pS])
  omega
theorem v.rrun (D:List Bytes)(hD:∀u∈D,Zbe u=true)(hjl:(Zag 47 D).length<=1000)(ls:List En)(hls:ls.length<=600)(x id1:Bytes)(L A z:V):∀(n i:Nat),i+n<=S.length->(∀k,i<=k->k<i+n-> ∃R,R≠ []/\pS S k=D++x::R)->
  vl e 12160 12 [.str (Zag 47 D),Zac S,entV (ls++ [⟨x,true,id1⟩]), .str x,Zac S,I S.length,I i,L,A,z]=vl e 12160 12 [.str (Zag 47 D),Zac S,entV (ls++ [⟨x,true,id1⟩]), .str x,Zac S,I S.length,I (i+n:Nat),L,A,z]:=by
 have hlen:=hS.len
 intro n
 induction n with
 |zero=>grind
 |succ n ih=>
  intro i hi hyes
  have hlt:i<S.length:=by omega
  obtain⟨R,hR,hs⟩:=hyes i (Xae _) (by omega)
  obtain⟨u1,u2,u3,_⟩:=Zlf (e:=e) S hS hlt hD hjl hs
  have hne: ¬x=Zag 47 (x::R):=fun h=>by
   grind[Zct]
  have:=ih (i+1) (by omega) (fun k h1 h2=>hyes k (by omega) (by omega))
  rw[show i+1+n=i+(n+1)by omega]at this
  have h40:vl e 12160 40 [.str (Zag 47 D),Zac S,entV (ls++ [⟨x,true,id1⟩]), .str x,Zac S,I S.length,I i, .bool false,L,A,z]=vl e 12160 12 [.str (Zag 47 D),Zac S,entV (ls++ [⟨x,true,id1⟩]), .str x,Zac S,I S.length,I (i+1:Nat),L,A,z]:=by
   rw[w11 s.zq48_h0_40];unfold y.zq48_h0_40
   simp only[yy,Zai hlt (by omega)]
  have hlast:ls.length<(ls++ [(⟨x,true,id1⟩:En)]).length:=by simp
  have hg:=Zf9 hlast
  have hge:(ls++ [(⟨x,true,id1⟩:En)])[ls.length]=⟨x,true,id1⟩:=by simp
  rw[hge]at hg
  have p1:IntKind.i64.wrap (((ls++ [(⟨x,true,id1⟩:En)]).length:Int)-1)=(ls.length:Int):=by
   rw[Xaf,Xch]
   exact Zi1 (show 1<=ls.length+1 by omega) (by omega)
  rw[w10 s.zq48_h0_12];unfold y.zq48_h0_12
  simp only[yy,if_pos (show(i:Int)<(S.length:Int)by omega),Zc1 hlt,Zf5,Zb1,Zek,u1,u2,Zmt,Zch,if_neg hne,if_neg (show ¬((ls++ [(⟨x,true,id1⟩:En)]).length:Int)=0 by simp),p1,hg,Zpn,Zly]
  grind
theorem v.rbelow {D:List Bytes}{a b:Nat}{ls:List En}{id:Bytes}{p1 p2:MB}(h:Tr S D a b ls id p1 p2):b<=S.length->(∀u∈D,Zbe u=true)->(Zag 47 D).length<=128->(∀i,a<=i->i<b-> ∃R,R≠ []/\pS S i=D++R)->(∀i,b<=i->i<S.length-> ¬ ∃R,R≠ []/\pS S i=D++R)->
  (∀i,i<a-> ∀j,a<=j->j<b-> ∀x R R',pS S i=D++x::R->pS S j=D++x::R'->False)-> ∀(L A:List Obj) (z:V),idL L->L.length+(p1.length+p2.length)<=100000->A.length+(p1.length+p2.length)<=100000->
  ∃L' N:List Obj,idL L'/\idL N/\N.length=p1.length+p2.length/\L'.length<=L.length+N.length/\(∀p∈p1,(⟨Za2,p.1,p.2⟩:Obj)∈N)/\(∀p∈p2,(⟨Zbl,p.1,p.2⟩:Obj)∈N)/\
   vl e 12160 12 [.str (Zag 47 D),Zac S,entV ls, .str (Zmo ls),Zac S,I S.length,I a,objV L,objV A,z]=some (.tup [bl id,objV L',objV (A++N)]):=by
 have hlen:=hS.len
 induction h with
 | @done D a ls hok=>
  intro hb hD hjl hin hout hinv L A z hL hl1 hl2
  simp only[Xa2,Xaq]at hl1 hl2
  have h0:=hok.len
  have hs:=Zdl (fun x hx=>(hok.nm x hx).2) hok.id
  obtain⟨L',r1,r2,r3⟩:=v.rPut (e:=e) Zbl (Za8 ls) (by simp[Zbl]) (by grind[Zea,Za8]) L A hL (by omega) (by omega)
  refine⟨L',[⟨Zbl,Zar Zbl (Za8 ls),Za8 ls⟩],r1,fun o ho=>by grind[Zah],rfl,r2,(fun p hp=>by cases hp),(fun p hp=>by grind), ?_⟩
  have hsk:=v.rskip (e:=e) S hS D hD (by omega) (entV ls) (.str (Zmo ls)) (objV L) (objV A) z (S.length-a) a (by omega) (fun k h1 h2=>hout k h1 (by omega))
  rw[hsk,show a+(S.length-a)=S.length by omega]
  rw[w10 s.zq48_h0_12];unfold y.zq48_h0_12
  simp only[yy,if_neg (show ¬((S.length:Int)<(S.length:Int))by omega),v.rTree ls hok]
  simp_all[yy,Zbc,Zah,Zbl]
 | @blob D a b ls x id p1 p2 hab hx h ih=>
  intro hb hD hjl hin hout hinv L A z hL hl1 hl2
  simp only[Xaq]at hl1 hl2
  have hlt:a<S.length:=by omega
  obtain⟨u1,u2,u3,u4⟩:=Zlf (e:=e) S hS hlt hD (by omega) hx
  have hd:S[a].2.length<=32768:=hS.data _ (Xam hlt)
  obtain⟨L1,r1,r2,r3⟩:=v.rPut (e:=e) Za2 S[a].2 (by simp[Za2]) (by omega) L A hL (by omega) (by omega)
  have hfin:=h.finOK
  obtain⟨es,hes⟩:=hfin
  have hll:=hes.len
  simp only[Xaf,Xaq]at hll
  have hga:S.getD a ([],[])=S[a]:=Zbg hlt
  rw[hga]at ih⊢
  obtain⟨L',N,q1,q1',q2,q3,q4,q5,q6⟩:=ih hb hD hjl (fun i h1 h2=>hin i (by omega) h2) hout (fun i h1 j h2 h3 x' R R' e1 e2=>by
   rcases Xbf (Xee h1)with h4|rfl
   ·grind
   ·rw[hx]at e1
    have:=Xcm e1
    simp only[Xcz]at this
    obtain⟨rfl,rfl⟩:=this
    exact hS.free j i (by omega) hlt (by omega) R' (by grind)) L1 (A++ [⟨Za2,Zar Za2 S[a].2,S[a].2⟩]) z r1 (by omega) (by simp;omega)
  refine⟨L',⟨Za2,Zar Za2 S[a].2,S[a].2⟩::N,q1,fun o ho=>(Xap.1 ho).elim (fun h=>by grind[Zah]) (q1' o),by grind,by simp;omega,fun p hp=>(Xap.1 hp).elim (fun h=>by rw[h];simp) (fun h=>Xbb _ (q4 p h)),fun p hp=>Xbb _ (q5 p hp), ?_⟩
  have hjx:Zag 47 [x]=x:=rfl
  rw[hjx]at u1 u2
  rw[Zjm,Xar]at q6
  rw[w10 s.zq48_h0_12];unfold y.zq48_h0_12
  simp only[yy,if_pos (show(a:Int)<(S.length:Int)by omega),Zc1 hlt,Zf5,Zb1,Zek,u1,u2,Zmt,Zch,Zqp]
  rw[show(V.str [98,108,111,98])= .str Za2 from rfl,r3]
  simp only[yy,if_true,Zuf (Zah _ _),Zjp (Zah _ _),Zjb (x:=⟨x,false,Zar Za2 S[a].2⟩) (Zah _ _),Zkr (show ls.length+1<=Lim by grind[Lim]),Zai hlt (by omega)]
  exact q6
 | @dir D a b k ls x id id1 p1 p2 q1 q2 hk hkb hrun hstop h1 h2 ih1 ih2=>
  intro hb hD hjl hin hout hinv L A z hL hl1 hl2
  simp only[Xaf]at hl1 hl2
  have hlt:a<S.length:=by omega
  obtain⟨R,hR,hs⟩:=hrun a (Xae _) (by omega)
  obtain⟨u1,u2,u3,u4⟩:=Zlf (e:=e) S hS hlt hD (by omega) hs
  have hid1:id1.length=32:=h1.ok hS
  obtain⟨es,hes⟩:=h2.finOK
  have hll:=hes.len
  simp only[Xaf,Xaq]at hll
  have hrout:=Z21 hS hb hin hk hrun hstop
  have hD':∀u∈D++ [x],Zbe u=true:=fun u hu=>(Xaz.1 hu).elim (hD u) (fun h=>by grind)
  have hjl':(Zag 47 (D++ [x])).length<=128:=by
   have hpl:=Zej S hS hlt
   have hj:=Zbb 47 (S.getD a ([],[])).1
   rw[<-pS,hs,show D++x::R=(D++ [x])++R by simp,Zdi 47 (D++ [x]) R (by simp) hR]at hj
   grind
  --the directory's own tree
  obtain⟨L1,N1,a1,a1',a2,a3,a4,a5,a6⟩:=ih1 (by omega) hD' hjl' (fun i g1 g2=>by
   obtain⟨R',hR',hs'⟩:=hrun i g1 g2
   exact⟨R',hR',by rw[hs'];simp⟩) (fun i g1 g2=>by
   rintro⟨R',hR',hs'⟩
   have hs'':pS S i=D++x::R':=by rw[hs'];simp
   grind) (fun i g1 j g2 g3 x' R1 R2 e1 e2=>hinv i g1 j g2 (by omega) x (x'::R1) (x'::R2) (by rw[e1];simp) (by rw[e2];simp)) L A z32 hL (by omega) (by omega)
  obtain⟨L2,N2,b1,b1',b2,b3,b4,b5,b6⟩:=ih2 hb hD hjl (fun i g1 g2=>hin i (by omega) g2) hout (fun i g1 j g2 g3 x' R1 R2 e1 e2=>by
   rcases Xa6 i a with h4|h4
   ·exact hinv i h4 j (by omega) g3 x' R1 R2 e1 e2
   ·obtain⟨R',hR',hs'⟩:=hrun i h4 g1
    rw[hs']at e1
    have:=Xcm e1
    simp only[Xcz]at this
    obtain⟨rfl,_⟩:=this
    exact hrout j g2 g3 R2 e2) L1 (A++N1) z a1 (by omega) (by grind)
  refine⟨L2,N1++N2,b1,fun o ho=>(Xaz.1 ho).elim (a1' o) (b1' o),by grind,by grind,fun p hp=>(Xaz.1 hp).elim (fun h=>Xbh _ (a4 p h)) (fun h=>Xbc _ (b4 p h)),fun p hp=>(Xaz.1 hp).elim (fun h=>Xbh _ (a5 p h)) (fun h=>Xbc _ (b5 p h)), ?_⟩
  rw[Zjm,Xar]at b6
  have hrec:vl e 12160 1 [.str (Zag 47 (D++ [x])),Zac S,objV L,objV A]=some (.tup [bl id1,objV L1,objV (A++N1)]):=by
   have hsk:=v.rskip (e:=e) S hS (D++ [x]) hD' (by omega) (entV []) (.str []) (objV L) (objV A) z32 a 0 (by omega) (fun i g1 g2=>by
    rintro⟨R',hR',hs'⟩
    exact hinv i (by omega) a (Xae _) (by omega) x R' R (by rw[hs'];simp) hs)
   rw[Xao]at hsk
   rw[w4 s.zq48_h0];unfold y.zq48_h0
   simp only[yy,Zf8]
   exact hsk.trans a6
  have hnl: ¬x=Zmo ls:=by
   intro hx
   rcases List.eq_nil_or_concat ls with rfl|⟨l0,y0,rfl⟩
   ·exact Zhn u3 hx
   ·rw[List.concat_eq_append,Zjm]at hx
    have hup:=hes.up
    rw[List.concat_eq_append,Xar,Xar]at hup
    have:=Xbs.1 hup
    have:=(Xby.1 this.2.1).1 ⟨x,true,id1⟩ (by simp)
    grind[Zcq]
  have hne: ¬x=Zag 47 (x::R):=fun h=>by
   have:=Zhj u3
   rw[h,Zct _ _ _ hR]at this
   exact this (by simp)
  have hjn:=v.rJoin2 (e:=e) (Zag 47 D) x (Zhn u3) (by omega) (by omega)
  rw[Zg6 hD]at hjn
  have hrr:=v.rrun (e:=e) S hS D hD (by omega) ls (by omega) x id1 (objV L1) (objV (A++N1)) z (k-1) (a+1) (by omega) (fun i g1 g2=>hrun i (by omega) (by omega))
  rw[show a+1+(k-1)=a+k by omega]at hrr
  have h40:vl e 12160 40 [.str (Zag 47 D),Zac S,entV ls, .str x,Zac S,I S.length,I a, .bool true,objV L,objV A,z]=some (.tup [bl id,objV L2,objV (A++(N1++N2))]):=by
   rw[w11 s.zq48_h0_40];unfold y.zq48_h0_40
   simp only[yy,Zj0,hjn,hrec,Zjp hid1,Zjb (x:=⟨x,true,id1⟩) hid1,Zkr (show ls.length+1<=Lim by grind[Lim]),Zai hlt (by omega)]
   grind
  rw[w10 s.zq48_h0_12];unfold y.zq48_h0_12
  simp only[yy,if_pos (show(a:Int)<(S.length:Int)by omega),Zc1 hlt,Zf5,Zb1,Zek,u1,u2,Zmt,Zch,if_neg hne,if_neg hnl]
  exact h40
end
end Go.Proofs.YtegmegbanfkomaaGreatDoor
namespace Go.Proofs.YtegmegbanfkomaaGreatDoor
open Go.Abs
set_option maxRecDepth 10000
variable {e:Ev}
theorem Z7v {l:List Fi}(h:whyB l=0):l.length<=512/\Zox l/\ ∀f∈l,f.2.length<=32768:=by
 grind[Z0m,whyB]
theorem v.rSortedOK (he:EnvT e){l S:List Fi}(hl:l.length<=1000000)(hb:∀f∈l,f.1.length<=1000000)(h0:whyB l=0)(hp:S.Perm l)(hS:SoOK S):vl e 124 0 [Zac l]=some (Zac S):=by
 obtain⟨R,r1,r2,r3⟩:=v.rSorted he l hl hb
 obtain⟨k1,k2,k3⟩:=Z7v h0
 have hR:SoOK R:=Z75 r2 ((Zrb r1).2 k2) (fun f hf=>k3 f (r1.mem_iff.1 hf)) (by rw[r1.length_eq];exact k1)
 grind[Zne]
theorem v.rBuild (he:EnvT e){l S:List Fi}(hl:l.length<=1000000)(hb:∀f∈l,f.1.length<=1000000/\f.2.length<=1000000000)(h0:whyB l=0)(hp:S.Perm l)(hS:SoOK S){id:Bytes}{p1 p2:MB}(ht:Tr S [] 0 S.length [] id p1 p2)(L A:List Obj)(hL:idL L)(h1:L.length+(p1.length+p2.length)<=100000)(h2:A.length+(p1.length+p2.length)<=100000):
  ∃L' N:List Obj,idL L'/\idL N/\N.length=p1.length+p2.length/\L'.length<=L.length+N.length/\(∀p∈p1,(⟨Za2,p.1,p.2⟩:Obj)∈N)/\(∀p∈p2,(⟨Zbl,p.1,p.2⟩:Obj)∈N)/\
   vl e 11392 1 [Zac l,objV L,objV A]=some (.tup [bl id,I 0,objV L',objV (A++N)]):=by
 obtain⟨L',N,q1,q2,q3,q4,q5,q6,q7⟩:=v.rbelow (e:=e) S hS ht (Xae _) (fun u hu=>by cases hu) (by simp[Zag]) (fun i _ hi=>⟨pS S i,Zaw _ _,rfl⟩) (fun i g1 g2=>by omega) (fun i g1=>by omega) L A z32 hL h1 h2
 have hw:=v.why (e:=e) l hl hb
 rw[h0]at hw
 have hid:id.length=32:=ht.ok hS
 have hbel:vl e 12160 1 [.str [],Zac S,objV L,objV A]=some (.tup [bl id,objV L',objV (A++N)]):=by
  rw[w4 s.zq48_h0];unfold y.zq48_h0
  simp only[yy,Zf8]
  exact q7
 refine⟨L',N,q1,q2,q3,q4,q5,q6, ?_⟩
 rw[w3 s.zq45_h0];unfold y.zq45_h0
 simp only[yy,hw,v.rSortedOK he hl (fun f hf=>(hb f hf).1) h0 hp hS,hbel,Zbc hid]
 rfl
theorem Z17 {l:List Obj}{i:Nat}(h:i<=l.length):evp (.slc 34 false true false) [objV l,I i]=some (objV (l.take i)):=by
 simp_all[Z0e]
section
variable (A:List Obj)(hA:idL A)(hAl:A.length<=1000000)
include hA hAl
theorem v.twice22 (i:Nat)(hi:i<A.length)(L:V):∀(n j:Nat),j+n=i->
  vl e 11408 22 [objV A,I A.length,I i,objV (A.take i),I i,I j,L,objV A,ov A[i]]=vl e 11408 8 [objV A,I A.length,I (i+1:Nat),L,objV A]/\(∀k (h:k<A.length),j<=k->k<i->A[i].kind=A[k].kind->A[i].id=A[k].id->A[i].data=A[k].data) \/
  vl e 11408 22 [objV A,I A.length,I i,objV (A.take i),I i,I j,L,objV A,ov A[i]]=some (.tup [.bool true,L,objV A]):=by
 intro n
 have hidi:=hA _ (Xam hi)
 induction n with
 |zero=>
  intro j hj
  have:j=i:=by omega
  subst this
  refine .inl ⟨?_,fun k _ h1 h2=>by omega⟩
  rw[w9 s.zq47_h0_22];unfold y.zq47_h0_22
  simp only[yy,if_neg (show ¬((j:Int)<(j:Int))by omega),Zai hi (by omega)]
 |succ n ih=>
  intro j hj
  have hlt:j<A.length:=by omega
  have hjt:j<(A.take i).length:=by grind
  have hidj:=hA _ (Xam hlt)
  have hg:=Zo0 hjt
  rw[List.getElem_take]at hg
  have hnx:=Zai (show j<i by omega) (by omega)
  have hih:=ih (j+1) (by omega)
  have ext:(A[i].kind=A[j].kind->A[i].id=A[j].id->A[i].data=A[j].data)->(∀k (h:k<A.length),j+1<=k->k<i->A[i].kind=A[k].kind->A[i].id=A[k].id->A[i].data=A[k].data)->(∀k (h:k<A.length),j<=k->k<i->A[i].kind=A[k].kind->A[i].id=A[k].id->A[i].data=A[k].data):=by
   grind
  rw[w9 s.zq47_h0_22];unfold y.zq47_h0_22
  by_cases hk:A[i].kind=A[j].kind
  ·by_cases hd:A[i].id=A[j].id
   ·by_cases hx:A[i].data=A[j].data
    ·simp only[yy,if_pos (show(j:Int)<(i:Int)by omega),hg,Zn8 hidj,Zh0 hidj,Zo8,if_pos hk,Zh2 hidi,Zh2 hidj,Zv4 hidi hidj,if_pos hd,Zq0 hidi,Zq0 hidj,if_pos hx,hnx]
     grind
    ·right
     simp only[yy,if_pos (show(j:Int)<(i:Int)by omega),hg,Zn8 hidj,Zh0 hidj,Zo8,if_pos hk,Zh2 hidi,Zh2 hidj,Zv4 hidi hidj,if_pos hd,Zq0 hidi,Zq0 hidj,if_neg hx]
   ·simp only[yy,if_pos (show(j:Int)<(i:Int)by omega),hg,Zn8 hidj,Zh0 hidj,Zo8,if_pos hk,Zh2 hidi,Zh2 hidj,Zv4 hidi hidj,if_neg hd,hnx]
    grind
  ·simp only[yy,if_pos (show(j:Int)<(i:Int)by omega),hg,Zn8 hidj,Zh0 hidj,Zo8,if_neg hk,hnx]
   grind
theorem v.twice8 (L:V):∀(n i:Nat),i+n=A.length-> ∃t:Bool,vl e 11408 8 [objV A,I A.length,I i,L,objV A]=some (.tup [.bool t,L,objV A])/\(t=false-> ∀j (h:j<A.length),i<=j-> ∀k (h':k<A.length),k<j->A[j].kind=A[k].kind->A[j].id=A[k].id->A[j].data=A[k].data):=by
 intro n
 induction n with
 |zero=>
  intro i hi
  refine⟨false, ?_,fun _ j h1 h2=>by omega⟩<;>grind[w5 s.zq47_h0_8,yy,y.zq47_h0_8]
 |succ n ih=>
  intro i hi
  have hlt:i<A.length:=by omega
  have hid:=hA _ (Xam hlt)
  have hl:evp (.len false) [objV (A.take i)]=some (I i):=by grind[Zzr]
  rw[w5 s.zq47_h0_8];unfold y.zq47_h0_8
  simp only[yy,if_pos (show(i:Int)<(A.length:Int)by omega),Zo0 hlt,Zn8 hid,Zh0 hid,Z17 (show i<=A.length by omega),hl]
  rcases v.twice22 (e:=e) A hA hAl i hlt L i 0 (Xao _)with⟨h1,h2⟩|h1
  ·obtain⟨t,t1,t2⟩:=ih (i+1) (by omega)
   grind
  grind
end
theorem Zvj {A:List Obj}(h:∀j (h:j<A.length), ∀k (h':k<A.length),k<j->A[j].kind=A[k].kind->A[j].id=A[k].id->A[j].data=A[k].data)(K:Bytes)(P:MB)(hP:∀p∈P,(⟨K,p.1,p.2⟩:Obj)∈A):Cons P:=by
 intro p hp q hq hpq
 grind[List.mem_iff_getElem]
end Go.Proofs.YtegmegbanfkomaaGreatDoor
namespace Go.Proofs.YtegmegbanfkomaaGreatDoor
open Go.Abs
set_option maxRecDepth 10000
variable {e:Ev}
theorem Zoq (k x c:Bytes):∀M:MB,getM (putM M k x) c=if c=k then some x else getM M c
 | []=>rfl
 |p::r=>by
  unfold putM
  by_cases h:k=p.1
  ·rw[if_pos h]
   show(if c=k then some x else getM r c)=_
   by_cases hc:c=k
   ·rw[if_pos hc,if_pos hc]
   ·rw[if_neg hc,if_neg hc]
    show _=if c=p.1 then some p.2 else getM r c
    rw[if_neg (by rw[<-h];exact hc)]
  ·rw[if_neg h]
   show(if c=p.1 then some p.2 else getM (putM r k x) c)=_
   rw[Zoq k x c r]
   by_cases hc:c=k
   ·rw[if_pos hc,if_pos hc,if_neg (by rw[hc];exact h)]
   ·rw[if_neg hc,if_neg hc];rfl
theorem Zm4 {k x:Bytes}:∀{P M:MB},(∀q∈P,q.1=k->q.2=x)->(getM M k=some x \/ ∃q∈P,q.1=k)->getM (Zd3 P M) k=some x
 | [],M,_,h=>h.elim id fun⟨q,hq,_⟩=>by cases hq
 |q::r,M,h1,h2=>by
  show getM (Zd3 r (putM M q.1 q.2)) k=_
  refine Zm4 (fun p hp=>h1 p (Xbb _ hp)) ?_
  rw[Zoq]
  by_cases hk:k=q.1
  ·left;rw[if_pos hk,h1 q Xdc hk.symm]
  ·rw[if_neg hk]
   rcases h2 with h2|⟨p,hp,hpk⟩
   ·exact .inl h2
   ·rcases Xap.1 hp with rfl|hp
    ·exact absurd hpk.symm hk
    ·exact .inr ⟨p,hp,hpk⟩
theorem Zrw {P:MB}(c:Cons P){q:Bytes×Bytes}(hq:q∈P)(M:MB):getM (Zd3 P M) q.1=some q.2:=
 Zm4 (fun p hp h=>c p hp q hq h) (.inr ⟨q,hq,rfl⟩)
abbrev Inp :=Bytes×Bytes
def iv (x:Inp):V:= .agg (.str x.1::x.2.map byteV)
abbrev inpV (l:List Inp):V:= .sl false 33 (l.map iv)
theorem Zft {x:Inp}(h:x.2.length=32):(iv x).cells.length=33/\(iv x).cells.all V.sc=true:=by
 grind[iv,V.cells,byteV,V.sc]
theorem Z6z {x:Inp}(h:x.2.length=32):evp (.bsl 33) [iv x]=some (inpV [x]):=by
 obtain⟨hl,hs⟩:=Zft h
 have:fits 33 [iv x]=true:=by simp_all
 show(if fits 33 [iv x]then some (V.sl false 33 [iv x])else none)=_
 rw[this];rfl
theorem Z6i {l m:List Inp}(h:l.length+m.length<=Lim):evp (.app 33) [inpV l,inpV m]=some (inpV (l++m)):=by
 simp_all[Zl1]
theorem Z0w {x:En}(h:x.id.length=32):evp (.ld (some 32) 2) [ev x]=some (bl x.id):=by
 show Zak (some 32) (ev x).cells 2=_
 simp only[Zak]
 rw[if_pos (by grind[Znl])]
 show some (V.agg ((x.id.map byteV).take 32))=_
 grind[List.take_of_length_le]
def fOut (S:List Fi)(i:Nat):Inp:=((S.getD i ([],[])).1,Zar Za2 (S.getD i ([],[])).2)
def outs (S:List Fi)(a b:Nat):List Inp:=(List.range' a (b-a)).map (fOut S)
theorem Zxa (S:List Fi)(a:Nat):outs S a a=[]:=by simp[outs]
theorem Zu9 {S:List Fi}{a b:Nat}(h:a<b):outs S a b=fOut S a::outs S (a+1) b:=by
 unfold outs
 rw[show b-a=(b-(a+1))+1 by omega,Xd1];rfl
theorem Zx2 {S:List Fi}{a m b:Nat}(h1:a<=m)(h2:m<=b):outs S a b=outs S a m++outs S m b:=by
 unfold outs
 rw[<-Xel]
 have:=List.range'_append_1 (s:=a) (m:=m-a) (n:=b-m)
 grind
theorem Zlr (S:List Fi)(a b:Nat):(outs S a b).length=b-a:=by simp[outs]
theorem v.TreeS (he:EnvT e){M2:MB}(hM:keyL M2)(m1 m3:V){id:Bytes}(hid:id.length=32){l:List En}(hl:EnOK l)(hg:getM M2 id=some (Za8 l)):vl e 12384 1 [bl id,m1,mv M2,m3]=some (.tup [entV l,I 0,m1,mv M2,m3]):=by
 have h1:=Z67 (M:=M2) (k:=id) hM hid
 simp_all[w4 s.zq56_h0,yy,Zn4,Ztq,v.getTree,y.zq56_h0]
theorem v.walk1 (he:EnvT e){M2:MB}(hM:keyL M2)(m1 m3 at_ out left:V){id:Bytes}(hid:id.length=32){l:List En}(hl:EnOK l)(hg:getM M2 id=some (Za8 l)){lvl:Nat}(hlv:lvl<=16):
  vl e 11712 1 [at_,bl id,I lvl,out,left,m1,mv M2,m3]=vl e 11712 26 [at_,I lvl,entV l,I l.length,I (0:Nat),out,left,m1,mv M2,m3]:=by
 rw[w8 s.zq58_h0];unfold y.zq58_h0
 simp only[yy,Zn4,Ztq hid,if_neg (show ¬(16:Int)<(lvl:Int)by omega),v.TreeS he hM m1 m3 hid hl hg,Zm1]
 rfl
theorem Tr.walk (he:EnvT e){S:List Fi}(hS:SoOK S){M2:MB}(hM:keyL M2)(m1 m3:V){D:List Bytes}{a b:Nat}{ls:List En}{id:Bytes}{p1 p2:MB}(h:Tr S D a b ls id p1 p2):
  (∀q∈p2,getM M2 q.1=some q.2)->b<=S.length->(∀u∈D,Zbe u=true)->(Zag 47 D).length<=128->
  ∃es,EnOK (ls++es)/\getM M2 id=some (Za8 (ls++es))/\a<=b/\ ∀(out:List Inp) (left:Nat),p1.length+p2.length<=left+1->left<=5000->out.length+(b-a)<=100000->
   vl e 11712 26 [.str (Zag 47 D),I (D.length+1:Nat),entV (ls++es),I (ls++es).length,I ls.length,inpV out,I left,m1,mv M2,m3]=
    some (.tup [I 0,inpV (out++outs S a b),I (left+1-(p1.length+p2.length):Nat),m1,mv M2,m3]):=by
 induction h with
 | @done D a ls hok=>
  intro hg hb hD hjl
  refine⟨[],by grind,by simp_all,Xae _,fun out left h1 h2 h3=> ?_⟩
  rw[Xax,Zxa,Xax,w10 s.zq58_h0_26];unfold y.zq58_h0_26
  simp only[yy,if_neg (show ¬((ls.length:Int)<(ls.length:Int))by omega)]
  rfl
 | @blob D a b ls x id p1 p2 hab hx h ih=>
  intro hg hb hD hjl
  obtain⟨es,q1,q2,q3,q4⟩:=ih hg hb hD hjl
  have hlt:a<S.length:=by omega
  have hpa:=Zg3 S hS hlt
  rw[hx]at hpa
  have hxp:Zbe x=true:=hpa x (by simp)
  have hpl:=Zej S hS hlt
  have hxl:x.length<=128:=by
   have:=Zay 47 (show x∈Zad 47 (S.getD a ([],[])).1 by grind[pS])
   omega
  have e0:ls++⟨x,false,Zar Za2 (S.getD a ([],[])).2⟩::es=(ls++ [⟨x,false,Zar Za2 (S.getD a ([],[])).2⟩])++es:=by simp
  refine⟨⟨x,false,Zar Za2 (S.getD a ([],[])).2⟩::es,by grind,by grind,by omega,fun out left h1 h2 h3=> ?_⟩
  obtain⟨_,f1,f2⟩:=h.fin
  have hp2:0<p2.length:=Xdt f2
  simp only[Xaq]at h1
  have hn:=Zah Za2 (S.getD a ([],[])).2
  have hq:=q4 (out++ [fOut S a]) (left-1) (by omega) (by omega) (by simp;omega)
  rw[show(out++ [fOut S a])++outs S (a+1) b=out++outs S a b by grind[Zu9]]at hq
  rw[e0]
  have hll:ls.length<((ls++ [(⟨x,false,Zar Za2 (S.getD a ([],[])).2⟩:En)])++es).length:=by simp
  have hge:=Zf9 hll
  have hat:((ls++ [(⟨x,false,Zar Za2 (S.getD a ([],[])).2⟩:En)])++es)[ls.length]=⟨x,false,Zar Za2 (S.getD a ([],[])).2⟩:=by
   grind
  rw[hat]at hge
  have hle:evp (.ld (some 34) 0) [ev ⟨x,false,Zar Za2 (S.getD a ([],[])).2⟩]=some (ev ⟨x,false,Zar Za2 (S.getD a ([],[])).2⟩):=Zo2 hn
  have hce:evp (.cat [some 34]) [ev ⟨x,false,Zar Za2 (S.getD a ([],[])).2⟩]=some (ev ⟨x,false,Zar Za2 (S.getD a ([],[])).2⟩):=Zh3 hn
  have hie:evp (.ld (some 32) 2) [ev ⟨x,false,Zar Za2 (S.getD a ([],[])).2⟩]=some (bl (Zar Za2 (S.getD a ([],[])).2)):=Z0w hn
  have hjn:=v.Join2 he (Zag 47 D) x (Zhn hxp) (by omega) (by omega)
  rw[Zg6 hD]at hjn
  have hpath:Zag 47 (D++ [x])=(S.getD a ([],[])).1:=by rw[<-hx];exact Zbb 47 _
  rw[hpath]at hjn
  have hp1:IntKind.i64.wrap ((left:Int)-1)=((left-1:Nat):Int):=Zi1 (by omega) (by omega)
  have hnx:IntKind.i64.wrap ((ls.length:Int)+1)=((ls++ [(⟨x,false,Zar Za2 (S.getD a ([],[])).2⟩:En)]).length:Int):=by
   rw[Xaf,Xch]
   have:=q1.len
   grind[Zai]
  rw[w10 s.zq58_h0_26];unfold y.zq58_h0_26
  simp only[yy,if_pos (show(ls.length:Int)<(((ls++ [(⟨x,false,Zar Za2 (S.getD a ([],[])).2⟩:En)])++es).length:Int)by omega),hge,hle,hce,if_neg (show ¬(left:Int)=0 by omega),hp1,Zly,Zj0,hjn,Zpn,hie,Zuf hn,hnx]
  rw[show V.agg (.str (S.getD a ([],[])).1::(Zar Za2 (S.getD a ([],[])).2).map byteV)=iv (fOut S a)from rfl]
  simp only[yy,Z6z (x:=fOut S a) hn,Z6i (l:=out) (m:=[fOut S a]) (by grind[Lim])]
  rw[hq]
  simp only[Xaq]
  congr 6
  omega
 | @dir D a b k ls x id id1 p1 p2 r1 r2 hk hkb hrun hstop h1 h2 ih1 ih2=>
  intro hg hb hD hjl
  have hlt:a<S.length:=by omega
  obtain⟨R,hR,hs⟩:=hrun a (Xae _) (by omega)
  have hpa:=Zg3 S hS hlt
  rw[hs]at hpa
  have hxp:Zbe x=true:=hpa x (by simp)
  have hpl:=Zej S hS hlt
  have hxl:x.length<=128:=by
   have:=Zay 47 (show x∈Zad 47 (S.getD a ([],[])).1 by grind[pS])
   omega
  have hD':∀u∈D++ [x],Zbe u=true:=fun u hu=>(Xaz.1 hu).elim (hD u) (fun h=>by grind)
  have hjl':(Zag 47 (D++ [x])).length<=128:=by
   have hj:=Zbb 47 (S.getD a ([],[])).1
   rw[<-pS,hs,show D++x::R=(D++ [x])++R by simp,Zdi 47 (D++ [x]) R (by simp) hR]at hj
   grind
  have h16:D.length+2<=16:=by
   have hgd:=hS.good _ (Xam hlt)
   simp only[Zco,Xai,decide_eq_true_eq]at hgd
   grind[List.length_pos_iff,pS]
  obtain⟨es1,u1,u2,u3,u4⟩:=ih1 (fun q hq=>hg q (Xbh _ hq)) (by omega) hD' hjl'
  obtain⟨es,q1,q2,q3,q4⟩:=ih2 (fun q hq=>hg q (Xbc _ hq)) hb hD hjl
  rw[Xbl]at u1 u2 u4
  have hn:id1.length=32:=h1.ok hS
  have e0:ls++⟨x,true,id1⟩::es=(ls++ [⟨x,true,id1⟩])++es:=by simp
  refine⟨⟨x,true,id1⟩::es,by grind,by grind,by omega,fun out left g1 g2 g3=> ?_⟩
  obtain⟨_,_,f2⟩:=h1.fin
  obtain⟨_,_,f4⟩:=h2.fin
  have hp2:0<p2.length:=Xdt f2
  have hr2:0<r2.length:=Xdt f4
  simp only[Xaf]at g1
  have hq1:=u4 out (left-1) (by omega) (by omega) (by omega)
  have hq:=q4 (out++outs S a (a+k)) (left-1+1-(p1.length+p2.length)) (by omega) (by omega) (by rw[Xaf,Zlr];omega)
  rw[show(out++outs S a (a+k))++outs S (a+k) b=out++outs S a b by grind[Zx2]]at hq
  rw[e0]
  have hll:ls.length<((ls++ [(⟨x,true,id1⟩:En)])++es).length:=by simp
  have hge:=Zf9 hll
  have hat:((ls++ [(⟨x,true,id1⟩:En)])++es)[ls.length]=⟨x,true,id1⟩:=by
   rw[Xb7 (by simp)];simp
  rw[hat]at hge
  have hle:evp (.ld (some 34) 0) [ev ⟨x,true,id1⟩]=some (ev ⟨x,true,id1⟩):=Zo2 hn
  have hce:evp (.cat [some 34]) [ev ⟨x,true,id1⟩]=some (ev ⟨x,true,id1⟩):=Zh3 hn
  have hie:evp (.ld (some 32) 2) [ev ⟨x,true,id1⟩]=some (bl id1):=Z0w hn
  have hjn:=v.Join2 he (Zag 47 D) x (Zhn hxp) (by omega) (by omega)
  rw[Zg6 hD]at hjn
  have hp1:IntKind.i64.wrap ((left:Int)-1)=((left-1:Nat):Int):=Zi1 (by omega) (by omega)
  have hlv1:IntKind.i64.wrap (((D.length+1:Nat):Int)+1)=(((D++ [x]).length+1:Nat):Int):=by
   rw[Xaf,Xch]
   exact Zai (show D.length+1<64 by omega) (by decide)
  have hnx:IntKind.i64.wrap ((ls.length:Int)+1)=((ls++ [(⟨x,true,id1⟩:En)]).length:Int):=by
   rw[Xaf,Xch]
   have:=q1.len
   grind[Zai]
  have hrec:vl e 11712 1 [.str (Zag 47 (D++ [x])),bl id1,I ((D++ [x]).length+1:Nat),inpV out,I (left-1:Nat),m1,mv M2,m3]=some (.tup [I 0,inpV (out++outs S a (a+k)),I (left-1+1-(p1.length+p2.length):Nat),m1,mv M2,m3]):=by
   rw[v.walk1 he hM m1 m3 _ _ _ hn u1 u2 (by simp;omega)]
   exact hq1
  rw[w10 s.zq58_h0_26];unfold y.zq58_h0_26
  simp only[yy,if_pos (show(ls.length:Int)<(((ls++ [(⟨x,true,id1⟩:En)])++es).length:Int)by omega),hge,hle,hce,if_neg (show ¬(left:Int)=0 by omega),hp1,Zly,Zj0,hjn,Zpn,hie,hlv1,hrec,hnx]
  rw[hq,show left-1+1-(List.length p1+List.length p2)+1-(List.length r1+List.length r2)=left+1-(List.length (p1++r1)+List.length (p2++r2))by simp only[Xaf];omega]
  grind
theorem Tr.blobs {S:List Fi}{D:List Bytes}{a b:Nat}{ls:List En}{id:Bytes}{p1 p2:MB}(h:Tr S D a b ls id p1 p2):∀i,a<=i->i<b->(Zar Za2 (S.getD i ([],[])).2,(S.getD i ([],[])).2)∈p1:=by
 induction h<;>grind
theorem v.FilesS (he:EnvT e){S:List Fi}(hS:SoOK S){M2:MB}(hM:keyL M2)(m1 m3:V){id:Bytes}{p1 p2:MB}(h:Tr S [] 0 S.length [] id p1 p2)(hg:∀q∈p2,getM M2 q.1=some q.2)(hl:p1.length+p2.length<=4097):
  vl e 10864 1 [bl id,m1,mv M2,m3]=some (.tup [inpV (outs S 0 S.length),I 0,m1,mv M2,m3]):=by
 obtain⟨es,u1,u2,u3,u4⟩:=h.walk he hS hM m1 m3 hg (Xae _) (fun u hu=>by cases hu) (by simp[Zag])
 have hid:=h.ok hS
 have hsl:=hS.len
 rw[Xbl]at u1 u2 u4
 have hw:vl e 11712 1 [.str [],bl id, .int .i64 1, .sl false 33 [], .int .i64 4096,m1,mv M2,m3]=some (.tup [I 0,inpV ([]++outs S 0 S.length),I (4096+1-(p1.length+p2.length):Nat),m1,mv M2,m3]):=by
  rw[<-u4 [] 4096 (by omega) (by omega) (by simp;omega)]
  exact v.walk1 he hM m1 m3 _ _ _ hid u1 u2 (lvl:=1) (by omega)
 simp_all[w4 s.zq53_h0,yy,Zn4,Ztq,y.zq53_h0]
end Go.Proofs.YtegmegbanfkomaaGreatDoor
namespace Go.Proofs.YtegmegbanfkomaaGreatDoor
open Go.Abs
set_option maxRecDepth 10000
variable {e:Ev}
theorem v.clash1 (he:EnvT e){a Sa:List Fi}(ha:a.length<=1000000/\ ∀f∈a,f.1.length<=1000000/\f.2.length<=1000000000)(wa:whyB a=0)(hpa:Sa.Perm a)(hSa:SoOK Sa)
  {id:Bytes} {p1 p2:MB} (ta:Tr Sa [] 0 Sa.length [] id p1 p2) (hla:p1.length+p2.length<=20000):
  ∃t:Bool,vl e 42 0 [.sl false 1 [Zac a]]=some (.bool t)/\(t=false->Cons p1/\Cons p2):=by
 obtain⟨L1,N1,a1,a2,a3,a4,a5,a6,a7⟩:=v.rBuild he ha.1 ha.2 wa hpa hSa ta [] [] (fun _ h=>by cases h) (by simp;omega) (by simp;omega)
 rw[Xbl]at a7
 obtain⟨t,t1,t2⟩:=v.twice8 (e:=e) N1 a2 (by omega) (objV L1) N1.length 0 (Xao _)
 have g0:evp (.elem 1) [.sl false 1 [Zac a], .int .i64 0]=some (Zac a):=rfl
 have gl:∀l:List Fi,evp (.ld none 0) [Zac l]=some (Zac l):=fun _=>rfl
 have c1:vl e 42 10 [.sl false 1 [Zac a], .int .i64 1, .int .i64 1,objV L1,objV N1]=some (.bool t):=by
  have hT:vl e 11408 1 [objV L1,objV N1]=some (.tup [.bool t,objV L1,objV N1]):=by
   simp_all[w2 s.zq47_h0,yy,y.zq47_h0]
  rw[w5 s.zq81_10];simp_all[yy,y.zq81_10]
 have c0:vl e 42 10 [.sl false 1 [Zac a], .int .i64 1, .int .i64 0,objV [],objV []]=some (.bool t):=by
  have l1:evp (.bin .lss .no) [.int .i64 0, .int .i64 1]=some (.bool true):=rfl
  have l2:evp (.bin .add .no) [.int .i64 0, .int .i64 1]=some (.int .i64 1):=rfl
  rw[w5 s.zq81_10];simp_all[yy,y.zq81_10]
 refine⟨t, ?_,fun ht=> ?_⟩
 ·rw[w1 s.zq81];unfold y.zq81
  exact c0
 ·have hall:=fun j hj k hk=>t2 ht j hj (Xbz _) k hk
  exact⟨Zvj hall Za2 _ a5,Zvj hall Zbl _ a6⟩
theorem v.BlobS {M1:MB}(hM:keyL M1)(m2 m3:V){id d:Bytes}(hid:id.length=32)(hg:getM M1 id=some d):vl e 10912 1 [bl id,mv M1,m2,m3]=some (.tup [.str d,I 0,mv M1,m2,m3]):=by
 simp_all[Z67,w4 s.zq50_h0,yy,Zn4,Ztq,y.zq50_h0]
theorem Z4q {l:List Inp}{i:Nat}(h:i<l.length):evp (.elem 33) [inpV l,I i]=some (iv l[i]):=Zf6 (by simp[h])
theorem Z7m {l:List Inp}:evp (.len false) [inpV l]=some (I l.length):=by rw[inpV,Zsr,Xb2]
theorem Z44 {x:Inp}(h:x.2.length=32):evp (.ld (some 33) 0) [iv x]=some (iv x):=by
 show Zak (some 33) (iv x).cells 0=_
 simp only[Zak]
 rw[if_pos (by grind[Zft]),Xbq,Xa1 (by grind[Zft])];rfl
theorem Z2y {x:Inp}(h:x.2.length=32):evp (.cat [some 33]) [iv x]=some (iv x):=by
 show(catV [some 33] [iv x]).map V.agg=_
 simp only[catV]
 rw[if_pos ⟨(Zft h).1,(Zft h).2⟩]
 simp only[Xay,Xax];rfl
theorem Z60 {x:Inp}:evp (.ld none 0) [iv x]=some (.str x.1):=rfl
theorem Z4k {x:Inp}(h:x.2.length=32):evp (.ld (some 32) 1) [iv x]=some (bl x.2):=by
 show Zak (some 32) (iv x).cells 1=_
 simp only[Zak]
 rw[if_pos (by grind[Zft])]
 show some (V.agg ((x.2.map byteV).take 32))=_
 grind[List.take_of_length_le]
end Go.Proofs.YtegmegbanfkomaaGreatDoor
namespace Go.Proofs.YtegmegbanfkomaaGreatDoor
open Go.Abs
set_option maxRecDepth 20000
variable {e:Ev}
abbrev SM :=List (Bytes×V)
def mkS (p:Bytes×V):V×V:=(.str p.1,p.2)
abbrev mS (M:SM):V:=mpV (M.map mkS)
abbrev qS :KK:=(false,[(none,true)])
def putS :SM->Bytes->V->SM
 | [],k,x=> [(k,x)]
 |p::r,k,x=>if k=p.1 then(k,x)::r else p::putS r k x
def getS :SM->Bytes->Option V
 | [],_=>none
 |p::r,k=>if k=p.1 then some p.2 else getS r k
theorem Zg7 (x z:Bytes):Zdr qS (.str x) (.str z)=some (decide (x=z)):=by
 simp_all[Zdr]
theorem Z0j {k:Bytes}{x:V}:∀{M:SM},mPut qS (.str k) x (M.map mkS)=some ((putS M k x).map mkS)
 | []=>rfl
 |p::r=>by
  have ih:=Z0j (k:=k) (x:=x) (M:=r)
  simp only[Xan,mPut,putS,mkS]at ih⊢
  rw[Zg7,Xaw]
  by_cases he:k=p.1
  ·rw[if_pos (decide_eq_true he),if_pos he];rfl
  ·rw[if_neg (by simpa using he),if_neg he,ih];rfl
theorem Zu2 {k:Bytes}:∀{M:SM},Ze3 qS (.str k) (M.map mkS)=some (getS M k)
 | []=>rfl
 |p::r=>by
  have ih:=Zu2 (k:=k) (M:=r)
  simp only[Xan,Ze3,getS,mkS]at ih⊢
  rw[Zg7,Xaw]
  by_cases he:k=p.1
  ·rw[if_pos (decide_eq_true he),if_pos he]
  ·rw[if_neg (by simpa using he),if_neg he,ih]
theorem Z6h {M:SM}{k:Bytes}{x:V}:evp (.mup qS) [mS M, .str k,x]=some (mS (putS M k x)):=by
 show Zsz qS (mS M) (.str k) x=_
 grind[Zle,Zg7,Z0j,Zsz]
theorem Zoa {M:SM}{k:Bytes}{z:V}:evp (.mlk qS z true) [mS M, .str k]=some (.tup [(getS M k).getD z, .bool (getS M k).isSome]):=by
 show Ztj qS z true (mS M) (.str k)=_
 grind[Zle,Zg7,Zu2,Ztj]
def goMod :Bytes:=[103,111,46,109,111,100]
def Zg4 (pm:Bytes->V)(S:List Fi)(M:SM):SM:=S.foldl (fun M f=>if Za7 f.1=goMod then putS M (dirB f.1) (pm f.2)else M) M
def Zh1 (S:List Fi)(M:SM):SM:=S.foldl (fun M f=>if isW (Za7 f.1)=true then putS M (dirB f.1) (.bool true)else M) M
theorem Zy0 {S:List Fi}{i:Nat}(h:i<(outs S 0 S.length).length):(outs S 0 S.length)[i]=fOut S i:=by
 simp[outs]
section
variable (he:EnvT e){S:List Fi}(hS:∀f∈S,f.1.length<=1000000)(hn:S.length<=1000000){M1:MB}(hM1:keyL M1)(hg1:∀i,i<S.length->getM M1 (Zar Za2 (S.getD i ([],[])).2)=some (S.getD i ([],[])).2)(m2 m3:V)
 (pm:Bytes->V) (hpm:∀f∈S,Za7 f.1=goMod->vl e 58 0 [.str f.2]=some (pm f.2))
include he hS hn hM1 hg1 hpm
theorem v.New20 :∀(n i:Nat) (mods dirs:SM),i+n=S.length->vl e 10352 20 [inpV (outs S 0 S.length),I S.length,I i,mv M1,m2,m3,inpV (outs S 0 S.length),mS mods,mS dirs]=
  some (.tup [I 1,I 0,mv M1,m2,m3,inpV (outs S 0 S.length),mS (Zg4 pm (S.drop i) mods),mS (Zh1 (S.drop i) dirs)])
 |0,i,mods,dirs,hi=>by
  rw[w9 s.zq33_h0_20];unfold y.zq33_h0_20
  simp only[yy,if_neg (show ¬(i:Int)<(S.length:Int)by omega),Xda (show S.length<=i by omega)]
  rfl
 |n+1,i,mods,dirs,hi=>by
  have hlt:i<S.length:=by omega
  have hlo:i<(outs S 0 S.length).length:=by grind[Zlr]
  have hf:S.getD i ([],[])=S[i]:=Zbg hlt
  have hm:S[i]∈S:=Xam hlt
  have hd:=hS _ hm
  have x1:=Z4q hlo
  rw[Zy0 hlo]at x1
  have hx2:(fOut S i).2.length=32:=Zah _ _
  have hx1:(fOut S i).1=S[i].1:=by grind[fOut]
  have ep:evp (.ld none 0) [iv (fOut S i)]=some (.str S[i].1):=by rw[Z60,hx1]
  have hb:=hg1 i hlt
  rw[hf]at hb
  have ei:evp (.ld (some 32) 1) [iv (fOut S i)]=some (bl (Zar Za2 S[i].2)):=by grind[Z4k,fOut]
  have hblob:=v.BlobS (e:=e) hM1 m2 m3 (id:=Zar Za2 S[i].2) (Zah _ _) hb
  obtain⟨t,o,a,hof⟩:=v.Of he (Za7 S[i].1) (Xba (Zmn _) hd)
  have ef:evp (.fld none 0) [nmV (isW (Za7 S[i].1)) t o a]=some (.bool (isW (Za7 S[i].1))):=rfl
  have eg:V.str [103,111,46,109,111,100]= .str goMod:=rfl
  have ih:=v.New20 n (i+1) (if Za7 S[i].1=goMod then putS mods (dirB S[i].1) (pm S[i].2)else mods) (if isW (Za7 S[i].1)=true then putS dirs (dirB S[i].1) (.bool true)else dirs) (by omega)
  rw[Xah hlt]
  rw[show Zg4 pm (S[i]::S.drop (i+1)) mods=Zg4 pm (S.drop (i+1)) (if Za7 S[i].1=goMod then putS mods (dirB S[i].1) (pm S[i].2)else mods)from rfl,
   show Zh1 (S[i]::S.drop (i+1)) dirs=Zh1 (S.drop (i+1)) (if isW (Za7 S[i].1)=true then putS dirs (dirB S[i].1) (.bool true)else dirs)from rfl]
  rw[<-ih,w9 s.zq33_h0_20];unfold y.zq33_h0_20
  rw[eg]
  simp only[yy,if_pos (show(i:Int)<(S.length:Int)by omega),x1,Z44 hx2,Z2y hx2,ep,v.Dir (e:=e) S[i].1 (by omega),v.Base (e:=e) S[i].1 (by omega),hof,ef,Zai (show i<S.length by omega) (by omega),ei,hblob,Z6h]
  cases hw:isW (Za7 S[i].1)with
  |true=>
   by_cases hgm:Za7 S[i].1=goMod
   ·simp only[yy,hpm _ hm hgm,if_pos hgm]
    grind
   simp_all[yy]
  |false=>
   by_cases hgm:Za7 S[i].1=goMod
   ·simp only[yy,hpm _ hm hgm,if_pos hgm]
    simp
   simp_all[yy]
end
end Go.Proofs.YtegmegbanfkomaaGreatDoor
namespace Go.Proofs.YtegmegbanfkomaaGreatDoor
open Go.Abs
set_option maxRecDepth 20000
variable {e:Ev}
structure Made (a S:List Fi)(id:Bytes)(p1 p2:MB):Prop where
 perm:S.Perm a
 ok:SoOK S
 tr:Tr S [] 0 S.length [] id p1 p2
 c1:Cons p1
 c2:Cons p2
 why:whyB a=0
 len:a.length<=1000
 sz:∀f∈a,f.1.length<=1000000/\f.2.length<=1000000000
theorem Made.size {a S:List Fi}{id:Bytes}{p1 p2:MB}(h:Made a S id p1 p2)(hl:S.length<=200):p1.length+p2.length<=4097:=by
 have k1:=(Zzt h.tr).2
 have k2:=Zvd (fun i hi=>by
  have:=h.ok.good _ (Xam hi)
  simp only[Zco,Xai,decide_eq_true_eq]at this
  unfold pS;rw[Zbg hi];exact this.1.2) h.tr (Xae _) (fun i _ hi=>by
   have:=Xal.2 (Zaw 47 (S.getD i ([],[])).1)
   simpa[pS]using this)
 simp only[Xa2]at k2
 omega
theorem v.clashM (he:EnvT e)(a:List Fi)(hl:a.length<=200)(hb:∀f∈a,f.1.length<=1000000/\f.2.length<=1000000000)(h1:whyB a=0):
  ∃t:Bool,vl e 42 0 [.sl false 1 [Zac a]]=some (.bool t)/\(t=false-> ∃S id p1 p2,Made a S id p1 p2):=by
 obtain⟨id,p1,p2,a1,a2,a3,a4,a5,a6⟩:=v.Build he a (by omega) hb
 obtain⟨Sa,pa,oa,ta⟩:=a5 h1
 have hlen:Sa.length=a.length:=pa.length_eq
 have size:p1.length+p2.length<=4097:=by
  have k1:=(Zzt ta).2
  have k2:=Zvd (fun i hi=>by
   have:=oa.good _ (Xam hi)
   simp only[Zco,Xai,decide_eq_true_eq]at this
   unfold pS;rw[Zbg hi];exact this.1.2) ta (Xae _) (fun i _ hi=>by
    have:=Xal.2 (Zaw 47 (Sa.getD i ([],[])).1)
    simpa[pS]using this)
  simp only[Xa2]at k2
  omega
 obtain⟨t,c1,c2⟩:=v.clash1 he ⟨by omega,hb⟩ h1 pa oa ta (by omega)
 exact⟨t,c1,fun ht=>⟨Sa,id,p1,p2,pa,oa,ta,(c2 ht).1,(c2 ht).2,h1,by omega,hb⟩⟩
theorem v.odds (he:EnvT e)(a:List Fi)(ha:a.length<=1000000000/\ ∀f∈a,f.1.length<=1000000000/\f.2.length<=1000000000)(q:Nat)(hq:q<=100):
  ∃g:Bool,vl e 40 0 [Zac a,I q, .int .i64 4096]=some (.bool g)/\(g=false->vl e 41 0 [Zac a]=some (I (whyB a))/\
   (whyB a=0-> ∃t:Bool,vl e 42 0 [.sl false 1 [Zac a]]=some (.bool t)/\(t=false->a.length<=q/\(∀f∈a,f.1.length+f.2.length<=4096)/\ ∃S id p1 p2,Made a S id p1 p2))):=by
 obtain⟨g1,hg1,hs1⟩:=v.great (e:=e) a ha.1 ha.2 q 4096 (by omega)
 refine⟨g1,hg1,fun hg=> ?_⟩
 obtain⟨la,ba⟩:=Z9r (hs1 hg).1 (by omega) (hs1 hg).2
 refine⟨v.why (e:=e) a la ba,fun h1=> ?_⟩
 obtain⟨t,t1,t2⟩:=v.clashM he a (by have:=(hs1 hg).1;omega) ba h1
 exact⟨t,t1,fun ht=>⟨(hs1 hg).1,(hs1 hg).2,t2 ht⟩⟩
theorem v.NewS (he:EnvT e){a S:List Fi}{id:Bytes}{p1 p2:MB}(h:Made a S id p1 p2)(hl:a.length<=200)(pm:Bytes->V)(hpm:∀f∈S,Za7 f.1=goMod->vl e 58 0 [.str f.2]=some (pm f.2)):
  ∃M1 M2 m3:V,vl e 10720 1 []=some (.tup [mv [],mv [],m3])/\vl e 10736 1 [Zac a,mv [],mv [],m3]=some (.tup [bl id,I 0,M1,M2,m3])/\id.length=32/\
   vl e 10352 1 [bl id,M1,M2,m3]=some (.tup [I 1,I 0,M1,M2,m3,inpV (outs S 0 S.length),mS (Zg4 pm S []),mS (Zh1 S [])]):=by
 have hlen:S.length=a.length:=h.perm.length_eq
 have k0:keyL []:=fun _ h=>by cases h
 obtain⟨id',q1,q2,a1,a2,a3,a4,a5,a6⟩:=v.Build he a (by omega) h.sz
 obtain⟨Sa,pa,oa,ta⟩:=a5 h.why
 have hSS:Sa=S:=Zne oa h.ok (pa.trans h.perm.symm)
 subst hSS
 obtain⟨rfl,rfl,rfl⟩:=ta.det h.tr
 have x1:=a6 [] [] (mv []) k0 k0
 rw[h.why]at x1
 refine⟨_,_,mv [],v.New,x1,a1, ?_⟩
 have kM1:=Zed a2 k0
 have kM2:=Zed a3 k0
 have hf:=v.FilesS he h.ok kM2 (mv (Zd3 q1 [])) (mv []) h.tr (fun q hq=>Zrw h.c2 hq []) (h.size (by omega))
 have hblob:∀i,i<Sa.length->getM (Zd3 q1 []) (Zar Za2 (Sa.getD i ([],[])).2)=some (Sa.getD i ([],[])).2:=fun i hi=>Zrw h.c1 (q:=(Zar Za2 (Sa.getD i ([],[])).2,(Sa.getD i ([],[])).2)) (h.tr.blobs i (Xbz _) hi) []
 have h20:=v.New20 (e:=e) he (S:=Sa) (fun f hf=>(h.sz f (h.perm.mem_iff.1 hf)).1) (by omega) kM1 hblob (mv (Zd3 q2 [])) (mv []) pm hpm Sa.length 0 [] [] (by omega)
 rw[Xbq]at h20
 rw[w4 s.zq33_h0];unfold y.zq33_h0
 simp only[yy,Zn4,Ztq a1,hf,Z7m,Zlr]
 exact h20
end Go.Proofs.YtegmegbanfkomaaGreatDoor
namespace Go.Proofs.YtegmegbanfkomaaGreatDoor
open Go.Abs Go.RowKit Go.Shelf Go.Sort
def IsErr (w:World)(g:Nat):Prop:= ∃ev,w.cell? ⟨g,0,none⟩=some ev/\(ev= .nilIface \/ ∃te pe,ev= .iface te pe)
structure EnvE (w:World):Prop where
 max:HasMax w
 syn:IsErr w 10
 rng:IsErr w 11
 tab : Lib.TabIs Tryz.prog w "internal/strconv.uint64pow10" .u64 Lib.pow10Tab
theorem EnvE.toOK {w:World}(h:EnvE w):EnvOK w:=⟨h.max⟩
theorem IsErr.at {w W:World}{g:Nat}{G:Nat->Nat}(h:IsErr w g)(hW:OKW (cxD w) W G):IsErr W g:=by
 obtain⟨ev,hc,he⟩:=h
 refine⟨ev, ?_,he⟩
 rw[hW.below.cell (p:=⟨g,0,none⟩) (show g<w.heap.size from Lib.lt_of_cell hc)]
 exact hc
theorem Z52 {w W : World} {G : Nat → Nat} (h : Lib.TabIs Tryz.prog w "internal/strconv.uint64pow10" .u64 Lib.pow10Tab) (hW : OKW (cxD w) W G) : Lib.TabIs Tryz.prog W "internal/strconv.uint64pow10" .u64 Lib.pow10Tab :=
 Go.Joins.tab_stays (g:=12) (by kernel_rfl) h hW.below (Xae _)
def Zjj (s:Bytes):Int×Bool:=match Lib.atoiAll s with
 | .ok v=>(v,true)
 | .«syntax» =>(0,false)
 | .range=>(Lib.atoiSat s,false)
def errV :V:= .iface 380 (.el [] 0)
def Zhe (y:Int×Bool):V:= .tup [.int .i64 y.1,if y.2 then .nilif else errV]
def g.strconv_Atoi (s:Bytes):Option (Int×Bool):=if s.length<=281474976710656 then some (Zjj s)else none
theorem Zts (y:Int×Bool):(Zhe y).clean=true:=by
 obtain⟨n,b⟩:=y
 cases b<;>rfl
theorem Z2l (y:Int×Bool):(Zhe y).nf=Zhe y:=by
 obtain⟨n,b⟩:=y
 cases b<;>rfl
def K.strconv_Atoi :FC:=fc 251 (fun _=>true) false (fun(a:Bytes)=> [V.str a]) Zhe g.strconv_Atoi
 (fun _=>rfl) Zts (fun _ _ h=>V.str.inj (List.cons.inj h).1)
theorem Z4g {W:World}{G φ}{u:V}{xs:Array Value}(h:RepL W G φ [u] xs):∃x,xs= #[x]/\Rep W G φ u x:=by
 obtain⟨hl,h⟩:=h
 obtain⟨l⟩:=xs
 match l,hl with
 | [x],_=>exact⟨x,rfl,h 0 u x rfl rfl⟩
theorem Zlp {W:World}{G φ}{u v:V}{x y:Value}(h:Rep W G φ u x)(k:Rep W G φ v y):Rep W G φ (.tup [u,v]) (.tuple #[x,y]):=
 .tup _ _ rfl fun i c z hc hz=>by
  match i with
  |0=>simp at hc hz;subst hc;subst hz;exact h
  |1=>simp at hc hz;subst hc;subst hz;exact k
  |i+2=>simp at hc
theorem Zup (W:World)(G φ)(N:Nat):Rep W G φ errV (.iface 380 (.pointer (some ⟨N,0,none⟩))):=by
 refine .iface _ _ _ ?_
 exact .el [] 0 N 0 (fun _=>undef) (Xbz _) (fun c hc=>by cases hc) (fun k hk=>by simp at hk) (fun k c hc=>by simp at hc)
theorem H.strconv_Atoi (w:World)(hw:EnvE w):K.strconv_Atoi.Holds (cxD w):=by
 rintro args y ⟨s,r,ha,hg,rfl⟩
 obtain⟨u,v,rfl,h1,h2⟩:=Zd0 ha
 obtain rfl:=Zhc h2
 obtain rfl:=Zdz h1
 simp only[g.strconv_Atoi]at hg
 split at hg
 ·rename_i hc
  cases hg
  refine⟨Zhe (Zjj s),false, ?_,Z2l _,fun h=>nomatch h⟩
  refine PC.pure (Zbq Tryz.func251 (by kernel_rfl) (by kernel_rfl)) fun W G φ xs hW hxs=> ?_
  obtain⟨x,rfl,hx⟩:=Z4g hxs
  obtain⟨t,rfl,rfl⟩:=Zcm hx
  have hsz:t.size<=281474976710656:=by rw[Lib.size_eq];exact hc
  cases hA:Lib.atoiAll t.data.toList with
  |ok v=>
   refine(Tryz.strconv_Atoi_ok t (by omega) v hA W).mono fun e W' ⟨he,hW'⟩=>⟨_,he, ?_,fun W'' G'=> ?_⟩
   ·rcases hW' with rfl|⟨q,rfl⟩
    ·exact .refl _ _
    ·exact Lib.bytesWorld_below _ _ _
   ·have e:Zhe (Zjj t.data.toList)= .tup [.int .i64 v, .nilif]:=by unfold Zhe Zjj;rw[hA];rfl
    rw[e];exact Zlp (.int _ _) .nilif
  | «syntax» =>
   obtain⟨ev,hcell,hev⟩:=hw.syn.at hW
   refine(Tryz.strconv_Atoi_syntax t hsz hA ev W hcell hev).mono fun e W' ⟨N,he,_,_,hB⟩=>⟨_,he,hB,fun W'' G'=> ?_⟩
   have e:Zhe (Zjj t.data.toList)= .tup [.int .i64 0,errV]:=by unfold Zhe Zjj;rw[hA];rfl
   rw[e];exact Zlp (.int _ _) (Zup _ _ _ _)
  |range=>
   obtain⟨ev,hcell,hev⟩:=hw.rng.at hW
   refine(Tryz.strconv_Atoi_range t hsz hA ev W hcell hev).mono fun e W' ⟨N,he,_,_,hB⟩=>⟨_,he,hB,fun W'' G'=> ?_⟩
   have e:Zhe (Zjj t.data.toList)= .tup [.int .i64 (Lib.atoiSat t.data.toList),errV]:=by unfold Zhe Zjj;rw[hA];rfl
   rw[e];exact Zlp (.int _ _) (Zup _ _ _ _)
 ·cases hg
def g.strconv_Itoa (n:Int):Option Bytes:=if-9223372036854775808<=n/\n<=9223372036854775807 then some (Lib.itoa n)else none
def K.strconv_Itoa :FC:=fc 252 (fun _=>true) false (fun(n:Int)=> [V.int .i64 n]) (fun(y:Bytes)=> .str y) g.strconv_Itoa
 (fun _=>rfl) (fun _=>rfl) (fun _ _ h=>(V.int.inj (List.cons.inj h).1).2)
theorem H.strconv_Itoa (w:World)(hw:EnvE w):K.strconv_Itoa.Holds (cxD w):=by
 rintro args y ⟨n,r,ha,hg,rfl⟩
 obtain⟨u,v,rfl,h1,h2⟩:=Zd0 ha
 obtain rfl:=Zhc h2
 obtain rfl:=Zb3 h1
 simp only[g.strconv_Itoa]at hg
 split at hg
 ·rename_i hc
  cases hg
  refine⟨.str _,false, ?_,rfl,fun h=>nomatch h⟩
  refine PC.pure (Zbq Tryz.func252 (by kernel_rfl) (by kernel_rfl)) fun W G φ xs hW hxs=> ?_
  obtain⟨x,rfl,hx⟩:=Z4g hxs
  cases hx
  refine(Tryz.strconv_Itoa n hc.1 hc.2 W (Z52 hw.tab hW)).mono fun e W' ⟨he,k,os,hW'⟩=>⟨_,he, ?_,fun W'' G'=> .str _ _ rfl⟩
  rw[hW']
  exact⟨rfl,rfl,rfl,by show W.heap.size<=(W.heap++os).size;rw[Xdu];omega,fun j hj=>by show(W.heap++os)[j]? =W.heap[j]?;exact Xcr hj⟩
 ·cases hg
theorem Zcx {P:Program}{x:String×DataW Unit}{r:List (String×DataW Unit)}{W:World}(h:laidMet P (x::r) W):laidMet P r W:=by
 obtain⟨ps,hv,hnd,hrows⟩:=h
 obtain⟨g,t,cs,fuel,p,q,_,_,_,_,hq,rfl⟩:=hv
 exact⟨q,hq,List.Nodup.sublist (List.sublist_append_right _ _) hnd,fun b off hm=>hrows b off (Xbc _ hm)⟩
theorem Zr8 {P:Program}{n:String}{g:Nat}{W:World}{tp:TypeId}{a:Addr}(hg:P.globalNamed n=some g)(h:W.var? P n=some #[.iface tp (.pointer (some a))]):IsErr W g:=
 ⟨_,by have h0:=World.var?_cell hg h 0;simpa using h0, .inr ⟨_,_,rfl⟩⟩
end Go.Proofs.YtegmegbanfkomaaGreatDoor
namespace Go.Proofs.YtegmegbanfkomaaGreatDoor
open Go.Abs Go.RowKit Go.Shelf Go.Sort
def g.strings_Index (s c:Bytes):Option Int:=if s.length<4294967281 then some (Lib.index s c)else none
def K.strings_Index :FC:=fc 104 (fun _=>true) false (fun(a:Bytes×Bytes)=> [V.str a.1,V.str a.2]) (fun(y:Int)=> .int .i64 y) (fun a=>g.strings_Index a.1 a.2)
 (fun _=>rfl) (fun _=>rfl) (fun⟨a,b⟩ ⟨c,d⟩ h=>by simp at h;simp[h])
theorem H.strings_Index (w:World)(hw:EnvOK w):K.strings_Index.Holds (cxD w):=by
 rintro args y ⟨⟨s,c⟩,r,ha,hg,rfl⟩
 obtain rfl:=Zi3 ha
 simp only[g.strings_Index]at hg
 split at hg
 ·rename_i hc
  cases hg
  refine⟨.int .i64 _,false, ?_,rfl,fun h=>nomatch h⟩
  refine PC.pure (Zbq Tryz.func104 (by kernel_rfl) (by kernel_rfl)) fun W G φ xs hW hxs=> ?_
  obtain⟨x,y,rfl,hx,hy⟩:=Zps hxs
  obtain⟨t,rfl,rfl⟩:=Zcm hx
  obtain⟨u,rfl,rfl⟩:=Zcm hy
  obtain⟨m,hm⟩:=hw.max.at hW
  refine(Tryz.strings_Index t u m W (by rw[Lib.size_eq];exact hc) hm).mono fun e W' ⟨he,hW'⟩=> ?_
  subst hW'
  exact⟨_,he, .refl _ _,fun _ _=> .int _ _⟩
 ·cases hg
def Ze9 (r:Nat):Bool:=decide (r=32)||(decide (r=9)||decide (r=13))
def Zfl (b:UInt8):Bool:=decide (b=32)||(decide (b=9)||decide (b=13))
theorem Zno (x:Nat)(hx:x<=1114111)(W:World):Go.Proofs.FnGives Tryz.prog 155 #[] #[Go.Proofs.encR x] (.bool (Ze9 x)) W:=by
 show Calls Tryz.prog 155 #[.int .i32 (x:Int)] W _
 by_cases h1:x=32
 ·subst h1
  go_enter Tryz.func155,Tryz.ntmps155
  go_wp2
  go_ret
  exact⟨rfl,0,rfl⟩
 ·by_cases h2:x=9
  ·subst h2
   go_enter Tryz.func155,Tryz.ntmps155
   go_wp2
   go_ret
   exact⟨rfl,0,rfl⟩
  ·have e1:((x:Int)==32)=false:=by simp;omega
   have e2:((x:Int)==9)=false:=by simp;omega
   go_enter Tryz.func155,Tryz.ntmps155
   go_wp2
   go_ret
   refine⟨?_,0,rfl⟩
   have e:((x:Int)==13)=Ze9 x:=by
    unfold Ze9
    rw[Bool.eq_iff_iff];simp;omega
   rw[<-e];rfl
theorem Zls (args:Array Value)(w:World):(callFunc 155 args).run Tryz.prog w= .ok (.enter 155 args) w:=Go.Proofs.enters_of Tryz.func155 (by kernel_rfl) rfl args w
theorem Zvg (b:UInt8):Zfl b=(decide (b.toNat<128)&&Ze9 b.toNat):=by
 unfold Zfl Ze9
 rw[Bool.eq_iff_iff]
 simp only[Xa4,decide_eq_true_eq,Xai]
 constructor
 ·rintro(h|h|h)<;>rw[h]<;>decide
 ·rintro⟨_,h|h|h⟩
  ·left;exact Xc1.1 (by rw[h];rfl)
  ·right;left;exact Xc1.1 (by rw[h];rfl)
  ·right;right;exact Xc1.1 (by rw[h];rfl)
theorem Zt1 (r:Nat)(h:128<=r):Ze9 r=false:=by
 unfold Ze9
 rw[decide_eq_false (by omega),decide_eq_false (by omega),decide_eq_false (by omega)];rfl
def g.strings_FieldsFunc_3 (s:Bytes):Option (List Bytes):=if s.length<=4294967296 then some (fldB Zfl s [])else none
def K.strings_FieldsFunc_3 :FC:=fc 154 (fun avs=>isFn 155 avs[1]?) true (fun(a:Bytes)=> [V.str a,V.fn 155 []]) (fun(y:List Bytes)=> .sl false 1 (y.map .str)) (fun a=>g.strings_FieldsFunc_3 a)
 (fun _=>rfl) (fun y=>Zfw (fun _=>rfl) y) (fun _ _ h=>V.str.inj (List.cons.inj h).1)
theorem H.strings_FieldsFunc_3 (w:World)(_hw:EnvOK w):K.strings_FieldsFunc_3.Holds (cxD w):=by
 rintro args y ⟨s,r,ha,hg,rfl⟩
 obtain⟨u,v,rfl,h1,h2⟩:=Zd0 ha
 obtain⟨u',v',rfl,h3,h4⟩:=Zd0 h2
 obtain rfl:=Zhc h4
 obtain rfl:=Zdz h1
 obtain rfl:=Z45 h3
 simp only[g.strings_FieldsFunc_3]at hg
 split at hg
 ·rename_i hc
  cases hg
  refine⟨.sl false 1 ((fldB Zfl s []).map .str),true, ?_,by show V.sl false 1 (nfL _)=_;rw[Zrh],fun _=> .inl rfl⟩
  refine Zun (Zbq Tryz.func154 (by kernel_rfl) (by kernel_rfl)) fun W G φ xs hW hxs=> ?_
  obtain⟨x,y,rfl,hx,hy⟩:=Zps hxs
  obtain⟨t,rfl,rfl⟩:=Zcm hx
  have hy':y= .func (.func 155) #[] #[]:=by
   cases hy with
   |fn f cs zs hl h=>
    have:zs= #[]:=by simpa using hl.symm
    rw[this]
  subst hy'
  refine(Tryz.strings_FieldsFunc_runes 155 #[] Zls Ze9 t W (by rw[Lib.size_eq];exact hc) (fun W' x hx _=>Zno x hx W')).mono fun e W'=> ?_
  rintro⟨A,he,hA,hown,hB⟩
  exact⟨_,A,Zqf Zvg Zt1 t,he,hA,hown,hB⟩
 ·cases hg
end Go.Proofs.YtegmegbanfkomaaGreatDoor
namespace Go.Proofs.YtegmegbanfkomaaGreatDoor
open Go.Abs Go.RowKit Go.Shelf Go.Sort
def ascB (s:Bytes):Bool:=s.all fun b=>decide (b.toNat<128)
theorem Z14 {s:Bytes}(h:ascB s=true)(j:Nat)(b:UInt8)(hb:s[j]? =some b):b.toNat<128:=by
 have:=Xav.1 h b (Xaj hb)
 simpa using this
theorem Zfh (c:Bytes):∀s:Bytes,Lib.containsAny s c=s.any fun b=>c.contains b
 | []=>rfl
 |b::r=>by
  have ih:=Zfh c r
  unfold Lib.containsAny at ih⊢
  rw[Xeh, <-ih]
  have e0:Lib.indexAny (b::r) c=if c.contains b then 0 else if Lib.indexAny r c== -1 then-1 else Lib.indexAny r c+1:=by rw[Lib.indexAny]
  rw[e0]
  have hge:=Lib.indexAny_ge c r
  cases hb:c.contains b with
  |true=>simp
  |false=>
   by_cases hi:Lib.indexAny r c= -1
   ·simp[hi]
   ·have e1:(Lib.indexAny r c== -1)=false:=by simpa using hi
    simp only[Xat,if_false,e1,Xeq]
    rw[decide_eq_decide];omega
end Go.Proofs.YtegmegbanfkomaaGreatDoor
namespace Go.Proofs.YtegmegbanfkomaaGreatDoor
open Go.Abs Go.RowKit Go.Shelf Go.Sort Go.Lib
def encC (c:Nat):ByteArray:=
 if c<128 then⟨#[UInt8.ofNat c]⟩else if c<2048 then⟨#[UInt8.ofNat (192+c/64),UInt8.ofNat (128+c % 64)]⟩
 else if c<65536 then⟨#[UInt8.ofNat (224+c/4096),UInt8.ofNat (128+c/64 % 64),UInt8.ofNat (128+c % 64)]⟩
 else⟨#[UInt8.ofNat (240+c/262144),UInt8.ofNat (128+c/4096 % 64),UInt8.ofNat (128+c/64 % 64),UInt8.ofNat (128+c % 64)]⟩
theorem Zva {c:Nat}(hc:128<=c):∃n b,(encC c).size=n+1/\n<=3/\(encC c).data[n]? =some b/\128<=b.toNat:=by
 have hb:∀k,128<=(UInt8.ofNat (128+k % 64)).toNat:=fun k=>by
  rw[UInt8.toNat_ofNat_of_lt' (by have:=Nat.mod_lt k (show 0<64 by decide);show 128+k % 64<256;omega)];omega
 unfold encC
 rw[if_neg (by omega)]
 split
 ·exact⟨1,_,rfl,by omega,rfl,hb _⟩
 ·split
  ·exact⟨2,_,rfl,by omega,rfl,hb _⟩
  ·exact⟨3,_,rfl,by omega,rfl,hb _⟩
theorem Zy7 (r:Int)(h:128<=r):∃n b,(Utf8.encode r).size=n+1/\n<=3/\(Utf8.encode r).data[n]? =some b/\128<=b.toNat:=by
 have hc:128<=(if Utf8.valid r then r.toNat else Utf8.runeError):=by
  split
  ·omega
  ·decide
 exact Zva hc
theorem Zj9 {l:List UInt8}{b:UInt8}(hl:∀x∈l,x.toNat<128)(hb:128<=b.toNat): ¬(0:Int)<=Lib.indexByte l b:=by
 have h:=Lib.contains_iff_indexByte l b
 intro h0
 rw[decide_eq_true h0]at h
 have:=Xbj.1 h
 have:=hl b this
 omega
set_option maxHeartbeats 8000000 in
set_option maxRecDepth 1000000 in
theorem Zkb (s:ByteArray)(r:Int)(w:World)(h0:128<=r)(hs4:4<=s.size)(hascii:∀(j:Nat) b,s.data.toList[j]? =some b->b.toNat<128):
  Calls Tryz.prog 322 #[.string s, .int .i32 r] w fun e w'=>e= .returned (.int .i64 (-1))/\Below w.heap.size w w':=by
 have HA:Aside (∀(j:Nat) b,s.data.toList[j]? =some b->b.toNat<128):=hascii
 clear hascii
 by_cases hr:r=65533
 ·subst hr
  go_enter Tryz.func322,Tryz.ntmps322
  go_wp2
  go_loopg [5,6] s.size (fun g _ _ wx=> ∃i:Nat,i+g=s.size/\wx=w.iter s i)
  case atStart=>exact⟨0,by omega,rfl⟩
  case round=>
   obtain⟨i,hig,rfl⟩:=hrel
   cases gk with
   |zero=>
    obtain rfl:i=s.size:=by omega
    have hnx:=run_next_end (P:=Tryz.prog) w s s.size
    go_wp2
    go_ret
    exact⟨rfl,(Below.refl _ _).alloc (Xae _) _⟩
   |succ g=>
    have hi:i<s.size:=by omega
    obtain⟨x,hx⟩:∃x:UInt8,s[i]'hi=x:=⟨_,rfl⟩
    have hxl:s.data.toList[i]? =some x:=by rw[<-hx];exact Lib.data_getElem? s i hi
    have hx128:x.toNat<128:=HA.out i x hxl
    have hnx:=fun ty=>run_next_ascii (P:=Tryz.prog) w s i ty hi (by rw[hx];exact hx128)
    rw[hx]at hnx
    have hne:((x.toNat:Int)==65533)=false:=beq_eq_false_iff_ne.2 (by omega)
    go_wp2
    go_roundg g
    case measure=>omega
    case rel=>exact⟨i+1,by omega,rfl⟩
 ·have hne:(r==65533)=false:=beq_eq_false_iff_ne.2 hr
  have hlo:decide (r<128)=false:=decide_eq_false (by omega)
  have hlo0:decide (0<=r)=true:=decide_eq_true (by omega)
  have mixed:=mixed
  obtain⟨n,b,hq,hn3,hqb,hb⟩:=Zy7 r h0
  have hcv:∀w,(convert 21 9 (.int .i32 r)).run Tryz.prog w= .ok (.string (Utf8.encode r)) w:=fun w=>run_convert_int_string w 21 9 .i32 r (by rw[Tryz.underlying21];rfl) Tryz.underlying9
  generalize Utf8.encode r=q at hq hqb hcv
  go_enter Tryz.func322,Tryz.ntmps322
  go_wp2_with (go_at_call 357;refine(Tryz.utf8_ValidRune _ _).mono ?_;rintro e w' ⟨rfl,hw⟩;rw[hw])
  ·go_ret
   exact⟨rfl,Below.refl _ _⟩
  ·go_step3
   go_wp2
   go_loopg [9,10] 1 (fun _ v9 v10 wx=>v9=Value.int .i64 n/\v10=Value.int .i64 0/\wx=w')
   case atStart=>exact⟨rfl,rfl,hw.symm⟩
   case round=>
    obtain⟨rfl,rfl,rfl⟩:=hrel
    subst hw
    have hi:n<s.size:=by omega
    obtain⟨x,hx⟩:∃x:UInt8,s[n]'hi=x:=⟨_,rfl⟩
    have hxl:s.data.toList[n]? =some x:=by rw[<-hx];exact Lib.data_getElem? s n hi
    have hx128:x.toNat<128:=HA.out n x hxl
    have hqi:n<q.size:=by omega
    have hqx:q[n]'hqi=b:=by
     have:=Xbg.1 hqb
     exact this.2
    have hnb:((x.toNat:Int)==(b.toNat:Int))=false:=beq_eq_false_iff_ne.2 (by omega)
    have hlt:decide ((n:Int)<(s.size:Int))=true:=decide_eq_true (by omega)
    go_wp2
    go_step3
    go_wp2
    go_region
    all_goals go_wp2
    have hw1:IntKind.i64.wrap ((n:Int)+1)=(n:Int)+1:=by
     rw[show((n:Int)+1)=(((n+1:Nat)):Int)by omega];exact w64 _ (by omega)
    have hA0:(0:Int)<=(n:Int)+1:=by omega
    have hA1:(n:Int)+1<=(s.size:Int):=by omega
    have hneg: ¬(0:Int)<=Lib.indexByte (s.extract (n+1) s.size).data.toList b:=Zj9 (fun x hx=>by
     rw[Lib.extract_data]at hx
     obtain⟨j,hj⟩:=Xbv.1 (Xca (Xcl hx))
     exact HA.out j x hj) hb
    go_region_with (go_at_call 299;refine(Tryz.strings_IndexByte _ _ _).mono ?_;rintro e w' ⟨rfl,hw⟩;rw[hw])
    subst hw
    rw[Lib.extract_data]at hneg
    go_wp2
    all_goals first|(exfalso;omega)|skip
    all_goals (simp only[Exit.then,Exit.inBlock,Exit.noGoto_ret])
    go_ret
    exact⟨rfl,(Below.refl _ _).drew.drew⟩
theorem Zx9 (s:ByteArray)(i:Nat)(hi:i<s.size)(x:UInt8)(hx:s.data.toList[i]? =some x)(h128:128<=x.toNat):
  128<=(Utf8.decode s i).1/\1<=(Utf8.decode s i).2/\i+(Utf8.decode s i).2<=s.size/\ ∀j b,i<=j->j<i+(Utf8.decode s i).2->s.data.toList[j]? =some b->128<=b.toNat:=by
 have hsz:=Lib.size_eq s
 have hd:=Lib.decode_N s i
 have hg:∀k b,s.data.toList[i+k]? =some b->s.data.toList.getD (i+k) 0=b:=fun k b h=>by rw[List.getD,h];rfl
 have h0:s.data.toList.getD i 0=x:=by have:=hg 0 x hx;exact this
 obtain⟨k1,k2,k3,k4,k5,k6,k7⟩:=Zoy (n:=s.size-i) (b0:=(s.data.toList.getD i 0).toNat) (b1:=(s.data.toList.getD (i+1) 0).toNat) (b2:=(s.data.toList.getD (i+2) 0).toNat) (b3:=(s.data.toList.getD (i+3) 0).toNat) (by omega) (by rw[h0];exact h128)
 rw[hsz]at k1 k2 k3 k4 k5 k6 k7
 rw[<-hd]at k1 k2 k3 k4 k5 k6 k7
 refine⟨k1,k2,by omega,fun j b h1 h2 hb=> ?_⟩
 obtain⟨m,rfl⟩:∃m,j=i+m:=⟨j-i,by omega⟩
 match m,h2 with
 |0,_=>rw[show i+0=i from rfl,hx]at hb;cases hb;exact h128
 |1,h2=>have:=k5 (by omega);rw[hg 1 b hb]at this;exact this
 |2,h2=>have:=k6 (by omega);rw[hg 2 b hb]at this;exact this
 |3,h2=>have:=k7 (by omega);rw[hg 3 b hb]at this;exact this
 |m+4,h2=>omega
set_option maxHeartbeats 8000000 in
set_option maxRecDepth 1000000 in
theorem Zkf (s chars:ByteArray)(w:World)(h4:4<=chars.size)(h8:s.size<=8)(hac:∀(j:Nat) b,chars.data.toList[j]? =some b->b.toNat<128):
  Calls Tryz.prog 286 #[.string s, .string chars] w fun e w'=>e= .returned (.int .i64 (Lib.indexAny s.data.toList chars.data.toList))/\Below w.heap.size w w':=by
 have HA:Aside (∀(j:Nat) b,chars.data.toList[j]? =some b->b.toNat<128):=hac
 clear hac
 have hemp:chars.toList.isEmpty=false:=by
  rw[Lib.toList_data]
  cases h:chars.data.toList with
  |nil=>have:=Lib.size_eq chars;rw[h,Xa2]at this;omega
  |cons _ _=>rfl
 have hn1:((chars.size:Int)==1)=false:=beq_eq_false_iff_ne.2 (by omega)
 have h8z:decide ((8:Int)<(s.size:Int))=false:=decide_eq_false (by omega)
 have mixed:=mixed
 go_enter Tryz.func286,Tryz.ntmps286
 go_wp2_with (go_at_call 323;refine(Tryz.strings_shouldUseASCIISet _ _).mono ?_;rintro e w' ⟨rfl,hw⟩;rw[hw,h8z])
 go_loopg [9,10] s.size (fun g _ _ wx=> ∃i:Nat,s.size<=i+g/\i<=s.size/\wx.heap[w.heap.size]? =some (.stringIter s i)/\Below w.heap.size w wx/\Lib.NoAny s.data.toList chars.data.toList i)
 case atStart=>exact⟨0,by omega,by omega,World.iter_heap _ _ _,(Below.refl _ _).alloc (Xae _) _,Lib.NoAny.zero _ _⟩
 case round=>
  obtain⟨i,hig,hle,hit,hB,hno⟩:=hrel
  have HN:Aside (Lib.NoAny s.data.toList chars.data.toList i):=hno
  have HB:Aside (Below w.heap.size w wr):=hB
  have HI:Aside (wr.heap[w.heap.size]? =some (.stringIter s i)):=hit
  clear hno hB
  by_cases hi:i<s.size
  ·obtain⟨g,rfl⟩:∃g,gk=g+1:=⟨gk-1,by omega⟩
   obtain⟨x,hx⟩:∃x:UInt8,s[i]'hi=x:=⟨_,rfl⟩
   have hxl:s.data.toList[i]? =some x:=by rw[<-hx];exact Lib.data_getElem? s i hi
   have Hx:Aside (s.data.toList[i]? =some x):=hxl
   by_cases hx128:x.toNat<128
   ·have hnx:=fun ty=>Lib.run_next_ascii_at (P:=Tryz.prog) wr w.heap.size s i ty hit hi (by rw[hx];exact hx128)
    rw[hx]at hnx
    clear hxl hx hit
    have hcon:=Lib.contains_iff_indexByte chars.data.toList x
    have hback:((x.toNat:Int)).toNat.toUInt8=x:=by simp
    cases hin:chars.data.toList.contains x
    ·rw[hin]at hcon
     have hlt: ¬((0:Int)<=Lib.indexByte chars.data.toList x):=of_decide_eq_false hcon.symm
     clear hcon
     go_wp2_with (go_at_call 322;refine(Tryz.strings_IndexRune_ascii _ _ _ (by omega) (by omega)).mono ?_;rintro e w' ⟨rfl,hw⟩;rw[hw,hback])
     go_roundg g
     case measure=>omega
     case rel=>exact⟨i+1,by omega,by omega,Lib.iterAt_heap _ _ _ _ _ HI.out,Lib.below_iterAt HB.out (Xae _) _ _,HN.out.succ Hx.out hin⟩
    ·rw[hin]at hcon
     have hge:(0:Int)<=Lib.indexByte chars.data.toList x:=of_decide_eq_true hcon.symm
     clear hcon
     go_wp2_with (go_at_call 322;refine(Tryz.strings_IndexRune_ascii _ _ _ (by omega) (by omega)).mono ?_;rintro e w' ⟨rfl,hw⟩;rw[hw,hback])
     go_ret
     exact⟨by rw[Lib.indexAny_hit HN.out Hx.out hin];rfl,Lib.below_iterAt HB.out (Xae _) _ _⟩
   ·obtain⟨d1,d2,d3,d4⟩:=Zx9 s i hi x hxl (by omega)
    have hnx:=fun ty=>Lib.run_next_any_at (P:=Tryz.prog) wr w.heap.size s i ty hit hi
    generalize hR:(Utf8.decode s i).1=R at hnx d1
    generalize hL:(Utf8.decode s i).2=L at hnx d2 d3 d4
    have D4:Aside (∀j b,i<=j->j<i+L->s.data.toList[j]? =some b->128<=b.toNat):=d4
    clear hxl hx hit hR hL d4
    have hneg: ¬((0:Int)<= -1):=by decide
    go_wp2_with (go_at_call 322;refine(Zkb chars (R:Int) _ (by omega) h4 HA.out).mono ?_;rintro e w' ⟨rfl,hw⟩)
    have hB1:=Lib.below_iterAt HB.out (Xae _) s (i+L)
    have hI1:=Lib.iterAt_heap wr w.heap.size s i (i+L) HI.out
    go_roundg g
    case measure=>omega
    case rel=>
     refine⟨i+L,by omega,d3,(hw.block _ (Xbg.1 hI1).1).trans hI1,hB1.trans (hw.mono hB1.size),fun j b hj hb=> ?_⟩
     by_cases hji:j<i
     ·exact HN.out j b hji hb
     ·have h128:=D4.out j b (by omega) hj hb
      cases hc:chars.data.toList.contains b with
      |false=>rfl
      |true=>
       obtain⟨m,hm⟩:=Xbv.1 (Xbj.1 hc)
       have:=HA.out m b hm
       omega
  ·obtain rfl:i=s.size:=by omega
   have hnx:=fun ty=>Lib.run_next_end_at (P:=Tryz.prog) wr w.heap.size s s.size ty hit (by omega)
   clear hit
   go_wp2
   go_ret
   exact⟨by rw[Lib.indexAny_none (by rw[<-Lib.size_eq];exact HN.out)];rfl,HB.out⟩
theorem Zli (s chars:ByteArray)(w:World)(h4:4<=chars.size)(hs:s.size<4294967281)(hcs:chars.size<4294967281)(hac:∀(j:Nat) b,chars.data.toList[j]? =some b->b.toNat<128):
  Calls Tryz.prog 286 #[.string s, .string chars] w fun e w'=>e= .returned (.int .i64 (Lib.indexAny s.data.toList chars.data.toList))/\Below w.heap.size w w':=by
 by_cases h8:s.size<=8
 ·exact Zkf s chars w h4 h8 hac
 ·refine(Tryz.strings_IndexAny_long (zero_of_info (n:=256) (by kernel_rfl)).1 s chars w (by omega) (by omega) hs hcs hac).mono fun e w' ⟨h1,h2⟩=>⟨h1, ?_⟩
  rw[h2]
  exact((Below.refl _ _).alloc (Xae _) _).alloc (by simp) _
set_option maxHeartbeats 1000000 in
theorem Zia (s chars:ByteArray)(w:World)(h4:4<=chars.size)(hs:s.size<4294967281)(hcs:chars.size<4294967281)(hac:∀(j:Nat) b,chars.data.toList[j]? =some b->b.toNat<128):
  Calls Tryz.prog 250 #[.string s, .string chars] w fun e w'=>e= .returned (.bool (Lib.containsAny s.data.toList chars.data.toList))/\Below w.heap.size w w':=by
 have c:=Zli s chars w h4 hs hcs hac
 have mixed:=mixed
 go_enter Tryz.func250,Tryz.ntmps250
 go_wp2_with (go_at_call 286;refine c.mono ?_;rintro e w' ⟨rfl,hw⟩)
 go_ret
 exact⟨rfl,hw⟩
def g.strings_ContainsAny (s c:Bytes):Option Bool:=if s.length<4294967281/\c.length<4294967281/\4<=c.length/\ascB c=true then some (s.any fun b=>c.contains b)else none
def K.strings_ContainsAny :FC:=fc 250 (fun _=>true) false (fun(a:Bytes×Bytes)=> [V.str a.1,V.str a.2]) (fun(y:Bool)=> .bool y) (fun a=>g.strings_ContainsAny a.1 a.2)
 (fun _=>rfl) (fun _=>rfl) (fun⟨a,b⟩ ⟨c,d⟩ h=>by simp at h;simp[h])
theorem H.strings_ContainsAny (w:World)(_hw:EnvOK w):K.strings_ContainsAny.Holds (cxD w):=by
 rintro args y ⟨⟨s,c⟩,r,ha,hg,rfl⟩
 obtain rfl:=Zi3 ha
 simp only[g.strings_ContainsAny]at hg
 split at hg
 ·rename_i hc
  cases hg
  refine⟨.bool _,false, ?_,rfl,fun h=>nomatch h⟩
  refine PC.pure (Zbq Tryz.func250 (by kernel_rfl) (by kernel_rfl)) fun W G φ xs hW hxs=> ?_
  obtain⟨x,y,rfl,hx,hy⟩:=Zps hxs
  obtain⟨t,rfl,rfl⟩:=Zcm hx
  obtain⟨u,rfl,rfl⟩:=Zcm hy
  refine(Zia t u W (by rw[Lib.size_eq];exact hc.2.2.1) (by rw[Lib.size_eq];exact hc.1) (by rw[Lib.size_eq];exact hc.2.1) (Z14 hc.2.2.2)).mono fun e W' ⟨he,hW'⟩=> ?_
  refine⟨_,he,hW',fun _ _=> ?_⟩
  rw[Zfh];exact .bool _
 ·cases hg
end Go.Proofs.YtegmegbanfkomaaGreatDoor
namespace Go.Proofs.YtegmegbanfkomaaGreatDoor
open Go.Abs Go.RowKit Go.Shelf Go.Sort
def cutE (y:Bytes×Bytes×Bool):V:= .tup [.str y.1, .str y.2.1, .bool y.2.2]
def g.strings_Cut (s c:Bytes):Option (Bytes×Bytes×Bool):=if s.length<4294967281 then some (Lib.cut s c)else none
def K.strings_Cut :FC:=fc 49 (fun _=>true) false (fun(a:Bytes×Bytes)=> [V.str a.1,V.str a.2]) cutE (fun a=>g.strings_Cut a.1 a.2)
 (fun _=>rfl) (fun _=>rfl) (fun⟨a,b⟩ ⟨c,d⟩ h=>by simp at h;simp[h])
theorem Zv6 {W:World}{G φ}{u v z:V}{x y t:Value}(h:Rep W G φ u x)(k:Rep W G φ v y)(l:Rep W G φ z t):Rep W G φ (.tup [u,v,z]) (.tuple #[x,y,t]):=
 .tup _ _ rfl fun i c z hc hz=>by
  match i with
  |0=>simp at hc hz;subst hc;subst hz;exact h
  |1=>simp at hc hz;subst hc;subst hz;exact k
  |2=>simp at hc hz;subst hc;subst hz;exact l
  |i+3=>simp at hc
theorem H.strings_Cut (w:World)(hw:EnvOK w):K.strings_Cut.Holds (cxD w):=by
 rintro args y ⟨⟨s,c⟩,r,ha,hg,rfl⟩
 obtain rfl:=Zi3 ha
 simp only[g.strings_Cut]at hg
 split at hg
 ·rename_i hc
  cases hg
  refine⟨cutE _,false, ?_,rfl,fun h=>nomatch h⟩
  refine PC.pure (Zbq Tryz.func49 (by kernel_rfl) (by kernel_rfl)) fun W G φ xs hW hxs=> ?_
  obtain⟨x,y,rfl,hx,hy⟩:=Zps hxs
  obtain⟨t,rfl,rfl⟩:=Zcm hx
  obtain⟨u,rfl,rfl⟩:=Zcm hy
  obtain⟨m,hm⟩:=hw.max.at hW
  refine(Tryz.strings_Cut t u m W (by rw[Lib.size_eq];exact hc) hm).mono fun e W' ⟨he,n,hW'⟩=> ?_
  subst hW'
  exact⟨_,he,⟨rfl,rfl,rfl,Xae _,fun _ _=>rfl⟩,fun _ _=>Zv6 (.str _ _ rfl) (.str _ _ rfl) (.bool _)⟩
 ·cases hg
end Go.Proofs.YtegmegbanfkomaaGreatDoor
namespace Go.Proofs.YtegmegbanfkomaaGreatDoor
open Go.Abs
set_option maxRecDepth 10000
def chars9 :Bytes:=[34,39,96,92,40,41,44,61,62]
def okC (_:Bytes):Bool:=true
structure EnvM (e:Ev) extends EnvT e where
 cut:∀s c:Bytes,s.length<4294967281->e 49 [.str s, .str c]=some (cutE (Lib.cut s c))
 index:∀s c:Bytes,s.length<4294967281->e 104 [.str s, .str c]=some (I (Lib.index s c))
 fields:∀s:Bytes,s.length<=4294967296->e 154 [.str s, .fn 155 []]=some (strs (fldB Zfl s []))
 cany:∀s:Bytes,s.length<4294967281->okC s=true->e 250 [.str s, .str chars9]=some (.bool (s.any fun b=>chars9.contains b))
 atoi:∀s:Bytes,s.length<=281474976710656->e 251 [.str s]=some (Zhe (Zjj s))
 itoa:∀n:Int, -9223372036854775808<=n->n<=9223372036854775807->e 252 [I n]=some (.str (Lib.itoa n))
variable {e:Ev}
theorem v.index (he:EnvM e)(s c:Bytes)(hs:s.length<4294967281):vl e 104 0 [.str s, .str c]=some (I (Lib.index s c)):=Zd5 (by kernel_rfl) (he.index s c hs)
theorem v.fields (he:EnvM e)(s:Bytes)(hs:s.length<4294967281):vl e 154 0 [.str s, .fn 155 []]=some (strs (fldB Zfl s [])):=Zd5 (by kernel_rfl) (he.fields s (by omega))
theorem v.atoi (he:EnvM e)(s:Bytes)(hs:s.length<=281474976710656):vl e 251 0 [.str s]=some (Zhe (Zjj s)):=Zd5 (by kernel_rfl) (he.atoi s hs)
theorem v.itoa (he:EnvM e)(n:Int)(h0: -9223372036854775808<=n)(h1:n<=9223372036854775807):vl e 252 0 [I n]=some (.str (Lib.itoa n)):=Zd5 (by kernel_rfl) (he.itoa n h0 h1)
def Z4y (s:Bytes):Bool:=decide (s≠ [])&& !(s.any fun b=>chars9.contains b)
theorem v.good (he:EnvM e)(s:Bytes)(hs:s.length<4294967281)(hc:okC s=true):vl e 203 0 [.str s]=some (.bool (Z4y s)):=by
 rw[w1 s.zq13];unfold y.zq13 Z4y
 have h:vl e 250 0 [.str s, .str [34,39,96,92,40,41,44,61,62]]=some (.bool (s.any fun b=>chars9.contains b)):=Zd5 (by kernel_rfl) (he.cany s hs hc)
 by_cases h0:s=[]<;>simp_all[yy]
def Z6k (s:Bytes):Bool:=decide (s=[46])||(decide (s=[46,46])||(decide (s.take 2=[46,47])||decide (s.take 3=[46,46,47])))
theorem v.here (s:Bytes):vl e 253 0 [.str s]=some (.bool (Z6k s)):=by
 rw[w1 s.zq14];unfold y.zq14 Z6k
 have h1:=v.hasPrefix (e:=e) s [46,47]
 have h2:=v.hasPrefix (e:=e) s [46,46,47]
 simp only[Xaq,Xa2,Xao,Nat.reduceAdd]at h1 h2
 simp only[yy,h1,h2]
 grind
end Go.Proofs.YtegmegbanfkomaaGreatDoor
namespace Go.Proofs.YtegmegbanfkomaaGreatDoor
open Go.Abs
set_option maxRecDepth 20000
variable {e:Ev}
def Zmj (M:SM)(d:Bytes):Option (Bytes×V):=
 match getS M d with
 |some m=>some (d,m)
 |none=>if h:d=[]then none else Zmj M (dirB d)
termination_by d.length
decreasing_by have:=Zqe d;have:=Xal.2 h;omega
theorem Zie (M:SM)(d:Bytes):Zmj M d=match getS M d with|some m=>some (d,m)|none=>if d=[]then none else Zmj M (dirB d):=by
 rw[Zmj];rfl
abbrev z4 :V:= .agg [.str [], .int .i64 0, .sl false 2 [], .int .i64 0]
theorem Z0b :evp (.cat [none,none,none,none]) [.str [], .int .i64 0, .sl false 2 [], .int .i64 0]=some z4:=rfl
theorem Z5y :evp (.cat []) []=some (.agg []):=rfl
def ModS (M:SM):Prop:=∀p∈M,evp (.cat [some 4]) [p.2]=some p.2
theorem Z1e {M:SM}{k:Bytes}{x:V}(h:getS M k=some x):∃p∈M,p.1=k/\p.2=x:=by
 induction M<;>grind[getS]
theorem ModS.get {M:SM}(hM:ModS M)(k:Bytes):evp (.cat [some 4]) [(getS M k).getD z4]=some ((getS M k).getD z4):=by
 cases h:getS M k with
 |none=>rfl
 |some x=>obtain⟨p,h1,_,rfl⟩:=Z1e h;exact hM p h1
def modO (r:Option (Bytes×V))(F M D:V):V:= .tup [.str (r.elim [] (·.1)),r.elim z4 (·.2), .bool r.isSome,F,M,D]
theorem v.Module {M:SM}(hM:ModS M)(F D:V):∀(n:Nat) (d:Bytes),d.length<=n->n<=1000000000->vl e 10289 6 [.str d,F,mS M,D, .str [], .int .i64 0, .sl false 2 [], .int .i64 0]=some (modO (Zmj M d) F (mS M) D):=by
 intro n
 induction n with
 |zero=>
  intro d hd _
  obtain rfl:=Xa0 (Nat.le_zero.1 hd)
  rw[w8 s.zq41_h1_6,Zie];unfold y.zq41_h1_6
  have hc:=hM.get []
  cases h:getS M []with
  |none=>simp only[yy,Zoa,h,Z5y,Z0b,Xb0,Xbo,show evp (.cat [some 4]) [z4]=some z4 from rfl];rfl
  |some x=>rw[h,Xbu]at hc;simp only[yy,Zoa,h,hc,Xbu,Xdb];rfl
 |succ n ih=>
  intro d hd hn
  rw[w8 s.zq41_h1_6,Zie];unfold y.zq41_h1_6
  have hc:=hM.get d
  cases h:getS M d with
  |some x=>rw[h,Xbu]at hc;simp only[yy,Zoa,h,hc,Xbu,Xdb];rfl
  |none=>
   by_cases h0:d=[]
   ·subst h0
    simp only[yy,Zoa,h,Z5y,Z0b,Xb0,Xbo,show evp (.cat [some 4]) [z4]=some z4 from rfl];rfl
   ·have hl:=Zqe d
    have:=Xal.2 h0
    simp only[yy,Zoa,h,Xb0,Xbo,show evp (.cat [some 4]) [z4]=some z4 from rfl,if_neg h0,v.Dir (e:=e) d (by omega)]
    grind
theorem v.ModuleT {M:SM}(hM:ModS M)(F D:V)(d:Bytes)(hd:d.length<=1000000000):vl e 10289 1 [.str d,F,mS M,D]=some (modO (Zmj M d) F (mS M) D):=by
 rw[w4 s.zq41_h1];exact v.Module hM F D _ d (Xae _) hd
abbrev plV (k:Int)(d:Bytes):V:= .agg [.int .i64 k, .str d]
theorem v.cut (he:EnvM e)(s c:Bytes)(hs:s.length<=4000000000):vl e 49 0 [.str s, .str c]=some (cutE (Lib.cut s c)):=Zd5 (by kernel_rfl) (he.cut s c (by omega))
theorem Z2o (s c:Bytes):(Lib.cut s c).1.length<=s.length:=by
 grind[Lib.cut]
theorem cat2 {k:Int}{d:Bytes}:evp (.cat [none,none]) [.int .i64 k, .str d]=some (plV k d):=rfl
theorem cat1 {k:Int}:evp (.cat [none]) [.int .i64 k]=some (.agg [.int .i64 k]):=rfl
def Zyt (p:Bytes):Int:=if(46:UInt8)∈(Lib.cut p [47]).1 then 4 else 2
theorem v.PlaceNo (he:EnvM e){M:SM}(hM:ModS M)(F D:V)(d p:Bytes)(hd:d.length<=1000000000)(hp:p.length<=1000000000)(h:Zmj M d=none):
  vl e 10273 1 [.str d, .str p,F,mS M,D]=some (.tup [plV (if p=[67]then 3 else Zyt p) [],F,mS M,D]):=by
 have hm:=v.ModuleT (e:=e) hM F D d hd
 rw[h]at hm
 have hl:=Z2o p [47]
 have h17:vl e 10273 17 [.str p, .str [], .bool false,F,mS M,D, .int .i64 0, .str [],z4]=some (.tup [plV (Zyt p) [],F,mS M,D]):=by
  rw[w9 s.zq42_h1_17];unfold y.zq42_h1_17 Zyt
  simp only[yy,v.cut he p [47] (by omega),cutE,v.contains he.toEnvT (Lib.cut p [47]).1 46 (by omega),cat1,cat2]
  grind
 rw[w5 s.zq42_h1];unfold y.zq42_h1
 by_cases hc:p=[67]
 ·simp_all[yy,cat1,cat2]
 ·simp only[yy,if_neg hc,hm,modO,Option.elim,Xbo,show evp (.cat [some 4]) [z4]=some z4 from rfl]
  exact h17
end Go.Proofs.YtegmegbanfkomaaGreatDoor
namespace Go.Proofs.YtegmegbanfkomaaGreatDoor
open Go.Abs
set_option maxRecDepth 20000
variable {e:Ev}
theorem v.rBase (p:Bytes)(hp:p.length<=1000000):vl e 20 0 [.str p]=some (.str (Za7 p)):=by
 rw[w1 s.zq71];unfold y.zq71
 have hn:=Xal.2 (Zaw 47 p)
 have hl:=Zbn 47 p
 have e1:IntKind.i64.wrap (((Zad 47 p).length:Int)-1)=(((Zad 47 p).length-1:Nat):Int):=by rw[w64 _ (by omega)];omega
 have h1:(Zad 47 p).getD ((Zad 47 p).length-1) []=Za7 p:=by
  rw[<-Zla p]
  cases h:Zad 47 p with
  |nil=>exact absurd h (Zaw 47 p)
  |cons a l=>rw[List.getLastD_eq_getLast?,List.getLast?_eq_getElem?];rfl
 simp only[yy,v.rParts (e:=e) p (by omega),Zef,e1,Zhd (show(Zad 47 p).length-1<(Zad 47 p).length by omega),Zch,h1]
theorem v.rPath8 (l:List Bytes)(hl:l.length<=1000000000)(hb:∀x∈l,x.length<=1000000000):∀(n i:Nat),i+n=l.length-> ∃b,vl e 15 8 [strs l,I l.length,I i]=some (.bool b)/\(b=true-> ∀x∈l.drop i,Zbe x=true)
 |0,i,hi=>by
  rw[w3 s.zq85_8];unfold y.zq85_8
  simp only[yy,if_neg (show ¬(i:Int)<(l.length:Int)by omega)]
  exact⟨true,rfl,fun _ x hx=>by rw[Xda (by omega)]at hx;cases hx⟩
 |n+1,i,hi=>by
  have hlt:i<l.length:=by omega
  obtain⟨b,h1,h2⟩:=v.rPath8 l hl hb n (i+1) (by omega)
  rw[w3 s.zq85_8];unfold y.zq85_8
  simp only[yy,if_pos (show(i:Int)<(l.length:Int)by omega),Zdv hlt,Zch,v.rPart (e:=e) l[i] (hb _ (Xam hlt)),Zai (show i<l.length by omega) (by omega),h1]
  cases hp:Zbe l[i]with
  |false=>exact⟨false,rfl,fun h=>by cases h⟩
  |true=>
   refine⟨b,rfl,fun h x hx=> ?_⟩
   rw[Xah hlt]at hx
   rcases Xap.1 hx with rfl|hx
   ·exact hp
   ·exact h2 h x hx
theorem v.rPath (p:Bytes)(hp:p.length<=1000000):∃b,vl e 15 0 [.str p]=some (.bool b)/\(b=true-> ∀x∈Zad 47 p,Zbe x=true):=by
 have hl:=Zbn 47 p
 obtain⟨b,h1,h2⟩:=v.rPath8 (e:=e) (Zad 47 p) (by omega) (fun x hx=>by have:=Zay 47 hx;omega) _ 0 (Xao _)
 rw[Xbq]at h2
 refine⟨b, ?_,h2⟩
 rw[w1 s.zq85];unfold y.zq85
 simp only[yy,v.rParts (e:=e) p (by omega),Zef]
 exact h1
theorem Znz (pm:Bytes->V):∀{S:List Fi} {M:SM},(∀f∈S,Za7 f.1≠goMod)->Zg4 pm S M=M
 | [],_,_=>rfl
 |f::r,M,h=>by
  rw[show Zg4 pm (f::r) M=Zg4 pm r (if Za7 f.1=goMod then putS M (dirB f.1) (pm f.2)else M)from rfl,if_neg (h f (by simp))]
  exact Znz pm fun g hg=>h g (by simp[hg])
theorem Znc :∀(n:Nat) (d:Bytes),d.length<=n->Zmj [] d=none
 |0,d,h=>by rw[Zie,Xa0 (Nat.le_zero.1 h)];rfl
 |n+1,d,h=>by
  rw[Zie]
  show(if d=[]then none else Zmj [] (dirB d))=none
  split
  ·rfl
  ·have:=Zqe d
   exact Znc n _ (by omega)
theorem v.odd18 (he:EnvT e)(a:List Fi)(ha:a.length<=1000000000/\ ∀f∈a,f.1.length<=1000000000/\f.2.length<=1000000000):
  ∃t:Bool,vl e 13 0 [Zac a]=some (.bool t)/\(t=false->a.length<=40/\(∀f∈a,f.1.length+f.2.length<=4096)/\ ∃S id p1 p2,Made a S id p1 p2):=by
 obtain⟨g,g1,g2⟩:=v.odds he a ha 40 (by omega)
 have hbs:evp (.bsl 1) [Zac a]=some (.sl false 1 [Zac a]):=rfl
 have g1:vl e 40 0 [Zac a, .int .i64 40, .int .i64 4096]=some (.bool g):=g1
 rw[w1 s.zq62];unfold y.zq62
 cases g with
 |true=>simp only[yy,g1];exact⟨true,rfl,fun h=>by cases h⟩
 |false=>
  obtain⟨w1,w2⟩:=g2 rfl
  by_cases h1:whyB a=0
  ·obtain⟨t,t1,t2⟩:=w2 h1
   simp only[yy,g1,w1,h1,hbs,t1]
   simp only[if_true]
   exact⟨t,rfl,t2⟩
  ·simp only[yy,g1,w1,if_neg h1];exact⟨true,rfl,fun h=>by cases h⟩
theorem v.made18 (he:EnvT e){a S:List Fi}{id:Bytes}{p1 p2:MB}(h:Made a S id p1 p2)(hl:a.length<=200)(pm:Bytes->V)(hpm:∀f∈S,Za7 f.1=goMod->vl e 58 0 [.str f.2]=some (pm f.2)):
  vl e 10256 1 [Zac a]=some (.tup [I 1, .bool true,inpV (outs S 0 S.length),mS (Zg4 pm S []),mS (Zh1 S [])]):=by
 obtain⟨M1,M2,m3,h1,h2,h3,h4⟩:=v.NewS he h hl pm hpm
 rw[w1 s.zq61_h0];unfold y.zq61_h0
 simp only[yy,h1,h2,Zbc h3,h4]
 rfl
theorem v.none24 (he:EnvM e){a S:List Fi}{id:Bytes}{p1 p2:MB}(h:Made a S id p1 p2)(hl:a.length<=40)(d p:Bytes)(hd:d.length<=1000000)(hp:p.length<=1000000):
  ∀(n i:Nat),i+n=a.length->(∀k (hk:k<a.length),k<i->Za7 a[k].1≠goMod)->vl e 4 24 [Zac a, .str d, .str p,Zac a,I a.length,I i]=some (.bool true)
 |0,i,hi,hb=>by
  have hno:∀f∈S,Za7 f.1≠goMod:=fun f hf=>by
   obtain⟨k,hk,rfl⟩:=List.getElem_of_mem (h.perm.mem_iff.1 hf)
   exact hb k hk (by omega)
  have h1:=v.made18 he.toEnvT h (by omega) (fun _=>z4) (fun f hf h=>absurd h (hno f hf))
  rw[Znz _ hno]at h1
  have hM:ModS []:=fun p hp=>by cases hp
  have hn:=Znc _ d (Xae _)
  have h2:=v.PlaceNo he hM (inpV (outs S 0 S.length)) (mS (Zh1 S [])) d p (by omega) (by omega) hn
  have h3:=v.ModuleT (e:=e) hM (inpV (outs S 0 S.length)) (mS (Zh1 S [])) d (by omega)
  rw[hn]at h3
  have c2:∀k:Int,evp (.cat [some 2]) [plV k []]=some (plV k []):=fun _=>rfl
  have l0:∀k:Int,evp (.ld none 0) [plV k []]=some (I k):=fun _=>rfl
  have l1:∀k:Int,evp (.ld none 1) [plV k []]=some (.str []):=fun _=>rfl
  have z:evp (.cat [some 4]) [z4]=some z4:=rfl
  rw[w6 s.zq59_24];unfold y.zq59_24
  simp only[yy,if_neg (show ¬(i:Int)<(a.length:Int)by omega),h1,h2,h3,modO,Option.elim,Xbo,c2,l0,l1,z]
  simp only[Int.one_ne_zero,if_false,if_true,reduceCtorEq]
  unfold Zyt
  by_cases hc:p=[67]
  ·simp[hc,vif]
  ·by_cases h46:(46:UInt8)∈(Lib.cut p [47]).1<;>simp[hc,h46,vif]
 |n+1,i,hi,hb=>by
  have hlt:i<a.length:=by omega
  have hz:=h.sz _ (Xam hlt)
  have eg:V.str [103,111,46,109,111,100]= .str goMod:=rfl
  rw[w6 s.zq59_24];unfold y.zq59_24
  rw[eg]
  simp only[yy,if_pos (show(i:Int)<(a.length:Int)by omega),Zc1 hlt,Zf5,Zb1,Zek,v.rBase (e:=e) a[i].1 hz.1,Zai (show i<a.length by omega) (by omega)]
  by_cases hg:Za7 a[i].1=goMod
  ·rw[if_pos hg]
  ·rw[if_neg hg]
   exact v.none24 he h hl d p hd hp n (i+1) (by omega) fun k hk hki=>by
    rcases Xbf (Xee hki)with h|rfl
    ·exact hb k hk h
    ·exact hg
theorem q.resolveNone (he:EnvM e)(hal:vl e 12 0 []=some (.bool true))(a:List Fi)(ha:a.length<=1000000000/\ ∀f∈a,f.1.length<=1000000000/\f.2.length<=1000000000)(d p:Bytes)(hd:d.length<=100000000)(hp:p.length<=100000000):
  vl e 4 0 [Zac a, .str d, .str p]=some (.bool true):=by
 have t15:vl e 4 15 [Zac a, .str d, .str p, .bool true]=some (.bool true):=by
  rw[w4 s.zq59_15];rfl
 obtain⟨t,t1,t2⟩:=v.odd18 he.toEnvT a ha
 rw[w3 s.zq59];unfold y.zq59
 cases t with
 |true=>simp only[yy,hal,t1];exact t15
 |false=>
 obtain⟨l1,l2,S,id,p1,p2,hm⟩:=t2 rfl
 by_cases h512:512<p.length
 ·simp only[yy,hal,t1,if_pos (show(512:Int)<(p.length:Int)by omega)];exact t15
 simp only[yy,hal,t1,if_neg (show ¬(512:Int)<(p.length:Int)by omega)]
 have go:∀x:Bool,d.length<=1000000->vl e 4 15 [Zac a, .str d, .str p, .bool x]=some (.bool true):=by
  intro x hd
  cases x with
  |true=>exact t15
  |false=>
   rw[w4 s.zq59_15];unfold y.zq59_15
   simp only[yy,Zf8]
   exact v.none24 he hm l1 d p hd (by omega) a.length 0 (by omega) (fun k hk h=>by omega)
 obtain⟨b,b1,_⟩:=v.rPath (e:=e) p (by omega)
 by_cases h0:d=[]
 ·subst h0
  simp only[yy,b1]
  exact go _ (by simp)
 ·have hg:=v.rGood (e:=e) d (by omega)
  simp only[yy,if_neg h0,hg,b1]
  cases hgd:Zco d with
  |false=>exact t15
  |true=>exact go _ (by have:=Zig hgd;omega)
end Go.Proofs.YtegmegbanfkomaaGreatDoor
namespace Go.Abs
variable {P:Program}{tabs:List FE}{ow:Cfg}
structure Ent (P:Program)(tabs:List FE)(ow:Cfg) where
 f:Nat
 l:Nat
 g:Gam->List V->Option V
 ok:∀(e:Nat->List V->Option V) (Γ:Gam) (xs:List V) (r:V),g Γ xs=some r->Go.Abs.step P tabs e ow Γ f l xs=some r
def Fv :Nat->Type
 |0=>Option V
 |n+1=>V->Fv n
def apv :(n:Nat)->Fv n->List V->Option V
 |0,a,[]=>a
 |n+1,a,x::r=>apv n (a x) r
 |_,_,_=>none
def Isv :(n:Nat)->Fv n->(List V->Option V)->Prop
 |0,a,F=>F []=a
 |n+1,a,F=> ∀x,Isv n (a x) fun r=>F (x::r)
theorem Z0k :∀{n:Nat} {a:Fv n} {F:List V->Option V} {xs:List V} {r:V},Isv n a F->apv n a xs=some r->F xs=some r
 |0,a,F,[],r,h,hr=>by rw[show F []=a from h];exact hr
 |0,a,F,_::_,r,h,hr=>by cases hr
 |n+1,a,F,[],r,h,hr=>by cases hr
 |n+1,a,F,x::xs,r,h,hr=>Z0k (F:=fun r=>F (x::r)) (h x) hr
def Ent.of (n f l:Nat)(a:Gam->Fv n)(h:∀e Γ,Isv n (a Γ) (Go.Abs.step P tabs e ow Γ f l)):Ent P tabs ow:=
 ⟨f,l,fun Γ=>apv n (a Γ),fun e Γ _ _ hr=>Z0k (h e Γ) hr⟩
def look (f l:Nat):List (Ent P tabs ow)->Option (Ent P tabs ow)
 | []=>none
 |q::r=>match Nat.beq q.f f&&Nat.beq q.l l with|true=>some q|false=>look f l r
theorem Zxe {f l:Nat}:∀{T:List (Ent P tabs ow)} {q:Ent P tabs ow},look f l T=some q->q.f=f/\q.l=l
 | [],_,h=>by cases h
 |p::r,q,h=>by
  unfold look at h
  split at h
  ·cases h
   simp_all
  ·exact Zxe h
noncomputable def runY (T:List (Ent P tabs ow))(e0:Nat->List V->Option V):Nat->Gam
 |0=>fun _ _ _=>none
 |n+1=>fun f l xs=>match look f l T with
  |some q=>q.g (runY T e0 n) xs
  |none=>match l with
   |0=>match e0 f xs with|some r=>some r|none=>Go.Abs.step P tabs (fun _ _=>none) ow (runY T e0 n) f 0 xs
   |l+1=>Go.Abs.step P tabs (fun _ _=>none) ow (runY T e0 n) f (l+1) xs
theorem Zud {e:Nat->List V->Option V}{Γ:Gam}{f l:Nat}{xs:List V}{r:V}(h:Go.Abs.step P tabs (fun _ _=>none) ow Γ f l xs=some r):Go.Abs.step P tabs e ow Γ f l xs=some r:=by
 unfold Go.Abs.step at h⊢
 split at h
 ·exact h
 ·split at h<;>cases h
theorem Zuy {T:List (Ent P tabs ow)}{e0 e:Nat->List V->Option V}(h0:∀f xs r,e0 f xs=some r->val P tabs e ow f 0 xs=some r):∀n,Le (runY T e0 n) (val P tabs e ow)
 |0=>fun _ _ _ _ h=>by cases h
 |n+1=>fun f l xs r h=>by
  have go:∀{l},Go.Abs.step P tabs (fun _ _=>none) ow (runY T e0 n) f l xs=some r->val P tabs e ow f l xs=some r:=fun h=>by
   rw[Zl6]
   exact Zgx (Zuy h0 n) _ _ _ _ (Zud h)
  unfold runY at h
  split at h
  ·rename_i q hq
   obtain⟨rfl,rfl⟩:=Zxe hq
   rw[Zl6]
   exact Zgx (Zuy h0 n) _ _ _ _ (q.ok e _ xs r h)
  ·split at h
   ·split at h
    ·cases h;exact h0 _ _ _ (by assumption)
    ·exact go h
   ·exact go h
theorem Zmz {T:List (Ent P tabs ow)}{e0 e:Nat->List V->Option V}(h0:∀f xs r,e0 f xs=some r->val P tabs e ow f 0 xs=some r)(n:Nat){f l:Nat}{xs:List V}{r:V}(h:runY T e0 n f l xs=some r):val P tabs e ow f l xs=some r:=Zuy h0 n f l xs r h
end Go.Abs
namespace Go.Proofs.YtegmegbanfkomaaGreatDoor
open Go.Abs
set_option maxRecDepth 20000
variable {e:Ev}
def dA :Bytes:=[109,111,100,117,108,101,32,97]
def xF :Bytes:=[120,47,102,46,103,111]
def S18 :List Fi:=[(goMod,dA),(xF,[])]
def nA :Bytes:=Zar Za2 dA
def n0 :Bytes:=Zar Za2 []
def tX :Bytes:=Za8 [⟨[102,46,103,111],false,n0⟩]
def idX :Bytes:=Zar Zbl tX
def tR :Bytes:=Za8 [⟨goMod,false,nA⟩,⟨[120],true,idX⟩]
theorem Z9p :nA≠n0:=by decide+kernel
theorem Qbl :idX≠Zar Zbl tR:=by decide+kernel
theorem en1 :EnOK [⟨[102,46,103,111],false,n0⟩] where
 nm:=fun x hx=>by simp only[Xbp]at hx;subst hx;exact⟨by decide,by decide⟩
 id:=fun x hx=>by simp only[Xbp]at hx;subst hx;exact Zah _ _
 up:=by simp
 len:=by simp
theorem en2 :EnOK [⟨goMod,false,nA⟩,⟨[120],true,idX⟩] where
 nm:=fun x hx=>by simp only[Xap,Xb1,or_false]at hx;rcases hx with rfl|rfl<;>exact⟨by decide,by decide⟩
 id:=fun x hx=>by simp only[Xap,Xb1,or_false]at hx;rcases hx with rfl|rfl<;>exact Zah _ _
 up:=by simp;decide
 len:=by simp
theorem tr18 :Tr S18 [] 0 S18.length [] (Zar Zbl tR) [(nA,dA),(n0,[])] [(idX,tX),(Zar Zbl tR,tR)]:=by
 refine .blob (x:=goMod) (by decide) rfl ?_
 refine Tr.dir (k:=1) (x:=[120]) (id1:=idX) (p1:=[(n0,[])]) (q1:=[]) (p2:=[(idX,tX)]) (q2:=[(Zar Zbl tR,tR)]) (by decide) (by decide) (fun i h1 h2=> ?_) (fun h=>absurd h (by decide)) ?_ ?_
 ·obtain rfl:i=1:=by omega
  exact⟨[[102,46,103,111]],by simp,rfl⟩
 ·exact .blob (x:=[102,46,103,111]) (by decide) rfl (.done en1)
 ·exact .done en2
theorem so18 :SoOK S18 where
 good:=by decide
 data:=by decide
 len:=by decide
 up:=fun i j h1 h2=>by
  have:i=0/\j=1:=by simp only[S18,Xaq,Xa2]at h2;omega
  obtain⟨rfl,rfl⟩:=this
  decide
 free:=fun i j h1 h2 hne R h=>by
  have:(i=0/\j=1) \/(i=1/\j=0):=by simp only[S18,Xaq,Xa2]at h1 h2;omega
  rcases this with⟨rfl,rfl⟩|⟨rfl,rfl⟩
  ·have e1:pS S18 0=[goMod]:=rfl
   have e2:pS S18 1=[[120],[102,46,103,111]]:=rfl
   rw[e1,e2]at h
   have:=congrArg List.length h
   simp at this
  ·have e1:pS S18 0=[goMod]:=rfl
   have e2:pS S18 1=[[120],[102,46,103,111]]:=rfl
   rw[e1,e2]at h
   simp only[Xb4,Xcz]at h
   exact absurd h.1 (by decide)
theorem Qai :whyB S18=0:=by
 have h:∀i,i<S18.length->okI S18 i:=fun i hi=>by
  have:i=0 \/i=1:=by simp only[S18,Xaq,Xa2]at hi;omega
  rcases this with rfl|rfl
  ·refine⟨by decide,fun k hk hne=> ?_⟩
   obtain rfl:k=1:=by simp only[S18,Xaq,Xa2]at hk;omega
   decide
  ·refine⟨by decide,fun k hk hne=> ?_⟩
   obtain rfl:k=0:=by simp only[S18,Xaq,Xa2]at hk;omega
   decide
 unfold whyB
 rw[if_neg (by decide),if_pos h,if_pos (by decide)]
theorem Zqz {a b x z:Bytes}(h:a≠b):Cons [(a,x),(b,z)]:=fun p hp q hq hh=>by
 simp only[Xap,Xb1,or_false]at hp hq
 rcases hp with rfl|rfl<;>rcases hq with rfl|rfl
 ·rfl
 ·exact absurd hh h
 ·exact absurd hh.symm h
 ·rfl
theorem Z2e :Made S18 S18 (Zar Zbl tR) [(nA,dA),(n0,[])] [(idX,tX),(Zar Zbl tR,tR)] where
 perm:= .refl _
 ok:=so18
 tr:=tr18
 c1:=Zqz Z9p
 c2:=Zqz Qbl
 why:=Qai
 len:=by decide
 sz:=by decide
def unS :List V->Option (List Bytes)
 | []=>some []
 | .str s::r=>(unS r).map (s:: ·)
 |_=>none
theorem Z05 :∀{l:List V} {r:List Bytes},unS l=some r->l=r.map .str
 | [],r,h=>by cases h;rfl
 |v::l,r,h=>by
  cases v<;>simp only[unS,reduceCtorEq,Xaa]at h
  obtain⟨q,h1,rfl⟩:=h
  rw[Z05 h1];rfl
def e18 :Nat->List V->Option V:=fun f xs=>match f,xs with
 |110,[.str s, .str [c]]=>if s.length<4000000000 then some (strs (Zad c s))else none
 |50,[.str s, .str [c]]=>if s.length<4000000000 then some (.bool (decide (c∈s)))else none
 |49,[.str s, .str c]=>if s.length<4000000000 then some (cutE (Lib.cut s c))else none
 |99,[.sl false 1 l, .str s]=>match unS l with
  |some l=>if l.length<=1000000000/\(Zew s l).length<=140737488355328 then some (.str (Zew s l))else none
  |none=>none
 |104,[.str s, .str c]=>if s.length<4000000000 then some (I (Lib.index s c))else none
 |154,[.str s, .fn 155 []]=>if s.length<4000000000 then some (strs (fldB Zfl s []))else none
 |250,[.str s, .str [34,39,96,92,40,41,44,61,62]]=>if s.length<4000000000 then some (.bool (s.any fun b=>chars9.contains b))else none
 |_,_=>none
theorem Zm7 (he:EnvM e)(f:Nat)(xs:List V)(r:V)(h:e18 f xs=some r):vl e f 0 xs=some r:=by
 unfold e18 at h
 split at h
 ·split at h
  ·cases h;exact v.split he.toEnvT _ _ (by omega)
  ·cases h
 ·split at h
  ·cases h;exact v.contains he.toEnvT _ _ (by omega)
  ·cases h
 ·split at h
  ·cases h;exact v.cut he _ _ (by omega)
  ·cases h
 ·split at h
  ·split at h
   ·rename_i hl hc
    cases h
    rw[Z05 hl];exact v.join he.toEnvT _ _ hc.1 hc.2
   ·cases h
  ·cases h
 ·split at h
  ·cases h;exact v.index he _ _ (by omega)
  ·cases h
 ·split at h
  ·cases h;exact v.fields he _ (by omega)
  ·cases h
 ·split at h
  ·cases h;exact Zd5 (by kernel_rfl) (he.cany _ (by omega) rfl)
  ·cases h
 ·cases h
abbrev mo18 :V:= .agg [.str [97],I 0, .sl false 2 [],I 0]
abbrev ms18 :SM:=[([],mo18)]
abbrev ds18 :SM:=[([120], .bool true)]
def pl18 (F:V)(d p:Bytes)(k:Int)(x:Bytes)(e:Ev):Prop:=vl e 10273 1 [.str d, .str p,F,mS ms18,mS ds18]=some (.tup [plV k x,F,mS ms18,mS ds18])
theorem Qan (he:EnvM e)(F:V):pl18 F [] [97,47,120] 1 [120] e:=Zmz (T:=[]) (Zm7 he) 100 (by kernel_rfl)
theorem Qba (he:EnvM e)(F:V):pl18 F [120] [97,47,121] 5 [] e:=Zmz (T:=[]) (Zm7 he) 100 (by kernel_rfl)
theorem Qaq (he:EnvM e)(F:V):pl18 F [] [102,109,116] 2 [] e:=Zmz (T:=[]) (Zm7 he) 100 (by kernel_rfl)
theorem Z9e (he:EnvM e)(F:V):pl18 F [] [98,46,99,111,109,47,122] 4 [] e:=Zmz (T:=[]) (Zm7 he) 100 (by kernel_rfl)
theorem Z2g (he:EnvM e):vl e 58 0 [.str dA]=some mo18:=Zmz (T:=[]) (Zm7 he) 100 (by kernel_rfl)
theorem v.alive18 (he:EnvM e):vl e 12 0 []=some (.bool true):=by
 have hp:∀f∈S18,Za7 f.1=goMod->vl e 58 0 [.str f.2]=some mo18:=fun f hf hb=>by
  simp only[S18,Xap,Xb1,or_false]at hf
  rcases hf with rfl|rfl
  ·exact Z2g he
  ·exact absurd hb (by decide)
 have h1:=v.made18 he.toEnvT Z2e (by decide) (fun _=>mo18) hp
 rw[show Zg4 (fun _=>mo18) S18 []=ms18 from rfl,show Zh1 S18 []=ds18 from rfl]at h1
 have a:=Qan he (inpV (outs S18 0 S18.length))
 have b:=Qba he (inpV (outs S18 0 S18.length))
 have c:=Qaq he (inpV (outs S18 0 S18.length))
 have d:=Z9e he (inpV (outs S18 0 S18.length))
 unfold pl18 at a b c d
 have f1:evp (.cat [none,none]) [.str [103,111,46,109,111,100], .str [109,111,100,117,108,101,32,97]]=some (fv (goMod,dA)):=rfl
 have f2:evp (.cat [none,none]) [.str [120,47,102,46,103,111], .str []]=some (fv (xF,[])):=rfl
 have f3:evp (.cat [none]) [.str [120,47,102,46,103,111]]=some (.agg [.str xF]):=rfl
 have f4:evp (.bsl 2) [fv (goMod,dA),fv (xF,[])]=some (Zac S18):=rfl
 have q1:evp (.bin .eql (.flat [(some .i64,true),(none,true)])) [plV 1 [120],plV 1 [120]]=some (.bool true):=rfl
 have q2:∀k:Int,evp (.bin .eql (.flat [(some .i64,true),(none,true)])) [plV k [],plV k []]=some (.bool true):=fun k=>by
  show some (V.bool _)=_
  simp
 rw[w0 s.zq60];unfold y.zq60
 simp only[yy,f1,f2,f3,f4,h1,Int.one_ne_zero,if_false,a,b,c,d,cat1,cat2,q1,q2]
theorem q.resolveNone' (he:EnvM e)(a:List Fi)(ha:a.length<=1000000000/\ ∀f∈a,f.1.length<=1000000000/\f.2.length<=1000000000)(d p:Bytes)(hd:d.length<=100000000)(hp:p.length<=100000000):
  vl e 4 0 [Zac a, .str d, .str p]=some (.bool true):=q.resolveNone he (v.alive18 he) a ha d p hd hp
end Go.Proofs.YtegmegbanfkomaaGreatDoor
namespace Go.Proofs.YtegmegbanfkomaaGreatDoor
open Go.Abs
structure T.File where
 Path:Bytes
 Data:Bytes
 deriving DecidableEq
def C.File (x:T.File):List V:=[(V.str x.Path)]++ [(V.str x.Data)]
def E.File (x:T.File):V:= .agg (C.File x)
theorem E.File_clean (x:T.File):(E.File x).clean=true:=(Zbf (Zeg rfl rfl) (Zeg rfl rfl))
def E.LFile (l:(List T.File)):V:= .sl false 2 (l.map E.File)
end Go.Proofs.YtegmegbanfkomaaGreatDoor
namespace Go.Proofs.YtegmegbanfkomaaGreatDoor
open Go.ChangeShapes Go.WideShapes Go.RowKit Go.Abs
theorem ownK :ownKnob Tryz.prog.godebug=none:=by kernel_rfl
theorem kids :Kids Tryz.prog (· <Tryz.prog.types.size):=kids_rows (by kernel_rfl) (by kernel_rfl)
theorem full :∀t e,t<Tryz.prog.types.size->Tryz.prog.underlying t=some (.slice e)->0<Tryz.prog.cellsOf e:=slices_full_of Tryz.prog (by kernel_rfl)
section
variable {P:Program}{m:Nat}{t e:TypeId}{vs:List V}
theorem Z5m (hu:P.underlying t=some .string)(h:HasT P (m+1) t vs):∃x:Bytes,nfL vs=[V.str x]:=by
 simp only[HasT,hu]at h
 obtain⟨b,rfl⟩:=h;exact⟨b,rfl⟩
theorem Qab {α:Type}{E:α->V}{c:Nat}(hu:P.underlying t=some (.slice e))(hc:P.cellsOf e=c)(he:∀ws,HasT P m e ws-> ∃x,(elV P e ws).nf=E x)(h:HasT P (m+1) t vs):∃l:List α,nfL vs=[V.sl false c (l.map E)]:=by
 simp only[HasT,hu,hc]at h
 rcases h with rfl|⟨xs,rfl,hx⟩
 ·exact⟨[],rfl⟩
 ·have:∃l:List α,nfL xs=l.map E:=by
   clear hc
   induction xs with
   |nil=>exact⟨[],rfl⟩
   |cons x r ih=>
    obtain⟨l,hl⟩:=ih fun y hy=>hx y (by simp[hy])
    obtain⟨ws,hw,rfl⟩:=hx x (by simp)
    obtain⟨a,ha⟩:=he ws hw
    exact⟨a::l,by rw[nfL,ha,hl];rfl⟩
  obtain⟨l,hl⟩:=this
  exact⟨l,by show [V.sl false c (nfL xs)]=_;rw[hl]⟩
theorem Z4e (ha:Zd4 P t=true){l:List V}(h:nfL vs=l):(elV P t vs).nf= .agg l:=by
 unfold elV;rw[if_pos ha];show V.agg (nfL vs)=_;rw[h]
theorem Zty (ha:Zd4 P t=false){v:V}(h:nfL vs=[v]):(elV P t vs).nf=v:=by
 unfold elV;rw[if_neg (by simp[ha])]
 cases vs with
 |nil=>cases h
 |cons x r=>rw[nfL]at h;exact(List.cons.inj h).1
theorem nfL_flat :∀{wss:List (List V)},nfL wss.flatten=(wss.map nfL).flatten
 | []=>rfl
 |w::r=>by rw[Xcd,Zbv,nfL_flat];rfl
end
mutual
theorem Z73 :∀v:V,v.nf.wt<=v.wt
 | .agg cs=>by simp only[V.nf,V.wt];have:=Zwx cs;omega
 | .sl true sz []=>by simp[V.nf,V.wt]
 | .sl true _ (x::xs)=>by simp[V.nf,V.wt]
 | .sl false sz xs=>by simp only[V.nf,V.wt];have:=Zwx xs;omega
 | .el cs off=>by simp[V.nf,V.wt]
 | .tup cs=>by simp[V.nf,V.wt]
 | .fn f cs=>by simp[V.nf,V.wt]
 | .mfn f cs=>by simp[V.nf,V.wt]
 | .iface t v=>by simp[V.nf,V.wt]
 | .bool b=>Xae _
 | .int k n=>Xae _
 | .str s=>Xae _
 | .osl a b c d e=>Xae _
 | .gp g o=>Xae _
 | .ptr i o=>Xae _
 | .nilptr=>Xae _
 | .map i=>Xae _
 | .nilmap=>Xae _
 | .nilfn=>Xae _
 | .nilif=>Xae _
theorem Zwx :∀l:List V,wtL (nfL l)<=wtL l
 | []=>Xae _
 |v::r=>by simp only[nfL,wtL];have:=Z73 v;have:=Zwx r;omega
end
theorem Z24 {v w:V}{n:Nat}(h:v.nf=w)(hn:v.wt<=n):w.wt<=n:=by rw[<-h];exact Xba (Z73 v) hn
theorem Qa1 {α:Type}{E:α->V}{c:Nat}{l:List α}{n:Nat}(h:(V.sl false c (l.map E)).wt<=n):l.length<=n/\ ∀a∈l,(E a).wt<=n:=by
 simp only[V.wt]at h
 refine⟨by have:=Zs0 (l.map E);simp at this;omega,fun a ha=> ?_⟩
 have:=Zus (Xcq (f:=E) ha)
 omega
theorem Zr3 {s:Bytes}{n:Nat}(h:(V.str s).wt<=n):s.length<=n:=by simp only[V.wt]at h;omega
theorem Z0h {cs:List V}{v:V}{n:Nat}(h:(V.agg cs).wt<=n)(hv:v∈cs):v.wt<=n:=by
 simp only[V.wt]at h
 have:=Zus hv;omega
end Go.Proofs.YtegmegbanfkomaaGreatDoor
namespace Go.Proofs.YtegmegbanfkomaaGreatDoor
open Go.Abs
variable {e:Ev}
def fiOf (x:T.File):Fi:=(x.Path,x.Data)
theorem Zyo (l:List T.File):E.LFile l=Zac (l.map fiOf):=by
 unfold E.LFile Zac
 rw[Xcg];rfl
theorem Zx6 {l:List T.File}(h:(E.LFile l).wt<=1048576):(l.map fiOf).length<=1000000000/\ ∀f∈l.map fiOf,f.1.length<=1000000000/\f.2.length<=1000000000:=by
 obtain⟨h1,h2⟩:=Qa1 (E:=E.File) h
 refine⟨by rw[Xb2];omega,fun f hf=> ?_⟩
 obtain⟨x,hx,rfl⟩:=Xa7.1 hf
 have h3:=h2 x hx
 have a1:=Zr3 (Z0h h3 (v:= .str x.Path) (by simp[C.File]))
 have a2:=Zr3 (Z0h h3 (v:= .str x.Data) (by simp[C.File]))
 exact⟨by show x.Path.length<=_;omega,by show x.Data.length<=_;omega⟩
theorem Zll (he:EnvM e)(a:List T.File)(d p:Bytes)(ha:(E.LFile a).wt<=1048576)(hd:(V.str d).wt<=1048576)(hp:(V.str p).wt<=1048576):vl e 4 0 [E.LFile a, .str d, .str p]=some (.bool true):=by
 rw[Zyo]
 have a1:=Zr3 hd
 have a2:=Zr3 hp
 exact q.resolveNone' he _ (Zx6 ha) d p (by omega) (by omega)
end Go.Proofs.YtegmegbanfkomaaGreatDoor
namespace Go.Proofs.YtegmegbanfkomaaGreatDoor
open Go.Abs Go.RowKit
def exts :List FC:=[K.strings_Split,K.strings_Contains,K.strings_Join,K.strings_Cut,K.strings_Index,K.strings_FieldsFunc_3,K.strings_ContainsAny,K.strconv_Atoi,K.strconv_Itoa]
theorem Z1f (w:World)(hw:EnvE w):∀c∈exts,c.Holds (cxD w):=by
 intro c hc
 simp only[exts,Xap,Xb1,or_false]at hc
 rcases hc with rfl|rfl|rfl|rfl|rfl|rfl|rfl|rfl|rfl
 ·exact H.strings_Split w hw.toOK
 ·exact H.strings_Contains w hw.toOK
 ·exact H.strings_Join w hw.toOK
 ·exact H.strings_Cut w hw.toOK
 ·exact H.strings_Index w hw.toOK
 ·exact H.strings_FieldsFunc_3 w hw.toOK
 ·exact H.strings_ContainsAny w hw.toOK
 ·exact H.strconv_Atoi w hw
 ·exact H.strconv_Itoa w hw
theorem Zzk :∀c∈exts,cfg.ow c.f=true->c.own=true:=by
 intro c hc h
 simp only[exts,Xap,Xb1,or_false]at hc
 rcases hc with rfl|rfl|rfl|rfl|rfl|rfl|rfl|rfl|rfl
 ·rfl
 ·exact absurd h (by rw[show cfg.ow K.strings_Contains.f=false by kernel_rfl];decide)
 ·exact absurd h (by rw[show cfg.ow K.strings_Join.f=false by kernel_rfl];decide)
 ·exact absurd h (by rw[show cfg.ow K.strings_Cut.f=false by kernel_rfl];decide)
 ·exact absurd h (by rw[show cfg.ow K.strings_Index.f=false by kernel_rfl];decide)
 ·rfl
 ·exact absurd h (by rw[show cfg.ow K.strings_ContainsAny.f=false by kernel_rfl];decide)
 ·exact absurd h (by rw[show cfg.ow K.strconv_Atoi.f=false by kernel_rfl];decide)
 ·exact absurd h (by rw[show cfg.ow K.strconv_Itoa.f=false by kernel_rfl];decide)
theorem envX :EnvM (Zs6 exts) where
 split s c hs:=Zdc (cs:=exts) (c:=K.strings_Split) rfl ⟨(s,[c]),Zad c s,rfl,by simp[g.strings_Split,hs],rfl⟩
 contains s c hs:=Zdc (cs:=exts) (c:=K.strings_Contains) rfl ⟨(s,[c]),decide (c∈s),rfl,by simp[g.strings_Contains,hs],rfl⟩
 join l s hl hj:=Zdc (cs:=exts) (c:=K.strings_Join) rfl ⟨(l,s),Zew s l,rfl,by simp only[g.strings_Join,Zof];rw[if_pos ⟨hl,hj⟩],rfl⟩
 cut s c hs:=Zdc (cs:=exts) (c:=K.strings_Cut) rfl ⟨(s,c),Lib.cut s c,rfl,by simp[g.strings_Cut,hs],rfl⟩
 index s c hs:=Zdc (cs:=exts) (c:=K.strings_Index) rfl ⟨(s,c),Lib.index s c,rfl,by simp[g.strings_Index,hs],rfl⟩
 fields s hs:=Zdc (cs:=exts) (c:=K.strings_FieldsFunc_3) rfl ⟨s,fldB Zfl s [],rfl,by simp[g.strings_FieldsFunc_3,hs],rfl⟩
 cany s hs _:=Zdc (cs:=exts) (c:=K.strings_ContainsAny) rfl ⟨(s,chars9),s.any fun b=>chars9.contains b,rfl,if_pos ⟨hs,by show chars9.length<_;decide,by show 4<=chars9.length;decide,by show ascB chars9=true;decide⟩,rfl⟩
 atoi s hs:=Zdc (cs:=exts) (c:=K.strconv_Atoi) rfl ⟨s,Zjj s,rfl,by simp[g.strconv_Atoi,hs],rfl⟩
 itoa n h0 h1:=Zdc (cs:=exts) (c:=K.strconv_Itoa) rfl ⟨n,Lib.itoa n,rfl,by simp[g.strconv_Itoa,h0,h1],rfl⟩
end Go.Proofs.YtegmegbanfkomaaGreatDoor
