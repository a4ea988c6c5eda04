/-
  Parts of the proof, one behind the other. Own work of this seat; some printed by its programs.
-/
import Derived.Test.YtegmegbanfkomaaGreatDoorM0
import Derived.IntWalk
import Derived.Test.YtegmegbanfkomaaGreatDoorRows
import Derived.Deep.Slices
import Derived.ReadAgain
import Derived.Carry
import Derived.OpenShut
namespace Go.Abs
open Go.RowKit
variable {cx:Cx}{w:World}{B:Nat->Prop}{GB:Gh}{g:Gh}{st:St}{a:Act}{W:World}{Γ:Spec}
structure Ud where
 d:Option Nat
 v:V
 o:Bool
 tk:Option Pos
 nw:Option (List V)
def Ud.app (u:Ud)(st:St):St:=
 match u.nw with
 |none=>(st.take u.tk).put u.d u.v u.o
 |some cs=>(st.new cs).put u.d (.ptr st.nH 0) false
def udOf (Γ:Spec)(gl:Nat->Option (List V))(x:AOper)(st:St):Option Ud:=
 if st.wants x then
  match x.op with
  | .new cs=>some ⟨x.dst,Nil,false,none,some cs⟩
  | .box y=>if(st.ev y).cells.all V.sc then some ⟨x.dst,Nil,false,none,some (st.ev y).cells⟩else none
  |op=>(Zbr Γ gl st.H st.own st.tm op).map fun r=>⟨x.dst,r.v,r.o,r.tk,none⟩
 else some ⟨x.dst,Nil,false,none,none⟩
theorem Zei {gl:Nat->Option (List V)}{x:AOper}{st:St}{u:Ud}(hns:x.op.isStore=false)(h:udOf Γ gl x st=some u):exec Γ gl x st=some (u.app st):=by
 unfold udOf at h
 unfold exec
 split at h
 ·rename_i hw
  rw[if_pos hw]
  obtain⟨d,op,gd,af⟩:=x
  cases op<;>simp only[AOp.isStore,Bool.true_eq_false]at hns<;>simp only at h
  case new cs=>simp only[Xac]at h;subst h;rfl
  case box y=>
   split at h
   ·rename_i hall
    simp only[Xac]at h;subst h
    simp only[exec1,hall,if_true];rfl
   ·simp at h
  all_goals
   simp only[Xaa]at h
   obtain⟨r,hr,rfl⟩:=h
   simp only[exec1,hr,Xay]
   rfl
 ·rename_i hw
  rw[if_neg hw]
  simp only[Xac]at h;subst h;rfl
theorem Zhm {gl:Nat->Option (List V)}{x:AOper}{st st':St}(hns:x.op.isStore=false)(h:exec Γ gl x st=some st'):∃u,udOf Γ gl x st=some u/\st'=u.app st:=by
 unfold exec at h
 unfold udOf
 split at h
 ·rename_i hw
  rw[if_pos hw]
  obtain⟨d,op,gd,af⟩:=x
  cases op<;>simp only[AOp.isStore,Bool.true_eq_false]at hns<;>simp only[exec1]at h
  case new cs=>simp only[Xac]at h;subst h;exact⟨_,rfl,rfl⟩
  case box y=>
   split at h
   ·rename_i hall
    simp only[Xac]at h;subst h
    exact⟨⟨d,Nil,false,none,some (st.ev y).cells⟩,by grind,rfl⟩
   ·simp at h
  all_goals
   simp only[Xaa]at h
   obtain⟨r,hr,rfl⟩:=h
   exact⟨⟨d,r.v,r.o,r.tk,none⟩,by grind,rfl⟩
 ·rename_i hw
  rw[if_neg hw]
  simp only[Xac]at h;subst h
  exact⟨_,rfl,rfl⟩
theorem ud_d {gl:Nat->Option (List V)}{x:AOper}{st:St}{u:Ud}(h:udOf Γ gl x st=some u):u.d=x.dst:=by
 grind[Option.map_eq_some_iff,udOf]
theorem Zka {gl:Nat->Option (List V)}{x:AOper}{st:St}{u:Ud}(h:udOf Γ gl x st=some u):u.tk=none \/(∃t,u.tk=some (.slot t)/\t∈x.op.owns) \/(x.op.isLdo=true/\ ∃id j,u.tk=some (.cell id j)):=by
 unfold udOf at h
 split at h
 ·rename_i hw
  obtain⟨d,op,gd,af⟩:=x
  cases op<;>simp only at h
  case new cs=>grind
  case box y=>
   grind
  all_goals
   simp only[Xaa]at h
   obtain⟨r,hr,rfl⟩:=h
   simp only[Zbr]at hr
  case mvo t=>grind[AOp.owns]
  case ldo x=>
   unfold vLdo at hr
   split at hr
   ·simp only[Xab,Xaa]at hr
    obtain⟨_,_,_,_,rfl⟩:=hr
    exact .inr (.inr ⟨rfl,_,_,rfl⟩)
   ·simp at hr
  case app sz s x=>
   unfold vApp at hr
   split at hr
   ·grind
   ·split at hr
    ·simp only[Xac]at hr;subst hr
     cases s with
     |tmp t=>exact .inr (.inl ⟨t,rfl,by simp[AOp.owns,opdR]⟩)
     |const v=>exact .inl rfl
    ·simp at hr
   ·simp at hr
  case slc sz x lo hi mx=>
   unfold vSlc at hr
   grind[Option.map_eq_some_iff]
  case bsl sz xs=>split at hr<;>simp at hr;grind
  case s2b x=>unfold vS2b at hr;split at hr<;>simp at hr;grind
  case mks sz z x y=>
   unfold vMk at hr
   split at hr
   rotate_left
   ·unfold vMkz at hr
    grind
   unfold vMks at hr
   grind
  case call f xs=>
   grind[Option.bind_eq_some_iff,Option.map_eq_some_iff,Zke]
  case callv f xs=>
   unfold Zsk at hr
   grind[Option.map_eq_some_iff]
  case mv x=>grind
  case mkf f xs=>grind
  case mkm f xs=>grind
  all_goals grind[Zam]
 grind
theorem St.ext' {s t:St}(h1:s.tm=t.tm)(h2:s.own=t.own)(h3:s.H=t.H)(h4:s.nH=t.nH):s=t:=by cases s;simp_all
def Ud.val (u:Ud)(st:St):V:=match u.nw with|none=>u.v|some _=> .ptr st.nH 0
def Ud.flag (u:Ud):Bool:=match u.nw with|none=>u.o|some _=>false
def Ud.took (u:Ud):Option Pos:=match u.nw with|none=>u.tk|some _=>none
theorem Zgs (u:Ud)(st:St)(t:Nat):(u.app st).tm t=if u.d=some t then u.val st else st.tm t:=by
 obtain⟨d,v,o,tk,nw⟩:=u
 cases nw<;>cases d<;>simp[Ud.app,Ud.val,St.put,upd,St.new,eq_comm]
def Zgl (id:Nat):Pos->Bool
 | .cell i _=>i==id
 | .slot _=>false
theorem Zdm (u:Ud)(st:St)(p:Pos):(u.app st).own p=if u.d.map Pos.slot=some p then u.flag else if u.took=some p then false else if u.nw.isSome=true/\Zgl st.nH p=true then false else st.own p:=by
 obtain⟨d,v,o,tk,nw⟩:=u
 have h1:∀d:Nat,(Option.map Pos.slot (some d)=some p)<->p= .slot d:=fun d=>by grind
 have h2:∀q:Pos,(some q=some p)<->p=q:=fun q=>by grind
 have h3:(Option.map Pos.slot (none:Option Nat)=some p)<->False:=by simp
 have h4:((none:Option Pos)=some p)<->False:=by simp
 cases nw with
 |none=>
  cases d with
  |none=>
   cases tk<;>simp_all[Ud.app,Ud.took,St.put,St.take,updP]
  |some d=>
   cases tk<;>simp_all[Ud.app,Ud.took,Ud.flag,St.put,St.take,updP]
 |some cs=>
  cases d with
  |none=>cases p<;>simp[Ud.app,Ud.took,St.put,St.new,Zgl]
  |some d=>
   simp only[Ud.app,Ud.took,Ud.flag,St.put,St.new,updP,h1,h4,if_false]
   cases p<;>simp[Zgl]
theorem Zjg (u:Ud)(st:St):(u.app st).H=(match u.nw with|none=>st.H|some cs=>upd st.H st.nH (some (.cells cs)))/\(u.app st).nH=st.nH+(if u.nw.isSome then 1 else 0):=by
 obtain⟨d,v,o,tk,nw⟩:=u
 cases nw<;>cases d<;>simp[Ud.app,St.put,St.new]
def Zc8 :Option Pos->Bool
 |some (.cell _ _)=>true
 |_=>false
structure Apart (u v:Ud):Prop where
 d:∀t,u.d=some t->v.d≠some t
 tu:∀t,u.tk=some (.slot t)->v.d≠some t/\v.tk≠some (.slot t)
 tv:∀t,v.tk=some (.slot t)->u.d≠some t/\u.tk≠some (.slot t)
 c: ¬(Zc8 u.tk=true/\Zc8 v.tk=true)
 n: ¬(u.nw.isSome=true/\v.nw.isSome=true)
 nu:u.nw.isSome=true->Zc8 v.tk=false
 nv:v.nw.isSome=true->Zc8 u.tk=false
theorem Ud.took_slot {u:Ud}{t:Nat}(h:u.took=some (.slot t)):u.tk=some (.slot t):=by
 grind[Ud.took]
theorem Ud.took_cell {u:Ud}{id j:Nat}(h:u.took=some (.cell id j)):Zc8 u.tk=true/\u.nw=none:=by
 unfold Ud.took at h;split at h
 ·rename_i e;rw[h];exact⟨rfl,e⟩
 ·cases h
theorem Zyg {u v:Ud}(h:Apart u v)(st:St):u.app (v.app st)=v.app (u.app st):=by
 obtain⟨hu1,hu2⟩:=Zjg u st
 obtain⟨hv1,hv2⟩:=Zjg v st
 obtain⟨huv1,huv2⟩:=Zjg u (v.app st)
 obtain⟨hvu1,hvu2⟩:=Zjg v (u.app st)
 have hn:u.nw=none \/v.nw=none:=by
  cases hu:u.nw with
  |none=>exact .inl rfl
  |some a=>cases hv:v.nw with
   |none=>exact .inr rfl
   |some b=>exact absurd ⟨by simp[hu],by simp[hv]⟩ h.n
 have valu:u.val (v.app st)=u.val st:=by
  grind[Ud.val]
 have valv:v.val (u.app st)=v.val st:=by
  grind[Ud.val]
 apply St.ext'
 ·funext t
  rw[Zgs,Zgs,Zgs,Zgs,valu,valv]
  by_cases e1:u.d=some t
  ·rw[if_pos e1,if_neg (h.d t e1),if_pos e1]
  grind
 ·funext p
  rw[Zdm,Zdm,Zdm,Zdm]
  cases p with
  |slot t=>
   have e:∀x:Option Nat,(x.map Pos.slot=some (.slot t))<->x=some t:=by simp_all
   simp only[e,Zgl,Xat,and_false,if_false]
   by_cases c1:u.d=some t
   ·have c2:=h.d t c1
    have c3:v.took≠some (.slot t):=fun e=>(h.tv t (Ud.took_slot e)).1 c1
    grind
   ·by_cases c2:v.d=some t
    ·have c3:u.took≠some (.slot t):=fun e=>(h.tu t (Ud.took_slot e)).1 c2
     grind
    grind
  |cell id j=>
   have e:∀x:Option Nat,(x.map Pos.slot=some (Pos.cell id j))<->False:=by simp_all
   grind
 ·grind
 omega
end Go.Abs
namespace Go.Abs
open Go.RowKit
variable {cx:Cx}{w:World}{B:Nat->Prop}{GB:Gh}{g:Gh}{st:St}{a:Act}{W:World}{Γ:Spec}
def Zcj :V->Option Nat
 | .ptr id _=>some id
 | .osl id _ len _ _=>if len=0 then none else some id
 | .map id=>some id
 |_=>none
def AOp.hOpds :AOp->List Opd
 | .load _ x| .ldo x| .b2s x| .app _ _ x| .slca _ _ x _ _ _| .mlk _ _ _ x _| .mln x=> [x]
 | .call _ xs=>xs
 |_=> []
def Zit (n:Nat):Opd->Bool
 | .tmp t=>decide (t<n)
 | .const v=>(Zcj v).isNone
theorem Zcg {H H':Hp}{id:Nat}(h:H id=H' id):Zap H id=Zap H' id:=by unfold Zap;rw[h]
theorem Zjc {H H':Hp}{m:V}(h:∀id,Zcj m=some id->H id=H' id):Zjz H m=Zjz H' m:=by
 cases m<;>simp only[Zjz]
 rename_i id
 unfold hMap
 rw[h id rfl]
theorem Zks {H:Hp}{m:V}{l:List (V×V)}(h:Zjz H m=some l):∀id,Zcj m=some id->(H id).isSome=true:=by
 intro id hid
 cases m<;>simp only[Zjz,reduceCtorEq]at h
 ·grind[Zcj,hMap]
 ·cases hid
theorem Zpe {nl:Bool}{H H':Hp}{v:V}(h:∀id,Zcj v=some id->H id=H' id):Zf3 nl H v=Zf3 nl H' v:=by
 unfold Zf3
 grind[Zcg,Zcj]
theorem Zi6 {nl:Bool}{H H':Hp}:∀{vs:List V},(∀v∈vs, ∀id,Zcj v=some id->H id=H' id)->Zgk nl H vs=Zgk nl H' vs
 | [],_=>rfl
 |v::vs,h=>by
  simp only[Zgk]
  rw[Zpe (h v (by simp)),Zi6 fun x hx=>h x (by simp[hx])]
theorem Z16 {gl:Nat->Option (List V)}{H H':Hp}{own:Pos->Bool}{tm:Nat->V}{ao:AOp}(h:∀x∈ao.hOpds, ∀id,Zcj (evO tm x)=some id->H id=H' id):Zbr Γ gl H own tm ao=Zbr Γ gl H' own tm ao:=by
 cases ao<;>simp only[Zbr]<;>simp only[AOp.hOpds,Xbp,forall_eq]at h
 case load n x=>
  cases hx:evO tm x<;>simp only[Zfe]
  rename_i id o
  rw[Zcg (h id (by rw[hx];rfl))]
 case ldo x=>
  cases hx:evO tm x<;>simp only[vLdo]
  rename_i id o
  rw[Zcg (h id (by rw[hx];rfl))]
 case b2s x=>
  have:vB2s H (evO tm x)=vB2s H' (evO tm x):=by
   unfold vB2s
   grind[Zcg,Zcj]
  rw[this]
 case mlk ks z ok x y=>
  grind[Zjc,vMlk]
 case mln x=>
  grind[Zjc,vMln]
 case slca n sz x lo hi mx=>
  have:Zj5 H n sz (evO tm x) (lo.map (evO tm)) (hi.map (evO tm)) (mx.map (evO tm))=Zj5 H' n sz (evO tm x) (lo.map (evO tm)) (hi.map (evO tm)) (mx.map (evO tm)):=by
   unfold Zj5
   split
   ·rename_i hx
    rw[Zcg (h _ (by rw[hx];rfl))]
   ·rfl
  rw[this]
 case call f xs=>
  grind[Zi6,Zke]
 case app sz s x=>
  have:Zb2 H sz (evO tm x)=Zb2 H' sz (evO tm x):=by
   cases hx:evO tm x<;>simp only[Zb2]
   grind[Zcg,Zcj]
  simp_all[vApp]
theorem Zss {nl:Bool}{H:Hp}{v u:V}(h:Zf3 nl H v=some u)(hp:v.isPtrV=false):∀id,Zcj v=some id->(H id).isSome=true:=by
 have hc:∀{id cs},Zap H id=some cs->(H id).isSome=true:=fun h=>by rw[Zbd h];rfl
 intro id hid
 cases v<;>simp only[Zcj,reduceCtorEq,Xac]at hid
 ·grind[Option.bind_eq_some_iff,Zf3]
 ·grind[V.isPtrV]
 grind[V.isPtrV]
theorem Zkz {nl:Bool}{H:Hp}:∀{vs us:List V},Zgk nl H vs=some us->vs.any V.isPtrV=false-> ∀v∈vs, ∀id,Zcj v=some id->(H id).isSome=true
 | [],_,_,_,v,hv=>by cases hv
 |v::vs,us,h,hp,x,hx=>by
  simp only[Zgk,Xab,Xaa]at h
  obtain⟨u,h1,us',h2,rfl⟩:=h
  simp only[Xeh,Xbm]at hp
  rcases Xap.1 hx with rfl|hx
  ·exact Zss h1 hp.1
  ·exact Zkz h2 hp.2 x hx
theorem Zs7 {gl:Nat->Option (List V)}{H:Hp}{own:Pos->Bool}{tm:Nat->V}{ao:AOp}{r:Res}(h:Zbr Γ gl H own tm ao=some r):∀x∈ao.hOpds, ∀id,Zcj (evO tm x)=some id->(H id).isSome=true:=by
 have hc:∀{id cs},Zap H id=some cs->(H id).isSome=true:=fun h=>by rw[Zbd h];rfl
 cases ao<;>simp only[AOp.hOpds,Xbp,forall_eq,Xb1,false_implies,implies_true]<;>intro i hid
 case load n x=>
  replace h:=Zam (show resV (Zfe gl H n (evO tm x))=some r from h);obtain⟨v,h,rfl⟩:=h
  generalize evO tm x=u at h hid
  cases u<;>simp only[Zcj,Xac,reduceCtorEq]at hid
  ·grind[Zfe]
  ·grind[Option.bind_eq_some_iff,Zfe]
  grind[Zfe]
 case ldo x=>
  replace h:vLdo H own (evO tm x)=some r:=h
  generalize evO tm x=u at h hid
  cases u<;>simp only[Zcj,Xac,reduceCtorEq]at hid
  ·grind[vLdo]
  ·grind[Option.bind_eq_some_iff,vLdo]
  grind[vLdo]
 case b2s x=>
  replace h:=Zam (show resV (vB2s H (evO tm x))=some r from h);obtain⟨v,h,rfl⟩:=h
  generalize evO tm x=u at h hid
  unfold vB2s at h
  grind[Option.bind_eq_some_iff,Zcj]
 case app sz s x=>
  replace h:vApp H (ownO own s) sz (posO s) (evO tm s) (evO tm x)=some r:=h
  have ht:∃ys,Zb2 H sz (evO tm x)=some ys:=by
   unfold vApp at h
   grind
  obtain⟨ys,ht⟩:=ht
  generalize evO tm x=u at ht hid
  cases u<;>simp only[Zcj,Xac,reduceCtorEq]at hid
  ·grind[Option.bind_eq_some_iff,Zb2]
  ·grind[Zb2]
  grind[Zb2]
 case mlk ks z ok x y=>
  replace h:=Zam (show resV (vMlk H ks z ok (evO tm x) (evO tm y))=some r from h);grind[Option.bind_eq_some_iff,Zks,vMlk]
 case mln x=>
  replace h:=Zam (show resV (vMln H (evO tm x))=some r from h);grind[Option.map_eq_some_iff,Zks,vMln]
 case slca n sz x lo hi mx=>
  replace h:=Zam (show resV (Zj5 H n sz (evO tm x) (lo.map (evO tm)) (hi.map (evO tm)) (mx.map (evO tm)))=some r from h);obtain⟨v,h,rfl⟩:=h
  unfold Zj5 at h
  grind[Option.bind_eq_some_iff,Zcj]
 case call f xs=>
  replace h:Zke Γ H f (xs.map (evO tm))=some r:=h
  intro id hx
  unfold Zke at h
  split at h
  ·cases h
  rename_i hp
  have hp':(xs.map (evO tm)).any V.isPtrV=false:=by simpa using hp
  split at h
  ·grind[Option.bind_eq_some_iff,Zkz,List.mem_map_of_mem]
  ·rename_i ho
   exfalso
   have h1:=Xcy.1 hp' _ (Xcq hid)
   have ho':(xs.map (evO tm)).any V.isOsl=false:=by simpa using ho
   have h2:=Xcy.1 ho' _ (Xcq hid)
   generalize evO tm i=u at hx h1 h2
   cases u<;>simp[Zcj,V.isPtrV,V.isOsl]at hx h1 h2
theorem SR.ref (h:SR w B GB g st a W){n:Nat}(hn:a.tmps.size=n){x:Opd}(hx:Zit n x=true){id:Nat}(hid:Zcj (evO st.tm x)=some id):id<st.nH:=by
 cases x with
 |const v=>grind[Zit,evO]
 |tmp t=>
  have hr:=h.get (t:=t) (by grind[Zit])
  simp only[evO]at hid
  generalize st.tm t=v at hr hid
  generalize a.eval (.tmp t)=y at hr
  cases hr<;>simp only[Zcj,Xac,reduceCtorEq,if_true]at hid
  ·split at hid
   ·cases hid
   ·simp only[Xac]at hid;subst hid;exact(h.φ _ _ (by assumption)).2.2
  ·subst hid;exact(h.φ _ _ (by assumption)).2.2
  ·subst hid;exact(h.φ _ _ (by assumption)).2.2
def Zal (U:Nat->Ud)(S:Nat->Bool)(s0:St):Nat->St
 |0=>s0
 |n+1=>if S n then(U n).app (Zal U S s0 n)else Zal U S s0 n
section
variable {U:Nat->Ud}{S S':Nat->Bool}{s0:St}{m:Nat}
def Ziu (U:Nat->Ud)(m:Nat):Prop:=∀k k',k<m->k'<m->(U k).nw.isSome=true->(U k').nw.isSome=true->k=k'
theorem Zbj :∀{n:Nat},(∀k,k<n->S k=true->(U k).nw=none)->(Zal U S s0 n).H=s0.H/\(Zal U S s0 n).nH=s0.nH
 |0,_=>⟨rfl,rfl⟩
 |n+1,h=>by
  obtain⟨h1,h2⟩:=Zbj (n:=n) fun k hk=>h k (by omega)
  simp only[Zal]
  split
  ·rename_i hs
   obtain⟨e1,e2⟩:=Zjg (U n) (Zal U S s0 n)
   have:=h n (by omega) hs
   rw[e1,e2,this];exact⟨h1,by simpa using h2⟩
  ·exact⟨h1,h2⟩
theorem Zdd (ho:Ziu U m){k:Nat}{cs:List V}(hk:(U k).nw=some cs)(hs:S k=true):∀{n:Nat},k<n->n<=m->(Zal U S s0 n).H=upd s0.H s0.nH (some (.cells cs))/\(Zal U S s0 n).nH=s0.nH+1
 |0,h,_=>by omega
 |n+1,h,hm=>by
  simp only[Zal]
  by_cases hn:k=n
  ·subst hn
   rw[if_pos hs]
   obtain⟨h1,h2⟩:=Zbj (U:=U) (S:=S) (s0:=s0) (n:=k) fun j hj _=>by
    cases hj':(U j).nw with
    |none=>rfl
    |some x=>have:=ho j k (by omega) (by omega) (by rw[hj'];rfl) (by rw[hk];rfl);omega
   grind[Zjg]
  ·obtain⟨h1,h2⟩:=Zdd ho hk hs (n:=n) (by omega) (by omega)
   split
   ·have hnn:(U n).nw=none:=by
     cases hj':(U n).nw with
     |none=>rfl
     |some x=>exact absurd (ho k n (by omega) (by omega) (by rw[hk];rfl) (by rw[hj'];rfl)) hn
    grind[Zjg]
   grind
theorem Zif (ho:Ziu U m){n:Nat}(hn:n<m)(hnw:(U n).nw.isSome=true):(Zal U S s0 n).nH=s0.nH:=
 (Zbj fun k hk _=>by
  cases hj':(U k).nw with
  |none=>rfl
  |some x=>have:=ho k n (by omega) hn (by rw[hj'];rfl) hnw;omega).2
theorem Zgv (ho:Ziu U m){t:Nat}:∀{n:Nat},n<=m->(∀k,k<n->(U k).d=some t->S k=S' k)->(Zal U S s0 n).tm t=(Zal U S' s0 n).tm t
 |0,_,_=>rfl
 |n+1,hm,h=>by
  have ih:=Zgv ho (n:=n) (by omega) fun k hk=>h k (by omega)
  have hval:(U n).val (Zal U S s0 n)=(U n).val (Zal U S' s0 n):=by
   unfold Ud.val
   split
   ·rfl
   ·rename_i cs hcs
    rw[Zif ho (by omega) (by rw[hcs];rfl),Zif ho (by omega) (by rw[hcs];rfl)]
  simp only[Zal]
  by_cases hd:(U n).d=some t
  ·rw[h n (by omega) hd]
   split
   ·rw[Zgs,Zgs,if_pos hd,if_pos hd,hval]
   ·exact ih
  ·have e1:∀s:St,((U n).app s).tm t=s.tm t:=fun s=>by rw[Zgs,if_neg hd]
   split<;>split<;>(try simp only[e1])<;>exact ih
def Zbz (u:Ud):Pos->Bool
 | .slot t=>u.d==some t||u.tk==some (.slot t)
 | .cell _ _=>Zc8 u.tk||u.nw.isSome
theorem Zpq {u:Ud}{p:Pos}(h:Zbz u p=false)(s:St):(u.app s).own p=s.own p:=by
 rw[Zdm]
 cases p with
 |slot t=>
  simp only[Zbz,Xbm,beq_eq_false_iff_ne,ne_eq]at h
  have h1: ¬(u.d.map Pos.slot=some (.slot t)):=fun e=>h.1 (by cases hd:u.d<;>rw[hd]at e<;>simp at e;rw[e])
  grind[Ud.took_slot,Zgl]
 |cell id j=>
  simp only[Zbz,Xbm]at h
  have h1: ¬(u.d.map Pos.slot=some (Pos.cell id j)):=fun e=>by cases hd:u.d<;>rw[hd]at e<;>simp at e
  grind[Ud.took_cell]
theorem Zcz (ho:Ziu U m){p:Pos}:∀{n:Nat},n<=m->(∀k,k<n->Zbz (U k) p=true->S k=S' k)->(Zal U S s0 n).own p=(Zal U S' s0 n).own p
 |0,_,_=>rfl
 |n+1,hm,h=>by
  have ih:=Zcz ho (n:=n) (by omega) fun k hk=>h k (by omega)
  simp only[Zal]
  cases ht:Zbz (U n) p with
  |false=>
   split<;>split<;>(try simp only[Zpq ht])<;>exact ih
  |true=>
   rw[h n (by omega) ht]
   split
   ·rw[Zdm,Zdm,ih]
    by_cases hnw:(U n).nw.isSome=true
    ·rw[Zif ho (by omega) hnw,Zif ho (by omega) hnw]
    ·simp[hnw]
   ·exact ih
theorem Zim {i:Nat}:∀{n:Nat},i<=n->Zal U (fun k=>decide (k<i)) s0 n=Zal U (fun _=>true) s0 i
 |0,h=>by have:i=0:=by omega
          subst this;rfl
 |n+1,h=>by
  by_cases hi:i=n+1
  ·subst hi
   have:∀j,j<=n+1->Zal U (fun k=>decide (k<n+1)) s0 j=Zal U (fun _=>true) s0 j:=by
    intro j
    induction j<;>grind[Zal]
   grind
  ·simp only[Zal,show decide (n<i)=false by simp;omega,Xat,if_false]
   exact Zim (by omega)
theorem Zbh :∀{n:Nat},(∀k,k<n->S k=S' k)->Zal U S s0 n=Zal U S' s0 n
 |0,_=>rfl
 |n+1,h=>by simp only[Zal,h n (by omega),Zbh (n:=n) fun k hk=>h k (by omega)]
theorem Zdn {i:Nat}(hi:S i=false)(hS':∀k,S' k=(S k||k==i)):∀{n:Nat},i<n->(∀k,i<k->k<n->S k=true->Apart (U k) (U i))->Zal U S' s0 n=(U i).app (Zal U S s0 n)
 |0,h,_=>by omega
 |n+1,h,hap=>by
  by_cases hn:i=n
  ·subst hn
   simp only[Zal,hS',hi,beq_self_eq_true,Bool.or_true,if_true,Xat,if_false]
   rw[Zbh (S:=S') (S':=S) fun k hk=>by rw[hS'];simp;omega]
  ·have hne:(n==i)=false:=by simp;omega
   have ih:=Zdn hi hS' (n:=n) (by omega) fun k h1 h2=>hap k h1 (by omega)
   simp only[Zal,hS',hne,Xep]
   grind[Zyg]
end
def AOper.rd (x:AOper):List Nat:=x.op.reads++(match x.guard with|some (t,_)=> [t]|none=> [])
def AOper.ws (x:AOper):List Nat:=x.dst.toList
def Zuw (l m:List Nat):Bool:=l.any fun t=>m.contains t
def Za3 (x y:AOper):Bool:=
 Zuw x.ws (y.rd++y.ws++y.op.owns)||Zuw y.ws (x.rd++x.op.owns)||Zuw x.op.owns y.op.owns||
 (x.op.isLdo&&y.op.isLdo)||(x.op.isNew&&y.op.isNew)||(x.op.isNew&&y.op.isLdo)||(x.op.isLdo&&y.op.isNew)
def dd :List Nat->List Nat
 | []=> []
 |a::r=>match r.any (Nat.beq a)with|true=>dd r|false=>a::dd r
def ancs :List AOper->List (List Nat)->List (List Nat)
 | [],acc=>acc
 |x::r,acc=>ancs r (acc++ [dd (x.after++x.after.flatMap fun e=>acc.getD e [])])
def Z02 (n:Nat)(aos:List AOper)(m:Nat):Bool:=
 let an:=ancs aos []
 let N:=aos.length
 (List.range N).all fun i=>
  let x:=aos.getD i default
  let ai:=an.getD i []
  x.after.all (fun e=>decide (e<i))&&
  ai.all (fun j=>x.after.contains j||x.after.any fun e=>(an.getD e []).contains j)&&
  (if i<m then !x.op.isStore&&x.op.hOpds.all (Zit n)&&
    (List.range i).all fun j=>(ai.contains j|| !Za3 (aos.getD j default) x)&& !(x.op.isNew&&(aos.getD j default).op.isNew)
   else(List.range i).all fun j=>ai.contains j)
end Go.Abs
namespace Go.Abs
open Go.RowKit
variable {cx:Cx}{w:World}{B:Nat->Prop}{GB:Gh}{g:Gh}{st:St}{a:Act}{W:World}{Γ:Spec}{R:TypeId->Bool}
theorem Zav {l m:List Nat}(h:Zuw l m=false){t:Nat}(hl:t∈l):t∉m:=by
 intro hm
 have:=Xcy.1 h t hl
 simp[hm]at this
theorem Zij {gl:Nat->Option (List V)}{x y:AOper}{s s':St}{u v:Ud}(hu:udOf Γ gl x s=some u)(hv:udOf Γ gl y s'=some v)(hc:Za3 x y=false)(hnu:u.nw.isSome=true->x.op.isNew=true)(hnv:v.nw.isSome=true->y.op.isNew=true):Apart u v:=by
 simp only[Za3,Xbm]at hc
 obtain⟨⟨⟨⟨⟨⟨c1,c2⟩,c3⟩,c4⟩,c5⟩,c6⟩,c7⟩:=hc
 have du:=ud_d hu
 have dv:=ud_d hv
 have tu:=Zka hu
 have tv:=Zka hv
 have mem:∀{z:AOper} {t:Nat},z.dst=some t->t∈z.ws:=fun h=>by simp[AOper.ws,h]
 have cellu:Zc8 u.tk=true->x.op.isLdo=true:=fun h=>by
  rcases tu with e|⟨t,e,_⟩|⟨e,_⟩
  ·rw[e]at h;cases h
  ·rw[e]at h;cases h
  ·exact e
 have cellv:Zc8 v.tk=true->y.op.isLdo=true:=fun h=>by
  rcases tv with e|⟨t,e,_⟩|⟨e,_⟩
  ·rw[e]at h;cases h
  ·rw[e]at h;cases h
  ·exact e
 have slotu:∀t,u.tk=some (.slot t)->t∈x.op.owns:=fun t h=>by
  rcases tu with e|⟨t',e,h'⟩|⟨_,id,j,e⟩
  ·rw[e]at h;cases h
  ·rw[e]at h;cases h;exact h'
  ·rw[e]at h;cases h
 have slotv:∀t,v.tk=some (.slot t)->t∈y.op.owns:=fun t h=>by
  rcases tv with e|⟨t',e,h'⟩|⟨_,id,j,e⟩
  ·rw[e]at h;cases h
  ·rw[e]at h;cases h;exact h'
  ·rw[e]at h;cases h
 refine⟨fun t h1 h2=> ?_,fun t h=>⟨fun h2=> ?_,fun h2=> ?_⟩,fun t h=>⟨fun h2=> ?_,fun h2=> ?_⟩,fun⟨h1,h2⟩=> ?_,fun⟨h1,h2⟩=> ?_,fun h=> ?_,fun h=> ?_⟩
 ·rw[du]at h1;rw[dv]at h2
  exact Zav c1 (mem h1) (by simp[mem h2])
 ·rw[dv]at h2
  exact Zav c2 (mem h2) (by simp[slotu t h])
 ·exact Zav c3 (slotu t h) (slotv t h2)
 ·rw[du]at h2
  exact Zav c1 (mem h2) (by simp[slotv t h])
 ·exact Zav c3 (slotu t h2) (slotv t h)
 ·rw[cellu h1,cellv h2]at c4;cases c4
 ·rw[hnu h1,hnv h2]at c5;cases c5
 ·cases hh:Zc8 v.tk with
  |false=>rfl
  |true=>rw[hnu h,cellv hh]at c6;cases c6
 ·cases hh:Zc8 u.tk with
  |false=>rfl
  |true=>rw[hnv h,cellu hh]at c7;cases c7
theorem Zhf {x y:AOper}(h:Za3 x y=false):Za3 y x=false:=by
 simp only[Za3,Xbm]at h⊢
 obtain⟨⟨⟨⟨⟨⟨c1,c2⟩,c3⟩,c4⟩,c5⟩,c6⟩,c7⟩:=h
 have m1:∀{l m:List Nat},(∀t∈l,t∉m)->Zuw l m=false:=fun h=>Xcy.2 fun t ht=>by simpa using h t ht
 refine⟨⟨⟨⟨⟨⟨m1 fun t ht hm=> ?_,m1 fun t ht hm=> ?_⟩,m1 fun t ht hm=>Zav c3 hm ht⟩,by rw[Xd2];exact c4⟩,by rw[Xd2];exact c5⟩,by rw[Xd2];exact c7⟩,by rw[Xd2];exact c6⟩
 ·simp only[Xar,Xaz]at hm
  rcases hm with hm|hm|hm
  ·exact Zav c2 ht (by simp[hm])
  ·exact Zav c1 hm (by simp[ht])
  ·exact Zav c2 ht (by simp[hm])
 ·simp only[Xaz]at hm
  rcases hm with hm|hm
  ·exact Zav c1 ht (by simp[hm])
  ·exact Zav c1 ht (by simp[hm])
theorem Zcf {gl:Nat->Option (List V)}{x:AOper}{s:St}{u:Ud}(h:udOf Γ gl x s=some u)(hn:u.nw.isSome=true):x.op.isNew=true:=by
 unfold udOf at h
 split at h
 ·split at h
  ·rename_i e;simp[AOp.isNew,e]
  ·rename_i e;simp[AOp.isNew,e]
  ·simp only[Xaa]at h;obtain⟨r,_,rfl⟩:=h;simp at hn
 ·simp only[Xac]at h;subst h;simp at hn
theorem Zgy {gl:Nat->Option (List V)}{x:AOper}{s s':St}{u:Ud}(hns:x.op.isStore=false)(h:udOf Γ gl x s=some u)(htm:∀t∈x.rd,s'.tm t=s.tm t)(how:∀t∈x.op.owns,s'.own (.slot t)=s.own (.slot t))
  (hl:x.op.isLdo=true-> ∀id j,s'.own (.cell id j)=s.own (.cell id j))
  (hH:∀y∈x.op.hOpds, ∀id,Zcj (evO s.tm y)=some id->(s.H id).isSome=true->s'.H id=s.H id):udOf Γ gl x s'=some u:=by
 have hr:∀t∈x.op.reads,s'.tm t=s.tm t:=fun t ht=>htm t (by simp[AOper.rd,ht])
 have hw:s'.wants x=s.wants x:=by
  unfold St.wants
  split
  ·rfl
  ·rename_i t wt e
   rw[htm t (by simp[AOper.rd,e])]
 unfold udOf at h⊢
 rw[hw]
 split at h
 ·rename_i hwt
  rw[if_pos hwt]
  split at h
  ·exact h
  ·rename_i y e
   rw[e]at hr
   have:s'.ev y=s.ev y:=Zba fun t ht=>hr t (by simp[AOp.reads,ht])
   rw[this];exact h
  ·rename_i op h1 h2
   simp only[Xaa]at h
   obtain⟨r,hr0,rfl⟩:=h
   have hsome:=Zs7 hr0
   have e:Zbr Γ gl s'.H s'.own s'.tm x.op=some r:=by
    rw[<-hr0, <-Zpo (Γ:=Γ) (gl:=gl) (H:=s'.H) (own:=s.own) (own':=s'.own) (tm:=s.tm) (tm':=s'.tm) (ao:=x.op) (fun t ht=>(hr t ht).symm) (fun t ht=>(how t ht).symm) (fun hx id j=>(hl hx id j).symm)]
    exact Z16 fun y hy id hid=>hH y hy id hid (hsome y hy id hid)
   rw[e];rfl
 ·rename_i hwt
  rw[if_neg hwt];exact h
theorem Zf1 {α:Type} [Inhabited α]{l:List α}{i:Nat}{x:α}(h:l[i]? =some x):l.getD i default=x:=by simp[List.getD,h]
theorem Ztg (hs:Scope cx w B GB)(hΓ:Sound cx Γ){n:Nat}{ops:Array Oper}{aos:List AOper}(hc:Zf7 cx.P R n ops ops.toList=some aos){m:Nat}(hm:m<=aos.length)(hok:Z02 n aos m=true)(h:SR w B GB g st a W)(hn:a.tmps.size=n)
  {st':St} (he:execs Γ cx.gl aos st=some st') {Q:Exit->Act->World->Prop} (hnext:∀g' a' W',SR w B GB g' st' a' W'->a'.tmps.size=n->Q .normal a' W'):
  wpAny cx.P .any ops Q ops.size (Array.replicate ops.size false) a W:=by
 obtain⟨hl,hget⟩:=Zdj hc
 simp only[Xcp]at hl
 have hget':∀i,i<ops.size-> ∃(o:Oper) (x:AOper),ops[i]? =some o/\aos[i]? =some x/\Zic cx.P R n ops o=some x:=fun i hi=>by
  obtain⟨x,h1,h2⟩:=hget i ops[i] (by simp[hi])
  exact⟨ops[i],x,Xau hi,h1,h2⟩
 --the states of the text's order
 obtain⟨s,hs0,hsn,hstep⟩:∃s:Nat->St,s 0=st/\s aos.length=st'/\ ∀(i:Nat) (x:AOper),aos[i]? =some x->exec Γ cx.gl x (s i)=some (s (i+1)):=by
  have key:∀(l:List AOper) (s0 s1:St),execs Γ cx.gl l s0=some s1-> ∃s:Nat->St,s 0=s0/\s l.length=s1/\ ∀(i:Nat) (x:AOper),l[i]? =some x->exec Γ cx.gl x (s i)=some (s (i+1)):=by
   intro l
   induction l with
   |nil=>intro s0 s1 h;simp only[execs,Xac]at h;subst h;exact⟨fun _=>s0,rfl,rfl,fun i x h=>by simp at h⟩
   |cons x r ih=>
    intro s0 s1 h
    simp only[execs]at h
    split at h
    ·rename_i s2 h2
     obtain⟨s,h3,h4,h5⟩:=ih s2 s1 h
     refine⟨fun i=>if i=0 then s0 else s (i-1),by simp,by simp[h4],fun i y hy=> ?_⟩
     cases i with
     |zero=>simp at hy;subst hy;simp[h3,h2]
     |succ i=>have:=h5 i y (by simpa using hy);simpa using this
    ·simp at h
  exact key aos st st' he
 --what the check says
 have hchk:∀i,i<aos.length-> ∀x,aos[i]? =some x->(∀e∈x.after,e<i)/\(∀j∈(ancs aos []).getD i [],j∈x.after \/ ∃e∈x.after,j∈(ancs aos []).getD e [])/\
   (i<m->x.op.isStore=false/\(∀y∈x.op.hOpds,Zit n y=true)/\ ∀j,j<i-> ∀y,aos[j]? =some y->(j∈(ancs aos []).getD i [] \/Za3 y x=false)/\ ¬(x.op.isNew=true/\y.op.isNew=true))/\
   (m<=i-> ∀j,j<i->j∈(ancs aos []).getD i []):=by
  intro i hi x hx
  have:=Xav.1 hok i (Xco.2 hi)
  simp only[Zf1 hx,Xai,Xav,decide_eq_true_eq,Xa4,Xdj,Xbj]at this
  obtain⟨⟨h1,h2⟩,h3⟩:=this
  refine⟨h1,h2,fun hlt=> ?_,fun hge=> ?_⟩
  ·rw[if_pos hlt]at h3
   simp only[Xai,Xav,Xco,Xa4,Xbj,Xb6,Xdd]at h3
   obtain⟨⟨h3,h4⟩,h5⟩:=h3
   refine⟨h3,h4,fun j hj y hy=> ?_⟩
   obtain⟨h6,h7⟩:=h5 j hj
   rw[Zf1 hy]at h6 h7
   exact⟨h6,fun⟨e1,e2⟩=>by rcases h7 with h7|h7<;>simp_all⟩
  ·rw[if_neg (by omega)]at h3
   simp only[Xav,Xco,Xbj]at h3
   exact h3
 have hud:∀i, ∃u:Ud,i<m-> ∃x,aos[i]? =some x/\udOf Γ cx.gl x (s i)=some u/\s (i+1)=u.app (s i):=by
  intro i
  by_cases hi:i<m
  ·have hx:=Xad (show i<aos.length by omega)
   obtain⟨u,h1,h2⟩:=Zhm ((hchk i (by omega) _ hx).2.2.1 hi).1 (hstep i _ hx)
   exact⟨u,fun _=>⟨_,hx,h1,h2⟩⟩
  ·exact⟨⟨none,Nil,false,none,none⟩,fun h=>absurd h hi⟩
 obtain⟨U,hU⟩:=Classical.axiomOfChoice hud
 have hfold:∀i,i<=m->Zal U (fun _=>true) st i=s i:=by
  intro i
  induction i with
  |zero=>intro _;exact hs0.symm
  |succ i ih=>
   intro hi
   obtain⟨x,_,_,h3⟩:=hU i (by omega)
   simp only[Zal,if_true,ih (by omega),h3]
 have hone:Ziu U m:=by
  intro k k' hk hk' h1 h2
  obtain⟨x,hx,hux,_⟩:=hU k hk
  obtain⟨y,hy,huy,_⟩:=hU k' hk'
  have n1:=Zcf hux h1
  have n2:=Zcf huy h2
  rcases Xbk k k' with hlt|heq|hgt
  ·exact absurd ⟨n2,n1⟩ (((hchk k' (by omega) y hy).2.2.1 hk').2.2 k hlt x hx).2
  ·exact heq
  ·exact absurd ⟨n1,n2⟩ (((hchk k (by omega) x hx).2.2.1 hk).2.2 k' hgt y hy).2
 --one more operation of the unordered part
 have step1:∀(S:Nat->Bool) (i:Nat),i<m->S i=false->(∀k,S k=true->k<m)->(∀k,S k=true-> ∀j∈(ancs aos []).getD k [],S j=true)->(∀j∈(ancs aos []).getD i [],S j=true)->
   ∀g' a' W',SR w B GB g' (Zal U S st m) a' W'->a'.tmps.size=n-> ∀x,aos[i]? =some x->exec Γ cx.gl x (Zal U S st m)=some (Zal U (fun k=>S k||k==i) st m):=by
  intro S i hi hSi hSm hcl hpre g' a' W' hsr hn' x hx
  obtain⟨x',hx',hux,_⟩:=hU i hi
  rw[hx]at hx';cases hx'
  obtain⟨hst,hop,hpair⟩:=(hchk i (by omega) x hx).2.2.1 hi
  --those that meet i stand on the right side of it
  have side:∀k y,k<m->aos[k]? =some y->k≠i->Za3 y x=true->S k=decide (k<i):=by
   intro k y hk hy hne hcf
   rcases Xa6 k i with hlt|hge
   ·have:=(hpair k hlt y hy).1
    rw[hcf]at this
    rw[hpre k (this.resolve_right (by simp))];simp[hlt]
   ·have hgt:i<k:=by omega
    have:=(((hchk k (by omega) y hy).2.2.1 hk).2.2 i hgt x hx).1
    have hcf':Za3 x y=true:=by
     cases hh:Za3 x y with
     |true=>rfl
     |false=>rw[Zhf hh]at hcf;cases hcf
    rw[hcf']at this
    have hin:=this.resolve_right (by simp)
    cases hSk:S k with
    |false=>simp;omega
    |true=>rw[hcl k hSk i hin]at hSi;cases hSi
  have hsi:Zal U (fun k=>decide (k<i)) st m=s i:=by rw[Zim (by omega),hfold i (by omega)]
  have cf:∀{y:AOper},(∃t,t∈y.ws/\(t∈x.rd \/t∈x.ws \/t∈x.op.owns))->Za3 y x=true:=by
   intro y ⟨t,h1,h2⟩
   cases hh:Za3 y x with
   |true=>rfl
   |false=>
    simp only[Za3,Xbm]at hh
    exact absurd (by simp only[Xar,Xaz];exact h2) (Zav hh.1.1.1.1.1.1 h1)
  have cf2:∀{y:AOper} {t:Nat},t∈y.op.owns->t∈x.op.owns->Za3 y x=true:=by
   intro y t h1 h2
   cases hh:Za3 y x with
   |true=>rfl
   |false=>
    simp only[Za3,Xbm]at hh
    exact absurd h2 (Zav hh.1.1.1.1.2 h1)
  have htm:∀t∈x.rd,(Zal U S st m).tm t=(s i).tm t:=by
   intro t ht
   rw[<-hsi]
   refine Zgv hone (Xae _) fun k hk hd=> ?_
   by_cases hki:k=i
   ·subst hki;rw[hSi];simp
   ·obtain⟨y,hy,huy,_⟩:=hU k hk
    rw[ud_d huy]at hd
    exact side k y hk hy hki (cf ⟨t,by simp[AOper.ws,hd], .inl ht⟩)
  have how:∀t∈x.op.owns,(Zal U S st m).own (.slot t)=(s i).own (.slot t):=by
   intro t ht
   rw[<-hsi]
   refine Zcz hone (Xae _) fun k hk hd=> ?_
   by_cases hki:k=i
   ·subst hki;rw[hSi];simp
   ·obtain⟨y,hy,huy,_⟩:=hU k hk
    simp only[Zbz,Xa4,beq_iff_eq]at hd
    rcases hd with hd|hd
    ·rw[ud_d huy]at hd
     exact side k y hk hy hki (cf ⟨t,by simp[AOper.ws,hd], .inr (.inr ht)⟩)
    ·rcases Zka huy with e|⟨t',e,h'⟩|⟨_,id,j,e⟩
     ·rw[e]at hd;cases hd
     ·rw[e]at hd;cases hd;exact side k y hk hy hki (cf2 h' ht)
     ·rw[e]at hd;cases hd
  have hldo:x.op.isLdo=true-> ∀id j,(Zal U S st m).own (.cell id j)=(s i).own (.cell id j):=by
   intro hx1 id j
   rw[<-hsi]
   refine Zcz hone (Xae _) fun k hk hd=> ?_
   by_cases hki:k=i
   ·subst hki;rw[hSi];simp
   ·obtain⟨y,hy,huy,_⟩:=hU k hk
    simp only[Zbz,Xa4]at hd
    refine side k y hk hy hki ?_
    rcases hd with hd|hd
    ·have hy1:y.op.isLdo=true:=by
      rcases Zka huy with e|⟨t',e,_⟩|⟨h,_⟩
      ·rw[e]at hd;cases hd
      ·rw[e]at hd;cases hd
      ·exact h
     simp[Za3,hx1,hy1]
    ·have hy1:=Zcf huy hd
     simp[Za3,hx1,hy1]
  have hH:∀y∈x.op.hOpds, ∀id,Zcj (evO (s i).tm y)=some id->((s i).H id).isSome=true->(Zal U S st m).H id=(s i).H id:=by
   intro y hy id hid hsome
   have hid':Zcj (evO (Zal U S st m).tm y)=some id:=by
    rw[<-hid];congr 1
    refine Zba fun t ht=>htm t ?_
    have:t∈x.op.reads:=by
     revert hy;cases x.op<;>simp only[AOp.hOpds,Xbp,Xb1,false_implies]<;>intro hy<;>first|(subst hy;simp[AOp.reads,ht];done)|exact Xb3.2 ⟨y,hy,ht⟩
    simp[AOper.rd,this]
   have hlt:=hsr.ref hn' (hop y hy) hid'
   by_cases hex:∃k,k<m/\(U k).nw.isSome=true
   ·obtain⟨k,hk,hnw⟩:=hex
    obtain⟨cs,hcs⟩:=Xb5.1 hnw
    have none_of:∀(T:Nat->Bool),T k=false->(∀j,j<m->T j=true->(U j).nw=none):=by
     intro T hT j hj hTj
     cases hjn:(U j).nw with
     |none=>rfl
     |some z=>have:=hone j k hj hk (by rw[hjn];rfl) hnw;subst this;rw[hT]at hTj;cases hTj
    have hsid:∀(b:Bool),decide (k<i)=b->(s i).H=(if b=true then upd st.H st.nH (some (.cells cs))else st.H):=by
     intro b hb
     rw[<-hsi]
     cases b with
     |true=>rw[(Zdd (S:=fun k=>decide (k<i)) hone hcs (by simpa using hb) hk (Xae _)).1];simp
     |false=>rw[(Zbj (n:=m) (none_of (fun k=>decide (k<i)) hb)).1];simp
    cases hSk:S k with
    |true=>
     rw[(Zdd hone hcs hSk hk (Xae _)).1]
     rw[hsid _ rfl]at hsome⊢
     by_cases hki:k<i
     ·simp[hki]
     ·simp only[hki,decide_false,Xat,if_false]at hsome⊢
      have:id≠st.nH:=fun e=>by subst e;rw[h.obn _ (Xae _)]at hsome;cases hsome
      simp[upd,this]
    |false=>
     obtain⟨e1,e2⟩:=Zbj (s0:=st) (n:=m) (none_of S hSk)
     rw[e2]at hlt
     rw[e1,hsid _ rfl]
     by_cases hki:k<i
     ·simp only[hki,decide_true,if_true]
      have:id≠st.nH:=by omega
      simp[upd,this]
     ·simp[hki]
   ·have hnone:∀(T:Nat->Bool) j,j<m->T j=true->(U j).nw=none:=fun T j hj _=>by
     cases hjn:(U j).nw with
     |none=>rfl
     |some z=>exact absurd ⟨j,hj,by rw[hjn];rfl⟩ hex
    rw[(Zbj (n:=m) (hnone S)).1, <-hsi,(Zbj (n:=m) (hnone _)).1]
  have hu:=Zgy hst hux htm how hldo hH
  rw[Zei hst hu]
  congr 1
  symm
  refine Zdn hSi (fun k=>rfl) hi fun k h1 h2 h3=> ?_
  obtain⟨y,hy,huy,_⟩:=hU k h2
  refine Zij huy hux ?_ (fun h=>Zcf huy h) (fun h=>Zcf hux h)
  cases hh:Za3 y x with
  |false=>rfl
  |true=>have:=side k y h2 hy (by omega) hh;rw[h3]at this;simp at this;omega
 --the induction
 have hnl:aos.length=ops.size:=hl
 have aft:∀(i:Nat) (o:Oper) (x:AOper),ops[i]? =some o->Zic cx.P R n ops o=some x->x.after=Zrr o:=fun i o x _ hx=>by
  simp only[Zic,Xab,Xaa]at hx
  obtain⟨_,_,_,_,rfl⟩:=hx;rfl
 have Zgj:∀(l:Array Bool) (k:Nat),l.size=ops.size->k<ops.size->l.getD k true=l.getD k false:=fun l k h1 h2=>by simp[Array.getD,show k<l.size by omega]
 have nolist:∀(l:Array Bool),l.size=ops.size->Region.ready .any ops l=[]-> ∀k,k<ops.size->l.getD k false=true:=by
  intro l hls hre k
  induction k using Nat.strongRecOn with
  |_ k ih=>
   intro hk
   cases hv:l.getD k false with
   |true=>rfl
   |false=>
    obtain⟨o,x,ho,hx,hcx⟩:=hget' k hk
    have:k∈Region.ready .any ops l:=by
     refine mem_ready.2 ⟨by rw[Zgj l k hls hk];exact hv,o,ho,fun e he hb=> ?_⟩
     have hea:e.on∈x.after:=by rw[aft k o x ho hcx];exact Xa7.2 ⟨e,Xdp.2 ⟨by simpa using he,hb⟩,rfl⟩
     have hlt:=(hchk k (by omega) x hx).1 _ hea
     exact ih e.on hlt (by omega)
    rw[hre]at this;cases this
 have main:∀(fuel:Nat) (l:Array Bool) (g':Gh) (a':Act) (W':World),l.size=ops.size->l.toList.count false<=fuel->
   ((∀k,l.getD k false=true->k<m)/\(∀k,l.getD k false=true-> ∀j∈(ancs aos []).getD k [],l.getD j false=true)/\SR w B GB g' (Zal U (fun k=>l.getD k false) st m) a' W' \/
     ∃i,m<=i/\i<=ops.size/\(∀k,k<ops.size->l.getD k false=decide (k<i))/\SR w B GB g' (s i) a' W')->a'.tmps.size=n->wpAny cx.P .any ops Q fuel l a' W':=by
  intro fuel
  have fin:∀(l:Array Bool) (g':Gh) (a':Act) (W':World),l.size=ops.size->(∀k,k<ops.size->l.getD k false=true)->
    ((∀k,l.getD k false=true->k<m)/\(∀k,l.getD k false=true-> ∀j∈(ancs aos []).getD k [],l.getD j false=true)/\SR w B GB g' (Zal U (fun k=>l.getD k false) st m) a' W' \/
      ∃i,m<=i/\i<=ops.size/\(∀k,k<ops.size->l.getD k false=decide (k<i))/\SR w B GB g' (s i) a' W')->a'.tmps.size=n->Q .normal a' W':=by
   intro l g' a' W' hls hall hj hn'
   rcases hj with⟨h1,_,h3⟩|⟨i,h1,h2,h3,h4⟩
   ·have hmn:m=ops.size:=by
     rcases Xa6 m ops.size with hlt|hge
     ·have:=h1 m (hall m hlt);omega
     ·omega
    have e:Zal U (fun k=>l.getD k false) st m=st':=by
     rw[Zbh (S':=fun _=>true) fun k hk=>hall k (by omega),hfold m (Xae _), <-hsn,hnl,hmn]
    rw[e]at h3
    exact hnext g' a' W' h3 hn'
   ·have:i=ops.size:=by
     rcases Xa6 i ops.size with hlt|hge
     ·have:=h3 i hlt;rw[hall i hlt]at this;simp at this
     ·omega
    subst this
    rw[<-hnl,hsn]at h4
    exact hnext g' a' W' h4 hn'
  induction fuel with
  |zero=>
   intro l g' a' W' hls hcnt hj hn'
   have hall:∀k,k<ops.size->l.getD k false=true:=by
    intro k hk
    cases hv:l.getD k false with
    |true=>rfl
    |false=>
     have hk':k<l.size:=by omega
     have:false∈l.toList:=by
      have e:l[k]=false:=by simpa[Array.getD,hk']using hv
      rw[<-e];simp
     have:=List.count_pos_iff.2 this
     omega
   refine⟨?_,fin l g' a' W' hls hall hj hn'⟩
   apply Xdy.2
   intro k hk
   obtain⟨h1,o,h2,_⟩:=mem_ready.1 hk
   have hlt:=(Xbg.1 h2).1
   rw[Zgj l k hls hlt,hall k hlt]at h1;cases h1
  |succ fuel ih=>
   intro l g' a' W' hls hcnt hj hn'
   refine⟨fun hre=>fin l g' a' W' hls (nolist l hls hre) hj hn',fun i hi=> ?_⟩
   obtain⟨h1,o,ho,hedges⟩:=mem_ready.1 hi
   have hilt:=(Xbg.1 ho).1
   rw[Zgj l i hls hilt]at h1
   obtain⟨o',x,ho',hx,hcx⟩:=hget' i hilt
   rw[ho]at ho';cases ho'
   have hilt':i<l.size:=by omega
   have hls':(l.setIfInBounds i true).size=ops.size:=by simpa using hls
   have hcnt':(l.setIfInBounds i true).toList.count false<=fuel:=by
    have hi2:i<l.toList.length:=by simpa using hilt'
    have e:l.toList[i]=false:=by simpa[Array.getD,hilt']using h1
    have hpos:0<l.toList.count false:=List.count_pos_iff.2 (by rw[<-e];exact Xam hi2)
    rw[Array.toList_setIfInBounds,List.count_set hi2,e]
    simp only[show(false==false)=true from rfl,show(true==false)=false from rfl,if_true,Xat,if_false]
    omega
   have hS':∀k,(l.setIfInBounds i true).getD k false=(l.getD k false||k==i):=by
    intro k
    by_cases hki:k=i
    ·subst hki;simp[Array.getD,hilt']
    ·rw[getD_set_ne false (fun e=>hki e.symm)];simp[hki]
   have haft:∀e∈x.after,l.getD e false=true:=by
    intro e he
    rw[aft i o x ho hcx]at he
    obtain⟨ed,hed,rfl⟩:=Xa7.1 he
    obtain⟨hed1,hed2⟩:=Xdp.1 hed
    exact hedges ed (by simpa using hed1) hed2
   obtain⟨c1,c2,c3,c4⟩:=hchk i (by omega) x hx
   have hclosed:∀k,l.getD k false=true-> ∀j∈(ancs aos []).getD k [],l.getD j false=true:=by
    rcases hj with⟨_,h,_⟩|⟨i0,_,h2,h3,_⟩
    ·exact h
    ·intro k hk j hj'
     have hk':k<ops.size:=by
      rcases Xa6 k ops.size with h|h
      ·exact h
      ·simp[Array.getD,show ¬k<l.size by omega]at hk
     have hxk:=Xad (show k<aos.length by omega)
     obtain⟨d1,d2,_,_⟩:=hchk k (by omega) _ hxk
     have hki0:k<i0:=by have:=h3 k hk';rw[hk]at this;simpa using this.symm
     have jlt:∀k,k<aos.length-> ∀j∈(ancs aos []).getD k [],j<k:=by
      intro k
      induction k using Nat.strongRecOn with
      |_ k ihk=>
       intro hk2 j hj2
       have hxk:=Xad hk2
       obtain⟨d1,d2,_,_⟩:=hchk k hk2 _ hxk
       rcases d2 j hj2 with h|⟨e,he,h⟩
       ·exact d1 j h
       ·have:=d1 e he
        have:=ihk e this (by omega) j h
        omega
     have:=jlt k (by omega) j hj'
     rw[h3 j (by omega)];simp;omega
   have hpre:∀j∈(ancs aos []).getD i [],l.getD j false=true:=by
    intro j hj'
    rcases c2 j hj' with h|⟨e,he,h⟩
    ·exact haft j h
    ·exact hclosed e (haft e he) j h
   have hst:∀(st2:St),SR w B GB g' st2 a' W'-> ∀st3,exec Γ cx.gl x st2=some st3->(∀g2 a2 W2,SR w B GB g2 st3 a2 W2->((∀k,(l.setIfInBounds i true).getD k false=true->k<m)/\(∀k,(l.setIfInBounds i true).getD k false=true-> ∀j∈(ancs aos []).getD k [],(l.setIfInBounds i true).getD j false=true)/\SR w B GB g2 (Zal U (fun k=>(l.setIfInBounds i true).getD k false) st m) a2 W2 \/
     ∃i',m<=i'/\i'<=ops.size/\(∀k,k<ops.size->(l.setIfInBounds i true).getD k false=decide (k<i'))/\SR w B GB g2 (s i') a2 W2))->
     wpOp cx.P ops Q i (wpAny cx.P .any ops Q fuel (l.setIfInBounds i true)) a' W':=
    fun st2 hsr st3 hex hnx=>Zi0 hs hΓ hsr hn' ho hcx hex fun g2 a2 W2 h2 hn2=>ih _ g2 a2 W2 hls' hcnt' (hnx g2 a2 W2 h2) hn2
   by_cases him:i<m
   ·rcases hj with⟨j1,j2,j3⟩|⟨i0,j1,j2,j3,_⟩
    ·refine hst _ j3 _ (step1 (fun k=>l.getD k false) i him h1 j1 j2 hpre g' a' W' j3 hn' x hx) fun g2 a2 W2 h2=> .inl ⟨fun k hk=> ?_,fun k hk j hj'=> ?_, ?_⟩
     ·rw[hS']at hk;simp only[Xa4,beq_iff_eq]at hk
      rcases hk with hk|rfl
      ·exact j1 k hk
      ·exact him
     ·rw[hS']at hk⊢;simp only[Xa4,beq_iff_eq]at hk
      rcases hk with hk|rfl
      ·simp[j2 k hk j hj']
      ·simp[hpre j hj']
     ·rw[Zbh (S':=fun k=>l.getD k false||k==i) fun k _=>hS' k];exact h2
    ·have:=j3 i hilt;rw[h1]at this;simp at this;omega
   ·have hge:m<=i:=by omega
    have hall:=c4 hge
    have hfull:∀j,j<i->l.getD j false=true:=fun j hj'=>hpre j (hall j hj')
    have hsi:SR w B GB g' (s i) a' W':=by
     rcases hj with⟨j1,_,j3⟩|⟨i0,j1,j2,j3,j4⟩
     ·have him':i=m:=by
       rcases Xa6 m i with hlt|hge'
       ·have:=j1 m (hfull m hlt);omega
       ·omega
      rw[Zbh (S':=fun _=>true) fun k hk=>hfull k (by omega),hfold m (Xae _), <-him']at j3
      exact j3
     ·have hii:i=i0:=by
       have h5:=j3 i hilt
       rw[h1]at h5
       have h6: ¬i<i0:=by simpa using h5.symm
       rcases Xa6 i0 i with hlt|hge'
       ·have h7:=j3 i0 (by omega)
        rw[hfull i0 hlt]at h7;simp at h7
       ·omega
      rw[hii];exact j4
    refine hst _ hsi _ (hstep i x hx) fun g2 a2 W2 h2=> .inr ⟨i+1,by omega,by omega,fun k hk=> ?_,h2⟩
    rw[hS']
    rcases Xbk k i with hlt|heq|hgt
    ·rw[hfull k hlt];simp;omega
    ·subst heq;simp
    ·have hkf:l.getD k false=false:=by
      rcases hj with⟨j1,_,_⟩|⟨i0,j1,j2,j3,_⟩
      ·cases hv:l.getD k false with
       |false=>rfl
       |true=>have:=j1 k hv;omega
      ·have h5:=j3 i hilt
       rw[h1]at h5
       rw[j3 k hk]
       have h6: ¬i<i0:=by simpa using h5.symm
       simp;omega
     have q1:(k==i)=false:=by simp;omega
     have q2:decide (k<i+1)=false:=by simp;omega
     rw[hkf,q1,q2];rfl
 refine main ops.size (Array.replicate ops.size false) g a W (by simp) (by simp[List.count_replicate]) (.inl ⟨fun k hk=> ?_,fun k hk=> ?_, ?_⟩) hn
 ·exfalso;revert hk;simp[Array.getD]
 ·exfalso;revert hk;simp[Array.getD]
 ·have:∀j,Zal U (fun k=>(Array.replicate ops.size false).getD k false) st j=st:=by
   intro j
   induction j with
   |zero=>rfl
   |succ j ih=>simp only[Zal];rw[if_neg (by simp[Array.getD]),ih]
  rw[this];exact h
end Go.Abs
namespace Go.Abs
open Go.RowKit
variable {cx:Cx}{w:World}{B:Nat->Prop}{GB:Gh}{g:Gh}{st:St}{a:Act}{W:World}{Γ:Spec}{R:TypeId->Bool}
def AOper.toP (x:AOper):AOper:=match x.op with
 | .load n a=>⟨x.dst, .ldp n a,x.guard,x.after⟩
 |_=>x
theorem Zxh (x:AOper):x.toP.after=x.after:=by unfold AOper.toP;split<;>rfl
theorem Zy5 {gl:Nat->Option (List V)}{x:AOper}{st st':St}(h:exec Γ gl x.toP st=some st'):exec Γ gl x st=some st':=by
 obtain⟨d,op,gd,af⟩:=x
 unfold AOper.toP at h
 cases op<;>try exact h
 rename_i n a
 unfold exec at h⊢
 have hw:st.wants ⟨d, .ldp n a,gd,af⟩=st.wants ⟨d, .load n a,gd,af⟩:=rfl
 rw[hw]at h
 split at h
 ·rename_i hwt
  rw[if_pos hwt]
  have h':(Zbr Γ gl st.H st.own st.tm (.ldp n a)).map (fun r=>(st.take r.tk).put d r.v r.o)=some st':=h
  show(Zbr Γ gl st.H st.own st.tm (.load n a)).map (fun r=>(st.take r.tk).put d r.v r.o)=some st'
  have e:∀v,vLdp gl n (evO st.tm a)=some v->Zfe gl st.H n (evO st.tm a)=some v:=by
   intro v hv
   generalize evO st.tm a=u at hv⊢
   cases u<;>first|exact hv|grind[vLdp]
  simp only[Xaa]at h'⊢
  obtain⟨r,hr,rfl⟩:=h'
  obtain⟨v,hv,rfl⟩:=Zam (show resV (vLdp gl n (evO st.tm a))=some r from hr)
  exact⟨_,by show resV (Zfe gl st.H n (evO st.tm a))=_;rw[e v hv];rfl,rfl⟩
 grind
def AOp.quiet (op:AOp):Bool:=op.hOpds.isEmpty&& !op.isNew&& !op.isLdo&& !op.isStore
def Zqb (n:Nat)(x:AOper):Bool:=match x.op,x.guard,x.dst with
 | .store _ a _,none,none=>Zit n a
 |_,_,_=>false
def Zmc (n:Nat)(aos:List AOper)(m k:Nat):Bool:=
 let an:=ancs aos []
 let N:=aos.length
 Zqb n (aos.getD k default)&&
 (List.range N).all fun i=>
  let x:=aos.getD i default
  let ai:=an.getD i []
  x.after.all (fun e=>decide (e<i))&&
  ai.all (fun j=>x.after.contains j||x.after.any fun e=>(an.getD e []).contains j)&&
  (if i<m then
   (if i=k then(List.range i).all fun j=>ai.contains j||((aos.getD j default).op.quiet&& !Za3 (aos.getD j default) x)
    else !x.op.isStore&&x.op.hOpds.all (Zit n)&&
     (List.range i).all fun j=>if j=k then x.op.quiet&&(ai.contains j|| !Za3 (aos.getD j default) x)
      else(ai.contains j|| !Za3 (aos.getD j default) x)&& !(x.op.isNew&&(aos.getD j default).op.isNew))
   else(List.range i).all fun j=>ai.contains j)
def Zd6 (b:Bool)(id:Nat)(cs:List V)(off:Nat)(ys:List V)(st:St):St:=if b then st.setOb id cs off ys else st
theorem Zza (b:Bool)(id:Nat)(cs:List V)(off:Nat)(ys:List V)(st:St):(Zd6 b id cs off ys st).tm=st.tm:=by unfold Zd6;split<;>rfl
theorem Zkm (b:Bool)(id:Nat)(cs:List V)(off:Nat)(ys:List V)(st:St)(t:Nat):(Zd6 b id cs off ys st).own (.slot t)=st.own (.slot t):=by unfold Zd6;split<;>rfl
theorem Zm3 {u:Ud}(hn:u.nw=none)(ht:Zc8 u.tk=false)(b:Bool)(id:Nat)(cs:List V)(off:Nat)(ys:List V)(st:St):Zd6 b id cs off ys (u.app st)=u.app (Zd6 b id cs off ys st):=by
 cases b with
 |false=>rfl
 |true=>
  have hk:u.took=u.tk:=by grind[Ud.took]
  have hv:∀s s':St,u.val s=u.val s':=fun s s'=>by grind[Ud.val]
  apply St.ext'
  ·funext t
   show(u.app st).tm t=_
   rw[Zgs,Zgs,hv st (st.setOb id cs off ys)];rfl
  ·funext p
   cases p with
   |slot t=>
    show(u.app st).own (.slot t)=_
    rw[Zdm,Zdm,hn];rfl
   |cell i j=>
    rw[Zdm]
    show(if i=id/\off<=j/\j<off+ys.length then false else(u.app st).own (.cell i j))=_
    rw[Zdm,hn,hk]
    have h1: ¬(u.d.map Pos.slot=some (.cell i j)):=by cases u.d<;>simp
    have h2: ¬(u.tk=some (.cell i j)):=fun h=>by rw[h]at ht;cases ht
    simp only[if_neg h1,if_neg h2]
    rfl
  ·show upd (u.app st).H id _=_
   rw[(Zjg u st).1,(Zjg u _).1,hn];rfl
  ·show(u.app st).nH=_
   rw[(Zjg u st).2,(Zjg u _).2,hn];rfl
theorem Zrn {gl:Nat->Option (List V)}{x:AOper}{s:St}{u:Ud}(hq:x.op.quiet=true)(h:udOf Γ gl x s=some u):u.nw=none/\Zc8 u.tk=false:=by
 unfold AOp.quiet at hq
 constructor
 ·cases hn:u.nw<;>grind[Zcf]
 ·rcases Zka h with e|⟨t,e,_⟩|⟨h',_⟩
  ·rw[e];rfl
  ·rw[e];rfl
  grind
theorem Zsg (hs:Scope cx w B GB)(hΓ:Sound cx Γ){n:Nat}{ops:Array Oper}{aos:List AOper}(hc:Zf7 cx.P R n ops ops.toList=some aos){m:Nat}(hm:m<=aos.length)(an:List (List Nat))
  (F:(Nat->Bool)->St) (hFc:∀S S':Nat->Bool,(∀k,k<m->S k=S' k)->F S=F S') (hF0:F (fun _=>false)=st) {s:Nat->St} (hFm:F (fun _=>true)=s m) {st':St} (hsn:s ops.size=st')
  (hchk:∀i,i<aos.length-> ∀x,aos[i]? =some x->(∀e∈x.after,e<i)/\(∀j∈an.getD i [],j∈x.after \/ ∃e∈x.after,j∈an.getD e [])/\(m<=i-> ∀j,j<i->j∈an.getD i []))
  (step1:∀(S:Nat->Bool) (i:Nat),i<m->S i=false->(∀k,S k=true->k<m)->(∀k,S k=true-> ∀j∈an.getD k [],S j=true)->(∀j∈an.getD i [],S j=true)->
   ∀g' a' W',SR w B GB g' (F S) a' W'->a'.tmps.size=n-> ∀x,aos[i]? =some x->exec Γ cx.gl x (F S)=some (F (fun k=>S k||k==i)))
  (hstep:∀(i:Nat) (x:AOper),m<=i->aos[i]? =some x->exec Γ cx.gl x (s i)=some (s (i+1)))
  (h:SR w B GB g st a W) (hn:a.tmps.size=n) {Q:Exit->Act->World->Prop} (hnext:∀g' a' W',SR w B GB g' st' a' W'->a'.tmps.size=n->Q .normal a' W'):
  wpAny cx.P .any ops Q ops.size (Array.replicate ops.size false) a W:=by
 obtain⟨hl,hget⟩:=Zdj hc
 simp only[Xcp]at hl
 have hget':∀i,i<ops.size-> ∃(o:Oper) (x:AOper),ops[i]? =some o/\aos[i]? =some x/\Zic cx.P R n ops o=some x:=fun i hi=>by
  obtain⟨x,h1,h2⟩:=hget i ops[i] (by simp[hi])
  grind
 --the induction
 have hnl:aos.length=ops.size:=hl
 have aft:∀(i:Nat) (o:Oper) (x:AOper),ops[i]? =some o->Zic cx.P R n ops o=some x->x.after=Zrr o:=fun i o x _ hx=>by
  simp only[Zic,Xab,Xaa]at hx
  grind
 have Zgj:∀(l:Array Bool) (k:Nat),l.size=ops.size->k<ops.size->l.getD k true=l.getD k false:=fun l k h1 h2=>by grind
 have nolist:∀(l:Array Bool),l.size=ops.size->Region.ready .any ops l=[]-> ∀k,k<ops.size->l.getD k false=true:=by
  intro l hls hre k
  induction k using Nat.strongRecOn with
  |_ k ih=>
   intro hk
   cases hv:l.getD k false with
   |true=>rfl
   |false=>
    obtain⟨o,x,ho,hx,hcx⟩:=hget' k hk
    have:k∈Region.ready .any ops l:=by
     refine mem_ready.2 ⟨by grind,o,ho,fun e he hb=> ?_⟩
     have hea:e.on∈x.after:=by rw[aft k o x ho hcx];exact Xa7.2 ⟨e,Xdp.2 ⟨by simpa using he,hb⟩,rfl⟩
     grind
    grind
 have main:∀(fuel:Nat) (l:Array Bool) (g':Gh) (a':Act) (W':World),l.size=ops.size->l.toList.count false<=fuel->
   ((∀k,l.getD k false=true->k<m)/\(∀k,l.getD k false=true-> ∀j∈an.getD k [],l.getD j false=true)/\SR w B GB g' (F (fun k=>l.getD k false)) a' W' \/
     ∃i,m<=i/\i<=ops.size/\(∀k,k<ops.size->l.getD k false=decide (k<i))/\SR w B GB g' (s i) a' W')->a'.tmps.size=n->wpAny cx.P .any ops Q fuel l a' W':=by
  intro fuel
  have fin:∀(l:Array Bool) (g':Gh) (a':Act) (W':World),l.size=ops.size->(∀k,k<ops.size->l.getD k false=true)->
    ((∀k,l.getD k false=true->k<m)/\(∀k,l.getD k false=true-> ∀j∈an.getD k [],l.getD j false=true)/\SR w B GB g' (F (fun k=>l.getD k false)) a' W' \/
      ∃i,m<=i/\i<=ops.size/\(∀k,k<ops.size->l.getD k false=decide (k<i))/\SR w B GB g' (s i) a' W')->a'.tmps.size=n->Q .normal a' W':=by
   intro l g' a' W' hls hall hj hn'
   rcases hj with⟨h1,_,h3⟩|⟨i,h1,h2,h3,h4⟩
   ·have hmn:m=ops.size:=by
     rcases Xa6 m ops.size with hlt|hge<;>grind
    grind
   ·have:i=ops.size:=by
     rcases Xa6 i ops.size with hlt|hge<;>grind
    grind
  induction fuel with
  |zero=>
   intro l g' a' W' hls hcnt hj hn'
   have hall:∀k,k<ops.size->l.getD k false=true:=by
    intro k hk
    cases hv:l.getD k false with
    |true=>rfl
    |false=>
     have hk':k<l.size:=by omega
     have:false∈l.toList:=by
      have e:l[k]=false:=by simpa[Array.getD,hk']using hv
      grind
     grind
   refine⟨?_,fin l g' a' W' hls hall hj hn'⟩
   apply Xdy.2
   intro k hk
   obtain⟨h1,o,h2,_⟩:=mem_ready.1 hk
   grind
  |succ fuel ih=>
   intro l g' a' W' hls hcnt hj hn'
   refine⟨fun hre=>fin l g' a' W' hls (nolist l hls hre) hj hn',fun i hi=> ?_⟩
   obtain⟨h1,o,ho,hedges⟩:=mem_ready.1 hi
   have hilt:=(Xbg.1 ho).1
   rw[Zgj l i hls hilt]at h1
   obtain⟨o',x,ho',hx,hcx⟩:=hget' i hilt
   rw[ho]at ho';cases ho'
   have hilt':i<l.size:=by omega
   have hls':(l.setIfInBounds i true).size=ops.size:=by simpa using hls
   have hcnt':(l.setIfInBounds i true).toList.count false<=fuel:=by
    have hi2:i<l.toList.length:=by omega
    have e:l.toList[i]=false:=by simpa[Array.getD,hilt']using h1
    grind
   have hS':∀k,(l.setIfInBounds i true).getD k false=(l.getD k false||k==i):=by
    intro k
    by_cases hki:k=i
    ·subst hki;simp[Array.getD,hilt']
    ·rw[getD_set_ne false (fun e=>hki e.symm)];simp[hki]
   have haft:∀e∈x.after,l.getD e false=true:=by
    intro e he
    rw[aft i o x ho hcx]at he
    obtain⟨ed,hed,rfl⟩:=Xa7.1 he
    obtain⟨hed1,hed2⟩:=Xdp.1 hed
    grind
   obtain⟨c1,c2,c4⟩:=hchk i (by omega) x hx
   have hclosed:∀k,l.getD k false=true-> ∀j∈an.getD k [],l.getD j false=true:=by
    rcases hj with⟨_,h,_⟩|⟨i0,_,h2,h3,_⟩
    ·exact h
    ·intro k hk j hj'
     have hk':k<ops.size:=by
      grind
     have hxk:=Xad (show k<aos.length by omega)
     obtain⟨d1,d2,_⟩:=hchk k (by omega) _ hxk
     have hki0:k<i0:=by grind
     have jlt:∀k,k<aos.length-> ∀j∈an.getD k [],j<k:=by
      intro k
      induction k using Nat.strongRecOn with
      |_ k ihk=>
       intro hk2 j hj2
       have hxk:=Xad hk2
       obtain⟨d1,d2,_⟩:=hchk k hk2 _ hxk
       rcases d2 j hj2 with h|⟨e,he,h⟩
       ·exact d1 j h
       ·have:=d1 e he
        have:=ihk e this (by omega) j h
        omega
     have:=jlt k (by omega) j hj'
     rw[h3 j (by omega)];simp;omega
   have hpre:∀j∈an.getD i [],l.getD j false=true:=by
    intro j hj'
    rcases c2 j hj' with h|⟨e,he,h⟩
    ·exact haft j h
    ·exact hclosed e (haft e he) j h
   have hst:∀(st2:St),SR w B GB g' st2 a' W'-> ∀st3,exec Γ cx.gl x st2=some st3->(∀g2 a2 W2,SR w B GB g2 st3 a2 W2->((∀k,(l.setIfInBounds i true).getD k false=true->k<m)/\(∀k,(l.setIfInBounds i true).getD k false=true-> ∀j∈an.getD k [],(l.setIfInBounds i true).getD j false=true)/\SR w B GB g2 (F (fun k=>(l.setIfInBounds i true).getD k false)) a2 W2 \/
     ∃i',m<=i'/\i'<=ops.size/\(∀k,k<ops.size->(l.setIfInBounds i true).getD k false=decide (k<i'))/\SR w B GB g2 (s i') a2 W2))->
     wpOp cx.P ops Q i (wpAny cx.P .any ops Q fuel (l.setIfInBounds i true)) a' W':=
    fun st2 hsr st3 hex hnx=>Zi0 hs hΓ hsr hn' ho hcx hex fun g2 a2 W2 h2 hn2=>ih _ g2 a2 W2 hls' hcnt' (hnx g2 a2 W2 h2) hn2
   by_cases him:i<m
   ·rcases hj with⟨j1,j2,j3⟩|⟨i0,j1,j2,j3,_⟩
    ·refine hst _ j3 _ (step1 (fun k=>l.getD k false) i him h1 j1 j2 hpre g' a' W' j3 hn' x hx) fun g2 a2 W2 h2=> .inl ⟨fun k hk=> ?_,fun k hk j hj'=> ?_, ?_⟩
     ·rw[hS']at hk;simp only[Xa4,beq_iff_eq]at hk
      rcases hk with hk|rfl
      ·exact j1 k hk
      ·exact him
     ·rw[hS']at hk⊢;simp only[Xa4,beq_iff_eq]at hk
      rcases hk with hk|rfl
      ·simp[j2 k hk j hj']
      ·simp[hpre j hj']
     ·rw[hFc _ (fun k=>l.getD k false||k==i) fun k _=>hS' k];exact h2
    ·have:=j3 i hilt;grind
   ·have hge:m<=i:=by omega
    have hall:=c4 hge
    have hfull:∀j,j<i->l.getD j false=true:=fun j hj'=>hpre j (hall j hj')
    have hsi:SR w B GB g' (s i) a' W':=by
     rcases hj with⟨j1,_,j3⟩|⟨i0,j1,j2,j3,j4⟩
     ·have him':i=m:=by
       rcases Xa6 m i with hlt|hge'
       ·have:=j1 m (hfull m hlt);omega
       ·omega
      rw[hFc _ (fun _=>true) fun k hk=>hfull k (by omega),hFm, <-him']at j3
      exact j3
     ·grind
    refine hst _ hsi _ (hstep i x hge hx) fun g2 a2 W2 h2=> .inr ⟨i+1,by omega,by omega,fun k hk=> ?_,h2⟩
    rw[hS']
    rcases Xbk k i with hlt|heq|hgt
    ·rw[hfull k hlt];simp;omega
    ·subst heq;simp
    ·grind
 refine main ops.size (Array.replicate ops.size false) g a W (by simp) (by simp[List.count_replicate]) (.inl ⟨fun k hk=> ?_,fun k hk=> ?_, ?_⟩) hn
 ·exfalso;revert hk;simp[Array.getD]
 ·exfalso;revert hk;simp[Array.getD]
 ·rw[hFc _ (fun _=>false) fun k hk=>by simp[Array.getD],hF0];exact h
def Ud.idle :Ud:=⟨none,Nil,false,none,none⟩
theorem Zrl (s:St):Ud.idle.app s=s:=rfl
theorem Ztn (u:Ud):Apart Ud.idle u where
 d t h:=by cases h
 tu t h:=by cases h
 tv t h:=⟨by simp[Ud.idle],by simp[Ud.idle]⟩
 c:=fun h=>by grind[Ud.idle,Zc8]
 n:=fun h=>by grind[Ud.idle]
 nu:=fun h=>by grind[Ud.idle]
 nv:=fun _=>rfl
theorem Zph (u:Ud):Apart u Ud.idle where
 d t h:=by simp[Ud.idle]
 tu t h:=⟨by simp[Ud.idle],by simp[Ud.idle]⟩
 tv t h:=by cases h
 c:=fun h=>by grind[Ud.idle,Zc8]
 n:=fun h=>by grind[Ud.idle]
 nu:=fun _=>rfl
 nv:=fun h=>by grind[Ud.idle]
theorem Zsu {gl:Nat->Option (List V)}{n:Nat}{x:AOper}{s s':St}(he:Zqb n x=true)(h:exec Γ gl x s=some s'):∃k a y id cs off,x.op= .store k a y/\x.guard=none/\x.dst=none/\Zit n a=true/\s.ev a= .ptr id off/\Zap s.H id=some cs/\
  s'=s.setOb id cs off (s.ev y).cells/\ ∀s2:St,s2.ev a=s.ev a->s2.ev y=s.ev y->Zap s2.H id=some cs->exec Γ gl x s2=some (s2.setOb id cs off (s.ev y).cells):=by
 obtain⟨d,op,gd,af⟩:=x
 unfold Zqb at he
 split at he
 ·rename_i k a y e1 e2 e3
  subst e1;subst e2;subst e3
  have hw:∀st:St,st.wants ⟨none, .store k a y,none,af⟩=true:=fun _=>rfl
  unfold exec at h
  rw[if_pos (hw s)]at h
  simp only[exec1]at h
  split at h
  ·rename_i id off ep
   split at h
   ·rename_i cs ec
    simp only[Xaa,St.storeOb]at h
    obtain⟨s1,h1,rfl⟩:=h
    split at h1
    ·rename_i hcnd
     simp only[Xac]at h1
     subst h1
     refine⟨k,a,y,id,cs,off,rfl,rfl,rfl,he,ep,ec,rfl,fun s2 q1 q2 q3=> ?_⟩
     unfold exec
     simp only[exec1]
     rw[q1,ep]
     simp only[q3,q2]
     unfold St.storeOb
     rw[if_pos hcnd];rfl
    ·cases h1
   ·cases h
  ·cases h
 ·cases he
theorem Zqm (hs:Scope cx w B GB)(hΓ:Sound cx Γ){n:Nat}{ops:Array Oper}{aos0 aos:List AOper}(hc:Zf7 cx.P R n ops ops.toList=some aos0)(hlen:aos.length=aos0.length)(hturn:∀(i:Nat) (x:AOper),aos[i]? =some x-> ∃x0:AOper,aos0[i]? =some x0/\(x=x0 \/x=x0.toP))
  {m k:Nat} (hm:m<=aos.length) (hkm:k<m) (hok:Zmc n aos m k=true) (h:SR w B GB g st a W) (hn:a.tmps.size=n)
  {st':St} (he:execs Γ cx.gl aos st=some st') {Q:Exit->Act->World->Prop} (hnext:∀g' a' W',SR w B GB g' st' a' W'->a'.tmps.size=n->Q .normal a' W'):
  wpAny cx.P .any ops Q ops.size (Array.replicate ops.size false) a W:=by
 obtain⟨hl,_⟩:=Zdj hc
 simp only[Xcp]at hl
 --the states of the text's order
 obtain⟨s,hs0,hsn,hstep⟩:∃s:Nat->St,s 0=st/\s aos.length=st'/\ ∀(i:Nat) (x:AOper),aos[i]? =some x->exec Γ cx.gl x (s i)=some (s (i+1)):=by
  have key:∀(l:List AOper) (s0 s1:St),execs Γ cx.gl l s0=some s1-> ∃s:Nat->St,s 0=s0/\s l.length=s1/\ ∀(i:Nat) (x:AOper),l[i]? =some x->exec Γ cx.gl x (s i)=some (s (i+1)):=by
   intro l
   induction l with
   |nil=>intro s0 s1 h;simp only[execs,Xac]at h;subst h;exact⟨fun _=>s0,rfl,rfl,fun i x h=>by simp at h⟩
   |cons x r ih=>
    intro s0 s1 h
    simp only[execs]at h
    split at h
    ·rename_i s2 h2
     obtain⟨s,h3,h4,h5⟩:=ih s2 s1 h
     refine⟨fun i=>if i=0 then s0 else s (i-1),by simp,by simp[h4],fun i y hy=> ?_⟩<;>grind
    ·simp at h
  exact key aos st st' he
 --what the check says
 simp only[Zmc,Xai]at hok
 obtain⟨hearly,hok⟩:=hok
 have hxk:=Xad (show k<aos.length by omega)
 rw[Zf1 hxk]at hearly
 have hchk:∀i,i<aos.length-> ∀x,aos[i]? =some x->(∀e∈x.after,e<i)/\(∀j∈(ancs aos []).getD i [],j∈x.after \/ ∃e∈x.after,j∈(ancs aos []).getD e [])/\
   (i<m->i≠k->x.op.isStore=false/\(k<i->x.op.quiet=true)/\(∀y∈x.op.hOpds,Zit n y=true)/\ ∀j,j<i-> ∀y,aos[j]? =some y->(j∈(ancs aos []).getD i [] \/Za3 y x=false)/\(j≠k-> ¬(x.op.isNew=true/\y.op.isNew=true)))/\
   (i=k-> ∀j,j<i-> ∀y,aos[j]? =some y->j∈(ancs aos []).getD i [] \/(y.op.quiet=true/\Za3 y x=false))/\
   (m<=i-> ∀j,j<i->j∈(ancs aos []).getD i []):=by
  intro i hi x hx
  have:=Xav.1 hok i (Xco.2 hi)
  simp only[Zf1 hx,Xai]at this
  obtain⟨⟨h1,h2⟩,h3⟩:=this
  simp only[Xav,decide_eq_true_eq,Xa4,Xdj,Xbj]at h1 h2
  refine⟨h1,h2,fun hlt hne=> ?_,fun heq=> ?_,fun hge=> ?_⟩
  ·rw[if_pos hlt,if_neg hne]at h3
   simp only[Xav,Xco,Xai,Xb6]at h3
   obtain⟨⟨h3,h4⟩,h5⟩:=h3
   refine⟨h3,fun hki=> ?_,h4,fun j hj y hy=> ?_⟩
   ·grind
   ·have h6:=h5 j hj
    rw[Zf1 hy]at h6
    by_cases hjk:j=k
    ·grind
    ·rw[if_neg hjk]at h6
     simp only[Xai,Xa4,Xbj,Xb6,Xdd]at h6
     grind
  ·rw[if_pos (by omega),if_pos heq]at h3
   simp only[Xav,Xco,Xai,Xa4,Xbj,Xb6]at h3
   grind
  ·rw[if_neg (by omega)]at h3
   simp only[Xav,Xco,Xbj]at h3
   exact h3
 obtain⟨kk,ka,ky,id,cs,off,kop,kgd,kds,kok,kev,kcs,ksn,kex⟩:=Zsu hearly (hstep k _ hxk)
 generalize hys:((s k).ev ky).cells=ys at ksn kex
 have hud:∀i, ∃u:Ud,(i=k->u= .idle)/\(i<m->i≠k-> ∃x,aos[i]? =some x/\udOf Γ cx.gl x (s i)=some u/\s (i+1)=u.app (s i)):=by
  intro i
  by_cases hik:i=k
  ·exact⟨.idle,fun _=>rfl,fun _ h=>absurd hik h⟩
  by_cases hi:i<m
  ·have hx:=Xad (show i<aos.length by omega)
   obtain⟨u,h1,h2⟩:=Zhm ((hchk i (by omega) _ hx).2.2.1 hi hik).1 (hstep i _ hx)
   exact⟨u,fun h=>absurd h hik,fun _ _=>⟨_,hx,h1,h2⟩⟩
  ·exact⟨.idle,fun h=>absurd h hik,fun h=>absurd h hi⟩
 obtain⟨U,hU2⟩:=Classical.axiomOfChoice hud
 have hUk:U k= .idle:=(hU2 k).1 rfl
 have hU:=fun i=>(hU2 i).2
 have hfold:∀i,i<=m->Zd6 (decide (k<i)) id cs off ys (Zal U (fun _=>true) st i)=s i:=by
  intro i
  induction i with
  |zero=>intro _;exact hs0.symm
  |succ i ih=>
   intro hi
   have ih:=ih (by omega)
   by_cases hik:i=k
   ·subst hik
    simp only[Nat.lt_irrefl,decide_false]at ih
    have e0:Zal U (fun _=>true) st (i+1)=Zal U (fun _=>true) st i:=by simp only[Zal,if_true,hUk,Zrl]
    rw[e0,ksn, <-ih]
    simp[Zd6]
   ·obtain⟨x,hx,hu,h3⟩:=hU i (by omega) hik
    simp only[Zal,if_true]
    rw[h3, <-ih]
    by_cases hki:k<i
    ·have hq:=((hchk i (by omega) x hx).2.2.1 (by omega) hik).2.1 hki
     obtain⟨q1,q2⟩:=Zrn hq hu
     rw[Zm3 q1 q2];simp[hki,Nat.lt_succ_of_lt hki]
    ·have: ¬k<i+1:=by omega
     simp[hki,this,Zd6]
 have hone:Ziu U m:=by
  intro j j' hj hj' h1 h2
  have nek:∀{j},(U j).nw.isSome=true->j≠k:=fun h e=>by rw[e,hUk]at h;cases h
  have hjk:=nek h1
  have hjk':=nek h2
  obtain⟨x,hx,hux,_⟩:=hU j hj hjk
  obtain⟨y,hy,huy,_⟩:=hU j' hj' hjk'
  have n1:=Zcf hux h1
  have n2:=Zcf huy h2
  rcases Xbk j j' with hlt|heq|hgt
  ·exact absurd ⟨n2,n1⟩ ((((hchk j' (by omega) y hy).2.2.1 hj' hjk').2.2.2 j hlt x hx).2 hjk)
  ·exact heq
  ·exact absurd ⟨n1,n2⟩ ((((hchk j (by omega) x hx).2.2.1 hj hjk).2.2.2 j' hgt y hy).2 hjk')
 --any two:in order or apart
 have hpair:∀i,i<m-> ∀x,aos[i]? =some x-> ∀j,j<i-> ∀y,aos[j]? =some y->j∈(ancs aos []).getD i [] \/Za3 y x=false:=by
  intro i hi x hx j hj y hy
  by_cases hik:i=k
  ·rcases(hchk i (by omega) x hx).2.2.2.1 hik j hj y hy with h|h
   ·exact .inl h
   ·exact .inr h.2
  ·exact(((hchk i (by omega) x hx).2.2.1 hi hik).2.2.2 j hj y hy).1
 --the side on which those stand that meet i
 have side:∀(S:Nat->Bool) (i:Nat),i<m->S i=false->(∀k,S k=true-> ∀j∈(ancs aos []).getD k [],S j=true)->(∀j∈(ancs aos []).getD i [],S j=true)-> ∀x,aos[i]? =some x->
   ∀k y,k<m->aos[k]? =some y->k≠i->Za3 y x=true->S k=decide (k<i):=by
  intro S i hi hSi hcl hpre x hx k y hk hy hne hcf
  rcases Xa6 k i with hlt|hge
  ·have:=hpair i hi x hx k hlt y hy
   rw[hcf]at this
   rw[hpre k (this.resolve_right (by simp))];simp[hlt]
  ·have hgt:i<k:=by omega
   have:=hpair k hk y hy i hgt x hx
   have hcf':Za3 x y=true:=by
    cases hh:Za3 x y with
    |true=>rfl
    |false=>rw[Zhf hh]at hcf;cases hcf
   rw[hcf']at this
   have hin:=this.resolve_right (by simp)
   cases hSk:S k with
   |false=>simp;omega
   |true=>rw[hcl k hSk i hin]at hSi;cases hSi
 have cf:∀{x y:AOper},(∃t,t∈y.ws/\(t∈x.rd \/t∈x.ws \/t∈x.op.owns))->Za3 y x=true:=by
  intro x y ⟨t,h1,h2⟩
  cases hh:Za3 y x with
  |true=>rfl
  |false=>
   simp only[Za3,Xbm]at hh
   exact absurd (by simp only[Xar,Xaz];exact h2) (Zav hh.1.1.1.1.1.1 h1)
 have cf2:∀{x y:AOper} {t:Nat},t∈y.op.owns->t∈x.op.owns->Za3 y x=true:=by
  intro x y t h1 h2
  cases hh:Za3 y x with
  |true=>rfl
  |false=>
   simp only[Za3,Xbm]at hh
   exact absurd h2 (Zav hh.1.1.1.1.2 h1)
 have hbase:∀i,i<=m->Zal U (fun k=>decide (k<i)) st m=Zal U (fun _=>true) st i:=fun i hi=>Zim hi
 have rdtm:∀(S:Nat->Bool) (i:Nat),i<m->S i=false->(∀k,S k=true-> ∀j∈(ancs aos []).getD k [],S j=true)->(∀j∈(ancs aos []).getD i [],S j=true)-> ∀x,aos[i]? =some x->
   ∀t∈x.rd,(Zal U S st m).tm t=(Zal U (fun _=>true) st i).tm t:=by
  intro S i hi hSi hcl hpre x hx t ht
  rw[<-hbase i (by omega)]
  refine Zgv hone (Xae _) fun j hj hd=> ?_
  by_cases hji:j=i
  ·subst hji;rw[hSi];simp
  ·by_cases hjk:j=k
   ·rw[hjk,hUk]at hd;cases hd
   ·obtain⟨y,hy,huy,_⟩:=hU j hj hjk
    rw[ud_d huy]at hd
    exact side S i hi hSi hcl hpre x hx j y hj hy hji (cf ⟨t,by simp[AOper.ws,hd], .inl ht⟩)
 have patchtm:∀(b:Bool) (st:St),(Zd6 b id cs off ys st).tm=st.tm:=fun b st=>Zza b id cs off ys st
 --one more of the unordered part
 have step1:∀(S:Nat->Bool) (i:Nat),i<m->S i=false->(∀k,S k=true->k<m)->(∀k,S k=true-> ∀j∈(ancs aos []).getD k [],S j=true)->(∀j∈(ancs aos []).getD i [],S j=true)->
   ∀g' a' W',SR w B GB g' (Zd6 (S k) id cs off ys (Zal U S st m)) a' W'->a'.tmps.size=n-> ∀x,aos[i]? =some x->
   exec Γ cx.gl x (Zd6 (S k) id cs off ys (Zal U S st m))=some (Zd6 (S k||k==i) id cs off ys (Zal U (fun k=>S k||k==i) st m)):=by
  intro S i hi hSi hSm hcl hpre g' a' W' hsr hn' x hx
  have htm:=rdtm S i hi hSi hcl hpre x hx
  by_cases hik:i=k
  ·--the store
   subst hik
   have hx':x=aos[i]:=by rw[hxk]at hx;exact(Option.some.inj hx).symm
   subst hx'
   have hsk:s i=Zal U (fun _=>true) st i:=by rw[<-hfold i (by omega)];simp[Zd6]
   have hadd:Zal U (fun j=>S j||j==i) st m=Zal U S st m:=by
    have:=Zdn (U:=U) (s0:=st) (S:=S) (S':=fun j=>S j||j==i) hSi (fun k=>rfl) hi (fun j h1 h2 h3=>by rw[hUk];exact Zph _)
    rw[this,hUk,Zrl]
   rw[hSi,hadd]
   simp only[Xeq,beq_self_eq_true,Zd6,if_true,Xat,if_false]
   have hrd:∀t∈(AOp.store kk ka ky).reads,(Zal U S st m).tm t=(s i).tm t:=fun t ht=>by
    rw[hsk];exact htm t (by simp only[AOper.rd,kop];exact Xbh _ ht)
   have e1:(Zal U S st m).ev ka=(s i).ev ka:=Zba fun t ht=>hrd t (by simp[AOp.reads,ht])
   have e2:(Zal U S st m).ev ky=(s i).ev ky:=Zba fun t ht=>hrd t (by simp[AOp.reads,ht])
   --the objects are the same
   have eH:(Zal U S st m).H=(s i).H:=by
    rw[hsk, <-hbase i (by omega)]
    have inS:∀j,j<m->(U j).nw.isSome=true->S j=true/\j<i:=by
     intro j hj hnw
     have hji:j≠i:=fun e=>by rw[e,hUk]at hnw;cases hnw
     obtain⟨y,hy,huy,_⟩:=hU j hj hji
     have hnq:y.op.quiet=false:=by
      have:=Zcf huy hnw
      simp[AOp.quiet,this]
     have hlt:j<i:=by
      rcases Xa6 j i with h|h
      ·exact h
      ·have:=((hchk j (by omega) y hy).2.2.1 hj hji).2.1 (by omega)
       rw[hnq]at this;cases this
     refine⟨?_,hlt⟩
     rcases(hchk i (by omega) _ hx).2.2.2.1 rfl j hlt y hy with h|h
     ·exact hpre j h
     ·rw[hnq]at h;cases h.1
    by_cases hex:∃j,j<m/\(U j).nw.isSome=true
    ·obtain⟨j,hj,hnw⟩:=hex
     obtain⟨zs,hzs⟩:=Xb5.1 hnw
     obtain⟨q1,q2⟩:=inS j hj hnw
     rw[(Zdd hone hzs q1 hj (Xae _)).1,(Zdd (S:=fun k=>decide (k<i)) hone hzs (by simpa using q2) hj (Xae _)).1]
    ·have hnone:∀(T:Nat->Bool) j,j<m->T j=true->(U j).nw=none:=fun T j hj _=>by
      cases hjn:(U j).nw with
      |none=>rfl
      |some z=>exact absurd ⟨j,hj,by rw[hjn];rfl⟩ hex
     rw[(Zbj (n:=m) (hnone S)).1,(Zbj (n:=m) (hnone _)).1]
   exact kex _ e1 e2 (by rw[eH];exact kcs)
  ·obtain⟨x',hx',hux,_⟩:=hU i hi hik
   rw[hx]at hx';cases hx'
   obtain⟨hst,hquiet,hop,_⟩:=(hchk i (by omega) x hx).2.2.1 hi hik
   have hki':(k==i)=false:=by simp;omega
   rw[hki',Xep]
   have how:∀t∈x.op.owns,(Zal U S st m).own (.slot t)=(Zal U (fun _=>true) st i).own (.slot t):=by
    intro t ht
    rw[<-hbase i (by omega)]
    refine Zcz hone (Xae _) fun j hj hd=> ?_
    by_cases hji:j=i
    ·subst hji;rw[hSi];simp
    ·by_cases hjk:j=k
     ·rw[hjk,hUk]at hd;simp[Zbz,Ud.idle]at hd
     ·obtain⟨y,hy,huy,_⟩:=hU j hj hjk
      simp only[Zbz,Xa4,beq_iff_eq]at hd
      rcases hd with hd|hd
      ·rw[ud_d huy]at hd
       exact side S i hi hSi hcl hpre x hx j y hj hy hji (cf ⟨t,by simp[AOper.ws,hd], .inr (.inr ht)⟩)
      ·rcases Zka huy with e|⟨t',e,h'⟩|⟨_,id,j,e⟩
       ·rw[e]at hd;cases hd
       ·rw[e]at hd;cases hd;exact side S i hi hSi hcl hpre x hx j y hj hy hji (cf2 h' ht)
       ·rw[e]at hd;cases hd
   have hadd:Zal U (fun j=>S j||j==i) st m=(U i).app (Zal U S st m):=by
    refine Zdn hSi (fun k=>rfl) hi fun j h1 h2 h3=> ?_
    by_cases hjk:j=k
    ·rw[hjk,hUk];exact Ztn _
    ·obtain⟨y,hy,huy,_⟩:=hU j h2 hjk
     refine Zij huy hux ?_ (fun h=>Zcf huy h) (fun h=>Zcf hux h)
     cases hh:Za3 y x with
     |false=>rfl
     |true=>have:=side S i hi hSi hcl hpre x hx j y h2 hy (by omega) hh;rw[h3]at this;simp at this;omega
   by_cases hq:x.op.quiet=true
   ·obtain⟨q1,q2⟩:=Zrn hq hux
    have hq':=hq
    unfold AOp.quiet at hq'
    simp only[Xai,Xb6,List.isEmpty_iff]at hq'
    have hu:udOf Γ cx.gl x (Zd6 (S k) id cs off ys (Zal U S st m))=some (U i):=by
     refine Zgy hst hux (fun t ht=> ?_) (fun t ht=> ?_) (fun hx1=> ?_) (fun y hy=> ?_)
     ·rw[patchtm,htm t ht, <-hfold i (by omega),patchtm]
     ·rw[Zkm,how t ht, <-hfold i (by omega),Zkm]
     ·rw[hq'.1.2]at hx1;cases hx1
     ·rw[hq'.1.1.1]at hy;cases hy
    rw[Zei hst hu,hadd,Zm3 q1 q2]
   ·--what is not quiet comes before the store
    have hik2:i<k:=by
     rcases Xa6 k i with h|h
     ·exact absurd (hquiet h) hq
     ·omega
    have hSk:S k=false:=by
     cases hSk:S k with
     |false=>rfl
     |true=>
      rcases(hchk k (by omega) _ hxk).2.2.2.1 rfl i hik2 x hx with h|h
      ·rw[hcl k hSk i h]at hSi;cases hSi
      ·exact absurd h.1 hq
    have hsi:s i=Zal U (fun _=>true) st i:=by rw[<-hfold i (by omega)];simp[Zd6,show ¬k<i by omega]
    rw[hSk]at hsr⊢
    simp only[Zd6,Xat,if_false]at hsr⊢
    have hldo:x.op.isLdo=true-> ∀id j,(Zal U S st m).own (.cell id j)=(s i).own (.cell id j):=by
     intro hx1 id j
     rw[hsi, <-hbase i (by omega)]
     refine Zcz hone (Xae _) fun j' hj hd=> ?_
     by_cases hji:j'=i
     ·subst hji;rw[hSi];simp
     ·by_cases hjk:j'=k
      ·rw[hjk,hUk]at hd;simp[Zbz,Ud.idle,Zc8]at hd
      ·obtain⟨y,hy,huy,_⟩:=hU j' hj hjk
       simp only[Zbz,Xa4]at hd
       refine side S i hi hSi hcl hpre x hx j' y hj hy hji ?_
       rcases hd with hd|hd
       ·have hy1:y.op.isLdo=true:=by
         rcases Zka huy with e|⟨t',e,_⟩|⟨h,_⟩
         ·rw[e]at hd;cases hd
         ·rw[e]at hd;cases hd
         ·exact h
        simp[Za3,hx1,hy1]
       ·have hy1:=Zcf huy hd
        simp[Za3,hx1,hy1]
    have hH:∀y∈x.op.hOpds, ∀id,Zcj (evO (s i).tm y)=some id->((s i).H id).isSome=true->(Zal U S st m).H id=(s i).H id:=by
     intro y hy id hid hsome
     have hid':Zcj (evO (Zal U S st m).tm y)=some id:=by
      rw[<-hid];congr 1
      refine Zba fun t ht=> ?_
      have:t∈x.op.reads:=by
       revert hy;cases x.op<;>simp only[AOp.hOpds,Xbp,Xb1,false_implies]<;>intro hy<;>first|(subst hy;simp[AOp.reads,ht];done)|exact Xb3.2 ⟨y,hy,ht⟩
      rw[hsi];exact htm t (by simp[AOper.rd,this])
     have hlt:=hsr.ref hn' (hop y hy) hid'
     by_cases hex:∃k,k<m/\(U k).nw.isSome=true
     ·obtain⟨k,hk,hnw⟩:=hex
      obtain⟨cs,hcs⟩:=Xb5.1 hnw
      have none_of:∀(T:Nat->Bool),T k=false->(∀j,j<m->T j=true->(U j).nw=none):=by
       intro T hT j hj hTj
       cases hjn:(U j).nw with
       |none=>rfl
       |some z=>have:=hone j k hj hk (by rw[hjn];rfl) hnw;subst this;rw[hT]at hTj;cases hTj
      have hsid:∀(b:Bool),decide (k<i)=b->(s i).H=(if b=true then upd st.H st.nH (some (.cells cs))else st.H):=by
       intro b hb
       rw[hsi, <-hbase i (by omega)]
       cases b with
       |true=>rw[(Zdd (S:=fun k=>decide (k<i)) hone hcs (by simpa using hb) hk (Xae _)).1];simp
       |false=>rw[(Zbj (n:=m) (none_of (fun k=>decide (k<i)) hb)).1];simp
      cases hSk:S k with
      |true=>
       rw[(Zdd hone hcs hSk hk (Xae _)).1]
       rw[hsid _ rfl]at hsome⊢
       by_cases hki:k<i
       ·simp[hki]
       ·simp only[hki,decide_false,Xat,if_false]at hsome⊢
        have:id≠st.nH:=fun e=>by subst e;rw[h.obn _ (Xae _)]at hsome;cases hsome
        simp[upd,this]
      |false=>
       obtain⟨e1,e2⟩:=Zbj (s0:=st) (n:=m) (none_of S hSk)
       rw[e2]at hlt
       rw[e1,hsid _ rfl]
       by_cases hki:k<i
       ·simp only[hki,decide_true,if_true]
        have:id≠st.nH:=by omega
        simp[upd,this]
       ·simp[hki]
     ·have hnone:∀(T:Nat->Bool) j,j<m->T j=true->(U j).nw=none:=fun T j hj _=>by
       cases hjn:(U j).nw with
       |none=>rfl
       |some z=>exact absurd ⟨j,hj,by rw[hjn];rfl⟩ hex
      rw[(Zbj (n:=m) (hnone S)).1,hsi, <-hbase i (by omega),(Zbj (n:=m) (hnone _)).1]
    have hu:=Zgy hst hux (fun t ht=>by rw[hsi];exact htm t ht) (fun t ht=>by rw[hsi];exact how t ht) hldo hH
    rw[Zei hst hu,hadd]
 --the induction
 have back:∀i,i<aos.length-> ∀x0,aos0[i]? =some x0-> ∃x,aos[i]? =some x/\(x=x0 \/x=x0.toP):=by
  intro i hi x0 hx0
  have hx:=Xad hi
  obtain⟨x1,h1,h2⟩:=hturn i _ hx
  rw[hx0]at h1;cases h1
  exact⟨_,hx,h2⟩
 have toE:∀{x x0:AOper} {s1 s2:St},(x=x0 \/x=x0.toP)->exec Γ cx.gl x s1=some s2->exec Γ cx.gl x0 s1=some s2:=by
  intro x x0 s1 s2 h h1
  rcases h with rfl|rfl
  ·exact h1
  ·exact Zy5 h1
 have toA:∀{x x0:AOper},(x=x0 \/x=x0.toP)->x0.after=x.after:=by
  intro x x0 h
  rcases h with rfl|rfl
  ·rfl
  ·exact(Zxh _).symm
 have lt0:∀{i x0},aos0[i]? =some x0->i<aos.length:=fun h=>by rw[hlen];exact(Xak.1 h).1
 refine Zsg hs hΓ hc (m:=m) (by omega) (ancs aos []) (fun S=>Zd6 (S k) id cs off ys (Zal U S st m)) (fun S S' hS=> ?_) ?_ (s:=s) ?_ (by rw[<-hl, <-hlen];exact hsn) (fun i hi x0 hx0=> ?_) (fun S i hi hSi hSm hcl hpre g' a' W' hsr hn' x0 hx0=> ?_) (fun i x0 hge hx0=> ?_) h hn hnext
 ·show Zd6 (S k) id cs off ys (Zal U S st m)=Zd6 (S' k) id cs off ys (Zal U S' st m)
  rw[hS k hkm,Zbh hS]
 ·have:∀j,Zal U (fun _=>false) st j=st:=by
   intro j
   induction j with
   |zero=>rfl
   |succ j ih=>simp only[Zal];rw[if_neg (by simp),ih]
  simp only[this];rfl
 ·rw[<-hfold m (Xae _)];simp[hkm]
 ·obtain⟨x,hx,hxx⟩:=back i (by omega) x0 hx0
  obtain⟨c1,c2,_,_,c5⟩:=hchk i (by omega) x hx
  rw[toA hxx]
  exact⟨c1,c2,c5⟩
 ·obtain⟨x,hx,hxx⟩:=back i (lt0 hx0) x0 hx0
  exact toE hxx (step1 S i hi hSi hSm hcl hpre g' a' W' hsr hn' x hx)
 ·obtain⟨x,hx,hxx⟩:=back i (lt0 hx0) x0 hx0
  exact toE hxx (hstep i x hx)
end Go.Abs
namespace Go.Abs
open Go.RowKit
variable {cx:Cx}{w:World}{B:Nat->Prop}{GB:Gh}{g:Gh}{st:St}{a:Act}{W:World}{Γ:Spec}{R:TypeId->Bool}
def Zpk (n:Nat)(aos:List AOper)(k:Nat):Bool:=
 let an:=ancs aos []
 (List.range aos.length).all fun i=>
  let x:=aos.getD i default
  let ai:=an.getD i []
  x.after.all (fun e=>decide (e<i))&&
  ai.all (fun j=>x.after.contains j||x.after.any fun e=>(an.getD e []).contains j)&&
  (if i<k then !x.op.isStore&&x.op.hOpds.all (Zit n)&&
    (List.range i).all fun j=>(ai.contains j|| !Za3 (aos.getD j default) x)&& !(x.op.isNew&&(aos.getD j default).op.isNew)
   else if i=k then(List.range i).all fun j=>ai.contains j
   else x.op.quiet&&(List.range i).all fun j=>ai.contains j||(decide (k<j)&& !Za3 (aos.getD j default) x))
theorem Zqc (hs:Scope cx w B GB)(hΓ:Sound cx Γ){n:Nat}{ops:Array Oper}{aos:List AOper}(hc:Zf7 cx.P R n ops ops.toList=some aos){k:Nat}(hkm:k<aos.length)(hok:Zpk n aos k=true)(h:SR w B GB g st a W)(hn:a.tmps.size=n)
  {st':St} (he:execs Γ cx.gl aos st=some st') {Q:Exit->Act->World->Prop} (hnext:∀g' a' W',SR w B GB g' st' a' W'->a'.tmps.size=n->Q .normal a' W'):
  wpAny cx.P .any ops Q ops.size (Array.replicate ops.size false) a W:=by
 obtain⟨hl,_⟩:=Zdj hc
 simp only[Xcp]at hl
 --the states of the text's order
 obtain⟨s,hs0,hsn,hstep⟩:∃s:Nat->St,s 0=st/\s aos.length=st'/\ ∀(i:Nat) (x:AOper),aos[i]? =some x->exec Γ cx.gl x (s i)=some (s (i+1)):=by
  have key:∀(l:List AOper) (s0 s1:St),execs Γ cx.gl l s0=some s1-> ∃s:Nat->St,s 0=s0/\s l.length=s1/\ ∀(i:Nat) (x:AOper),l[i]? =some x->exec Γ cx.gl x (s i)=some (s (i+1)):=by
   intro l
   induction l with
   |nil=>intro s0 s1 h;simp only[execs,Xac]at h;subst h;exact⟨fun _=>s0,rfl,rfl,fun i x h=>by simp at h⟩
   |cons x r ih=>
    intro s0 s1 h
    simp only[execs]at h
    split at h
    ·rename_i s2 h2
     obtain⟨s,h3,h4,h5⟩:=ih s2 s1 h
     refine⟨fun i=>if i=0 then s0 else s (i-1),by simp,by simp[h4],fun i y hy=> ?_⟩<;>grind
    ·simp at h
  exact key aos st st' he
 --what the check says
 have hchk:∀i,i<aos.length-> ∀x,aos[i]? =some x->(∀e∈x.after,e<i)/\(∀j∈(ancs aos []).getD i [],j∈x.after \/ ∃e∈x.after,j∈(ancs aos []).getD e [])/\
   (i<k->x.op.isStore=false/\(∀y∈x.op.hOpds,Zit n y=true)/\ ∀j,j<i-> ∀y,aos[j]? =some y->(j∈(ancs aos []).getD i [] \/Za3 y x=false)/\ ¬(x.op.isNew=true/\y.op.isNew=true))/\
   (i=k-> ∀j,j<i->j∈(ancs aos []).getD i [])/\
   (k<i->x.op.quiet=true/\ ∀j,j<i-> ∀y,aos[j]? =some y->j∈(ancs aos []).getD i [] \/(k<j/\Za3 y x=false)):=by
  intro i hi x hx
  have:=Xav.1 hok i (Xco.2 hi)
  simp only[Zf1 hx,Xai]at this
  obtain⟨⟨h1,h2⟩,h3⟩:=this
  simp only[Xav,decide_eq_true_eq,Xa4,Xdj,Xbj]at h1 h2
  refine⟨h1,h2,fun hlt=> ?_,fun heq=> ?_,fun hgt=> ?_⟩
  ·rw[if_pos hlt]at h3
   simp only[Xav,Xco,Xai,Xb6,Xa4,Xbj,Xdd]at h3
   grind
  ·simp_all
  grind
 have hxk:=Xad hkm
 have hud:∀i, ∃u:Ud,(i=k->u= .idle)/\(i<aos.length->i≠k-> ∃x,aos[i]? =some x/\udOf Γ cx.gl x (s i)=some u/\s (i+1)=u.app (s i)):=by
  intro i
  by_cases hik:i=k
  ·simp_all
  by_cases hi:i<aos.length
  ·have hx:=Xad hi
   have hns:aos[i].op.isStore=false:=by
    grind[AOp.quiet]
   obtain⟨u,h1,h2⟩:=Zhm hns (hstep i _ hx)
   exact⟨u,fun h=>absurd h hik,fun _ _=>⟨_,hx,h1,h2⟩⟩
  ·exact⟨.idle,fun h=>absurd h hik,fun h=>absurd h hi⟩
 obtain⟨U,hU2⟩:=Classical.axiomOfChoice hud
 have hUk:U k= .idle:=(hU2 k).1 rfl
 have hU:=fun i=>(hU2 i).2
 have hone:Ziu U aos.length:=by
  have nek:∀{j},j<aos.length->(U j).nw.isSome=true->j<k:=fun{j} hj h=>by
   rcases Xbk j k with hlt|e|hgt
   ·exact hlt
   ·rw[e,hUk]at h;cases h
   ·obtain⟨x,hx,hux,_⟩:=hU j hj (by omega)
    grind[Zcf,AOp.quiet]
  intro j j' hj hj' h1 h2
  have hjk:=nek hj h1
  have hjk':=nek hj' h2
  obtain⟨x,hx,hux,_⟩:=hU j hj (by omega)
  obtain⟨y,hy,huy,_⟩:=hU j' hj' (by omega)
  have n1:=Zcf hux h1
  have n2:=Zcf huy h2
  rcases Xbk j j' with hlt|heq|hgt<;>grind
 --any two on one side:in order or apart
 have hpair:∀i,i<aos.length->i≠k-> ∀x,aos[i]? =some x-> ∀j,j<i->((j<k/\i<k) \/(k<j/\k<i))-> ∀y,aos[j]? =some y->j∈(ancs aos []).getD i [] \/Za3 y x=false:=by
  grind
 have side:∀(S:Nat->Bool) (i:Nat),i<aos.length->i≠k->S i=false->(∀k,S k=true-> ∀j∈(ancs aos []).getD k [],S j=true)->(∀j∈(ancs aos []).getD i [],S j=true)-> ∀x,aos[i]? =some x->
   ∀j y,j<aos.length->((j<k/\i<k) \/(k<j/\k<i))->aos[j]? =some y->j≠i->Za3 y x=true->S j=decide (j<i):=by
  intro S i hi hik hSi hcl hpre x hx j y hj hside hy hne hcf
  rcases Xa6 j i with hlt|hge
  ·have:=hpair i hi hik x hx j hlt hside y hy
   rw[hcf]at this
   rw[hpre j (this.resolve_right (by simp))];simp[hlt]
  ·have hgt:i<j:=by omega
   have:=hpair j hj (by omega) y hy i hgt (by omega) x hx
   have hcf':Za3 x y=true:=by
    cases hh:Za3 x y<;>grind[Zhf]
   rw[hcf']at this
   have hin:=this.resolve_right (by simp)
   cases hSj:S j<;>grind
 have cf:∀{x y:AOper},(∃t,t∈y.ws/\(t∈x.rd \/t∈x.ws \/t∈x.op.owns))->Za3 y x=true:=by
  intro x y ⟨t,h1,h2⟩
  cases hh:Za3 y x with
  |true=>rfl
  |false=>
   simp only[Za3,Xbm]at hh
   exact absurd (by grind) (Zav hh.1.1.1.1.1.1 h1)
 have cf2:∀{x y:AOper} {t:Nat},t∈y.op.owns->t∈x.op.owns->Za3 y x=true:=by
  grind[Zav,Za3]
 --the states of the text's order as folds:ahead of k,and behind it
 obtain⟨N,hN⟩:∃N,N=aos.length:=⟨_,rfl⟩
 have hA:∀i,i<=k->Zal U (fun j=>decide (j<i)) st N=s i:=by
  intro i hi
  rw[Zim (by omega)]
  induction i with
  |zero=>exact hs0.symm
  |succ i ih=>
   obtain⟨x,hx,hu,h3⟩:=hU i (by omega) (by omega)
   grind[Zal]
 have hB:∀d i,i=k+1+d->i<=N->Zal U (fun j=>decide (k<j)&&decide (j<i)) (s (k+1)) N=s i:=by
  intro d
  induction d with
  |zero=>
   intro i hi hiN
   subst hi
   have:∀j,Zal U (fun j=>decide (k<j)&&decide (j<k+1)) (s (k+1)) j=s (k+1):=by
    intro j
    induction j<;>grind[Zal]
   exact this N
  |succ d ih=>
   intro i hi hiN
   obtain⟨x,hx,hu,h3⟩:=hU (k+1+d) (by omega) (by omega)
   have:=Zdn (U:=U) (s0:=s (k+1)) (i:=k+1+d) (S:=fun j=>decide (k<j)&&decide (j<k+1+d)) (S':=fun j=>decide (k<j)&&decide (j<i)) (by simp) (fun j=>by
    subst hi
    by_cases e:j=k+1+d
    ·grind
    ·have:(j==k+1+d)=false:=by simpa using e
     rw[this,Xep]
     congr 1
     simp;omega) (n:=N) (by omega) (fun j h1 h2 h3=>by simp at h3;omega)
   grind
 obtain⟨F,hF⟩:∃F:(Nat->Bool)->St, ∀S,F S=if S k=true then Zal U (fun j=>S j&&decide (k<j)) (s (k+1)) N else Zal U (fun j=>S j&&decide (j<k)) st N:=⟨_,fun _=>rfl⟩
 --one more
 have step1:∀(S:Nat->Bool) (i:Nat),i<N->S i=false->(∀k,S k=true->k<N)->(∀k,S k=true-> ∀j∈(ancs aos []).getD k [],S j=true)->(∀j∈(ancs aos []).getD i [],S j=true)->
   ∀g' a' W',SR w B GB g' (F S) a' W'->a'.tmps.size=n-> ∀x,aos[i]? =some x->exec Γ cx.gl x (F S)=some (F (fun k=>S k||k==i)):=by
  intro S i hi hSi hSm hcl hpre g' a' W' hsr hn' x hx
  rw[hF]at hsr⊢
  rw[hF]
  rcases Xbk i k with hik|hik|hik
  ·--ahead
   have hSk:S k=false:=by
    cases hSk:S k with
    |false=>rfl
    |true=>have:=hcl k hSk i ((hchk k hkm _ hxk).2.2.2.1 rfl i hik);rw[this]at hSi;cases hSi
   have hSk':(S k||k==i)=false:=by rw[hSk];simp;omega
   rw[if_neg (by rw[hSk];simp)]at hsr⊢
   rw[if_neg (by rw[hSk'];simp)]
   obtain⟨x',hx',hux,_⟩:=hU i (by omega) (by omega)
   rw[hx]at hx';cases hx'
   obtain⟨hst,hop,_⟩:=(hchk i (by omega) x hx).2.2.1 hik
   have hsi:s i=Zal U (fun j=>decide (j<i)) st N:=(hA i (by omega)).symm
   have hsd:∀j y,j<N->j<k->aos[j]? =some y->j≠i->Za3 y x=true->(S j&&decide (j<k))=decide (j<i):=fun j y hj hjk hy hne hcf=>by
    rw[side S i (by omega) (by omega) hSi hcl hpre x hx j y (by omega) (.inl ⟨hjk,hik⟩) hy hne hcf];simp[hjk]
   have htm:∀t∈x.rd,(Zal U (fun j=>S j&&decide (j<k)) st N).tm t=(s i).tm t:=by
    intro t ht
    rw[hsi]
    refine Zgv hone (by omega) fun j hj hd=> ?_
    by_cases hji:j=i
    ·subst hji;rw[hSi];simp
    ·rcases Xbk j k with hjk|hjk|hjk
     ·obtain⟨y,hy,huy,_⟩:=hU j (by omega) (by omega)
      rw[ud_d huy]at hd
      exact hsd j y hj hjk hy hji (cf ⟨t,by simp[AOper.ws,hd], .inl ht⟩)
     ·rw[hjk,hUk]at hd;cases hd
     ·have h1: ¬j<k:=by omega
      have h2: ¬j<i:=by omega
      simp[h1,h2]
   have how:∀t∈x.op.owns,(Zal U (fun j=>S j&&decide (j<k)) st N).own (.slot t)=(s i).own (.slot t):=by
    intro t ht
    rw[hsi]
    refine Zcz hone (by omega) fun j hj hd=> ?_
    by_cases hji:j=i
    ·subst hji;rw[hSi];simp
    ·rcases Xbk j k with hjk|hjk|hjk
     ·obtain⟨y,hy,huy,_⟩:=hU j (by omega) (by omega)
      simp only[Zbz,Xa4,beq_iff_eq]at hd
      rcases hd with hd|hd
      ·rw[ud_d huy]at hd
       exact hsd j y hj hjk hy hji (cf ⟨t,by simp[AOper.ws,hd], .inr (.inr ht)⟩)
      ·rcases Zka huy with e|⟨t',e,h'⟩|⟨_,id,j,e⟩
       ·rw[e]at hd;cases hd
       ·rw[e]at hd;cases hd;exact hsd j y hj hjk hy hji (cf2 h' ht)
       ·rw[e]at hd;cases hd
     ·rw[hjk,hUk]at hd;simp[Zbz,Ud.idle]at hd
     ·have h1: ¬j<k:=by omega
      have h2: ¬j<i:=by omega
      simp[h1,h2]
   have hadd:Zal U (fun j=>(S j||j==i)&&decide (j<k)) st N=(U i).app (Zal U (fun j=>S j&&decide (j<k)) st N):=by
    refine Zdn (by rw[hSi];rfl) (fun j=> ?_) (by omega) fun j h1 h2 h3=> ?_
    ·by_cases e:j=i
     ·subst e;simp[hik]
     ·have:(j==i)=false:=by simpa using e
      simp[this]
    ·simp only[Xai,decide_eq_true_eq]at h3
     obtain⟨y,hy,huy,_⟩:=hU j (by omega) (by omega)
     refine Zij huy hux ?_ (fun h=>Zcf huy h) (fun h=>Zcf hux h)
     cases hh:Za3 y x with
     |false=>rfl
     |true=>have:=side S i (by omega) (by omega) hSi hcl hpre x hx j y (by omega) (.inl ⟨h3.2,hik⟩) hy (by omega) hh;rw[h3.1]at this;simp at this;omega
   have hldo:x.op.isLdo=true-> ∀id j,(Zal U (fun j=>S j&&decide (j<k)) st N).own (.cell id j)=(s i).own (.cell id j):=by
    intro hx1 id j
    rw[hsi]
    refine Zcz hone (by omega) fun j' hj hd=> ?_
    by_cases hji:j'=i
    ·subst hji;rw[hSi];simp
    ·rcases Xbk j' k with hjk|hjk|hjk
     ·obtain⟨y,hy,huy,_⟩:=hU j' (by omega) (by omega)
      simp only[Zbz,Xa4]at hd
      refine hsd j' y hj hjk hy hji ?_
      rcases hd with hd|hd
      ·have hy1:y.op.isLdo=true:=by
        rcases Zka huy with e|⟨t',e,_⟩|⟨h,_⟩
        ·rw[e]at hd;cases hd
        ·rw[e]at hd;cases hd
        ·exact h
       simp[Za3,hx1,hy1]
      ·have hy1:=Zcf huy hd
       simp[Za3,hx1,hy1]
     ·rw[hjk,hUk]at hd;simp[Zbz,Ud.idle,Zc8]at hd
     ·have h1: ¬j'<k:=by omega
      have h2: ¬j'<i:=by omega
      simp[h1,h2]
   have hH:∀y∈x.op.hOpds, ∀id,Zcj (evO (s i).tm y)=some id->((s i).H id).isSome=true->(Zal U (fun j=>S j&&decide (j<k)) st N).H id=(s i).H id:=by
    intro y hy id hid hsome
    have hid':Zcj (evO (Zal U (fun j=>S j&&decide (j<k)) st N).tm y)=some id:=by
     rw[<-hid];congr 1
     refine Zba fun t ht=> ?_
     have:t∈x.op.reads:=by
      revert hy;cases x.op<;>simp only[AOp.hOpds,Xbp,Xb1,false_implies]<;>intro hy<;>first|(subst hy;simp[AOp.reads,ht];done)|exact Xb3.2 ⟨y,hy,ht⟩
     exact htm t (by simp[AOper.rd,this])
    have hlt:=hsr.ref hn' (hop y hy) hid'
    rw[hsi]at hsome⊢
    by_cases hex:∃k',k'<N/\(U k').nw.isSome=true
    ·obtain⟨k',hk',hnw⟩:=hex
     obtain⟨cs,hcs⟩:=Xb5.1 hnw
     have none_of:∀(T:Nat->Bool),T k'=false->(∀j,j<N->T j=true->(U j).nw=none):=by
      intro T hT j hj hTj
      cases hjn:(U j).nw with
      |none=>rfl
      |some z=>have:=hone j k' (by omega) (by omega) (by rw[hjn];rfl) hnw;subst this;rw[hT]at hTj;cases hTj
     have hsid:∀(b:Bool),decide (k'<i)=b->(Zal U (fun j=>decide (j<i)) st N).H=(if b=true then upd st.H st.nH (some (.cells cs))else st.H):=by
      intro b hb
      cases b with
      |true=>rw[(Zdd (S:=fun j=>decide (j<i)) hone hcs (by simpa using hb) hk' (by omega)).1];simp
      |false=>rw[(Zbj (n:=N) (none_of (fun j=>decide (j<i)) hb)).1];simp
     cases hSk2:(S k'&&decide (k'<k))with
     |true=>
      rw[(Zdd (S:=fun j=>S j&&decide (j<k)) hone hcs hSk2 hk' (by omega)).1]
      rw[hsid _ rfl]at hsome⊢
      by_cases hki:k'<i
      ·simp[hki]
      ·simp only[hki,decide_false,Xat,if_false]at hsome⊢
       have:id≠st.nH:=fun e=>by subst e;rw[h.obn _ (Xae _)]at hsome;cases hsome
       simp[upd,this]
     |false=>
      obtain⟨e1,e2⟩:=Zbj (s0:=st) (n:=N) (none_of (fun j=>S j&&decide (j<k)) hSk2)
      rw[e2]at hlt
      rw[e1,hsid _ rfl]
      by_cases hki:k'<i
      ·simp only[hki,decide_true,if_true]
       have:id≠st.nH:=by omega
       simp[upd,this]
      ·simp[hki]
    ·have hnone:∀(T:Nat->Bool) j,j<N->T j=true->(U j).nw=none:=fun T j hj _=>by
      cases hjn:(U j).nw with
      |none=>rfl
      |some z=>exact absurd ⟨j,hj,by rw[hjn];rfl⟩ hex
     rw[(Zbj (n:=N) (hnone _)).1,(Zbj (n:=N) (hnone _)).1]
   have hu:=Zgy hst hux htm how hldo hH
   rw[Zei hst hu,hadd]
  ·--k itself
   subst hik
   have hx':x=aos[i]:=by rw[hxk]at hx;exact(Option.some.inj hx).symm
   subst hx'
   rw[if_neg (by rw[hSi];simp),if_pos (by simp)]
   have hall:∀j,j<i->S j=true:=fun j hj=>hpre j ((hchk i hkm _ hxk).2.2.2.1 rfl j hj)
   have hbeh:∀j,i<j->S j=false:=fun j hj=>by
    cases hSj:S j with
    |false=>rfl
    |true=>
     have hjN:=hSm j hSj
     have hxj:=Xad (show j<aos.length by omega)
     rcases((hchk j (by omega) _ hxj).2.2.2.2 hj).2 i hj _ hxk with h|h
     ·rw[hcl j hSj i h]at hSi;cases hSi
     ·omega
   have e1:Zal U (fun j=>S j&&decide (j<i)) st N=s i:=by
    rw[<-hA i (Xae _)]
    exact Zbh fun j _=>by
     by_cases hj:j<i
     ·simp[hj,hall j hj]
     ·simp[hj]
   have e2:Zal U (fun j=>(S j||j==i)&&decide (i<j)) (s (i+1)) N=s (i+1):=by
    refine Eq.trans (Zbh fun j _=> ?_) (hB 0 (i+1) rfl (by omega))
    by_cases hj:i<j
    ·have:(j==i)=false:=by simp;omega
     have h2: ¬j<i+1:=by omega
     simp[hj,hbeh j hj,this,h2]
    ·simp[hj]
   rw[e1,e2]
   exact hstep i _ hxk
  ·--behind
   have hSk:S k=true:=by
    rcases((hchk i (by omega) x hx).2.2.2.2 hik).2 k hik _ hxk with h|h
    ·exact hpre k h
    ·omega
   rw[if_pos hSk]at hsr⊢
   rw[if_pos (by rw[hSk];rfl)]
   obtain⟨x',hx',hux,_⟩:=hU i (by omega) (by omega)
   rw[hx]at hx';cases hx'
   have hq:=((hchk i (by omega) x hx).2.2.2.2 hik).1
   have hq':=hq
   unfold AOp.quiet at hq'
   simp only[Xai,Xb6,List.isEmpty_iff]at hq'
   have hst:=hq'.2
   have hsi:s i=Zal U (fun j=>decide (k<j)&&decide (j<i)) (s (k+1)) N:=(hB (i-(k+1)) i (by omega) (by omega)).symm
   have hsd:∀j y,j<N->k<j->aos[j]? =some y->j≠i->Za3 y x=true->(S j&&decide (k<j))=(decide (k<j)&&decide (j<i)):=fun j y hj hjk hy hne hcf=>by
    rw[side S i (by omega) (by omega) hSi hcl hpre x hx j y (by omega) (.inr ⟨hjk,hik⟩) hy hne hcf];simp[hjk]
   have hu:udOf Γ cx.gl x (Zal U (fun j=>S j&&decide (k<j)) (s (k+1)) N)=some (U i):=by
    refine Zgy hst hux (fun t ht=> ?_) (fun t ht=> ?_) (fun hx1=> ?_) (fun y hy=> ?_)
    ·rw[hsi]
     refine Zgv hone (by omega) fun j hj hd=> ?_
     by_cases hji:j=i
     ·subst hji;rw[hSi];simp
     ·rcases Xbk j k with hjk|hjk|hjk
      ·have: ¬k<j:=by omega
       simp[this]
      ·rw[hjk,hUk]at hd;cases hd
      ·obtain⟨y,hy,huy,_⟩:=hU j (by omega) (by omega)
       rw[ud_d huy]at hd
       exact hsd j y hj hjk hy hji (cf ⟨t,by simp[AOper.ws,hd], .inl ht⟩)
    ·rw[hsi]
     refine Zcz hone (by omega) fun j hj hd=> ?_
     by_cases hji:j=i
     ·subst hji;rw[hSi];simp
     ·rcases Xbk j k with hjk|hjk|hjk
      ·have: ¬k<j:=by omega
       simp[this]
      ·rw[hjk,hUk]at hd;simp[Zbz,Ud.idle]at hd
      ·obtain⟨y,hy,huy,_⟩:=hU j (by omega) (by omega)
       simp only[Zbz,Xa4,beq_iff_eq]at hd
       rcases hd with hd|hd
       ·rw[ud_d huy]at hd
        exact hsd j y hj hjk hy hji (cf ⟨t,by simp[AOper.ws,hd], .inr (.inr ht)⟩)
       ·rcases Zka huy with e|⟨t',e,h'⟩|⟨_,id,j,e⟩
        ·rw[e]at hd;cases hd
        ·rw[e]at hd;cases hd;exact hsd j y hj hjk hy hji (cf2 h' ht)
        ·rw[e]at hd;cases hd
    ·rw[hq'.1.2]at hx1;cases hx1
    ·rw[hq'.1.1.1]at hy;cases hy
   have hadd:Zal U (fun j=>(S j||j==i)&&decide (k<j)) (s (k+1)) N=(U i).app (Zal U (fun j=>S j&&decide (k<j)) (s (k+1)) N):=by
    refine Zdn (by rw[hSi];rfl) (fun j=> ?_) (by omega) fun j h1 h2 h3=> ?_
    ·by_cases e:j=i
     ·subst e;simp[hik]
     ·have:(j==i)=false:=by simpa using e
      simp[this]
    ·simp only[Xai,decide_eq_true_eq]at h3
     obtain⟨y,hy,huy,_⟩:=hU j (by omega) (by omega)
     refine Zij huy hux ?_ (fun h=>Zcf huy h) (fun h=>Zcf hux h)
     cases hh:Za3 y x with
     |false=>rfl
     |true=>have:=side S i (by omega) (by omega) hSi hcl hpre x hx j y (by omega) (.inr ⟨h3.2,hik⟩) hy (by omega) hh;rw[h3.1]at this;simp at this;omega
   rw[Zei hst hu,hadd]
 refine Zsg hs hΓ hc (m:=N) (by omega) (ancs aos []) F (fun S S' hS=> ?_) ?_ (s:=s) ?_ (by rw[<-hl];exact hsn) (fun i hi x hx=> ?_) (fun S i hi hSi hSm hcl hpre g' a' W' hsr hn' x hx=>step1 S i hi hSi hSm hcl hpre g' a' W' hsr hn' x hx) (fun i x hge hx=>hstep i x hx) h hn hnext
 ·rw[hF,hF,hS k (by omega)]
  split
  ·exact Zbh fun j hj=>by rw[hS j hj]
  ·exact Zbh fun j hj=>by rw[hS j hj]
 ·rw[hF,if_neg (by simp)]
  have:∀j,Zal U (fun j=>false&&decide (j<k)) st j=st:=by
   intro j
   induction j with
   |zero=>rfl
   |succ j ih=>simp only[Zal];rw[if_neg (by simp),ih]
  exact this N
 ·rw[hF,if_pos rfl, <-hB (N-(k+1)) N (by omega) (Xae _)]
  refine Zbh fun j hj=> ?_
  simp[hj]
 ·obtain⟨c1,c2,_⟩:=hchk i (by omega) x hx
  exact⟨c1,c2,fun hge=>by omega⟩
end Go.Abs
namespace Go.Abs
open Go.RowKit
def Zeq (K:St->Prop)(Q:Ex->St->Prop):Ex->St->Prop
 | .normal,s=>K s
 |e,s=>Q e s
def Zkc (body:(Ex->St->Prop)->St->Prop)(Q:Ex->St->Prop):Nat->St->Prop
 |0,_=>False
 |k+1,st=>body (Zeq (Zkc body Q k) Q) st
def Zok (v:V)(p q:Prop):Prop:=match v with| .bool true=>p| .bool false=>q|_=>False
def Zi5 (o:Option St)(p:St->Prop):Prop:=match o with|some s=>p s|none=>False
def awp (Γ:Spec)(gl:Nat->Option (List V)):ACode->(Ex->St->Prop)->St->Prop
 | .skip,Q,st=>Q .normal st
 | .region ops _,Q,st=>Zi5 (execs Γ gl ops st) (Q .normal)
 | .seq a b,Q,st=>awp Γ gl a (Zeq (awp Γ gl b Q) Q) st
 | .cond c a b,Q,st=>Zok (evO st.tm c) (awp Γ gl a Q st) (awp Γ gl b Q st)
 | .block id b,Q,st=>awp Γ gl b (fun e s=>Q (e.inBlock id) s) st
 | .loop b,Q,st=> ∃k,Zkc (awp Γ gl b) Q k st
 | .exit id,Q,st=>Q (.exit id) st
 | .ret,Q,st=>Q .ret st
 | .fail,_,_=>False
theorem Zcv {K K':St->Prop}{Q Q':Ex->St->Prop}(hK:∀s,K s->K' s)(hQ:∀e s,Q e s->Q' e s):∀e s,Zeq K Q e s->Zeq K' Q' e s
 | .normal,s,h=>hK s h
 | .exit _,s,h=>hQ _ s h
 | .ret,s,h=>hQ _ s h
theorem Zf2 {Γ:Spec}{gl:Nat->Option (List V)}:∀{c:ACode} {Q Q':Ex->St->Prop} {st:St},(∀e s,Q e s->Q' e s)->awp Γ gl c Q st->awp Γ gl c Q' st:=by
 intro c
 induction c with
 |skip=>intro Q Q' st hq h;exact hq _ _ h
 |region ops d=>
  intro Q Q' st hq h
  simp only[awp]at h⊢
  unfold Zi5 at h⊢
  grind
 |seq a b iha ihb=>intro Q Q' st hq h;exact iha (Zcv (fun s=>ihb hq) hq) h
 |cond c a b iha ihb=>
  intro Q Q' st hq h
  simp only[awp]at h⊢
  unfold Zok at h⊢
  grind
 |block id b ih=>intro Q Q' st hq h;exact ih (fun e s=>hq _ s) h
 |loop b ih=>
  intro Q Q' st hq h
  obtain⟨k,h⟩:=h
  refine⟨k, ?_⟩
  induction k generalizing st with
  |zero=>exact h.elim
  |succ k ihk=>exact ih (Zcv (fun s=>ihk) hq) h
 |exit id=>intro Q Q' st hq h;exact hq _ _ h
 |ret=>intro Q Q' st hq h;exact hq _ _ h
 |fail=>intro Q Q' st hq h;exact h.elim
def mOf (aos:List AOper):Nat:=
 let an:=ancs aos []
 let N:=aos.length
 N-((List.range N).reverse.takeWhile fun i=>(List.range i).all fun j=>(an.getD i []).contains j).length
def AOper.bare (o:AOper):AOper:=⟨o.dst,o.op,o.guard,[]⟩
theorem Zk8 {Γ:Spec}{gl:Nat->Option (List V)}:∀{aos:List AOper} {st:St},execs Γ gl (aos.map AOper.bare) st=execs Γ gl aos st
 | [],_=>rfl
 |o::r,st=>by
  simp only[Xan,execs]
  have:exec Γ gl o.bare st=exec Γ gl o st:=rfl
  rw[this]
  cases exec Γ gl o st with
  |none=>rfl
  |some s=>exact Zk8
def Zpl (n:Nat)(aos:List AOper):Option (Nat×List AOper):=
 match(List.range aos.length).find? (fun i=>(aos.getD i default).op.isStore)with
 |none=>none
 |some k=>
  let an:=ancs aos []
  let m:=mOf aos
  let aos':=aos.mapIdx fun i x=>if(decide (i<k)&&(an.getD k []).contains i)||decide (m<=i)then x else x.toP
  if m<=aos.length/\k<m/\Zmc n aos' m k=true then some (k,aos')else none
theorem Zn3 {n:Nat}{aos:List AOper}{k:Nat}{aos':List AOper}(h:Zpl n aos=some (k,aos')):aos'.length=aos.length/\mOf aos<=aos'.length/\k<mOf aos/\Zmc n aos' (mOf aos) k=true/\
  ∀(i:Nat) (x:AOper),aos'[i]? =some x-> ∃x0:AOper,aos[i]? =some x0/\(x=x0 \/x=x0.toP):=by
 grind[Zpl]
def Zw1 (n:Nat)(aos:List AOper):Option Nat:=(List.range aos.length).find? fun k=>(aos.getD k default).op.isStore&&Zpk n aos k
theorem Zow {n:Nat}{aos:List AOper}{k:Nat}(h:Zw1 n aos=some k):k<aos.length/\Zpk n aos k=true:=by
 have h1:=List.find?_some h
 have h2:=Xdh h
 grind
def pick (n:Nat)(aos:List AOper):Option (List AOper):=
 if mOf aos<=aos.length/\Z02 n aos (mOf aos)=true then some aos else
 match Zpl n aos with
 |some x=>some x.2
 |none=>
 match Zw1 n aos with
 |some _=>some aos
 |none=>
 none
def comp (P:Program)(R:TypeId->Bool)(n:Nat):Code->ACode
 | .skip=> .skip
 | .region _ ops draw=>match Zf7 P R n ops ops.toList with
  |some aos=>if draw then(match pick n aos with|some aos'=> .region (aos'.map AOper.bare) true|none=> .fail)else .region (aos.map AOper.bare) false
  |none=> .fail
 | .seq a b=> .seq (comp P R n a) (comp P R n b)
 | .cond c a b=>match cOpd P n 0 c with|some c=> .cond c (comp P R n a) (comp P R n b)|none=> .fail
 | .block id b=> .block id (comp P R n b)
 | .loop b=> .loop (comp P R n b)
 | .exit id=> .exit id
 | .ret=> .ret
 |_=> .fail
def exm :Ex->Exit
 | .normal=> .normal
 | .exit id=> .exit id
 | .ret=> .ret
theorem SR.drew {w B GB g st a W}(h:SR w B GB g st a W):SR w B GB g st a W.drew:=by
 have:=h.adv (Adv.refl h none).drew
 simpa[St.take]using this
variable {cx:Cx}{w:World}{B:Nat->Prop}{GB:Gh}{Γ:Spec}{RT:TypeId->Bool}
theorem Zkx (hs:Scope cx w B GB)(hΓ:Sound cx Γ)(hm:cx.P.follows .mixedOrders=true){n:Nat}:∀(c:Code) (Q:Ex->St->Prop) (g:Gh) (st:St) (a:Act) (W:World) (R:Exit->Act->World->Prop),
  SR w B GB g st a W->a.tmps.size=n->awp Γ cx.gl (comp cx.P RT n c) Q st->(∀e st g a W,Q e st->SR w B GB g st a W->a.tmps.size=n->R (exm e) a W)->c.wp cx.P R a W:=by
 intro c
 induction c with
 |skip=>intro Q g st a W R h hn hq hR;exact wp_skip (hR .normal st g a W hq h hn)
 |exit id=>intro Q g st a W R h hn hq hR;exact wp_exit (hR (.exit id) st g a W hq h hn)
 |ret=>intro Q g st a W R h hn hq hR;exact wp_ret (hR .ret st g a W hq h hn)
 |region id ops draw=>
  intro Q g st a W R h hn hq hR
  simp only[comp]at hq
  split at hq
  ·rename_i aos has
   have fin:∀(aos:List AOper) d,awp Γ cx.gl (.region (aos.map AOper.bare) d) Q st-> ∃st',execs Γ cx.gl aos st=some st'/\Q .normal st':=by
    intro aos d hq
    simp only[awp,Zk8]at hq
    unfold Zi5 at hq
    grind
   cases draw with
   |false=>
    obtain⟨st',he,hq⟩:=fin _ _ hq
    refine wp_region ?_
    rw[List.range_eq_range']
    exact Zpm hs hΓ has (fun g' a' W' h' hn'=>hR .normal st' g' a' W' hq h' hn') ops.size 0 g st a W (by omega) h hn (by simpa using he)
   |true=>
    simp only[if_true]at hq
    split at hq
    ·rename_i aos1 hp
     obtain⟨st',he,hq⟩:=fin _ _ hq
     refine wp_region_any hm (?_:wpAny cx.P .any ops R ops.size _ a W.drew)
     have fn:=fun g' a' W' (h':SR w B GB g' st' a' W') (hn':a'.tmps.size=n)=>hR .normal st' g' a' W' hq h' hn'
     unfold pick at hp
     split at hp
     ·rename_i hc
      cases hp
      exact Ztg hs hΓ has hc.1 hc.2 h.drew hn he fn
     ·skip
      split at hp
      ·rename_i k hea
       cases hp
       obtain⟨e1,e2,e3,e4,e5⟩:=Zn3 hea
       exact Zqm hs hΓ has e1 e5 e2 e3 e4 h.drew hn he fn
      rename_i hea
      split at hp
      ·rename_i k hab
       cases hp
       obtain⟨e1,e2⟩:=Zow hab
       exact Zqc hs hΓ has e1 e2 h.drew hn he fn
      rename_i hab
      cases hp
    ·exact hq.elim
  ·exact hq.elim
 |seq x y ihx ihy=>
  intro Q g st a W R h hn hq hR
  refine wp_seq (ihx _ g st a W _ h hn hq fun e st g a W hq h hn=> ?_)
  cases e with
  |normal=>exact ihy Q g st a W R h hn hq hR
  |exit id=>exact hR (.exit id) st g a W hq h hn
  |ret=>exact hR .ret st g a W hq h hn
 |cond c x y ihx ihy=>
  intro Q g st a W R h hn hq hR
  simp only[comp]at hq
  split at hq
  ·rename_i c' hc
   have hr:=Zae h hn hc
   simp only[awp]at hq
   unfold Zok at hq
   split at hq
   ·rename_i he;rw[he]at hr;cases hr':a.eval c<;>rw[hr']at hr<;>cases hr
    grind[wp_cond]
   ·rename_i he;rw[he]at hr;cases hr':a.eval c<;>rw[hr']at hr<;>cases hr
    grind[wp_cond]
   grind
  ·exact hq.elim
 |block id x ih=>
  intro Q g st a W R h hn hq hR
  refine wp_block (ih _ g st a W _ h hn hq fun e st g a W hq h hn=> ?_)
  cases e<;>grind[exm,Exit.inBlock,Ex.inBlock]
 |loop x ih=>
  intro Q g st a W R h hn hq hR
  obtain⟨k,hk⟩:=hq
  have key:∀(k:Nat) (g:Gh) (st:St) (a:Act) (W:World),SR w B GB g st a W->a.tmps.size=n->Zkc (awp Γ cx.gl (comp cx.P RT n x)) Q k st-> ∀b kk cs,
    ∃e a' w',R e a' w'/\Arrives cx.P (lone (b.at a (.code x:: .inLoop x::kk)) cs W) b kk cs e a' w':=by
   intro k
   induction k with
   |zero=>intro g st a W _ _ hl;exact hl.elim
   |succ k ihk=>
    intro g st a W h hn hl b kk cs
    have hwp:=ih _ g st a W (fun e a' W'=>match e with
     | .normal=> ∃g' st',SR w B GB g' st' a' W'/\a'.tmps.size=n/\Zkc (awp Γ cx.gl (comp cx.P RT n x)) Q k st'
     |e=>R e a' W') h hn hl fun e st' g' a' W' hq h' hn'=>by
      cases e with
      |normal=>exact⟨g',st',h',hn',hq⟩
      |exit i=>exact hR (.exit i) st' g' a' W' hq h' hn'
      |ret=>exact hR .ret st' g' a' W' hq h' hn'
    obtain⟨e,a₁,w₁,hq,harr⟩:=hwp b (.inLoop x::kk) cs
    cases e with
    |normal=>
     obtain⟨g',st',h',hn',hl'⟩:=hq
     obtain⟨e₂,a₂,w₂,hq₂,harr₂⟩:=ihk g' st' a₁ w₁ h' hn' hl' b kk cs
     exact⟨e₂,a₂,w₂,hq₂, .of_steps (Steps.trans harr (.one step_inLoop)) harr₂⟩
    |exit id=>exact⟨_,a₁,w₁,hq, .pass (x:= .inLoop x) rfl (fun _ _=> .inl (by simp)) harr⟩
    |goto l=>exact⟨_,a₁,w₁,hq, .pass (x:= .inLoop x) rfl (fun _ _=> .inl (by simp)) harr⟩
    |ret=>exact⟨_,a₁,w₁,hq, .pass (x:= .inLoop x) rfl (fun _ _=> .inl (by simp)) harr⟩
    |panic ch=>exact⟨_,a₁,w₁,hq, .pass (x:= .inLoop x) rfl (fun _ _=> .inl (by simp)) harr⟩
    |outgrown=>exact⟨_,a₁,w₁,hq, .pass (x:= .inLoop x) rfl (fun _ _=> .inl (by simp)) harr⟩
  intro b kk cs
  obtain⟨e,a',w',hq,harr⟩:=key k g st a W h hn hk b kk cs
  exact⟨e,a',w',hq, .of_steps (.one step_loop) harr⟩
 |_=>intro Q g st a W R h hn hq hR;exact hq.elim
mutual
def V.clean :V->Bool
 | .osl _ _ _ _ _| .ptr _ _| .map _=>false
 | .agg cs=>Zab cs
 | .sl _ _ cs=>Zab cs
 | .el cs _=>Zab cs
 | .fn _ cs=>Zab cs
 | .mfn _ cs=>Zab cs
 | .tup cs=>Zab cs
 | .iface _ v=>v.clean
 |_=>true
def Zab :List V->Bool
 | []=>true
 |v::r=>v.clean&&Zab r
end
theorem Zaj :∀{l:List V},Zab l=true<-> ∀v∈l,v.clean=true
 | []=>by simp[Zab]
 |v::r=>by simp[Zab,Zaj (l:=r)]
theorem V.clean_cells {v:V}(h:v.clean=true):∀c∈v.cells,c.clean=true:=by
 cases v<;>simp only[V.cells,forall_eq]<;>first|exact h|grind[Zaj,V.clean]
theorem Rep.clean {W G φ φ' v x}(h:Rep W G φ v x)(hc:v.clean=true):Rep W G φ' v x:=by
 induction h with
 |bool b=>exact .bool b
 |int k n=>exact .int k n
 |str l s h=>exact .str l s h
 |agg cs xs hl hs h ih=>
  exact .agg cs xs hl hs fun i c x hi hx=>ih i c x hi hx (Zaj.1 (by grind[V.clean]) c (Xaj hi))
 |slnil sz=>exact .slnil sz
 |sl sz xs b off cap rd hcap hG hx hrd _ ih=>
  exact .sl sz xs b off cap rd hcap hG hx hrd fun i x j c hi hj=>ih i x j c hi hj (V.clean_cells (Zaj.1 (by grind[V.clean]) x (Xaj hi)) c (Xaj hj))
 |sl0 sz a=>exact .sl0 sz a
 |osl=>grind[V.clean]
 |osln=>grind[V.clean]
 |el cs off b base rd hG hs hrd _ ih=>
  exact .el cs off b base rd hG hs hrd fun k c hk=>ih k c hk (Zaj.1 (by grind[V.clean]) c (Xaj hk))
 |gp g off=>exact .gp g off
 |ptr=>grind[V.clean]
 |nilptr=>exact .nilptr
 |map=>grind[V.clean]
 |nilmap=>exact .nilmap
 |fn f cs xs hl _ ih=>
  exact .fn f cs xs hl fun i c x hi hx=>ih i c x hi hx (Zaj.1 (by grind[V.clean]) c (Xaj hi))
 |mfn f cs xs hl _ ih=>
  exact .mfn f cs xs hl fun i c x hi hx=>ih i c x hi hx (Zaj.1 (by grind[V.clean]) c (Xaj hi))
 |nilfn=>exact .nilfn
 |iface t v x _ ih=>exact .iface t v x (ih (by grind[V.clean]))
 |nilif=>exact .nilif
 |tup cs xs hl _ ih=>
  exact .tup cs xs hl fun i c x hi hx=>ih i c x hi hx (Zaj.1 (by grind[V.clean]) c (Xaj hi))
inductive RS where
 |t (k:Nat)
 |c (k:Nat) (n:Option Nat)
 deriving Inhabited
structure AFn where
 n:Nat
 body:ACode
 res:List RS
def cRes (P:Program)(n:Nat):List ResultVar->Option (List RS)
 | []=>some []
 | .tmp t::r=>if t<n then(cRes P n r).map (.t t:: ·)else none
 | .cell t ty::r=>if t<n then(ldN P ty).bind fun k=>(cRes P n r).map (.c t k:: ·)else none
def cFnW (P:Program)(hp:Bool)(f:FuncId):Option AFn:=
 match P.funcs[f]? with
 |some fn=>match fn.body with
  | some c => if fn.name = "runtime.NumGoroutine" then none else (cRes P fn.ntmps fn.results.toList).map fun rs => ⟨fn.ntmps, comp P (fun t => rowT P c t || (hp && (Ztw P f).any (Nat.beq t))) fn.ntmps c, rs⟩
  |none=>none
 |none=>none
def cFnP (P:Program)(f:FuncId):Option AFn:=
 match P.funcs[f]? with
 |some fn=>match fn.body with
  | some c => if fn.name = "runtime.NumGoroutine" then none else (cRes P fn.ntmps fn.results.toList).map fun rs => ⟨fn.ntmps, comp P (fun _ => false) fn.ntmps c, rs⟩
  |none=>none
 |none=>none
def cFnR (P:Program)(pl hp:Bool)(f:FuncId):Option AFn:=match pl with|true=>cFnP P f|false=>cFnW P hp f
def St.init (args:List V):St:=⟨fun t=>args.getD t Nil,fun _=>false,fun _=>none,0⟩
def rv (st:St):RS->Option (V×Bool)
 | .t k=>some (st.tm k,st.own (.slot k))
 | .c k n=>match st.tm k with
  | .ptr id off=>((Zap st.H id).bind fun cs=>Zak n cs off).map fun v=>(v,false)
  |_=>none
def rvs (st:St):List RS->Option (List V)
 | []=>some []
 |r::rs=>(rv st r).bind fun p=>(rvs st rs).map (p.1:: ·)
def Zdw (res:List RS)(st:St):Option (V×Bool):=
 match res with
 | [r]=>rv st r
 |rs=>(rvs st rs).map fun vs=>(.tup vs,false)
def retQ (res:List RS)(r:V×Bool):Ex->St->Prop
 | .exit _,_=>False
 |_,st=> ∃p,Zdw res st=some p/\p.1=r.1/\(r.2=true->p.2=true)
def resM (tmps:Array Value):ResultVar->Sem Value
 | .tmp t=>pure (tmps.getD t undef)
 | .cell a t=>do loadVar t (<-asAddr (tmps.getD a undef))
theorem Zfu (fn:Func)(tmps:Array Value)(P:Program)(W:World){ys:List Value}(h:(fn.results.toList.mapM (resM tmps)).run P W= .ok ys W):
  (results fn tmps).run P W= .ok (if h:ys.toArray.size=1 then ys.toArray[0]else .tuple ys.toArray) W:=by
 have e:fn.results=fn.results.toList.toArray:=rfl
 have key:(fn.results.mapM (resM tmps)).run P W= .ok ys.toArray W:=by
  rw[e]
  simp only[List.mapM_toArray]at h⊢
  simp[h]
 have e2:results fn tmps=(fn.results.mapM (resM tmps))>>=fun vs=>pure (if h:vs.size=1 then vs[0]else .tuple vs):=by
  congr 1
 grind[Sem.run_bind,Result.andThen_ok,Sem.run_pure]
theorem Zwk {g:Gh}{st:St}{a:Act}{W:World}(hs:Scope cx w B GB)(h:SR w B GB g st a W){r:ResultVar}{s:RS}(hc:cRes cx.P a.tmps.size [r]=some [s]){p:V×Bool}(hp:rv st s=some p):
  ∃y,(resM a.tmps r).run cx.P W= .ok y W/\Rep W g.G g.φ p.1 y/\(p.2=true-> ∃t,s= .t t/\p=(st.tm t,st.own (.slot t))/\t<a.tmps.size/\y=a.tmps.getD t undef):=by
 cases r with
 |tmp t=>
  simp only[cRes]at hc
  split at hc
  ·rename_i ht
   simp at hc;subst hc
   simp only[rv,Xac]at hp;subst hp
   exact⟨_,by simp[resM,Act.eval],h.get ht,fun _=>⟨t,rfl,rfl,ht,rfl⟩⟩
  ·simp at hc
 |cell t ty=>
  simp only[cRes]at hc
  split at hc
  ·rename_i ht
   simp only[Xab,Xay,Xac,Xcz,and_true]at hc
   obtain⟨k,hk,rfl⟩:=hc
   have hr:=h.get ht
   simp only[rv]at hp
   split at hp
   ·rename_i id off hid
    rw[hid]at hr
    simp only[Xaa]at hp
    obtain⟨v,hv,rfl⟩:=hp
    obtain⟨y,h1,h2⟩:=Zzy hs h (u:= .ptr id off) hk hr (by simpa[Zfe]using hv)
    simp only[Act.eval]at h1 hr
    generalize hxe:a.tmps.getD t undef=xv at hr h1
    cases hr<;>grind[resM,Instr.loadAt,Instr.sureAddr,asAddr]
   ·cases hp
  ·simp at hc
theorem Zpi {g:Gh}{st:St}{a:Act}{W:World}(hs:Scope cx w B GB)(h:SR w B GB g st a W):∀{rs:List ResultVar} {ss:List RS} {vs:List V},cRes cx.P a.tmps.size rs=some ss->rvs st ss=some vs->
  ∃ys:List Value,(rs.mapM (resM a.tmps)).run cx.P W= .ok ys W/\vs.length=ys.length/\ ∀(i:Nat) (c:V) (x:Value),vs[i]? =some c->ys[i]? =some x->Rep W g.G g.φ c x
 | [],ss,vs,h1,h2=>by
  simp_all[cRes,rvs]
 |r::rs,ss,vs,h1,h2=>by
  have hsplit:∃s ss',ss=s::ss'/\cRes cx.P a.tmps.size [r]=some [s]/\cRes cx.P a.tmps.size rs=some ss':=by
   cases r<;>grind[Option.map_eq_some_iff,Option.bind_eq_some_iff,cRes]
  obtain⟨s,ss',rfl,h3,h4⟩:=hsplit
  simp only[rvs,Xab,Xaa]at h2
  obtain⟨p,hp,vs',hvs,rfl⟩:=h2
  obtain⟨y,q1,q2,_⟩:=Zwk hs h h3 hp
  obtain⟨ys,q3,q4,q5⟩:=Zpi hs h h4 hvs
  refine⟨y::ys,by simp[q1,q3],by simp[q4],fun i c x hc hx=> ?_⟩
  cases i with
  |zero=>simp at hc hx;subst hc;subst hx;exact q2
  |succ i=>exact q5 i c x (by simpa using hc) (by simpa using hx)
theorem Zxg {P : Program} {pl hp : Bool} {f : FuncId} {F : AFn} (h : cFnR P pl hp f = some F) : ∃ fn c R ts, P.funcs[f]? = some fn ∧ fn.body = some c ∧ ¬ fn.name = "runtime.NumGoroutine" ∧ cRes P fn.ntmps fn.results.toList = some ts ∧ F = ⟨fn.ntmps, comp P R fn.ntmps c, ts⟩ := by
 unfold cFnR at h
 grind[Option.map_eq_some_iff,cFnP,cFnW]
theorem Zt2 (hgl:GlOK cx)(hm:cx.P.follows .mixedOrders=true)(hΓ:Sound cx Γ){f:FuncId}{F:AFn}{pl:Bool}(hf:cFnR cx.P pl false f=some F){args:List V}{r:V×Bool}(hl:args.length<=F.n)(hca:Zab args=true)(hcr:r.1.clean=true)
  (h:awp Γ cx.gl F.body (retQ F.res r) (St.init args)):PC cx f args r:=by
 obtain⟨fn,c,R,ts,hfn,hc,hname,hts,rfl⟩:=Zxg hf
 ·
    have hl':args.length<=fn.ntmps:=hl
    refine⟨⟨fn,hfn,hname,by simp[hc]⟩,fun W G φ xs hW hxs=> ?_⟩
    have hB0:cx.w0.heap.size<=W.heap.size:=hW.below.size
    have hs:Scope cx W (fun b=>W.heap.size<=b) ⟨G,fun _=>none,fun _=>none⟩:=⟨hW.below,fun b hb=>Xba hB0 hb,hW.Glo,hgl⟩
    have hargs:∀(t:Nat) (x:Value),(xs++Array.replicate (fn.ntmps-xs.size) undef)[t]? =some x->Rep W G (fun _=>none) ((St.init args).tm t) x:=by
     intro t x hx
     by_cases ht:t<xs.size
     ·rw[Xcr ht]at hx
      obtain⟨v,hv⟩:∃v,args[t]? =some v:=⟨_,Xad (by rw[hxs.1];exact ht)⟩
      have:(St.init args).tm t=v:=by grind[St.init]
      rw[this]
      exact(hxs.2 t v x hv hx).clean (Zaj.1 hca v (Xaj hv))
     ·have hx':x=undef:=by
       grind
      have:(St.init args).tm t=Nil:=by simp[St.init,List.getD,List.getElem?_eq_none (show args.length<=t by rw[hxs.1];omega)]
      rw[this,hx']
      exact .tup [] #[] rfl fun i c x hc=>by simp at hc
    have h0:SR W (fun b=>W.heap.size<=b) ⟨G,fun _=>none,fun _=>none⟩ ⟨G,fun _=>none,fun _=>none⟩ (St.init args) {tmps:=xs++Array.replicate (fn.ntmps-xs.size) undef,defers:=[]} W:=
     ⟨rfl,hargs,fun t x hx ho=>by grind[St.init],(fun id cs hc=>by grind[St.init]),(fun _ _=>rfl),(fun id b hb=>by simp at hb),(fun id b hb=>by simp at hb),(fun id id' b hb=>by simp at hb),hW.Gz,fun _ _=>rfl,fun _ _ _=>rfl,fun _=>Xae _,fun _ _ h=>h,fun _ _ _=>rfl, .refl _ _,fun _ h=>h⟩
    refine calls_of_wp hfn hc (Zkx hs hΓ hm (n:=fn.ntmps) c _ _ _ _ _ _ h0 (by simp[<-hxs.1];omega) h fun e st g a W' hq hsr hn=> ?_)
    have hts':cRes cx.P a.tmps.size fn.results.toList=some ts:=by grind
    have fin:(∃p,Zdw ts st=some p/\p.1=r.1/\(r.2=true->p.2=true))->a.defers=[]/\ ∃v,(results fn a.tmps).run cx.P W'= .ok v W'/\ ∃G' y,Ending.returned v= .returned y/\Below W.heap.size W W'/\(∀b,b<W.heap.size->G' b=G b)/\(∀b,W'.heap.size<=b->G' b=0)/\
      Rep W' G' φ r.1 y/\(r.2=true-> ∀ow q,(∀b,W.heap.size<=b->ow b=some q)->OwnAt W' (fun b=>W.heap.size<=b) ⟨G',φ,ow⟩ q r.1 y):=by
     rintro⟨p,hp,hr1,hr2⟩
     obtain⟨rv0,ro⟩:=r
     subst hr1
     by_cases h1:∃s,ts=[s]
     ·obtain⟨s,rfl⟩:=h1
      have hone:∃rr,fn.results.toList=[rr]:=by
       cases hL:fn.results.toList with
       |nil=>grind[cRes]
       |cons rr l=>
        cases l with
        |nil=>grind
        |cons rr' l=>
         have len:∀{l:List ResultVar} {ss:List RS},cRes cx.P fn.ntmps l=some ss->l.length=ss.length:=by
          intro l
          induction l with
          |nil=>grind[cRes]
          |cons x l ih=>
           cases x<;>grind[Option.map_eq_some_iff,Option.bind_eq_some_iff,cRes]
         grind
      obtain⟨rr,hrr⟩:=hone
      rw[hrr]at hts'
      obtain⟨y,q1,q2,q3⟩:=Zwk hs hsr hts' hp
      have hm:(fn.results.toList.mapM (resM a.tmps)).run cx.P W'= .ok [y] W':=by simp_all
      refine⟨hsr.defers,_,Zfu fn a.tmps cx.P W' hm,g.G,y,by simp,hsr.below.below,(fun b hb=>hsr.Glo b (Xer.2 hb)),hsr.Gz,q2.clean hcr,fun ho ow q hqq sz ys b off len cap sp hv hx=> ?_⟩
      obtain⟨t,rfl,hpe,ht,hy⟩:=q3 (hr2 ho)
      have e:a.tmps[t]? =some (a.tmps.getD t undef):=by simp_all
      subst hpe
      rcases hsr.own t _ e (hr2 ho) sz ys b off len cap sp hv (by rw[<-hy];exact hx)with h2|⟨h2,h3,h4⟩<;>grind
     ·have hr':Zdw ts st=(rvs st ts).map fun vs=>(.tup vs,false):=by
       simp_all[Zdw]
      rw[hr',Xaa]at hp
      obtain⟨vs,hvs,rfl⟩:=hp
      obtain⟨ys,q1,q2,q3⟩:=Zpi hs hsr hts' hvs
      have hne: ¬ys.toArray.size=1:=by
       intro he
       have hl:∀{ss:List RS} {vs:List V},rvs st ss=some vs->ss.length=vs.length:=by
        intro ss
        induction ss<;>grind[Option.bind_eq_some_iff,Option.map_eq_some_iff,rvs]
       grind[List.length_eq_one_iff]
      refine⟨hsr.defers,_,Zfu fn a.tmps cx.P W' q1,g.G, .tuple ys.toArray,by grind,hsr.below.below,(fun b hb=>hsr.Glo b (Xer.2 hb)),hsr.Gz, ?_,fun ho=>absurd (hr2 ho) (by simp)⟩
      exact Rep.clean (φ:=g.φ) (.tup _ _ (by simpa using q2) fun i c x hi hx=>q3 i c x hi (by simpa using hx)) hcr
    cases e with
    |normal=>exact fin hq
    |exit i=>exact hq.elim
    |ret=>exact fin hq
def St.initH (args:List V)(hs:HS):St:=⟨fun t=>args.getD t Nil,fun p=>match p with| .cell i j=>hs.co i j| .slot _=>false,hs.H,hs.nH⟩
def retH (res:List RS)(r:V×Bool)(hs':HS):Ex->St->Prop
 | .exit _,_=>False
 |_,st=>(∃p,Zdw res st=some p/\p.1=r.1/\(r.2=true->p.2=true))/\st.hs=hs'
def Gh.out (g:Gh)(tr:Option Nat):Gh:=⟨g.G,g.φ,fun b=>match g.ow b with|some (.slot t)=>if tr=some t then some (.slot 0)else none|q=>q⟩
theorem SR.hrelOut {a:Act}{W:World}{g:Gh}{st:St}(h:SR w B GB g st a W)(tr:Option Nat):HRel B (g.out tr) st.hs W where
 ob id o hH:=by
  refine ObOK.keep (h.ob id o hH) (.refl _ _ _) rfl (fun _ _=>rfl) (fun j v x hw=>⟨hw,fun hq=> ?_⟩)
  intro sz ys b' off len cap sp e1 e2
  rcases hq sz ys b' off len cap sp e1 e2 with h6|⟨h6,h7,h8⟩<;>grind[Gh.out]
 obn:=h.obn
 φ:=h.φ
 live id b hb:=by
  obtain⟨h3,h4⟩:=h.live id b hb
  grind[Gh.out]
 inj:=h.inj
 Gz:=h.Gz
theorem Zgh {P:Program}{n:Nat}:∀{l:List ResultVar} {ss:List RS},cRes P n l=some ss->l.length=ss.length
 | [],ss,h=>by grind[cRes]
 | .tmp t::l,ss,h=>by
  simp only[cRes]at h
  split at h
  ·simp only[Xaa]at h
   obtain⟨ss',h3,rfl⟩:=h
   simp[Zgh h3]
  ·simp at h
 | .cell t ty::l,ss,h=>by
  simp only[cRes]at h
  split at h
  ·simp only[Xab,Xaa]at h
   obtain⟨k,hk,ss',h3,rfl⟩:=h
   simp[Zgh h3]
  ·simp at h
theorem Zk6 {st:St}:∀{ss:List RS} {vs:List V},rvs st ss=some vs->ss.length=vs.length
 | [],vs,h=>by grind[rvs]
 |s::ss,vs,h=>by
  simp only[rvs,Xab,Xaa]at h
  obtain⟨p,_,vs',h3,rfl⟩:=h
  simp[Zk6 h3]
theorem Zte (hgl:GlOK cx)(hm:cx.P.follows .mixedOrders=true)(hΓ:Sound cx Γ){f:FuncId}{F:AFn}{hp:Bool}(hf:cFnW cx.P hp f=some F){args:List V}{hs hs':HS}{r:V×Bool}(hl:args.length<=F.n)
  (h:awp Γ cx.gl F.body (retH F.res r hs') (St.initH args hs)):PCH cx f args hs r hs':=by
 unfold cFnW at hf
 split at hf
 ·rename_i fn hfn
  split at hf
  ·rename_i c hc
   split at hf
   ·simp at hf
   ·rename_i hname
    simp only[Xaa]at hf
    obtain⟨ts,hts,rfl⟩:=hf
    have hl':args.length<=fn.ntmps:=hl
    refine⟨⟨fn,hfn,hname,by simp[hc]⟩,fun W M g xs hW hM hrel hsl hxs=> ?_⟩
    have hB0:cx.w0.heap.size<=W.heap.size:=hW.below.size
    have hsc:Scope cx W (fun b=>W.heap.size<=b \/M b) g:=⟨hW.below,fun b hb=>hb.elim (fun h=>Xba hB0 h) (hM b),hW.Glo,hgl⟩
    have hargs:∀(t:Nat) (x:Value),(xs++Array.replicate (fn.ntmps-xs.size) undef)[t]? =some x->Rep W g.G g.φ ((St.initH args hs).tm t) x:=by
     intro t x hx
     by_cases ht:t<xs.size
     ·rw[Xcr ht]at hx
      obtain⟨v,hv⟩:∃v,args[t]? =some v:=⟨_,Xad (by rw[hxs.1];exact ht)⟩
      have:(St.initH args hs).tm t=v:=by grind[St.initH]
      rw[this]
      exact hxs.2 t v x hv hx
     ·have hx':x=undef:=by
       grind
      have:(St.initH args hs).tm t=Nil:=by simp[St.initH,List.getD,List.getElem?_eq_none (show args.length<=t by rw[hxs.1];omega)]
      rw[this,hx']
      exact .tup [] #[] rfl fun i c x hc=>by simp at hc
    have h0:SR W (fun b=>W.heap.size<=b \/M b) g g (St.initH args hs) {tmps:=xs++Array.replicate (fn.ntmps-xs.size) undef,defers:=[]} W:=
     {defers:=rfl
      tm:=hargs
      own:=fun t x hx ho=>by grind[St.initH]
      ob:=fun id o hc=>by
       refine ObOK.keep (hrel.ob id o hc) (.refl _ _ _) rfl (fun _ _=>rfl) (fun j v x hw=>⟨hw,fun hq=> ?_⟩)
       intro sz zs b' off len cap sp e1 e2
       rcases hq sz zs b' off len cap sp e1 e2 with h6|⟨h6,h7⟩<;>grind
      obn:=hrel.obn
      φ:=fun id b hb=>by
       obtain⟨h1,h2⟩:=hrel.φ id b hb
       exact⟨.inr h1,h2⟩
      live:=hrel.live
      inj:=hrel.inj
      Gz:=hrel.Gz
      Glo:=fun _ _=>rfl
      kp:=fun _ _ _=>rfl
      kG:=fun _=>Xae _
      kφ:=fun _ _ h=>h
      ksz:=fun _ _ _=>rfl
      below:= .refl _ _
      hB:=fun b hb=> .inl hb}
    refine calls_of_wp hfn hc (Zkx hsc hΓ hm (n:=fn.ntmps) c _ _ _ _ _ _ h0 (by simp[<-hxs.1];omega) h fun e st gf a W' hq hsr hn=> ?_)
    have hts':cRes cx.P a.tmps.size fn.results.toList=some ts:=by grind
    have hkeep:Keeps W g.G g.φ W' gf.G gf.φ:=⟨hsr.kp,hsr.kG,hsr.kφ,hsr.ksz⟩
    have fin:((∃p,Zdw ts st=some p/\p.1=r.1/\(r.2=true->p.2=true))/\st.hs=hs')->a.defers=[]/\ ∃v,(results fn a.tmps).run cx.P W'= .ok v W'/\ ∃g' y,Ending.returned v= .returned y/\Bel (fun b=>W.heap.size<=b \/M b) W W'/\(∀b,b<W.heap.size-> ¬M b->g'.G b=g.G b)/\Keeps W g.G g.φ W' g'.G g'.φ/\
      HRel (fun b=>W.heap.size<=b \/M b) g' hs' W'/\Rep W' g'.G g'.φ r.1 y/\(r.2=true->OwnAt W' (fun b=>W.heap.size<=b \/M b) g' (.slot 0) r.1 y):=by
     rintro⟨⟨p,hp,hr1,hr2⟩,rfl⟩
     obtain⟨rv0,ro⟩:=r
     subst hr1
     have hGlo:∀b,b<W.heap.size-> ¬M b->gf.G b=g.G b:=fun b h1 h2=>hsr.Glo b fun h3=>h3.elim (fun h=>by omega) h2
     by_cases h1:∃s,ts=[s]
     ·obtain⟨s,rfl⟩:=h1
      obtain⟨rr,hrr⟩:∃rr,fn.results.toList=[rr]:=Xdr.1 (by have:=Zgh hts;omega)
      rw[hrr]at hts'
      obtain⟨y,q1,q2,q3⟩:=Zwk hsc hsr hts' hp
      have hm:(fn.results.toList.mapM (resM a.tmps)).run cx.P W'= .ok [y] W':=by simp_all
      refine⟨hsr.defers,_,Zfu fn a.tmps cx.P W' hm,gf.out (match s with| .t t=>some t|_=>none),y,by simp,hsr.below,hGlo,hkeep,hsr.hrelOut _,q2,fun ho=> ?_⟩
      obtain⟨t,rfl,hpe,ht,hy⟩:=q3 (hr2 ho)
      have e:a.tmps[t]? =some (a.tmps.getD t undef):=by simp_all
      subst hpe
      intro sz xs b off len cap sp hv hx
      rcases hsr.own t _ e (hr2 ho) sz xs b off len cap sp hv (by rw[<-hy];exact hx)with h2|⟨h2,h3,h4⟩<;>grind[Gh.out]
     ·have hr':Zdw ts st=(rvs st ts).map fun vs=>(.tup vs,false):=by
       simp_all[Zdw]
      rw[hr',Xaa]at hp
      obtain⟨vs,hvs,rfl⟩:=hp
      obtain⟨ys,q1,q2,q3⟩:=Zpi hsc hsr hts' hvs
      have hne: ¬ys.toArray.size=1:=by
       have:=Zk6 hvs
       grind[List.length_eq_one_iff]
      refine⟨hsr.defers,_,Zfu fn a.tmps cx.P W' q1,gf.out none, .tuple ys.toArray,by grind,hsr.below,hGlo,hkeep,hsr.hrelOut _, ?_,fun ho=>absurd (hr2 ho) (by simp)⟩
      exact .tup _ _ (by simpa using q2) fun i c x hi hx=>q3 i c x hi (by simpa using hx)
    cases e with
    |normal=>exact fin hq
    |exit i=>exact hq.elim
    |ret=>exact fin hq
  ·simp at hf
 ·simp at hf
end Go.Abs
namespace Go.Abs
open Go.RowKit
def repl {α:Type}(n:Nat)(x:α):List α:=List.replicate n x
@[simp] theorem Z1s {α:Type}(n:Nat)(x:α):(repl n x).length=n:=by simp[repl]
@[simp] theorem Z84 {α:Type}(n:Nat)(x y:α):(y∈repl n x)=(n≠0/\y=x):=by simp[repl]
abbrev Glob :=Nat->Option (List V)
def runs (Γ:Abs.Spec)(gl:Glob):List AOper->(St->Prop)->St->Prop
 | [],K,st=>K st
 |o::r,K,st=>Zi5 (exec Γ gl o st) (runs Γ gl r K)
theorem Zw3 {Γ:Abs.Spec}{gl:Glob}:∀{os:List AOper} {st:St} {K:St->Prop},Zi5 (execs Γ gl os st) K=runs Γ gl os K st
 | [],_,_=>rfl
 |o::r,st,K=>by
  simp only[execs,runs]
  cases exec Γ gl o st with
  |none=>rfl
  |some s=>exact Zw3
def Zoh (i:Nat)(Q:Ex->St->Prop)(e:Ex)(s:St):Prop:=Q (e.inBlock i) s
def condA (v:V)(Γ:Abs.Spec)(gl:Glob)(a b:ACode)(Q:Ex->St->Prop)(st:St):Prop:=Zok v (awp Γ gl a Q st) (awp Γ gl b Q st)
variable {Γ:Abs.Spec}{gl:Glob}{Q:Ex->St->Prop}{st:St}
@[simp] theorem Z36 (s:St)(p:St->Prop):Zi5 (some s) p=p s:=(rfl)
section
variable {a b:ACode}
@[simp] theorem Z38 :condA (.bool true) Γ gl a b Q st=awp Γ gl a Q st:=(rfl)
@[simp] theorem Z3d :condA (.bool false) Γ gl a b Q st=awp Γ gl b Q st:=(rfl)
end
@[simp] theorem Z0c (K:St->Prop)(Q:Ex->St->Prop)(s:St):Zeq K Q .normal s=K s:=(rfl)
@[simp] theorem Z32 (K:St->Prop)(Q:Ex->St->Prop)(i:Nat)(s:St):Zeq K Q (.exit i) s=Q (.exit i) s:=(rfl)
@[simp] theorem Z6r (K:St->Prop)(Q:Ex->St->Prop)(s:St):Zeq K Q .ret s=Q .ret s:=(rfl)
@[simp] theorem Zzm (i:Nat)(Q:Ex->St->Prop)(s:St):Zoh i Q .normal s=Q .normal s:=(rfl)
@[simp] theorem Z33 (i:Nat)(Q:Ex->St->Prop)(s:St):Zoh i Q .ret s=Q .ret s:=(rfl)
@[simp] theorem Z1m (i j:Nat)(Q:Ex->St->Prop)(s:St):Zoh i Q (.exit j) s=if j=i then Q .normal s else Q (.exit j) s:=by
  simp only[Zoh,Ex.inBlock];split<;>rfl
@[simp] theorem Z82 :awp Γ gl .skip Q st=Q .normal st:=(rfl)
@[simp] theorem Z39 (os:List AOper)(d:Bool):awp Γ gl (.region os d) Q st=runs Γ gl os (Q .normal) st:=by rw[<-Zw3];rfl
@[simp] theorem Z99 (a b:ACode):awp Γ gl (.seq a b) Q st=awp Γ gl a (Zeq (awp Γ gl b Q) Q) st:=(rfl)
@[simp] theorem Z8r (c:Opd)(a b:ACode):awp Γ gl (.cond c a b) Q st=condA (evO st.tm c) Γ gl a b Q st:=(rfl)
@[simp] theorem Z6f (i:Nat)(b:ACode):awp Γ gl (.block i b) Q st=awp Γ gl b (Zoh i Q) st:=(rfl)
@[simp] theorem Z8d (i:Nat):awp Γ gl (.exit i) Q st=Q (.exit i) st:=(rfl)
@[simp] theorem Qbs :awp Γ gl .ret Q st=Q .ret st:=(rfl)
@[simp] theorem Z87 (K:St->Prop):runs Γ gl [] K st=K st:=(rfl)
@[simp] theorem Z7u (o:AOper)(r:List AOper)(K:St->Prop):runs Γ gl (o::r) K st=Zi5 (exec Γ gl o st) (runs Γ gl r K):=(rfl)
@[simp] theorem Qaj (tm:Nat->V)(t:Nat):evO tm (.tmp t)=tm t:=(rfl)
@[simp] theorem Zvk (tm:Nat->V)(v:V):evO tm (.const v)=v:=(rfl)
@[simp] theorem Z85 (v:V)(o:Bool):st.put none v o=st:=(rfl)
@[simp] theorem Z7f (d:Nat)(v:V)(o:Bool)(t:Nat):(st.put (some d) v o).tm t=if t=d then v else st.tm t:=(rfl)
@[simp] theorem Z2i (d:Nat)(v:V)(o:Bool)(t:Nat):(st.put (some d) v o).own (.slot t)=if t=d then o else st.own (.slot t):=by simp[St.put,updP]
@[simp] theorem Z8m (d:Nat)(v:V)(o:Bool)(i j:Nat):(st.put (some d) v o).own (.cell i j)=st.own (.cell i j):=by simp[St.put,updP]
@[simp] theorem Qcu (d:Nat)(v:V)(o:Bool):(st.put (some d) v o).H=st.H:=(rfl)
@[simp] theorem Qb4 (d:Nat)(v:V)(o:Bool):(st.put (some d) v o).nH=st.nH:=(rfl)
@[simp] theorem Z5h :st.take none=st:=(rfl)
@[simp] theorem take_own (p q:Pos):(st.take (some p)).own q=if q=p then false else st.own q:=(rfl)
@[simp] theorem Qb1 (cs:List V):(st.new cs).tm=st.tm:=(rfl)
@[simp] theorem Z93 (cs:List V)(t:Nat):(st.new cs).own (.slot t)=st.own (.slot t):=(rfl)
@[simp] theorem Z8e (cs:List V)(i j:Nat):(st.new cs).own (.cell i j)=if i=st.nH then false else st.own (.cell i j):=(rfl)
@[simp] theorem Qcs (cs:List V)(i:Nat):(st.new cs).H i=if i=st.nH then some (.cells cs)else st.H i:=(rfl)
@[simp] theorem Qb8 (cs:List V):(st.new cs).nH=st.nH+1:=(rfl)
@[simp] theorem Z8t (id:Nat)(cs:List V)(off:Nat)(ys:List V):(st.setOb id cs off ys).tm=st.tm:=(rfl)
@[simp] theorem Z6p (id:Nat)(cs:List V)(off:Nat)(ys:List V)(t:Nat):(st.setOb id cs off ys).own (.slot t)=st.own (.slot t):=(rfl)
@[simp] theorem Z3y (id:Nat)(cs:List V)(off:Nat)(ys:List V)(i j:Nat):(st.setOb id cs off ys).own (.cell i j)=if i=id/\off<=j/\j<off+ys.length then false else st.own (.cell i j):=(rfl)
@[simp] theorem Qa3 (id:Nat)(cs:List V)(off:Nat)(ys:List V)(i:Nat):(st.setOb id cs off ys).H i=if i=id then some (.cells (Zas cs off ys))else st.H i:=(rfl)
@[simp] theorem Z8v (id:Nat)(cs:List V)(off:Nat)(ys:List V):(st.setOb id cs off ys).nH=st.nH:=(rfl)
@[simp] theorem Z8h (id:Nat)(cs:List V)(off t:Nat):(st.stoOb id cs off t).tm=st.tm:=(rfl)
@[simp] theorem Z6c (id:Nat)(cs:List V)(off t u:Nat):(st.stoOb id cs off t).own (.slot u)=if u=t then false else st.own (.slot u):=by simp[St.stoOb,updP]
@[simp] theorem Zk3 (id:Nat)(cs:List V)(off t i j:Nat):(st.stoOb id cs off t).own (.cell i j)=if i=id/\j=off then st.own (.slot t)else st.own (.cell i j):=by simp[St.stoOb,updP]
@[simp] theorem Z9n (id:Nat)(cs:List V)(off t i:Nat):(st.stoOb id cs off t).H i=if i=id then some (.cells (Zas cs off [st.tm t]))else st.H i:=(rfl)
@[simp] theorem Z8z (id:Nat)(cs:List V)(off t:Nat):(st.stoOb id cs off t).nH=st.nH:=(rfl)
@[simp] theorem Z1h (args:List V)(t:Nat):(St.init args).tm t=args.getD t Nil:=(rfl)
@[simp] theorem Z8l (args:List V)(p:Pos):(St.init args).own p=false:=(rfl)
@[simp] theorem Qcb (args:List V)(i:Nat):(St.init args).H i=none:=(rfl)
@[simp] theorem Z9w (args:List V):(St.init args).nH=0:=(rfl)
def putV (st:St)(d:Option Nat)(v:Option V):Option St:=v.map fun v=>st.put d v false
def putR (st:St)(d:Option Nat)(r:Option Res):Option St:=r.map fun r=>(st.take r.tk).put d r.v r.o
@[simp] theorem Z7b (d:Option Nat)(v:V):putV st d (some v)=some (st.put d v false):=(rfl)
@[simp] theorem Z46 (d:Option Nat)(v:V)(o:Bool)(p:Option Pos):putR st d (some ⟨v,o,p⟩)=some ((st.take p).put d v o):=(rfl)
variable {d:Option Nat}{g:Option (Nat×Bool)}{a:List Nat}
theorem Zax (v:Option V):((resV v).map fun r=>(st.take r.tk).put d r.v r.o)=putV st d v:=by cases v<;>rfl
@[simp] theorem Z7p (op:AOp):exec Γ gl ⟨d,op,none,a⟩ st=exec1 Γ gl ⟨d,op,none,a⟩ st:=(rfl)
@[simp] theorem Zou (op:AOp)(t:Nat)(w:Bool):exec Γ gl ⟨d,op,some (t,w),a⟩ st=if(match st.tm t with| .bool b=>b==w|_=>false)=true then exec1 Γ gl ⟨d,op,some (t,w),a⟩ st else some (st.put d Nil false):=(rfl)
@[simp] theorem e_mv (x:Opd):exec1 Γ gl ⟨d, .mv x,g,a⟩ st=some (st.put d (evO st.tm x) false):=(rfl)
@[simp] theorem Qap (t:Nat):exec1 Γ gl ⟨d, .mvo t,g,a⟩ st=some ((st.take (some (.slot t))).put d (st.tm t) (st.own (.slot t))):=(rfl)
@[simp] theorem Zrz (c x y:Opd):exec1 Γ gl ⟨d, .pick c x y,g,a⟩ st=putV st d (Zql (evO st.tm c) (evO st.tm x) (evO st.tm y)):=Zax _
@[simp] theorem Qcl (t:Opd)(i:Nat):exec1 Γ gl ⟨d, .ext t i,g,a⟩ st=putV st d (vExt (evO st.tm t) i):=Zax _
@[simp] theorem Zu6 (op:BinOp)(q:EqK)(x y:Opd):exec1 Γ gl ⟨d, .bin op q x y,g,a⟩ st=putV st d (abin op q (evO st.tm x) (evO st.tm y)):=Zax _
@[simp] theorem e_un (op:UnOp)(x:Opd):exec1 Γ gl ⟨d, .un op x,g,a⟩ st=putV st d (aun op (evO st.tm x)):=Zax _
@[simp] theorem Qc6 (s:Bool)(x:Opd):exec1 Γ gl ⟨d, .len s x,g,a⟩ st=putV st d (vLen s (evO st.tm x)):=Zax _
@[simp] theorem Qci (m:Bool)(x y:Opd):exec1 Γ gl ⟨d, .mnx m x y,g,a⟩ st=putV st d (vMnx m (evO st.tm x) (evO st.tm y)):=Zax _
@[simp] theorem Zp6 (sz:Nat)(x i:Opd):exec1 Γ gl ⟨d, .iaddr sz x i,g,a⟩ st=putV st d (Zd8 sz (evO st.tm x) (evO st.tm i)):=Zax _
@[simp] theorem Qby (n sz:Nat)(x i:Opd):exec1 Γ gl ⟨d, .iarr n sz x i,g,a⟩ st=putV st d (Zp9 n sz (evO st.tm x) (evO st.tm i)):=Zax _
@[simp] theorem Qbj (off:Nat)(x:Opd):exec1 Γ gl ⟨d, .faddr off x,g,a⟩ st=putV st d (Ziy off (evO st.tm x)):=Zax _
@[simp] theorem Zxn (n:Option Nat)(x:Opd):exec1 Γ gl ⟨d, .load n x,g,a⟩ st=putV st d (Zfe gl st.H n (evO st.tm x)):=Zax _
@[simp] theorem Z68 (n:Option Nat)(x:Opd):exec1 Γ gl ⟨d, .ldp n x,g,a⟩ st=putV st d (vLdp gl n (evO st.tm x)):=Zax _
@[simp] theorem Qcq (x:Opd):exec1 Γ gl ⟨d, .ldo x,g,a⟩ st=putR st d (vLdo st.H st.own (evO st.tm x)):=(rfl)
@[simp] theorem Qcn (n:Option Nat)(off:Nat)(x:Opd):exec1 Γ gl ⟨d, .fld n off x,g,a⟩ st=putV st d (vFld n off (evO st.tm x)):=Zax _
@[simp] theorem Qck (x i:Opd):exec1 Γ gl ⟨d, .idx x i,g,a⟩ st=putV st d (vIdx (evO st.tm x) (evO st.tm i)):=Zax _
@[simp] theorem Z7g (l sz:Nat)(n:Option Nat)(x i:Opd):exec1 Γ gl ⟨d, .idxa l sz n x i,g,a⟩ st=putV st d (Zqr l sz n (evO st.tm x) (evO st.tm i)):=Zax _
@[simp] theorem Qc1 (x:Opd)(lo hi:Option Opd):exec1 Γ gl ⟨d, .sls x lo hi,g,a⟩ st=putV st d (vSls (evO st.tm x) (lo.map (evO st.tm)) (hi.map (evO st.tm))):=Zax _
@[simp] theorem Ztm (sz:Nat)(x:Opd)(lo hi mx:Option Opd):exec1 Γ gl ⟨d, .slc sz x lo hi mx,g,a⟩ st=putR st d (vSlc sz (evO st.tm x) (lo.map (evO st.tm)) (hi.map (evO st.tm)) (mx.map (evO st.tm))):=(rfl)
theorem Zzs (n sz:Nat)(x:Opd)(lo hi mx:Option Opd):exec1 Γ gl ⟨d, .slca n sz x lo hi mx,g,a⟩ st=putV st d (Zj5 st.H n sz (evO st.tm x) (lo.map (evO st.tm)) (hi.map (evO st.tm)) (mx.map (evO st.tm))):=Zax _
@[simp] theorem Zpc (z:List V)(ps:List (Nat×Nat×Opd)):exec1 Γ gl ⟨d, .build z ps,g,a⟩ st=putV st d ((Zj4 z (ps.map fun p=>(p.1,p.2.1,evO st.tm p.2.2))).map .agg):=Zax _
@[simp] theorem Qcz (sz:Nat)(ps:List Opd):exec1 Γ gl ⟨d, .bsl sz ps,g,a⟩ st=putR st d (if fits sz (ps.map (evO st.tm))then some ⟨.sl false sz (ps.map (evO st.tm)),true,none⟩else none):=(rfl)
@[simp] theorem Z9a (x:Opd):exec1 Γ gl ⟨d, .s2b x,g,a⟩ st=putR st d (vS2b (evO st.tm x)):=(rfl)
@[simp] theorem Z6d (x:Opd):exec1 Γ gl ⟨d, .b2s x,g,a⟩ st=putV st d (vB2s st.H (evO st.tm x)):=Zax _
@[simp] theorem Z9c (k:IntKind)(x:Opd):exec1 Γ gl ⟨d, .i2i k x,g,a⟩ st=putV st d (vI2i k (evO st.tm x)):=Zax _
@[simp] theorem Z95 (x:Opd):exec1 Γ gl ⟨d, .s2s x,g,a⟩ st=putV st d (vS2s (evO st.tm x)):=Zax _
@[simp] theorem Qc5 (n:Nat)(x:Opd):exec1 Γ gl ⟨d, .s2a n x,g,a⟩ st=putV st d (vS2a n (evO st.tm x)):=Zax _
def putC (st:St)(d:Option Nat)(r:Option (V×Bool)):Option St:=r.map fun r=>st.put d r.1 r.2
@[simp] theorem Z5l (v:V)(o:Bool):putC st d (some (v,o))=some (st.put d v o):=(rfl)
@[simp] theorem Qat (f:Opd)(xs:List Opd):exec1 Γ gl ⟨d, .callv f xs,g,a⟩ st=putR st d (Zsk Γ (evO st.tm f) (xs.map (evO st.tm))):=(rfl)
theorem Zv7 (f:Nat)(xs:List Opd):exec1 Γ gl ⟨d, .call f xs,g,a⟩ st=putR st d (Zke Γ st.H f (xs.map (evO st.tm))):=(rfl)
theorem Z9i (sz:Nat):exec1 Γ gl ⟨d, .nro sz,g,a⟩ st=some ((st.new []).put d (.osl st.nH 0 0 0 sz) false):=(rfl)
theorem Qbd (sz:Nat)(z:List V)(l c:Opd):exec1 Γ gl ⟨d, .mko sz z l c,g,a⟩ st=(st.mkOb sz z (evO st.tm l) (evO st.tm c)).map fun r=>r.1.put d r.2 false:=(rfl)
theorem Z6m (sz:Nat)(s x:Opd):exec1 Γ gl ⟨d, .appo sz s x,g,a⟩ st=(st.appOb sz (evO st.tm s) (evO st.tm x)).map fun r=>r.1.put d r.2 false:=(rfl)
theorem Qbo (x s:Opd):exec1 Γ gl ⟨d, .cpy x s,g,a⟩ st=(st.cpyOb (evO st.tm x) (evO st.tm s)).map fun r=>r.1.put d r.2 false:=(rfl)
theorem Z51 (z:List V)(x:Opd):exec1 Γ gl ⟨d, .clr z x,g,a⟩ st=(st.clrOb z (evO st.tm x)).map fun s=>s.put d Nil false:=(rfl)
@[simp] theorem Z7j (f:Nat)(xs:List Opd):exec1 Γ gl ⟨d, .mkf f xs,g,a⟩ st=some (st.put d (.fn f (xs.map (evO st.tm))) false):=(rfl)
@[simp] theorem Z98 (f:Nat)(xs:List Opd):exec1 Γ gl ⟨d, .mkm f xs,g,a⟩ st=some (st.put d (.mfn f (xs.map (evO st.tm))) false):=(rfl)
@[simp] theorem Zvh (x:Opd):exec1 Γ gl ⟨d, .nilck x,g,a⟩ st=putV st d (Zmr (evO st.tm x)):=Zax _
@[simp] theorem Z59 (sz:Nat)(z:List V)(l c:Opd):exec1 Γ gl ⟨d, .mks sz z l c,g,a⟩ st=putR st d (vMk sz z (evO st.tm l) (evO st.tm c)):=(rfl)
@[simp] theorem Qcg (sz:Nat)(s x:Opd):exec1 Γ gl ⟨d, .app sz s x,g,a⟩ st=putR st d (vApp st.H (ownO st.own s) sz (posO s) (evO st.tm s) (evO st.tm x)):=(rfl)
@[simp] theorem Qae (cs:List V):exec1 Γ gl ⟨d, .new cs,g,a⟩ st=some ((st.new cs).put d (.ptr st.nH 0) false):=(rfl)
@[simp] theorem Z64 (x:Opd):exec1 Γ gl ⟨d, .box x,g,a⟩ st=if(evO st.tm x).cells.all V.sc then some ((st.new (evO st.tm x).cells).put d (.ptr st.nH 0) false)else none:=(rfl)
def Zqj (st:St)(d:Option Nat)(n:Nat)(ys:List V):V->Option St
 | .ptr id off=>(Zap st.H id).bind fun cs=>if ys.length=n/\ys.all V.sc=true/\off+n<=cs.length then some ((st.setOb id cs off ys).put d Nil false)else none
 |_=>none
@[simp] theorem Z2h (n:Nat)(x y:Opd):exec1 Γ gl ⟨d, .store n x y,g,a⟩ st=Zqj st d n (evO st.tm y).cells (evO st.tm x):=by
  simp only[exec1,St.ev]
  cases evO st.tm x<;>try rfl
  rename_i id off
  simp only[Zqj,St.storeOb]
  cases Zap st.H id<;>simp
def Z3b (st:St)(d:Option Nat)(t:Nat):V->Option St
 | .ptr id off=>(Zap st.H id).bind fun cs=>if(st.tm t).sc=true/\off<cs.length then some ((st.stoOb id cs off t).put d Nil false)else none
 |_=>none
@[simp] theorem Qcw (x:Opd)(t:Nat):exec1 Γ gl ⟨d, .sto x t,g,a⟩ st=Z3b st d t (evO st.tm x):=by
  simp only[exec1,St.ev]
  cases evO st.tm x<;>try rfl
  rename_i id off
  simp only[Z3b]
  cases Zap st.H id<;>simp
@[simp] theorem Zp5 (n:Nat)(ys:List V)(id off:Nat):Zqj st d n ys (.ptr id off)=(Zap st.H id).bind fun cs=>if ys.length=n/\ys.all V.sc=true/\off+n<=cs.length then some ((st.setOb id cs off ys).put d Nil false)else none:=(rfl)
@[simp] theorem Z7d (t:Nat)(id off:Nat):Z3b st d t (.ptr id off)=(Zap st.H id).bind fun cs=>if(st.tm t).sc=true/\off<cs.length then some ((st.stoOb id cs off t).put d Nil false)else none:=(rfl)
@[simp] theorem Z8u (own:Pos->Bool)(t:Nat):ownO own (.tmp t)=own (.slot t):=(rfl)
@[simp] theorem Z3z (own:Pos->Bool)(v:V):ownO own (.const v)=false:=(rfl)
@[simp] theorem Z8y (t:Nat):posO (.tmp t)=some (.slot t):=(rfl)
@[simp] theorem Z34 (v:V):posO (.const v)=none:=(rfl)
section
theorem Zcq :∀a:Bytes,Op.bytesLess a a=false
 | []=>rfl
 |a::r=>by simp[Op.bytesLess,Zcq r]
theorem Zen :∀{a b c:Bytes},Op.bytesLess a b=true->Op.bytesLess b c=true->Op.bytesLess a c=true
 |_,_,[],h1,h2=>by cases ‹Bytes› <;>simp[Op.bytesLess]at h2
 | [],_,_::_,_,_=>rfl
 |_::_,[],_::_,h1,_=>by simp[Op.bytesLess]at h1
 |x::a,y::b,z::c,h1,h2=>by
  simp only[Op.bytesLess,Xa4,decide_eq_true_eq,Xai,beq_iff_eq]at h1 h2⊢
  rcases h1 with h1|⟨rfl,h1⟩<;>rcases h2 with h2|⟨rfl,h2⟩
  ·exact .inl (UInt8.lt_trans h1 h2)
  ·exact .inl h1
  ·exact .inl h2
  ·exact .inr ⟨rfl,Zen h1 h2⟩
theorem Zl5 :∀{a b:Bytes},Op.bytesLess a b=false->Op.bytesLess b a=false->a=b
 | [],[],_,_=>rfl
 | [],_::_,h,_=>by simp[Op.bytesLess]at h
 |_::_,[],_,h=>by simp[Op.bytesLess]at h
 |x::a,y::b,h1,h2=>by
  simp only[Op.bytesLess,Xbm,decide_eq_false_iff_not,Xdd,beq_eq_false_iff_ne]at h1 h2
  have hxy:x=y:=by
   rcases Classical.em (x=y)with h|h
   ·exact h
   ·rcases UInt8.lt_or_lt_of_ne h with h|h
    ·exact absurd h h1.1
    ·exact absurd h h2.1
  subst hxy
  rw[Zl5 (h1.2.resolve_left (by simp)) (h2.2.resolve_left (by simp))]
theorem Zkn {a b:Bytes}(h:Op.bytesLess a b=true):Op.bytesLess b a=false:=by
 cases h':Op.bytesLess b a with
 |false=>rfl
 |true=>have:=Zen h h';rw[Zcq]at this;cases this
theorem Zlo (a b:Bytes):(!(Op.bytesLess a b||decide (a=b)))=Op.bytesLess b a:=by
 cases h:Op.bytesLess a b with
 |true=>simp[Zkn h]
 |false=>
  by_cases he:a=b
  ·subst he;simp[Zcq]
  ·cases h':Op.bytesLess b a with
   |true=>simp[he]
   |false=>exact absurd (Zl5 h h') he
end
@[simp] theorem Z8p (s:Bytes):vLen true (.str s)=some (.int .i64 s.length):=(rfl)
@[simp] theorem Z9m (nl:Bool)(sz:Nat)(xs:List V):vLen false (.sl nl sz xs)=some (.int .i64 xs.length):=(rfl)
@[simp] theorem Z8s (id off n c sz:Nat):vLen false (.osl id off n c sz)=some (.int .i64 n):=(rfl)
@[simp] theorem Zfz (t:Bool)(x y:V):Zql (.bool t) x y=some (if t then x else y):=(rfl)
@[simp] theorem Zr1 (vs:List V)(i:Nat):vExt (.tup vs) i=vs[i]? :=(rfl)
theorem Zu4 (sz:Nat)(s:Nat)(xs:List V)(k:IntKind)(n:Int):Zd8 sz (.sl false s xs) (.int k n)=if 0<=n/\s=sz then(xs[n.toNat]?).map fun e=> .el e.cells 0 else none:=(rfl)
@[simp] theorem Zjd (nl:Bool)(sz:Nat)(xs:List V)(k:IntKind)(n:Nat)(e:V)(h:xs[n]? =some e)(hnl:xs≠ []->nl=false):Zd8 sz (.sl nl sz xs) (.int k (n:Int))=some (.el e.cells 0):=by
  have:nl=false:=hnl (fun hx=>by simp[hx]at h)
  subst this
  simp[Zd8,h]
@[simp] theorem Z80 (nl:Bool)(sz:Nat)(xs:List V)(k:IntKind)(e:V)(h:xs[0]? =some e)(hnl:xs≠ []->nl=false):Zd8 sz (.sl nl sz xs) (.int k 0)=some (.el e.cells 0):=Zjd nl sz xs k 0 e h hnl
@[simp] theorem Z8c (nl:Bool)(sz:Nat)(xs:List V)(k:IntKind)(e:V)(h:xs[1]? =some e)(hnl:xs≠ []->nl=false):Zd8 sz (.sl nl sz xs) (.int k 1)=some (.el e.cells 0):=Zjd nl sz xs k 1 e h hnl
@[simp] theorem Z86 (nl:Bool)(sz:Nat)(xs:List V)(k:IntKind)(e:V)(h:xs[2]? =some e)(hnl:xs≠ []->nl=false):Zd8 sz (.sl nl sz xs) (.int k 2)=some (.el e.cells 0):=Zjd nl sz xs k 2 e h hnl
@[simp] theorem Qbh (n:Nat):((n:Int)+1=0)=False:=eq_false (by omega)
@[simp] theorem Z9v (n:Nat):(0<(n:Int)+1)=True:=eq_true (by omega)
@[simp] theorem Z78 (n:Nat):(0<=(n:Int)+1)=True:=eq_true (by omega)
@[simp] theorem Qaz (n:Nat):(1<=(n:Int)+1)=True:=eq_true (by omega)
@[simp] theorem Qay (n:Nat):((n:Int)+1<=0)=False:=eq_false (by omega)
@[simp] theorem Qaf (n:Nat):((n:Int)+1<0)=False:=eq_false (by omega)
@[simp] theorem Z5d (cs:List V):Zj4 cs []=some cs:=(rfl)
@[simp] theorem Ztl (cs:List V)(off n:Nat)(v:V)(r:List (Nat×Nat×V)):Zj4 cs ((off,n,v)::r)=if v.cells.length=n/\v.cells.all V.sc=true/\off+n<=cs.length then Zj4 (Zas cs off v.cells) r else none:=(rfl)
@[simp] theorem Z4a (off id o:Nat):Ziy off (.ptr id o)=some (.ptr id (o+off)):=(rfl)
@[simp] theorem Z5q (off:Nat)(cs:List V)(o:Nat):Ziy off (.el cs o)=some (.el cs (o+off)):=(rfl)
@[simp] theorem Z6j (off g o:Nat):Ziy off (.gp g o)=some (.gp g (o+off)):=(rfl)
@[simp] theorem Z8a (gl:Glob)(H:Hp)(n:Option Nat)(cs:List V)(o:Nat):Zfe gl H n (.el cs o)=Zak n cs o:=(rfl)
@[simp] theorem Z8o (gl:Glob)(H:Hp)(n:Option Nat)(g o:Nat):Zfe gl H n (.gp g o)=(gl g).bind fun cs=>Zak n cs o:=(rfl)
@[simp] theorem Zuk (gl:Glob)(H:Hp)(n:Option Nat)(id o:Nat):Zfe gl H n (.ptr id o)=(Zap H id).bind fun cs=>Zak n cs o:=(rfl)
@[simp] theorem Z8j (n:Option Nat)(off:Nat)(cs:List V):vFld n off (.agg cs)=Zak n cs off:=(rfl)
@[simp] theorem Z37 (cs:List V)(i:Nat):Zap (st.new cs).H i=if i=st.nH then some cs else Zap st.H i:=by
  by_cases h:i=st.nH<;>simp[Zap,h]
@[simp] theorem Z0g (id:Nat)(cs:List V)(off:Nat)(ys:List V)(i:Nat):Zap (st.setOb id cs off ys).H i=if i=id then some (Zas cs off ys)else Zap st.H i:=by
  by_cases h:i=id<;>simp[Zap,h]
@[simp] theorem Zn1 (id:Nat)(cs:List V)(off t:Nat)(i:Nat):Zap (st.stoOb id cs off t).H i=if i=id then some (Zas cs off [st.tm t])else Zap st.H i:=by
  by_cases h:i=id<;>simp[Zap,h]
@[simp] theorem Z1u (args:List V)(i:Nat):Zap (St.init args).H i=none:=(rfl)
@[simp] theorem Zhz (cs:List V)(off:Nat):Zak none cs off=cs[off]? :=(rfl)
@[simp] theorem Zh4 (k:Nat)(cs:List V)(off:Nat):Zak (some k) cs off=if off+k<=cs.length then some (.agg ((cs.drop off).take k))else none:=(rfl)
@[simp] theorem Z9u (b:Bool):aun .not (.bool b)=some (.bool !b):=(rfl)
@[simp] theorem Qav (k:IntKind)(n:Int):aun .neg (.int k n)=some (.int k (k.wrap (0-n))):=(rfl)
variable {q:EqK}{k:IntKind}{x y:Int}{s t:Bytes}
@[simp] theorem b_add :abin .add q (.int k x) (.int k y)=some (.int k (k.wrap (x+y))):=by simp[abin,aint]
@[simp] theorem Qco :abin .sub q (.int k x) (.int k y)=some (.int k (k.wrap (x-y))):=by simp[abin,aint]
@[simp] theorem Qcj :abin .mul q (.int k x) (.int k y)=some (.int k (k.wrap (x*y))):=by simp[abin,aint]
@[simp] theorem Qc7 :abin .quo q (.int k x) (.int k y)=if y=0 then none else some (.int k (k.wrap (x.tdiv y))):=by simp[abin,aint]
@[simp] theorem Qcm :abin .rem q (.int k x) (.int k y)=if y=0 then none else some (.int k (x.tmod y)):=by simp[abin,aint]
@[simp] theorem Qc3 :abin .eql q (.int k x) (.int k y)=some (.bool (decide (x=y))):=by simp[abin,aint]
@[simp] theorem Qcd :abin .neq q (.int k x) (.int k y)=some (.bool (!decide (x=y))):=by simp[abin,aint]
@[simp] theorem Qcf :abin .lss q (.int k x) (.int k y)=some (.bool (decide (x<y))):=by simp[abin,aint]
@[simp] theorem Qc0 :abin .leq q (.int k x) (.int k y)=some (.bool (decide (x<=y))):=by simp[abin,aint]
@[simp] theorem Qc2 :abin .gtr q (.int k x) (.int k y)=some (.bool (decide (y<x))):=by simp[abin,aint]
@[simp] theorem Qcx :abin .geq q (.int k x) (.int k y)=some (.bool (decide (y<=x))):=by simp[abin,aint]
@[simp] theorem Qch :abin .eql q (.str s) (.str t)=some (.bool (decide (s=t))):=(rfl)
@[simp] theorem Qcv :abin .neq q (.str s) (.str t)=some (.bool (!decide (s=t))):=(rfl)
@[simp] theorem Qcp :abin .lss q (.str s) (.str t)=some (.bool (Op.bytesLess s t)):=(rfl)
@[simp] theorem Qct :abin .gtr q (.str s) (.str t)=some (.bool (Op.bytesLess t s)):=by rw[<-Zlo];rfl
@[simp] theorem Qcy :abin .geq q (.str s) (.str t)=some (.bool (!Op.bytesLess s t)):=(rfl)
@[simp] theorem Qcr :abin .add q (.str s) (.str t)=if s.length+t.length<=4611686018427387904 then some (.str (s++t))else none:=(rfl)
@[simp] theorem Qb9 (nl:Bool)(z z':Nat)(xs:List V):abin .eql .slice (.sl nl z xs) (.sl true z' [])=some (.bool nl):=by cases nl<;>rfl
@[simp] theorem Qb3 (nl:Bool)(z z':Nat)(xs:List V):abin .neq .slice (.sl nl z xs) (.sl true z' [])=some (.bool !nl):=by cases nl<;>rfl
@[simp] theorem Qb7 (ks:List (Option IntKind×Bool))(xs ys:List V):abin .eql (.flat ks) (.agg xs) (.agg ys)=(Zat ks xs ys).map .bool:=(rfl)
@[simp] theorem Qbv (ks:List (Option IntKind×Bool))(xs ys:List V):abin .neq (.flat ks) (.agg xs) (.agg ys)=(Zat ks xs ys).map fun b=> .bool !b:=(rfl)
@[simp] theorem Z35 :Zat [] [] []=some true:=(rfl)
@[simp] theorem Z28 (k:Option IntKind×Bool)(ks:List (Option IntKind×Bool))(x y:V)(xs ys:List V):Zat (k::ks) (x::xs) (y::ys)=(kdEq k x y).bind fun b=>(Zat ks xs ys).map (b&& ·):=(rfl)
@[simp] theorem Z8i (k:IntKind)(t:Bool)(x y:Int):kdEq (some k,t) (.int k x) (.int k y)=some (decide (x=y)):=by simp[kdEq]
@[simp] theorem Z8b (x y:Bytes):kdEq (none,true) (.str x) (.str y)=some (decide (x=y)):=(rfl)
@[simp] theorem Z74 (x y:Bool):kdEq (none,false) (.bool x) (.bool y)=some (x==y):=(rfl)
@[simp] theorem Z2z (res:List RS)(r:V×Bool):retQ res r .normal st=(∃p,Zdw res st=some p/\p.1=r.1/\(r.2=true->p.2=true)):=(rfl)
@[simp] theorem Z8f (res:List RS)(r:V×Bool):retQ res r .ret st=(∃p,Zdw res st=some p/\p.1=r.1/\(r.2=true->p.2=true)):=(rfl)
@[simp] theorem Z4x (res:List RS)(r:V×Bool)(i:Nat):retQ res r (.exit i) st=False:=(rfl)
@[simp] theorem Z7i (t:Nat):Zdw [.t t] st=some (st.tm t,st.own (.slot t)):=(rfl)
@[simp] theorem Z1k (a b:Nat):((a:Int)=(b:Int))=(a=b):=propext Int.ofNat_inj
theorem w64 (n:Int)(h: -9223372036854775808<=n/\n<=9223372036854775807):IntKind.wrap .i64 n=n:=Go.IntWalk.i64_in n h
@[simp] theorem Zw4 (cs:List V):(V.agg cs).cells=cs:=(rfl)
@[simp] theorem Z30 (b:Bool):(V.bool b).cells=[.bool b]:=(rfl)
@[simp] theorem Z72 (k:IntKind)(n:Int):(V.int k n).cells=[.int k n]:=(rfl)
@[simp] theorem Z7y (s:Bytes):(V.str s).cells=[.str s]:=(rfl)
@[simp] theorem Z8k (nl:Bool)(z:Nat)(xs:List V):(V.sl nl z xs).cells=[.sl nl z xs]:=(rfl)
@[simp] theorem Z8x (f:Nat)(cs:List V):(V.fn f cs).cells=[.fn f cs]:=(rfl)
@[simp] theorem Z4n (i o:Nat):(V.ptr i o).cells=[.ptr i o]:=(rfl)
@[simp] theorem Z01 :V.nilptr.cells=[.nilptr]:=(rfl)
@[simp] theorem Z2c :V.nilif.cells=[.nilif]:=(rfl)
@[simp] theorem Qbz (cs:List V):(V.agg cs).sc=false:=(rfl)
@[simp] theorem Qbw (cs:List V):(V.tup cs).sc=false:=(rfl)
@[simp] theorem Z9j (b:Bool):(V.bool b).sc=true:=(rfl)
@[simp] theorem Qca (k:IntKind)(n:Int):(V.int k n).sc=true:=(rfl)
@[simp] theorem Qb6 (s:Bytes):(V.str s).sc=true:=(rfl)
@[simp] theorem Qce (nl:Bool)(z:Nat)(xs:List V):(V.sl nl z xs).sc=true:=(rfl)
@[simp] theorem Qc4 (f:Nat)(cs:List V):(V.fn f cs).sc=true:=(rfl)
@[simp] theorem Qb5 (i o:Nat):(V.ptr i o).sc=true:=(rfl)
@[simp] theorem Z6g :V.nilptr.sc=true:=(rfl)
@[simp] theorem Z83 :V.nilif.sc=true:=(rfl)
@[simp] theorem Z2p {l:Bytes}{x:V}(h:x∈encB l):x.sc=true:=by
  simp only[encB,Xa7]at h
  obtain⟨b,_,rfl⟩:=h;rfl
@[simp] theorem Zpf (l:Bytes):(encB l).length=l.length:=by simp[encB]
@[simp] theorem Zz4 {k:Nat}{cs:List V}(h:cs.length=k):Zak (some k) cs 0=some (.agg cs):=by simp[Zak, <-h]
@[simp] theorem Z31 {cs ys:List V}(h:ys.length=cs.length):Zas cs 0 ys=ys:=by simp[Zas,h]
@[simp] theorem Z3w (b:Bool):(V.bool b).clean=true:=(rfl)
@[simp] theorem Z57 (k:IntKind)(n:Int):(V.int k n).clean=true:=(rfl)
@[simp] theorem Z6x (s:Bytes):(V.str s).clean=true:=(rfl)
@[simp] theorem Z4h (cs:List V):(V.agg cs).clean=Zab cs:=(rfl)
@[simp] theorem Z79 (nl:Bool)(z:Nat)(xs:List V):(V.sl nl z xs).clean=Zab xs:=(rfl)
@[simp] theorem Z8q (f:Nat)(cs:List V):(V.fn f cs).clean=Zab cs:=(rfl)
@[simp] theorem Z47 (cs:List V):(V.tup cs).clean=Zab cs:=(rfl)
@[simp] theorem Z3x :Zab []=true:=(rfl)
@[simp] theorem Z19 (v:V)(r:List V):Zab (v::r)=(v.clean&&Zab r):=(rfl)
@[simp] theorem Z2j (l:Bytes):Zab (encB l)=true:=Zaj.2 fun v hv=>by
  simp only[encB,Xa7]at hv
  obtain⟨b,_,rfl⟩:=hv;rfl
theorem Zfw {α:Type}{f:α->V}(h:∀x,(f x).clean=true)(l:List α):Zab (l.map f)=true:=Zaj.2 fun v hv=>by
 obtain⟨x,_,rfl⟩:=Xa7.1 hv;exact h x
@[simp] theorem Z8w (H:Hp)(sz:Nat)(nl:Bool)(ys:List V):Zb2 H sz (.sl nl sz ys)=some ys:=by simp[Zb2]
@[simp] theorem Zvi (H:Hp)(b:Bytes):Zb2 H 1 (.str b)=some (encB b):=(rfl)
@[simp] theorem Z77 (H:Hp)(own:Bool)(sz z:Nat)(p:Option Pos)(xs:List V)(x:V):vApp H own sz p (.sl true z xs) x=(Zb2 H sz x).bind fun ys=>if ys.length<=Lim then some ⟨.sl ys.isEmpty sz ys,true,none⟩else none:=by
  simp only[vApp];cases Zb2 H sz x<;>rfl
@[simp] theorem Qam (H:Hp)(sz:Nat)(p:Option Pos)(xs:List V)(x:V):vApp H true sz p (.sl false sz xs) x=(Zb2 H sz x).bind fun ys=>if xs.length+ys.length<=Lim then some ⟨.sl false sz (xs++ys),true,p⟩else none:=by
  simp only[vApp];cases Zb2 H sz x<;>simp
@[simp] theorem Z0o (c:Prop) [Decidable c](q r:Pos):(st.take (if c then none else some q)).own r=if ¬c/\r=q then false else st.own r:=by
  by_cases h:c<;>simp[h]
@[simp] theorem Z8n (sz:Nat):fits sz []=true:=(rfl)
@[simp] theorem Zuc (sz:Nat)(x:V)(r:List V):fits sz (x::r)=((x.cells.length==sz&&x.cells.all V.sc)&&fits sz r):=(rfl)
@[simp] theorem Z81 (s:Bytes)(k:IntKind)(n:Nat):vIdx (.str s) (.int k (n:Int))=(s[n]?).map byteV:=by simp[vIdx]
@[simp] theorem Z43 (s:Bytes)(k:IntKind):vIdx (.str s) (.int k 0)=(s[0]?).map byteV:=by simp[vIdx]
@[simp] theorem Z96 (s:Bytes)(k k':IntKind)(l h:Int):vSls (.str s) (some (.int k l)) (some (.int k' h))=if 0<=l/\l<=h/\h<=s.length then some (.str ((s.take h.toNat).drop l.toNat))else none:=by
  simp only[vSls,vOpt,cut3]
  by_cases hc:0<=l/\l<=h/\h<=s.length
  ·have:0<=h:=by omega
   simp[hc,this]
  ·rw[if_neg hc,if_neg]
   ·rfl
   ·simp;omega
@[simp] theorem Qcc (s:Bytes)(k:IntKind)(l:Int):vSls (.str s) (some (.int k l)) none=if 0<=l/\l<=s.length then some (.str (s.drop l.toNat))else none:=by
  simp only[vSls,vOpt,cut3]
  by_cases hc:0<=l/\l<=s.length
  ·simp[hc]
  ·rw[if_neg hc,if_neg]
   ·rfl
   ·simp;omega
@[simp] theorem Qb2 (s:Bytes)(k:IntKind)(h:Int):vSls (.str s) none (some (.int k h))=if 0<=h/\h<=s.length then some (.str (s.take h.toNat))else none:=by
  simp only[vSls,vOpt,cut3]
  by_cases hc:0<=h/\h<=s.length
  ·simp[hc]
  ·rw[if_neg hc,if_neg]
   ·rfl
   ·simp;omega
@[simp] theorem Qb0 (sz z:Nat)(nl:Bool)(xs:List V)(k:IntKind)(l:Int):vSlc sz (.sl nl z xs) (some (.int k l)) none none=if z=sz/\0<=l/\l<=xs.length then some ⟨.sl nl sz (xs.drop l.toNat),false,none⟩else none:=by
  simp only[vSlc,vOpt,cut3]
  by_cases hc:z=sz/\0<=l/\l<=xs.length
  ·obtain⟨rfl,h1,h2⟩:=hc
   simp[h1,h2]
  ·rw[if_neg hc]
   by_cases hz:z=sz
   ·rw[if_pos (by simp[hz]),if_neg]
    ·rfl
    ·simp;omega
   ·rw[if_neg (by simp[hz])]
@[simp] theorem Qbx (sz z:Nat)(nl:Bool)(xs:List V)(k:IntKind)(h:Int):vSlc sz (.sl nl z xs) none (some (.int k h)) none=if z=sz/\0<=h/\h<=xs.length then some ⟨.sl nl sz (xs.take h.toNat),false,none⟩else none:=by
  simp only[vSlc,vOpt,cut3]
  by_cases hc:z=sz/\0<=h/\h<=xs.length
  ·obtain⟨rfl,h1,h2⟩:=hc
   simp[h1,h2]
  ·rw[if_neg hc]
   by_cases hz:z=sz
   ·rw[if_pos (by simp[hz]),if_neg]
    ·rfl
    ·simp;omega
   ·rw[if_neg (by simp[hz])]
@[simp] theorem Z8g (l:Bytes):(∀a∈encB l,a.sc=true)=True:=eq_true fun _ h=>Z2p h
end Go.Abs
namespace Go.Abs
open Go.RowKit Go.ChangeShapes Go.WideShapes
open Go.Proofs.YtegmegbanfkomaaGreatDoor (Rows.uptoBulk Rows.uptoBulkAll)
mutual
def V.wt :V->Nat
 | .str s=>s.length+1
 | .agg cs=>wtL cs+1
 | .sl _ _ xs=>wtL xs+1
 |_=>1
def wtL :List V->Nat
 | []=>0
 |v::r=>v.wt+wtL r
end
theorem Zkv (a b:List V):wtL (a++b)=wtL a+wtL b:=by
 induction a<;>grind[wtL]
theorem Zus {l:List V}{v:V}(h:v∈l):v.wt<=wtL l:=by
 induction l<;>grind[wtL]
theorem Z4z (v:V):1<=v.wt:=by cases v<;>simp[V.wt]
theorem Zs0 (l:List V):l.length<=wtL l:=by
 induction l<;>grind[Z4z,wtL]
def Zjh (P:Program):Nat->TypeId->Bool
 |0,_=>false
 |m+1,t=>match P.underlying t with
  |some .bool|some (.int _)|some .string=>true
  |some (.slice e)=>Zjh P m e
  |some (.array _ e)=>Zjh P m e
  |some (.struct fs)=>fs.toList.all fun f=>Zjh P m f.type
  |_=>false
def Zd4 (P:Program)(t:TypeId):Bool:=match P.underlying t with|some (.struct _)|some (.array _ _)=>true|_=>false
def elV (P:Program)(t:TypeId)(ws:List V):V:=if Zd4 P t then .agg ws else ws.headD Nil
def HasT (P:Program):Nat->TypeId->List V->Prop
 |0,_,_=>False
 |m+1,t,vs=>match P.underlying t with
  |some .bool=> ∃b,vs=[.bool b]
  |some (.int k)=> ∃n,vs=[.int k n]/\k.min<=n/\n<=k.max
  |some .string=> ∃s,vs=[.str s]
  |some (.slice e)=>vs=[.sl true (P.cellsOf e) []] \/ ∃xs,vs=[.sl false (P.cellsOf e) xs]/\ ∀x∈xs, ∃ws,HasT P m e ws/\x=elV P e ws
  |some (.array n e)=> ∃wss:List (List V),wss.length=n/\(∀ws∈wss,HasT P m e ws)/\vs=wss.flatten
  |some (.struct fs)=> ∃wss:List (List V),wss.length=fs.size/\(∀(i:Nat) (f:Field) (ws:List V),fs[i]? =some f->wss[i]? =some ws->HasT P m f.type ws)/\vs=wss.flatten
  |_=>False
def RL (W:World)(G:Nat->Nat)(φ:Nat->Option Nat)(vs:List V)(cs:List Value):Prop:=
 vs.length=cs.length/\ ∀(i:Nat) (c:V) (x:Value),vs[i]? =some c->cs[i]? =some x->Rep W G φ c x
theorem RL.append {W G φ a b cs}(h1:RL W G φ a (cs.take a.length))(h2:RL W G φ b (cs.drop a.length))(hl:a.length<=cs.length):RL W G φ (a++b) cs:=by
 refine⟨?_,fun i c x hc hx=> ?_⟩
 ·have:=h2.1;grind
 ·rw[Xcx]at hc
  split at hc
  ·exact h1.2 i c x hc (by grind)
  ·exact h2.2 (i-a.length) c x hc (by grind)
theorem RL.flatten {W G φ}:∀{wss:List (List V)} {cs:List Value},cs.length=(wss.map List.length).sum->
  (∀(i:Nat) (ws:List V),wss[i]? =some ws->RL W G φ ws ((cs.drop ((wss.take i).map List.length).sum).take ws.length))->RL W G φ wss.flatten cs
 | [],cs,hl,_=>⟨by grind,fun i c x hc=>by simp at hc⟩
 |w::r,cs,hl,h=>by
  simp only[Xan,List.sum_cons]at hl
  refine RL.append (by simpa using h 0 w rfl) (RL.flatten (by simp;omega) fun i ws hi=> ?_) (by omega)
  have:=h (i+1) ws (by simpa using hi)
  simpa[Xc6,Xcn,Nat.add_comm]using this
section
variable {H:Type}{enc:TypeId×Value->H}{P:Program}{w:World}{held:Bool}{φ:Nat->Option Nat}
theorem Zqd {w:World}{b i:Nat}{s:Option Nat}{v:Value}(h:w.cell? ⟨b,i,s⟩=some v):s=none/\i<G0 w b:=by
 simp only[World.cell?]at h
 split at h
 ·split at h
  ·simp at h
  ·rename_i hs
   refine⟨by simpa using hs, ?_⟩<;>grind[G0]
 ·simp at h
theorem Zgq (n:Nat)(f:Nat->List V)(D:Nat->DataW H)(k:Nat)(h:∀i,i<n->wtL (f i)<=Rows.uptoBulk (D (k+i))):wtL ((List.range n).map f).flatten<=Rows.uptoBulkAll ((List.range n).map fun i=>D (k+i)):=by
 induction n generalizing f k with
 |zero=>simp[wtL]
 |succ n ih=>
  rw[List.range_succ_eq_map]
  simp only[Xan,Xcd,Zkv,Rows.uptoBulkAll,Xcg]
  have:=ih (fun i=>f (i+1)) (k+1) fun i hi=>by grind
  have e:((fun i=>D (k+i))∘Nat.succ)=fun i=>D (k+1+i):=by grind
  have e2:(f∘Nat.succ)=fun i=>f (i+1):=rfl
  grind
theorem RL.one {W G φ v x}(h:Rep W G φ v x):RL W G φ [v] [x]:=⟨rfl,fun i c y hc hy=>by
 grind⟩
theorem Zon {t:TypeId}{ws:List V}(h:Zd4 P t=false-> ∃v,ws=[v]/\v.sc=true):(elV P t ws).cells=ws:=by
 unfold elV
 split
 ·rfl
 ·rename_i ha
  obtain⟨v,rfl,hv⟩:=h (by simpa using ha)
  cases v<;>first|rfl|simp at hv
theorem Zom {t:TypeId}{ws:List V}(h:∀c∈ws,c.clean=true):(elV P t ws).clean=true:=by
 unfold elV
 split
 ·exact Zaj.2 h
 ·cases ws<;>simp_all
theorem Zr2 {K:Nat}{n:Nat}{f:Nat->List V}{c:Nat->Nat}(hn:K<=n)(hf:∀i,i<n->(f i).length=c i):((((List.range n).map f).take K).map List.length).sum=((List.range K).map c).sum:=by
 rw[<-Xeo,List.take_range,Nat.min_eq_left hn,Xcg]
 grind[List.map_congr_left]
theorem Zx0 (K:Kids P (· <P.types.size))(hz:∀t e,t<P.types.size->P.underlying t=some (.slice e)->0<P.cellsOf e):∀(m fuel:Nat) (t:TypeId) (cs:List Value) (x:DataW H×List MemPlace),t<P.types.size->Zjh P m t=true->
  DataW.trod enc P w 0 (fun _=>true) held fuel t cs=some x->
  ∃vs,RL w (G0 w) φ vs cs/\(∀c∈vs,c.sc=true/\c.clean=true)/\HasT P m t vs/\(elV P t vs).wt<=Rows.uptoBulk x.1/\wtL vs<=Rows.uptoBulk x.1/\(Zd4 P t=false-> ∃v,vs=[v]/\v.sc=true):=by
 intro m
 induction m with
 |zero=>grind[Zjh]
 |succ m ih=>
  intro fuel t cs x ht hp h
  unfold Zjh at hp
  split at hp
  ·rename_i hu
   obtain⟨b,rfl,rfl⟩:=DataW.trod_bool hu h
   have ha:Zd4 P t=false:=by simp[Zd4,hu]
   exact⟨[.bool b],RL.one (.bool b),by simp,by simp[HasT,hu],by grind[elV,V.wt,Rows.uptoBulk],by simp[wtL,V.wt,Rows.uptoBulk],fun _=>⟨_,rfl,rfl⟩⟩
  ·rename_i k hu
   obtain⟨n,rfl,rfl,hw⟩:=DataW.trod_int hu h
   have ha:Zd4 P t=false:=by simp[Zd4,hu]
   simp only[Lit.wf,Xai,decide_eq_true_eq]at hw
   exact⟨[.int k n],RL.one (.int k n),by simp,by grind[HasT],by grind[elV,V.wt,Rows.uptoBulk],by simp[wtL,V.wt,Rows.uptoBulk],fun _=>⟨_,rfl,rfl⟩⟩
  ·rename_i hu
   obtain⟨s,rfl,rfl,hw⟩:=DataW.trod_string hu h
   have ha:Zd4 P t=false:=by simp[Zd4,hu]
   exact⟨[.str s.data.toList],RL.one (.str _ s rfl),by simp,by simp[HasT,hu],by grind[elV,V.wt,Rows.uptoBulk],by simp[wtL,V.wt,Rows.uptoBulk],fun _=>⟨_,rfl,rfl⟩⟩
  ·rename_i e hu
   have ha:Zd4 P t=false:=by simp[Zd4,hu]
   have hte:=K.slice ht hu
   have hz0:=hz t e ht hu
   rcases Deep.open_slice hu h with⟨rfl,rfl⟩|⟨a,len,cap,mm,n,D,Pl,rfl,_,hl,_,hmm,rfl,hel⟩
   ·exact⟨[.sl true (P.cellsOf e) []],RL.one (.slnil _),by simp,by simp[HasT,hu],by grind[elV,V.wt,wtL,Rows.uptoBulk],by simp[wtL,V.wt,Rows.uptoBulk],fun _=>⟨_,rfl,rfl⟩⟩
   ·simp only[if_true]at hmm
    subst hmm
    have hpick:∀i,i<mm-> ∃ws:List V, ∃cs',w.cells? 0 (a.add (i*P.cellsOf e)) (P.cellsOf e)=some cs'/\RL w (G0 w) φ ws cs'/\(∀c∈ws,c.sc=true/\c.clean=true)/\HasT P m e ws/\(elV P e ws).wt<=Rows.uptoBulk (D i)/\(Zd4 P e=false-> ∃v,ws=[v]/\v.sc=true):=fun i hi=>by
     grind
    obtain⟨f,hf⟩:=Deep.choose_lt hpick
    have hbulk:wtL ((List.range len).map fun i=>elV P e (f i))+1<=Rows.uptoBulk (DataW.slice ((List.range len).map D) ((List.range (mm-len)).map fun j=>D (len+j))):=by
     have key:∀k,k<=mm->wtL ((List.range k).map fun i=>elV P e (f i))<=Rows.uptoBulkAll ((List.range k).map D):=by
      have app:∀(l r:List (DataW H)),Rows.uptoBulkAll (l++r)=Rows.uptoBulkAll l+Rows.uptoBulkAll r:=by
       intro l r
       induction l<;>grind[Rows.uptoBulkAll]
      intro k
      induction k<;>grind[List.range_succ,Zkv,wtL,Rows.uptoBulkAll]
     grind[Rows.uptoBulk]
    have hcl:∀v∈((List.range len).map fun i=>elV P e (f i)),v.clean=true:=fun v hv=>by
     obtain⟨i,hi,rfl⟩:=Xa7.1 hv
     obtain⟨_,_,_,q2,_⟩:=hf i (by grind)
     grind[Zom]
    refine⟨[.sl false (P.cellsOf e) ((List.range len).map fun i=>elV P e (f i))],RL.one ?_,by simp_all[Zaj], ?_,by grind[elV,V.wt],by grind[wtL,V.wt],fun _=>⟨_,rfl,rfl⟩⟩
    ·--where it lies
     by_cases hc0:mm=0
     ·have hl0:len=0:=by omega
      subst hc0;subst hl0
      exact .sl0 _ a
     ·obtain⟨cs0,p1,_⟩:=hf 0 (by omega)
      have hsp:a.spot=none:=by
       obtain⟨_,_,hc⟩:=World.cells?_some p1
       have h0:=hc 0 hz0
       simp only[Nat.zero_mul,Addr.add,if_true]at h0
       have hlen:0<cs0.length:=by omega
       rw[Xad hlen]at h0
       obtain⟨ab,ao,asp⟩:=a
       exact(Zqd h0).1
      obtain⟨ab,ao,asp⟩:=a
      simp only at hsp
      subst hsp
      have hcell:∀i,i<mm-> ∀j,j<P.cellsOf e-> ∃cs',w.cells? 0 (Addr.add ⟨ab,ao,none⟩ (i*P.cellsOf e)) (P.cellsOf e)=some cs'/\w.cell? ⟨ab,ao+(i*P.cellsOf e+j),none⟩=cs'[j]? /\j<cs'.length:=fun i hi j hj=>by
       obtain⟨cs',p1,_⟩:=hf i hi
       obtain⟨_,q,hc⟩:=World.cells?_some p1
       grind[Zbx]
      have hlenm:((List.range len).map fun i=>elV P e (f i)).length=len:=by simp
      have hrep:=Rep.sl (W:=w) (G:=G0 w) (φ:=φ) (P.cellsOf e) ((List.range len).map fun i=>elV P e (f i)) ab ao mm (fun k=>(w.cell? ⟨ab,ao+k,none⟩).getD undef) (by simpa using hl) ?_ ?_ ?_ ?_
      ·grind
      ·rw[hlenm]
       have hlast:ao+(mm-1+1)*P.cellsOf e<=G0 w ab:=by
        obtain⟨cs',p1,p2,p3⟩:=hcell (mm-1) (by omega) (P.cellsOf e-1) (by omega)
        rw[Xad p3]at p2
        have:=(Zqd p2).2
        grind
       have:len*P.cellsOf e<=(mm-1+1)*P.cellsOf e:=Xbr _ (by omega)
       omega
      ·intro v hv
       obtain⟨i,hi,rfl⟩:=Xa7.1 hv
       obtain⟨cs',p1,q1,q2,_,_,q6⟩:=hf i (by grind)
       rw[Zon q6]
       exact⟨by rw[q1.1];exact(World.cells?_some p1).2.1,fun c hc=>(q2 c hc).1⟩
      ·intro k hk
       rw[hlenm]at hk
       have hi:k/P.cellsOf e<len:=(Nat.div_lt_iff_lt_mul hz0).2 hk
       have hk':k=k/P.cellsOf e*P.cellsOf e+k % P.cellsOf e:=by grind[Nat.div_add_mod]
       obtain⟨cs',p1,p2,p3⟩:=hcell (k/P.cellsOf e) (by omega) (k % P.cellsOf e) (Nat.mod_lt _ hz0)
       grind
      ·intro i v j c hi hj
       have hilt:i<len:=by grind
       simp only[Xbe,Xd4 hilt,Xay,Xac]at hi
       subst hi
       obtain⟨cs',p1,q1,q2,_,_,q6⟩:=hf i (by omega)
       rw[Zon q6]at hj
       have hjl:j<P.cellsOf e:=by have:=(Xak.1 hj).1;rw[q1.1,(World.cells?_some p1).2.1]at this;exact this
       obtain⟨cs'',p1',p2,p3⟩:=hcell i (by omega) j hjl
       rw[p1]at p1';cases p1'
       rw[p2,Xad p3]
       exact q1.2 j c _ hj (Xad p3)
    ·unfold HasT
     rw[hu]
     refine .inr ⟨_,rfl,fun v hv=> ?_⟩
     obtain⟨i,hi,rfl⟩:=Xa7.1 hv
     obtain⟨_,_,_,_,q3,_⟩:=hf i (by grind)
     grind
  ·rename_i n e hu
   have ha:Zd4 P t=true:=by simp[Zd4,hu]
   obtain⟨hte,hsz⟩:=K.array ht hu
   obtain⟨xs,m',_,rfl,hl,hxl,hel⟩:=DataW.trod_array hu h
   have hpick:∀i,i<n-> ∃ws:List V,RL w (G0 w) φ ws ((cs.drop (i*P.cellsOf e)).take (P.cellsOf e))/\(∀c∈ws,c.sc=true/\c.clean=true)/\HasT P m e ws/\wtL ws<=Rows.uptoBulk ((xs.map (·.1)).getD i .nil):=fun i hi=>by
    grind
   obtain⟨f,hf⟩:=Deep.choose_lt hpick
   have hfl:∀i,i<n->(f i).length=P.cellsOf e:=fun i hi=>by
    have:=(hf i hi).1.1
    simp only[Xbd,Xc7,hl,hsz]at this
    have h2:(i+1)*P.cellsOf e<=n*P.cellsOf e:=Xbr _ hi
    grind
   have hsum:∀k,((List.range k).map fun _=>P.cellsOf e).sum=k*P.cellsOf e:=fun k=>by
    induction k<;>grind[List.range_succ]
   have hbulk:wtL ((List.range n).map f).flatten+1<=Rows.uptoBulk (DataW.agg (xs.map (·.1))):=by
    have:=Zgq n f (fun i=>(xs.map (·.1)).getD i .nil) 0 fun i hi=>by grind
    have e1:((List.range n).map fun i=>(xs.map (·.1)).getD (0+i) DataW.nil)=xs.map (·.1):=by
     apply Xdk
     ·simp[hxl]
     grind
    grind[Rows.uptoBulk]
   refine⟨((List.range n).map f).flatten,RL.flatten ?_ fun i ws hi=> ?_,fun c hc=> ?_, ?_,by grind[elV,V.wt],Nat.le_of_lt hbulk,fun hh=>by grind⟩
   ·have:=Zr2 (K:=n) (n:=n) (f:=f) (c:=fun _=>P.cellsOf e) (Xae _) hfl
    grind[List.take_of_length_le]
   ·have hin:i<n:=by grind
    rw[Zr2 (by omega) hfl,hsum]
    grind
   ·obtain⟨ws,hws,hc⟩:=List.mem_flatten.1 hc
    obtain⟨i,hi,rfl⟩:=Xa7.1 hws
    grind
   ·unfold HasT
    rw[hu]
    refine⟨(List.range n).map f,by simp,fun ws hws=> ?_,rfl⟩<;>grind
  ·rename_i fs hu
   have ha:Zd4 P t=true:=by simp[Zd4,hu]
   obtain⟨hte,hsz,hoff⟩:=K.struct ht hu
   obtain⟨xs,m',_,rfl,hl,hxl,hel⟩:=DataW.trod_struct hu h
   let c:Nat->Nat:=fun i=>match fs[i]? with|some f=>P.cellsOf f.type|none=>0
   have hc:∀(i:Nat) (fd:Field),fs[i]? =some fd->c i=P.cellsOf fd.type:=fun i fd hi=>by grind
   have htake:∀k,k<=fs.size->(fs.toList.take k).map (fun f=>P.cellsOf f.type)=(List.range k).map c:=fun k hk=>by
    apply Xdk
    ·simp;omega
    grind
   have hoff':∀(i:Nat) (fd:Field),fs[i]? =some fd->fd.offset=((List.range i).map c).sum:=fun i fd hi=>by
    grind
   have hsub:∀i,i<fs.size->((List.range i).map c).sum+c i<=P.cellsOf t:=fun i hi=>by
    have mono:∀k,i+1<=k->((List.range (i+1)).map c).sum<=((List.range k).map c).sum:=by
     intro k hk
     induction hk with
     |refl=>omega
     |step _ ih=>
      refine Xba ih ?_
      rename_i k _
      have e:((List.range (k+1)).map c).sum=((List.range k).map c).sum+c k:=by grind[List.range_succ]
      grind
    grind[List.range_succ]
   have hpick:∀i,i<fs.size-> ∃ws:List V, ∀fd,fs[i]? =some fd->RL w (G0 w) φ ws ((cs.drop fd.offset).take (P.cellsOf fd.type))/\(∀c∈ws,c.sc=true/\c.clean=true)/\HasT P m fd.type ws/\wtL ws<=Rows.uptoBulk ((xs.map (·.1)).getD i .nil):=fun i hi=>by
    have hfd:fs[i]? =some fs[i]:=by simp[hi]
    have h1:=hel i _ hfd
    rw[Xad (by omega)]at h1
    obtain⟨ws,q1,q2,q3,_,q5,_⟩:=ih m' fs[i].type _ _ (hte _ (by simp)) (Xav.1 hp _ (by simp)) h1
    refine⟨ws,fun fd hfd'=> ?_⟩<;>grind
   obtain⟨f,hf⟩:=Deep.choose_lt hpick
   have hget:∀i,i<fs.size->fs[i]? =some (fs.getD i default):=fun i hi=>by simp[Array.getD,hi]
   have hfl:∀i,i<fs.size->(f i).length=c i:=fun i hi=>by
    have hfd:=hget i hi
    have:=(hf i hi _ hfd).1.1
    simp only[Xbd,Xc7,hl]at this
    rw[hoff' i _ hfd, <-hc i _ hfd]at this
    have h2:=hsub i hi
    omega
   have hbulk:wtL ((List.range fs.size).map f).flatten+1<=Rows.uptoBulk (DataW.agg (xs.map (·.1))):=by
    have:=Zgq fs.size f (fun i=>(xs.map (·.1)).getD i .nil) 0 fun i hi=>by grind
    have e1:((List.range fs.size).map fun i=>(xs.map (·.1)).getD (0+i) DataW.nil)=xs.map (·.1):=by
     apply Xdk
     ·simp[hxl]
     ·intro i h1 h2
      simp at h1 h2
      simp[List.getD,h2]
    grind[Rows.uptoBulk]
   refine⟨((List.range fs.size).map f).flatten,RL.flatten ?_ fun i ws hi=> ?_,fun c hc=> ?_, ?_,by grind[elV,V.wt],Nat.le_of_lt hbulk,fun hh=>by grind⟩
   ·have:=Zr2 (K:=fs.size) (n:=fs.size) (f:=f) (c:=c) (Xae _) hfl
    grind[List.take_of_length_le]
   ·have hin:i<fs.size:=by grind
    rw[Zr2 (by omega) hfl]
    grind
   ·obtain⟨ws,hws,hc⟩:=List.mem_flatten.1 hc
    obtain⟨i,hi,rfl⟩:=Xa7.1 hws
    grind
   ·unfold HasT
    rw[hu]
    refine⟨(List.range fs.size).map f,by simp,fun i fd ws hfd hws=> ?_,rfl⟩
    have hin:i<fs.size:=(Xbg.1 hfd).1
    simp only[Xbe,Xd4 hin,Xay,Xac]at hws
    subst hws
    exact(hf i hin fd hfd).2.2.1
  ·simp at hp
theorem Trod.rep (K:Kids P (· <P.types.size))(hz:∀t e,t<P.types.size->P.underlying t=some (.slice e)->0<P.cellsOf e){m:Nat}{t:TypeId}{v:Value}{d:DataW H}{ps:List MemPlace}{base:Nat}(ht:t<P.types.size)(hp:Zjh P m t=true)
  (h:DataW.Trod enc P w 0 (fun _=>true) held t v d ps) (hval:Value.okWide P w .any base t v):
  ∃vs,Rep w (G0 w) φ (elV P t vs) v/\HasT P m t vs/\(elV P t vs).wt<=Rows.uptoBulk d/\(elV P t vs).clean=true:=by
 obtain⟨n,h⟩:=h
 obtain⟨vs,h1,h2,h3,h4,_,h6⟩:=Zx0 (φ:=φ) K hz m n t _ _ ht hp h
 refine⟨vs, ?_,h3,h4,Zom fun c hc=>(h2 c hc).2⟩
 unfold elV
 by_cases ha:Zd4 P t=true
 ·rw[if_pos ha]
  have:∃cs,v= .agg cs:=by
   grind[Value.okWide,Zd4]
  obtain⟨cs,rfl⟩:=this
  refine .agg vs cs (by simpa[Value.cells]using h1.1) (fun c hc=>(h2 c hc).1) fun i c x hc hx=>h1.2 i c x hc (by grind[Value.cells])
 ·rw[if_neg ha]
  obtain⟨u,rfl,hu⟩:=h6 (by simpa using ha)
  have hv:v.cells.toList=[v]:=by
   cases v with
   |agg cs=>
    unfold Value.okWide at hval
    unfold Zd4 at ha
    split at hval<;>simp_all[Cell.okWide,Cell.ok]
   |_=>rfl
  rw[hv]at h1
  exact h1.2 0 u v rfl rfl
end
theorem Zv9 {H:Type}{enc:TypeId×Value->H}{P:Program}(K:Kids P (· <P.types.size))(hz:∀t e,t<P.types.size->P.underlying t=some (.slice e)->0<P.cellsOf e){f:Func}{s:ChangeSpec}{apart fresh handsOn again:Bool}{W W':World}{args:Array Value}{ds:List (DataW H)}{before:List MemPlace}{tb:TypeId}
  (hvars:s.vars=[]) (hfn:s.fn H ds= {results:=[.lit (.bool true)],args:=ds}) (hrt:f.resultTypes= #[tb]) (htb:P.underlying tb=some .bool) (hpt:∀t∈f.params.toList,t<P.types.size)
  (hW:DataW.Whole enc P f.params.toList s.vars apart W args.toList ds [] before) (hB:Below W.heap.size W W'):s.post enc P f apart fresh handsOn again W args (.bool true) W':=by
 have hlt:=hW.lt
 have hW0:=hW
 obtain⟨p,q,hA,hV,rfl,hfz,hnd⟩:=hW
 rw[hvars]at hV
 have hq:q=[]:=hV
 subst hq
 have carry:∀{ts:List TypeId} {vs:List Value} {ds:List (DataW H)} {ps:List MemPlace},DataW.TrodAll enc P W 0 (fun _=>true) true ts vs ds ps->(∀p∈ps,p.block<W.heap.size)->DataW.TrodAll enc P W' 0 (fun _=>true) true ts vs ds ps:=by
  intro ts
  induction ts with
  |nil=>intro vs ds ps h _;cases vs<;>cases ds<;>first|exact h|exact h.elim
  |cons t ts ih=>
   intro vs ds ps h hb
   cases vs with
   |nil=>exact h.elim
   |cons v vs=>
    cases ds with
    |nil=>exact h.elim
    |cons d ds=>
     obtain⟨p,q,⟨n,h1⟩,h2,rfl⟩:=h
     exact⟨p,q,⟨n,DataW.trod_carry n _ _ _ h1 fun x hx=>hB.same (hb x (Xbh _ hx))⟩,ih h2 fun x hx=>hb x (Xbc _ hx),rfl⟩
 have hA':=carry hA fun x hx=>hlt x (by simpa using hx)
 have hargs:∀sp:Nat->Bool,(∀x∈p,sp x.block=true)->DataW.TrodAll enc P W' 0 sp true f.params.toList args.toList ds p:=fun sp hsp=>hA'.respare K hz hpt hsp
 have hres:∀(b:Nat) (sp:Nat->Bool) (hd:Bool),DataW.TrodAll enc P W' b sp hd f.resultTypes.toList ((Value.bool true).resultList f.resultTypes.size) [.lit (.bool true)] []:=by
  intro b sp hd
  rw[hrt]
  exact trodAll_cons_mk (shut_bool htb _) trodAll_mk0
 have hsimp:s.fn H (ds++ [])= {results:=[.lit (.bool true)],args:=ds}:=by grind
 refine⟨ds,[],p++ [],[],p,[],hW0,by grind,by grind,by rw[hsimp,hvars];rfl,World.keptBut_mono (fun x f=>f.elim) (hB.frame fun _=>False),fun _=> ?_⟩
 refine⟨ok_one hrt rfl (okWide_bool_mk htb _),_,[],([]++p)++ [],⟨[]++p,[],trodAll_append (hargs _ (fun _ _=>rfl)) (hres _ _ _),by rw[hvars];rfl,rfl, ?_, ?_⟩, ?_⟩
 ·intro b off hp
  have hp':MemPlace.cell b off∈p:=by simpa using hp
  rw[hB.frozen (p:=⟨b,off,none⟩) (hlt (.cell b off) (by simpa using hp'))]
  exact hfz b off (by simpa using hp')
 ·grind
 grind
end Go.Abs
namespace Go.Abs
open Go.RowKit
structure Ctr where
 α:Type
 args:α->List V
 res:α->V×Bool
 ok:α->Prop
 inj:∀a b,args a=args b->res a=res b
def Ctr.Holds (cx:Cx)(f:Nat)(c:Ctr):Prop:=∀a,c.ok a->PC cx f (c.args a) (c.res a)
theorem PC.of {cx:Cx}{f:FuncId}{args:List V}{r:V×Bool}(hc:Zez cx.P f)
  (h:∀W G φ xs,OKW cx W G->RepL W G φ args xs->Calls cx.P f xs W fun e W'=> ∃G' y,e= .returned y/\Below W.heap.size W W'/\(∀b,b<W.heap.size->G' b=G b)/\(∀b,W'.heap.size<=b->G' b=0)/\
   Rep W' G' φ r.1 y/\(r.2=true-> ∀ow q,(∀b,W.heap.size<=b->ow b=some q)->OwnAt W' (fun b=>W.heap.size<=b) ⟨G',φ,ow⟩ q r.1 y)):PC cx f args r:=⟨hc,h⟩
theorem PC.pure {cx:Cx}{f:FuncId}{args:List V}{v:V}(hc:Zez cx.P f)(h:∀W G φ xs,OKW cx W G->RepL W G φ args xs->Calls cx.P f xs W fun e W'=> ∃y,e= .returned y/\Below W.heap.size W W'/\ ∀W' G',Rep W' G' φ v y):PC cx f args (v,false):=
 .of hc fun W G φ xs hW hxs=>(h W G φ xs hW hxs).mono fun e W' ⟨y,he,hB,hr⟩=>⟨G,y,he,hB,fun _ _=>rfl,fun b hb=>hW.Gz b (Xba hB.size hb),hr _ _,fun h=>by cases h⟩
theorem PC.texts {cx:Cx}{f:FuncId}{args:List V}{l:List Bytes}(hc:Zez cx.P f)
  (h:∀W G φ xs,OKW cx W G->RepL W G φ args xs->Calls cx.P f xs W fun e W'=> ∃(ss:List ByteArray) (t:TypeId),ss.map (·.data.toList)=l/\e= .returned (.slice (some ⟨W.heap.size,0,none⟩) ss.length ss.length)/\W'=W.alloc (.cells (ss.map Value.string).toArray t)):
  PC cx f args (.sl false 1 (l.map .str),true):=by
 refine .of hc fun W G φ xs hW hxs=>(h W G φ xs hW hxs).mono fun e W'=> ?_
 rintro⟨ss,t,rfl,rfl,rfl⟩
 have hcell:∀k,(W.alloc (.cells (ss.map Value.string).toArray t)).cell? ⟨W.heap.size,k,none⟩=(ss.map Value.string)[k]? :=fun k=>by
  simp_all
 refine⟨fun b=>if b=W.heap.size then ss.length else G b,_,rfl,(Below.refl _ _).alloc (Xae _) _,fun b hb=>if_neg (by omega),fun b hb=> ?_, ?_,fun _ ow q how sz ys b off len cap sp hv hx=> ?_⟩
 ·simp at hb
  dsimp only;rw[if_neg (by omega)];exact hW.Gz b (by omega)
 ·have:=Rep.sl (W:=W.alloc (.cells (ss.map Value.string).toArray t)) (G:=fun b=>if b=W.heap.size then ss.length else G b) (φ:=φ) 1 ((ss.map (·.data.toList)).map V.str) W.heap.size 0 ss.length (fun k=> .string (ss.getD k default)) (by simp) (by simp) (fun x hx=> ?_) (fun k hk=> ?_) (fun i x j c hi hj=> ?_)
  ·grind
  ·obtain⟨s,_,rfl⟩:=Xa7.1 hx;simp
  ·grind
  ·simp only[Xcg,Xbe,Xaa]at hi
   obtain⟨s,hs,rfl⟩:=hi
   cases j with
   |zero=>simp at hj;subst hj;simp[hs];exact .str _ _ rfl
   |succ j=>simp at hj
 grind
theorem Zw0 {cx:Cx}{f:FuncId}{args:List V}{xs:Array Value}{o:Bool}(h:PC cx f args (.bool true,o))(hr:RepL cx.w0 (G0 cx.w0) (fun _=>none) args xs):
  Calls cx.P f xs cx.w0 fun e W'=>e= .returned (.bool true)/\Below cx.w0.heap.size cx.w0 W':=by
 refine(h.2 cx.w0 (G0 cx.w0) (fun _=>none) xs ⟨.refl _ _,fun _ _=>rfl,fun b hb=>by grind[G0]⟩ hr).mono fun e W'=> ?_
 rintro⟨G',y,rfl,hB,_,_,hy,_⟩
 cases hy<;>grind
end Go.Abs
namespace Go.Abs
open Go.RowKit
mutual
def V.nf :V->V
 | .agg cs=> .agg (nfL cs)
 | .sl true sz []=> .sl false sz []
 | .sl true _ (_::_)=> .map 0
 | .sl false sz xs=> .sl false sz (nfL xs)
 | .el cs off=> .el (nfL cs) off
 | .tup cs=> .tup (nfL cs)
 | .fn f cs=> .fn f (nfL cs)
 | .mfn f cs=> .mfn f (nfL cs)
 | .iface t v=> .iface t v.nf
 | .bool b=> .bool b
 | .int k n=> .int k n
 | .str s=> .str s
 | .osl a b c d e=> .osl a b c d e
 | .gp g o=> .gp g o
 | .ptr i o=> .ptr i o
 | .nilptr=> .nilptr
 | .map i=> .map i
 | .nilmap=> .nilmap
 | .nilfn=> .nilfn
 | .nilif=> .nilif
def nfL :List V->List V
 | []=> []
 |v::r=>v.nf::nfL r
end
theorem Zcn :∀l:List V,nfL l=l.map V.nf
 | []=>rfl
 |v::r=>by rw[nfL,Zcn r];rfl
@[simp] theorem Zaq (l:List V):(nfL l).length=l.length:=by rw[Zcn];simp
theorem Zfg (l:List V)(i:Nat):(nfL l)[i]? =(l[i]?).map V.nf:=by rw[Zcn];simp
theorem Zbv (a b:List V):nfL (a++b)=nfL a++nfL b:=by simp[Zcn]
theorem Zdf (a:List V)(k:Nat):nfL (a.drop k)=(nfL a).drop k:=by simp[Zcn]
theorem Zcb (a:List V)(k:Nat):nfL (a.take k)=(nfL a).take k:=by simp[Zcn]
theorem Zoe (a:List V)(k:Nat)(b:List V):nfL (Zas a k b)=Zas (nfL a) k (nfL b):=by
 grind[Zbv,Zcb,Zdf,Zaq,Zas]
theorem Zci {v:V}{b:Bool}(h:v.nf= .bool b):v= .bool b:=by
 cases v<;>simp_all[V.nf]
 all_goals (rename_i nl sz xs;cases nl<;>cases xs<;>simp[V.nf]at h)
theorem Zb3 {v:V}{k:IntKind}{n:Int}(h:v.nf= .int k n):v= .int k n:=by
 cases v<;>simp_all[V.nf]
 all_goals (rename_i nl sz xs;cases nl<;>cases xs<;>simp[V.nf]at h)
theorem Zdz {v:V}{s:Bytes}(h:v.nf= .str s):v= .str s:=by
 cases v<;>simp_all[V.nf]
 all_goals (rename_i nl sz xs;cases nl<;>cases xs<;>simp[V.nf]at h)
theorem Z0f {v:V}{i o:Nat}(h:v.nf= .ptr i o):v= .ptr i o:=by
 cases v<;>simp_all[V.nf]
 all_goals (rename_i nl sz xs;cases nl<;>cases xs<;>simp[V.nf]at h)
theorem Zkj {v:V}{l:List V}(h:v.nf= .agg l):∃cs,v= .agg cs/\nfL cs=l:=by
 cases v<;>simp_all[V.nf]
 all_goals (rename_i nl sz xs;cases nl<;>cases xs<;>simp[V.nf]at h)
theorem Zyf {v:V}{l:List V}{o:Nat}(h:v.nf= .el l o):∃cs,v= .el cs o/\nfL cs=l:=by
 cases v<;>simp_all[V.nf]
 all_goals (rename_i nl sz xs;cases nl<;>cases xs<;>simp[V.nf]at h)
theorem Z69 {v:V}{l:List V}(h:v.nf= .tup l):∃cs,v= .tup cs/\nfL cs=l:=by
 cases v<;>simp_all[V.nf]
 all_goals (rename_i nl sz xs;cases nl<;>cases xs<;>simp[V.nf]at h)
theorem Z10 {v:V}{f:Nat}{l:List V}(h:v.nf= .fn f l):∃cs,v= .fn f cs/\nfL cs=l:=by
 cases v<;>simp_all[V.nf]
 all_goals (rename_i nl sz xs;cases nl<;>cases xs<;>simp[V.nf]at h)
theorem Qbm {v:V}{sz:Nat}{l:List V}(h:v.nf= .sl false sz l):∃nl xs,v= .sl nl sz xs/\nfL xs=l/\(nl=true->xs=[]):=by
 cases v<;>simp_all[V.nf]
 rename_i nl sz' xs
 cases nl<;>cases xs<;>simp_all[V.nf,nfL]
theorem Z4w {nl:Bool}{sz:Nat}{xs:List V}(h:nl=true->xs=[]):(V.sl nl sz xs).nf= .sl false sz (nfL xs):=by
 cases nl
 ·rfl
 ·rw[h rfl];rfl
theorem Zni (v:V):v.nf.sc=v.sc:=by
 cases v<;>try rfl
 rename_i nl sz xs
 cases nl<;>cases xs<;>rfl
theorem Zbs (v:V):v.nf.cells=nfL v.cells:=by
 cases v<;>try rfl
 rename_i nl sz xs
 cases nl<;>cases xs<;>rfl
mutual
theorem Zlg :∀{v:V},v.nf.clean=true->v.clean=true
 | .agg cs,h=>by simp only[V.nf,V.clean]at h⊢;exact Zca h
 | .sl true sz [],_=>rfl
 | .sl true _ (_::_),h=>by simp[V.nf,V.clean]at h
 | .sl false sz xs,h=>by simp only[V.nf,V.clean]at h⊢;exact Zca h
 | .el cs off,h=>by simp only[V.nf,V.clean]at h⊢;exact Zca h
 | .tup cs,h=>by simp only[V.nf,V.clean]at h⊢;exact Zca h
 | .fn f cs,h=>by simp only[V.nf,V.clean]at h⊢;exact Zca h
 | .mfn f cs,h=>by simp only[V.nf,V.clean]at h⊢;exact Zca h
 | .iface t v,h=>by simp only[V.nf,V.clean]at h⊢;exact Zlg h
 | .bool b,_=>rfl
 | .int k n,_=>rfl
 | .str s,_=>rfl
 | .osl a b c d e,h=>by simp[V.nf,V.clean]at h
 | .gp g o,_=>rfl
 | .ptr i o,h=>by simp[V.nf,V.clean]at h
 | .nilptr,_=>rfl
 | .map i,h=>by simp[V.nf,V.clean]at h
 | .nilmap,_=>rfl
 | .nilfn,_=>rfl
 | .nilif,_=>rfl
theorem Zca :∀{l:List V},Zab (nfL l)=true->Zab l=true
 | [],_=>rfl
 |v::r,h=>by
  simp only[nfL,Zab,Xai]at h⊢
  exact⟨Zlg h.1,Zca h.2⟩
end
def Own (v:V)(o:Bool):Prop:=o=true \/ ∃sz,v= .sl true sz []
structure FC where
 f:Nat
 mt:List V->Bool
 own:Bool
 rel:List V->V->Prop
 clean:∀avs y,rel avs y->Zab avs=true/\y.clean=true
 fn:∀avs y z,rel avs y->rel avs z->y=z
def FC.Holds (cx:Cx)(c:FC):Prop:=∀args y,c.rel (nfL args) y-> ∃v o,PC cx c.f args (v,o)/\v.nf=y/\(c.own=true->Own v o)
def FC.Good (cx:Cx)(c:FC)(args:List V)(p:V×Bool):Prop:=PC cx c.f args p/\ ∃y,c.rel (nfL args) y/\p.1.nf=y/\(c.own=true->Own p.1 p.2)
variable {Γ:Abs.Spec}{gl:Glob}
theorem Zhl :∀{c:ACode} {Q:Ex->St->Prop} {s:St},awp Γ gl c Q s-> ∃e t,Q e t/\ ∀Q':Ex->St->Prop,Q' e t->awp Γ gl c Q' s:=by
 intro c
 induction c with
 |skip=>intro Q s h;exact⟨_,_,h,fun _ h=>h⟩
 |region ops dr=>
  intro Q s h
  simp only[awp]at h⊢
  unfold Zi5 at h⊢
  grind
 |seq a b iha ihb=>
  intro Q s h
  obtain⟨e,t,h1,h2⟩:=iha h
  cases e with
  |normal=>
   obtain⟨e,t',h3,h4⟩:=ihb h1
   exact⟨e,t',h3,fun Q' h=>h2 _ (h4 Q' h)⟩
  |exit i=>exact⟨_,t,h1,fun Q' h=>h2 _ h⟩
  |ret=>exact⟨_,t,h1,fun Q' h=>h2 _ h⟩
 |cond c a b iha ihb=>
  intro Q s h
  simp only[awp]at h⊢
  unfold Zok at h⊢
  grind
 |block id b ih=>
  intro Q s h
  obtain⟨e,t,h1,h2⟩:=ih h
  exact⟨_,t,h1,fun Q' h=>h2 _ h⟩
 |loop b ih=>
  intro Q s h
  obtain⟨n,h⟩:=h
  induction n generalizing s with
  |zero=>exact h.elim
  |succ n ihn=>
   obtain⟨e,t,h1,h2⟩:=ih h
   cases e with
   |normal=>
    obtain⟨e,t',h3,h4⟩:=ihn h1
    refine⟨e,t',h3,fun Q' h=> ?_⟩
    obtain⟨m,hm⟩:=h4 Q' h
    exact⟨m+1,h2 _ hm⟩
   |exit i=>exact⟨_,t,h1,fun Q' h=>⟨1,h2 _ h⟩⟩
   |ret=>exact⟨_,t,h1,fun Q' h=>⟨1,h2 _ h⟩⟩
 |exit id=>intro Q s h;exact⟨_,_,h,fun _ h=>h⟩
 |ret=>intro Q s h;exact⟨_,_,h,fun _ h=>h⟩
 |fail=>intro Q s h;exact h.elim
def Zxu (res:List RS)(own:Bool)(y:V)(s:St):Prop:= ∃p,Zdw res s=some p/\p.1.nf=y/\(own=true->Own p.1 p.2)
def endQ (res:List RS)(own:Bool)(y:V):Ex->St->Prop
 | .exit _,_=>False
 |_,s=>Zxu res own y s
theorem Zeg {v:V}{r:List V}(h:v.clean=true)(k:Zab r=true):Zab (v::r)=true:=by simp_all
def fc {α β:Type}(f:Nat)(mt:List V->Bool)(own:Bool)(ea:α->List V)(eb:β->V)(g:α->Option β)(ha:∀a,Zab (ea a)=true)(hb:∀b,(eb b).clean=true)(hi:∀a b,ea a=ea b->a=b):FC where
 f:=f
 mt:=mt
 own:=own
 rel avs y:= ∃a x,avs=ea a/\g a=some x/\y=eb x
 clean:=by
  rintro avs y ⟨a,x,rfl,_,rfl⟩
  exact⟨ha a,hb x⟩
 fn:=by
  rintro avs y z ⟨a,x,rfl,h1,rfl⟩ ⟨a',x',h2,h3,rfl⟩
  obtain rfl:=hi _ _ h2
  rw[h1]at h3
  cases h3;rfl
theorem Zqa {α:Type}{a b:α}{l m:List α}(h:a=b)(k:l=m):a::l=b::m:=by rw[h,k]
def fuel :Nat:=1000000000000
theorem Zd0 {v:List V}{x:V}{r:List V}(h:nfL v=x::r):∃a v',v=a::v'/\a.nf=x/\nfL v'=r:=by
 cases v<;>grind[nfL]
theorem Zhc {v:List V}(h:nfL v=[]):v=[]:=by
 cases v with
 |nil=>rfl
 |cons a v'=>cases h
theorem Z3r {α β:Type}{f:α->β}(hf:∀x y,f x=f y->x=y){l m:List α}(h:l.map f=m.map f):l=m:=(List.map_inj_right hf).1 h
theorem Zs1 (a b:List V):Zab (a++b)=(Zab a&&Zab b):=by
 induction a<;>simp_all[Bool.and_assoc]
def Arr (n:Nat):Type:= {l:Bytes//l.length=n}
instance (n :Nat):DecidableEq (Arr n):=fun a b=>if h:a.1=b.1 then isTrue (Subtype.ext h)else isFalse fun e=>h (by rw[e])
theorem Arr.h {n:Nat}(a:Arr n):a.1.length=n:=a.2
theorem Arr.ext {n:Nat}{a b:Arr n}(h:a.1=b.1):a=b:=Subtype.ext h
def Arr.zero (n:Nat):Arr n:=⟨List.replicate n 0,by simp⟩
def Arr.set {n:Nat}(a:Arr n)(i:Int)(b:UInt8):Arr n:=⟨a.1.set i.toNat b,by simp[a.2]⟩
theorem Zbf {a b:List V}(h:Zab a=true)(k:Zab b=true):Zab (a++b)=true:=by grind[Zs1]
theorem Zx7 {n:Option Nat}{a b:List V}{o:Nat}(k:Nat)(h:a.length=k)(ho:k<=o:=by decide):Zak n (a++b) o=Zak n b (o-k):=by
 cases n<;>grind[Zhz,Zh4,List.drop_append,List.drop_eq_nil_of_le,List.length_append]
section
variable {q:EqK}{a b:UInt8}{s t:Bytes}{x y:Bool}
def cat (s t:Bytes):Option Bytes:=if s.length+t.length<=4611686018427387904 then some (s++t)else none
theorem Z18 {k:Option IntKind×Bool}{x y:V}{p:Bool}(h:kdEq k x.nf y.nf=some p):kdEq k x y=some p:=by
 obtain⟨k,u⟩:=k
 cases k with
 |some k=>
  cases hx:x.nf<;>rw[hx]at h<;>cases hy:y.nf<;>rw[hy]at h<;>simp[kdEq]at h
  grind[Zb3,kdEq]
 |none=>
  cases u with
  |true=>
   cases hx:x.nf<;>rw[hx]at h<;>cases hy:y.nf<;>rw[hy]at h<;>simp[kdEq]at h
   grind[Zdz,kdEq]
  |false=>
   cases hx:x.nf<;>rw[hx]at h<;>cases hy:y.nf<;>rw[hy]at h<;>simp[kdEq]at h
   grind[Zci,kdEq]
theorem Zg1 :∀{ks:List (Option IntKind×Bool)} {a b:List V} {p:Bool},Zat ks (nfL a) (nfL b)=some p->Zat ks a b=some p
 | [],[],[],_,h=>h
 |k::ks,x::xs,y::ys,p,h=>by
  simp only[nfL,Zat,Xab,Xaa]at h
  obtain⟨u,hu,w,hw,rfl⟩:=h
  simp only[Zat,Z18 hu,Zg1 hw,Xaw,Xay]
 | [],[],_::_,_,h=>by grind[nfL,Zat]
 | [],_::_,_,_,h=>by grind[nfL,Zat]
 |_::_,[],_,_,h=>by grind[nfL,Zat]
 |_::_,_::_,[],_,h=>by grind[nfL,Zat]
end
section
variable {Γ:Abs.Spec}{gl:Glob}{K:St->Prop}{s:St}{d:Option Nat}{r:List AOper}{af:List Nat}
end
def andI (k:IntKind)(a b:Int):Int:=k.wrap (BitVec.ofInt k.bits a&&&BitVec.ofInt k.bits b).toNat
def orI (k:IntKind)(a b:Int):Int:=k.wrap (BitVec.ofInt k.bits a|||BitVec.ofInt k.bits b).toNat
def xorI (k:IntKind)(a b:Int):Int:=k.wrap (BitVec.ofInt k.bits a^^^BitVec.ofInt k.bits b).toNat
section
variable {Γ:Abs.Spec}{gl:Glob}{K:St->Prop}{s:St}{d:Option Nat}{r:List AOper}{af:List Nat}{q:EqK}{k:IntKind}{a b:Int}
theorem b_and :abin .and q (.int k a) (.int k b)=some (.int k (andI k a b)):=by simp[abin,aint,andI]
theorem b_or :abin .or q (.int k a) (.int k b)=some (.int k (orI k a b)):=by simp[abin,aint,orI]
theorem b_xor :abin .xor q (.int k a) (.int k b)=some (.int k (xorI k a b)):=by simp[abin,aint,xorI]
end
section
variable {Γ:Abs.Spec}{gl:Glob}{K:St->Prop}{s:St}{d:Option Nat}{r:List AOper}{af:List Nat}{α β:Type}{f:Nat}{mt:List V->Bool}{own:Bool}{ea:α->List V}{eb:β->V}{g:α->Option β}{h1:∀a,Zab (ea a)=true}{h2:∀b,(eb b).clean=true}{h3:∀a b,ea a=ea b->a=b}
end
def isFn (f:Nat):Option V->Bool
 |some (.fn g _)=>g==f
 |_=>false
theorem Zbu {n:Option Nat}{cs:List V}{o:Nat}{y:V}(h:Zak n (nfL cs) o=some y):∃v,Zak n cs o=some v/\v.nf=y:=by
 cases n<;>grind[Zhz,Zfg,Zh4,Zaq,Zcb,Zdf,V.nf]
theorem Zpz (l:Bytes):nfL (encB l)=encB l:=by
 rw[Zcn];unfold encB;rw[Xcg];rfl
end Go.Abs
namespace Go.Abs
structure Spec.Le (Γ Γ':Abs.Spec):Prop where
 p:Γ.p=Γ'.p
 h:∀f a hs r,Γ.h f a hs=some r->Γ'.h f a hs=some r
theorem Spec.Le.refl (Γ:Abs.Spec):Γ.Le Γ:=⟨rfl,fun _ _ _ _ h=>h⟩
variable {Γ Γ':Abs.Spec}{gl:Glob}
theorem Zwj (hp:Γ.p=Γ'.p)(H:Hp)(own:Pos->Bool)(tm:Nat->V)(op:AOp):Zbr Γ gl H own tm op=Zbr Γ' gl H own tm op:=by
 cases op<;>first|rfl|simp_all[Zbr,Zsk,Zke]|(split<;>simp only[hp])
theorem Zmp (hle:Γ.Le Γ'){s s':St}{d:Option Nat}{f:Nat}{a:List V}(h:s.doCall Γ d f a=some s'):s.doCall Γ' d f a=some s':=by
 unfold St.doCall at h⊢
 simp only[Xaa]at h⊢
 obtain⟨r,h1,h2⟩:=h
 exact⟨r,hle.h _ _ _ _ h1,h2⟩
theorem Zsa (hle:Γ.Le Γ'){o:AOper}{s s':St}(h:exec1 Γ gl o s=some s'):exec1 Γ' gl o s=some s':=by
 unfold exec1 at h⊢
 split at h<;>first|exact h|exact Zmp hle h|skip
 ·split at h
  ·rw[<-hle.p]
   grind[Zmp]
  ·cases h
 ·rw[<-Zwj hle.p];exact h
theorem Zl3 (hle:Γ.Le Γ'):∀{os:List AOper} {s s':St},execs Γ gl os s=some s'->execs Γ' gl os s=some s'
 | [],s,s',h=>h
 |o::os,s,s',h=>by
  simp only[execs]at h⊢
  split at h
  ·rename_i s1 h1
   have:exec Γ' gl o s=some s1:=by
    unfold exec at h1⊢
    by_cases hw:s.wants o=true
    ·rw[if_pos hw]at h1⊢
     exact Zsa hle h1
    ·rw[if_neg hw]at h1⊢
     exact h1
   rw[this];exact Zl3 hle h
  ·cases h
theorem awp_le (hle:Γ.Le Γ'):∀{c:ACode} {Q:Ex->St->Prop} {s:St},awp Γ gl c Q s->awp Γ' gl c Q s:=by
 intro c
 induction c with
 |skip=>simp_all
 |region ops d=>
  intro Q s h
  simp only[awp]at h⊢
  unfold Zi5 at h
  split at h
  ·rename_i s' hs
   rw[Zl3 hle hs];exact h
  ·exact h.elim
 |seq a b iha ihb=>intro Q s h;exact iha (Zf2 (Zcv (fun _ h=>ihb h) fun _ _ h=>h) h)
 |cond c a b iha ihb=>
  intro Q s h
  simp only[awp]at h⊢
  unfold Zok at h⊢
  grind
 |block id b ih=>simp_all
 |loop b ih=>
  intro Q s h
  obtain⟨k,h⟩:=h
  refine⟨k, ?_⟩
  induction k generalizing s with
  |zero=>exact h.elim
  |succ k ihk=>exact ih (Zf2 (Zcv (fun _ h=>ihk h) fun _ _ h=>h) h)
 |exit id=>simp_all
 |ret=>simp_all
 |fail=>intro Q s h;exact h.elim
theorem Zx5 :∀{c:ACode} {Q R:Ex->St->Prop} {s:St},awp Γ gl c Q s->awp Γ gl c R s->awp Γ gl c (fun e t=>Q e t/\R e t) s:=by
 have tq:∀{K K':St->Prop} {Q R:Ex->St->Prop} (e:Ex) (t:St),(Zeq K Q e t/\Zeq K' R e t)->Zeq (fun t=>K t/\K' t) (fun e t=>Q e t/\R e t) e t:=by
  intro K K' Q R e t h
  cases e<;>exact h
 intro c
 induction c with
 |skip=>simp_all
 |region ops d=>
  intro Q R s h k
  simp only[awp]at h k⊢
  unfold Zi5 at h k⊢
  grind
 |seq a b iha ihb=>
  intro Q R s h k
  exact Zf2 (c:=a) (fun e t q=>Zcv (K:=fun t=>awp Γ gl b Q t/\awp Γ gl b R t) (Q:=fun e t=>Q e t/\R e t) (fun _ h=>ihb h.1 h.2) (fun _ _ h=>h) e t (tq e t q)) (iha h k)
 |cond c a b iha ihb=>
  intro Q R s h k
  simp only[awp]at h k⊢
  unfold Zok at h k⊢
  split at h<;>grind
 |block id b ih=>intro Q R s h k;exact ih h k
 |loop b ih=>
  intro Q R s h k
  obtain⟨n,h⟩:=h
  obtain⟨m,k⟩:=k
  refine⟨n, ?_⟩
  induction n generalizing s m with
  |zero=>exact h.elim
  |succ n ihn=>
   cases m with
   |zero=>exact k.elim
   |succ m=>exact Zf2 (c:=b) (fun e t q=>Zcv (K:=fun t=>Zkc (awp Γ gl b) Q n t/\Zkc (awp Γ gl b) R m t) (Q:=fun e t=>Q e t/\R e t) (fun _ h=>ihn h.1 m h.2) (fun _ _ h=>h) e t (tq e t q)) (ih h k)
 |exit id=>simp_all
 |ret=>simp_all
 |fail=>intro Q R s h k;exact h.elim
section
variable {G:Nat->Abs.Spec}{Γl:Abs.Spec}
structure Lm (G:Nat->Abs.Spec)(Γl:Abs.Spec):Prop where
 up:∀n,(G n).Le (G (n+1))
 to:∀n,(G n).Le Γl
 of:∀f a hs r,Γl.h f a hs=some r-> ∃n,(G n).h f a hs=some r
theorem Spec.Le.trans {a b c:Abs.Spec}(h:a.Le b)(k:b.Le c):a.Le c:=⟨h.p.trans k.p,fun f x hs r e=>k.h f x hs r (h.h f x hs r e)⟩
theorem Lm.le (h:Lm G Γl){n m:Nat}(hn:n<=m):(G n).Le (G m):=by
 induction hn with
 |refl=>exact .refl _
 |step _ ih=>exact ih.trans (h.up _)
theorem Lm.exec1 (h:Lm G Γl){o:AOper}{s s':St}(he:exec1 Γl gl o s=some s'):∃n,exec1 (G n) gl o s=some s':=by
 have call:∀{d:Option Nat} {f:Nat} {a:List V},s.doCall Γl d f a=some s'-> ∃n,s.doCall (G n) d f a=some s':=by
  intro d f a hc
  unfold St.doCall at hc
  simp only[Xaa]at hc
  obtain⟨r,h1,h2⟩:=hc
  obtain⟨n,hn⟩:=h.of _ _ _ _ h1
  grind[St.doCall]
 unfold Abs.exec1 at he⊢
 split at he<;>first|exact⟨0,he⟩|exact call he|skip
 ·split at he
  ·split at he
   ·rename_i r hr
    exact⟨0,by simp only[(h.to 0).p,hr];exact he⟩
   ·rename_i hr
    obtain⟨n,hn⟩:=call he
    exact⟨n,by simp only[(h.to n).p,hr];exact hn⟩
  ·cases he
 ·exact⟨0,by rw[Zwj (h.to 0).p];exact he⟩
theorem Lm.execs (h:Lm G Γl):∀{os:List AOper} {s s':St},execs Γl gl os s=some s'-> ∃n,execs (G n) gl os s=some s'
 | [],s,s',he=>⟨0,he⟩
 |o::os,s,s',he=>by
  simp only[Abs.execs]at he
  split at he
  ·rename_i s1 h1
   have h2:∃n,exec (G n) gl o s=some s1:=by
    unfold exec at h1⊢
    by_cases hw:s.wants o=true
    ·rw[if_pos hw]at h1
     obtain⟨n,hn⟩:=h.exec1 h1
     exact⟨n,by rw[if_pos hw];exact hn⟩
    ·rw[if_neg hw]at h1
     exact⟨0,by rw[if_neg hw];exact h1⟩
   obtain⟨n,hn⟩:=h2
   obtain⟨m,hm⟩:=Lm.execs h he
   refine⟨max n m, ?_⟩
   have hn':exec (G (max n m)) gl o s=some s1:=by
    unfold exec at hn⊢
    by_cases hw:s.wants o=true
    ·rw[if_pos hw]at hn⊢
     exact Zsa (h.le (Xdq n m)) hn
    ·rw[if_neg hw]at hn⊢
     exact hn
   simp only[Abs.execs,hn']
   exact Zl3 (h.le (Xdl n m)) hm
  ·cases he
theorem Lm.awp (h:Lm G Γl):∀{c:ACode} {Q:Ex->St->Prop} {s:St},Abs.awp Γl gl c Q s-> ∃n,Abs.awp (G n) gl c Q s:=by
 intro c
 induction c with
 |skip=>simp_all
 |region ops d=>
  intro Q s hq
  simp only[Abs.awp]at hq⊢
  unfold Zi5 at hq
  split at hq
  ·rename_i s' hs
   obtain⟨n,hn⟩:=h.execs hs
   exact⟨n,by simp_all⟩
  grind
 |seq a b iha ihb=>
  intro Q s hq
  obtain⟨n,hn⟩:=iha hq
  obtain⟨e,t,h1,h2⟩:=Zhl hn
  cases e with
  |normal=>
   obtain⟨m,hm⟩:=ihb h1
   refine⟨max n m, ?_⟩
   exact awp_le (c:=a) (h.le (Xdq n m)) (h2 (Zeq (Abs.awp (G (max n m)) gl b Q) Q) (show Abs.awp (G (max n m)) gl b Q t from awp_le (h.le (Xdl n m)) hm))
  |exit i=>exact⟨n,h2 _ h1⟩
  |ret=>exact⟨n,h2 _ h1⟩
 |cond c a b iha ihb=>
  intro Q s hq
  simp only[Abs.awp]at hq⊢
  unfold Zok at hq⊢
  split at hq<;>grind
 |block id b ih=>simp_all
 |loop b ih=>
  intro Q s hq
  obtain⟨k,hq⟩:=hq
  induction k generalizing s with
  |zero=>exact hq.elim
  |succ k ihk=>
   obtain⟨n,hn⟩:=ih hq
   obtain⟨e,t,h1,h2⟩:=Zhl hn
   cases e with
   |normal=>
    obtain⟨m,j,hm⟩:=ihk h1
    refine⟨max n m,j+1, ?_⟩
    have:Abs.awp (G (max n m)) gl b (Zeq (Zkc (Abs.awp (G (max n m)) gl b) Q j) Q) s:=by
     refine Abs.awp_le (h.le (Xdq n m)) (h2 _ ?_)
     show Zkc (Abs.awp (G (max n m)) gl b) Q j t
     have key:∀(j:Nat) (t:St),Zkc (Abs.awp (G m) gl b) Q j t->Zkc (Abs.awp (G (max n m)) gl b) Q j t:=by
      intro j
      induction j with
      |zero=>exact fun _ h=>h
      |succ j ihj=>exact fun t ht=>awp_le (h.le (Xdl n m)) (Zf2 (Zcv (fun _ h=>ihj _ h) fun _ _ h=>h) ht)
     grind
    exact this
   |exit i=>exact⟨n,1,h2 _ h1⟩
   |ret=>exact⟨n,1,h2 _ h1⟩
 |exit id=>simp_all
 |ret=>simp_all
 |fail=>intro Q s hq;exact hq.elim
end
def endE (res:List RS)(p:V×Bool×HS):Ex->St->Prop
 | .exit _,_=>False
 |_,s=>Zdw res s=some (p.1,p.2.1)/\s.hs=p.2.2
def CallE (P:Program)(gl:Glob)(Γ:Abs.Spec)(f:Nat)(args:List V)(hs:HS)(p:V×Bool×HS):Prop:=
 ∃F,cFnW P true f=some F/\args.length<=F.n/\awp Γ gl F.body (endE F.res p) (St.initH args hs)
theorem CallE.one {P:Program}{f:Nat}{args:List V}{hs:HS}{p q:V×Bool×HS}(h:CallE P gl Γ f args hs p)(k:CallE P gl Γ f args hs q):p=q:=by
 obtain⟨F,h1,_,h2⟩:=h
 obtain⟨F',k1,_,k2⟩:=k
 rw[h1]at k1;cases k1
 obtain⟨e,t,h3,_⟩:=Zhl (Zx5 h2 k2)
 obtain⟨p1,p2,p3⟩:=p
 obtain⟨q1,q2,q3⟩:=q
 have:(Zdw F.res t=some (p1,p2)/\t.hs=p3)/\(Zdw F.res t=some (q1,q2)/\t.hs=q3):=by
  cases e with
  |exit i=>exact h3.1.elim
  |normal=>exact h3
  |ret=>exact h3
 grind
open Classical in
noncomputable def hN (P:Program)(gl:Glob)(p:Nat->List V->Option (V×Bool)):Nat->Abs.Spec
 |0=>⟨p,fun _ _ _=>none⟩
 |n+1=>⟨p,fun f args hs=>if h:∃q,CallE P gl (hN P gl p n) f args hs q then some h.choose else none⟩
variable {P:Program}{p:Nat->List V->Option (V×Bool)}
open Classical in
theorem Zlw {n f:Nat}{args:List V}{hs:HS}{r:V×Bool×HS}:(hN P gl p (n+1)).h f args hs=some r<->CallE P gl (hN P gl p n) f args hs r:=by
 show(if h:∃q,CallE P gl (hN P gl p n) f args hs q then some h.choose else none)=some r<->_
 constructor
 ·intro h
  split at h
  ·rename_i hex
   cases h;exact hex.choose_spec
  ·cases h
 ·intro h
  have hex:∃q,CallE P gl (hN P gl p n) f args hs q:=⟨r,h⟩
  rw[dif_pos hex,hex.choose_spec.one h]
theorem CallE.le (hle:Γ.Le Γ'){f:Nat}{args:List V}{hs:HS}{r:V×Bool×HS}(h:CallE P gl Γ f args hs r):CallE P gl Γ' f args hs r:=by
 obtain⟨F,h1,h2,h3⟩:=h
 exact⟨F,h1,h2,awp_le hle h3⟩
theorem Z20 :∀n,(hN P gl p n).Le (hN P gl p (n+1))
 |0=>⟨rfl,fun _ _ _ _ h=>by cases h⟩
 |n+1=>⟨rfl,fun f a hs r h=>Zlw.2 ((Zlw.1 h).le (Z20 n))⟩
open Classical in
noncomputable def hL (P:Program)(gl:Glob)(p:Nat->List V->Option (V×Bool)):Abs.Spec:=
 ⟨p,fun f args hs=>if h:∃r n,(hN P gl p n).h f args hs=some r then some h.choose else none⟩
theorem hN_p :∀n,(hN P gl p n).p=p
 |0=>rfl
 |_+1=>rfl
theorem Z53 {n m:Nat}(h:n<=m):(hN P gl p n).Le (hN P gl p m):=by
 induction h with
 |refl=>exact .refl _
 |step _ ih=>exact ih.trans (Z20 _)
open Classical in
theorem Zrc {f:Nat}{args:List V}{hs:HS}{r:V×Bool×HS}:(hL P gl p).h f args hs=some r<-> ∃n,(hN P gl p n).h f args hs=some r:=by
 show(if h:∃r n,(hN P gl p n).h f args hs=some r then some h.choose else none)=some r<->_
 constructor
 ·intro h
  split at h
  ·rename_i hex
   cases h;exact hex.choose_spec
  ·cases h
 ·rintro⟨n,hn⟩
  have hex:∃r n,(hN P gl p n).h f args hs=some r:=⟨r,n,hn⟩
  rw[dif_pos hex]
  obtain⟨m,hm⟩:=hex.choose_spec
  have h1:=(Z53 (Xdq n m)).h _ _ _ _ hn
  have h2:=(Z53 (Xdl n m)).h _ _ _ _ hm
  rw[h1]at h2;exact h2.symm
theorem hL_lim :Lm (hN P gl p) (hL P gl p) where
 up:=Z20
 to n:=⟨hN_p n,fun _ _ _ _ h=>Zrc.2 ⟨n,h⟩⟩
 of _ _ _ _ h:=Zrc.1 h
theorem Qa4 {f:Nat}{args:List V}{hs:HS}{r:V×Bool×HS}(h:CallE P gl (hL P gl p) f args hs r):(hL P gl p).h f args hs=some r:=by
 obtain⟨F,h1,h2,h3⟩:=h
 obtain⟨n,hn⟩:=hL_lim.awp h3
 exact Zrc.2 ⟨n+1,Zlw.2 ⟨F,h1,h2,hn⟩⟩
theorem Zso {cx:Cx}(hgl:GlOK cx)(hm:cx.P.follows .mixedOrders=true)(hp:∀f args r,p f args=some r->PC cx f args r):∀n,Sound cx (hN cx.P cx.gl p n)
 |0=>⟨hp,fun _ _ _ _ h=>by cases h⟩
 |n+1=>⟨hp,fun f args hs r h=>by
  obtain⟨F,h1,h2,h3⟩:=Zlw.1 h
  exact Zte hgl hm (Zso hgl hm hp n) h1 h2 (Zf2 (fun e s q=>by
   cases e with
   |exit i=>exact q.elim
   |normal=>exact⟨⟨_,q.1,rfl,fun h=>h⟩,q.2⟩
   |ret=>exact⟨⟨_,q.1,rfl,fun h=>h⟩,q.2⟩) h3)⟩
theorem Zyj {cx:Cx}(hgl:GlOK cx)(hm:cx.P.follows .mixedOrders=true)(hp:∀f args r,p f args=some r->PC cx f args r):Sound cx (hL cx.P cx.gl p) where
 p:=hp
 h f args hs r h:=by
  obtain⟨n,hn⟩:=Zrc.1 h
  exact(Zso hgl hm hp n).h f args hs r hn
end Go.Abs
namespace Go.Abs
inductive Prim where
 |pick
 |ext (i:Nat)
 |bin (op:BinOp) (q:EqK)
 |un (op:UnOp)
 |len (s:Bool)
 |mnx (mx:Bool)
 |elem (sz:Nat)
 |ld (n:Option Nat) (off:Nat)
 |fld (n:Option Nat) (off:Nat)
 |idx
 |idxa (len sz:Nat) (n:Option Nat)
 |sls (lo hi:Bool)
 |slc (sz:Nat) (lo hi mx:Bool)
 |cat (ss:List (Option Nat))
 |bsl (sz:Nat)
 |app (sz:Nat)
 |mks (sz:Nat)
 |mkz (z:V)
 |s2b|b2s
 |i2i (k:IntKind)
 |s2s
 |s2a (n:Nat)
 |nilck
 |chk (n:Nat)
 |ldd (n:Option Nat) (base sz:Nat)
 |std (n base sz:Nat)
 |set (n off:Nat)
 |chkd
 |chkl
 |rapp (sz:Nat)
 |rlen (sz:Nat)
 |rmk (z:V)
 |b2sx
 |cpya (r n:Nat)
 |cpyn (n:Nat)
 |clra (z:V) (r n:Nat)
 |snap (r n:Nat)
 |snapd (r n:Nat)
 |snapx
 |clrx (z:V)
 |flr
 |b2so (off len:Nat)
 |sc|scs
 |vlen|vadd|vidx
 |snapv (sz:Nat)
 |mlk (q:KK) (z:V) (ok:Bool)
 |mup (q:KK)
 |mln
 |fn (f:Nat)
 deriving Inhabited
def Z2n (sz:Nat):V->V->Option V
 | .sl _ s xs, .int _ n=>if 0<=n/\s=sz then xs[n.toNat]? else none
 |_,_=>none
def Zuz :Bool->Bool->V->List V->Option V
 |true,true,x,[l,h]=>vSls x (some l) (some h)
 |true,false,x,[l]=>vSls x (some l) none
 |false,true,x,[h]=>vSls x none (some h)
 |false,false,x,[]=>vSls x none none
 |_,_,_,_=>none
def Ztf (sz:Nat):Bool->Bool->Bool->V->List V->Option V
 |true,true,true,x,[l,h,m]=>(vSlc sz x (some l) (some h) (some m)).map (·.v)
 |false,true,true,x,[h,m]=>(vSlc sz x none (some h) (some m)).map (·.v)
 |true,true,false,x,[l,h]=>(vSlc sz x (some l) (some h) none).map (·.v)
 |true,false,false,x,[l]=>(vSlc sz x (some l) none none).map (·.v)
 |false,true,false,x,[h]=>(vSlc sz x none (some h) none).map (·.v)
 |false,false,false,x,[]=>(vSlc sz x none none none).map (·.v)
 |_,_,_,_,_=>none
def catV :List (Option Nat)->List V->Option (List V)
 | [],[]=>some []
 |none::ss,x::xs=>if x.sc=true then(catV ss xs).map (x:: ·)else none
 |some n::ss,x::xs=>if x.cells.length=n/\x.cells.all V.sc=true then(catV ss xs).map (x.cells++ ·)else none
 |_,_=>none
def noH :Hp:=fun _=>none
def Zyb (sz:Nat)(s x:V):Option V:=
 match s,Zb2 noH sz x with
 | .sl _ s' xs,some ys=>if xs.length+ys.length<=Lim/\s'=sz then some (.sl false sz (xs++ys))else none
 |_,_=>none
def Zzj (n:Nat):V->Option V
 | .sl _ 1 xs=>if n<=xs.length/\xs≠ []/\fits 1 xs=true then some (.agg (xs.flatMap V.cells))else none
 |_=>none
def vChk (n:Nat):V->Option V
 | .int k j=>if 0<=j/\j<n then some (.int k j)else none
 |_=>none
def vLdd (n:Option Nat)(base sz:Nat):V->V->Option V
 |x, .int _ j=>Zak n x.cells (base+j.toNat*sz)
 |_,_=>none
def vSet (n off:Nat)(x y:V):Option V:=
 if y.cells.length=n/\y.cells.all V.sc=true/\off+n<=x.cells.length then some (.agg (Zas x.cells off y.cells))else none
def vStd (n base sz:Nat):V->V->V->Option V
 |x, .int _ j,y=>vSet n (base+j.toNat*sz) x y
 |_,_,_=>none
def Zyc (off len:Nat)(x:V):Option V:=
 if off+len<=x.cells.length then(Zb4 ((x.cells.drop off).take len)).map .str else none
def Z5z :V->V->Option V
 | .int .i64 n, .int k i=>if 0<=i/\i<n then some (.int k i)else none
 |_,_=>none
def Z7s :V->V->Option V
 | .int .i64 n, .int _ i=>if 0<=i/\i<=n then some (.int .i64 i)else none
 |_,_=>none
def Ztc (sz:Nat)(c:V):V->V->Option V
 | .int .i64 n,x=>(Zb2 noH sz x).bind fun ys=>(Zkg sz ys).bind fun fs=>if 0<=n/\0<sz/\n.toNat*sz<=c.cells.length/\n.toNat+ys.length<=Lim then some (.agg (c.cells.take (n.toNat*sz)++fs))else none
 |_,_=>none
def Zqn (sz:Nat):V->V->Option V
 | .int _ n,x=>(Zb2 noH sz x).bind fun ys=>if 0<=n then some (.int .i64 (n+ys.length))else none
 |_,_=>none
def vRmk (z:V):V->V->Option V
 | .int _ n, .int _ c=>if 0<=n/\n<=c/\c<=Lim then some (.agg (List.replicate n.toNat z))else none
 |_,_=>none
def Z7x (c:V):V->Option V
 | .int .i64 n=>if 0<=n/\n.toNat<=c.cells.length then(Zb4 (c.cells.take n.toNat)).map .str else none
 |_=>none
def Z4d (r n:Nat)(x:V):V->Option V
 | .str b=>if r+n<=x.cells.length then some (.agg (Zas x.cells r ((encB b).take n)))else none
 |_=>none
def Z9l (n:Nat):V->Option V
 | .str b=>some (.int .i64 (min (b.length:Int) n))
 |_=>none
def Z70 (z:V)(r n:Nat)(x:V):Option V:=if r+n<=x.cells.length then some (.agg (Zas x.cells r (List.replicate n z)))else none
def Z4m (r n:Nat)(x:V):Option V:=if r+n<=x.cells.length then some (.sl false 1 ((x.cells.drop r).take n))else none
def Z08 (r n:Nat)(x:V):V->Option V
 | .int _ k=>if 0<=k/\k<n/\r+n<=x.cells.length then some (.sl false 1 ((x.cells.drop (r+k.toNat)).take (n-k.toNat)))else none
 |_=>none
def Zzw (c:V):V->Option V
 | .int .i64 n=>if 0<=n/\n.toNat<=c.cells.length then some (.sl false 1 (c.cells.take n.toNat))else none
 |_=>none
def Z4s (z c:V):V->V->Option V
 | .int .i64 n, .int _ i=>if 0<=i/\i<n/\n.toNat<=c.cells.length then some (.agg (Zas c.cells i.toNat (List.replicate (n.toNat-i.toNat) z)))else none
 |_,_=>none
def Z4r :V->V->Option V
 | .int .i64 a, .int .i64 b=>if 0<=a/\a<=b then some (.int .i64 (b-a))else none
 |_,_=>none
def Z6w :V->V->V->Option V
 | .int .i64 a, .int .i64 b, .int _ l=>if 0<=a/\0<=l/\a+l<=b then some (.int .i64 (a+l))else none
 |_,_,_=>none
def Z7t :V->V->V->Option V
 | .int .i64 a, .int .i64 b, .int _ l=>if 0<=a/\0<=l/\a+l<b then some (.int .i64 (a+l))else none
 |_,_,_=>none
def Zxf (sz:Nat)(c:V):V->V->Option V
 | .int .i64 a, .int .i64 b=>if 0<=a/\a<=b/\b.toNat*sz<=c.cells.length then some (.sl false sz (vRow sz (b.toNat-a.toNat) (c.cells.drop (a.toNat*sz))))else none
 |_,_=>none
def mpV (l:List (V×V)):V:= .iface 0 (.tup (l.map fun p=> .tup [p.1,p.2]))
def unM :List V->Option (List (V×V))
 | []=>some []
 | .tup [k,v]::r=>(unM r).map ((k,v):: ·)
 |_=>none
def unMp :V->Option (List (V×V))
 | .iface 0 (.tup ps)=>unM ps
 |_=>none
def Ztj (q:KK)(z:V)(ok:Bool)(M k:V):Option V:=
 (unMp M).bind fun l=>if Zdr q k k=some true then(Ze3 q k l).bind fun r=>if ok then some (.tup [r.getD z, .bool r.isSome])else if z.sc=true/\(r.getD z).sc=false then none else some (r.getD z)else none
def Zsz (q:KK)(M k x:V):Option V:=(unMp M).bind fun l=>if Zdr q k k=some true then(mPut q k x l).map mpV else none
def Z7z (M:V):Option V:=(unMp M).map fun l=> .int .i64 l.length
def evp :Prim->List V->Option V
 | .pick,[c,a,b]=>Zql c a b
 | .ext i,[t]=>vExt t i
 | .bin op q,[x,y]=>abin op q x y
 | .un op,[x]=>aun op x
 | .len s,[x]=>vLen s x
 | .mnx m,[x,y]=>vMnx m x y
 | .elem sz,[x,i]=>Z2n sz x i
 | .ld n off,[x]=>Zak n x.cells off
 | .fld n off,[x]=>vFld n off x
 | .idx,[x,i]=>vIdx x i
 | .idxa l sz n,[x,i]=>Zqr l sz n x i
 | .sls lo hi,x::r=>Zuz lo hi x r
 | .slc sz lo hi mx,x::r=>Ztf sz lo hi mx x r
 | .cat ss,xs=>(catV ss xs).map .agg
 | .bsl sz,xs=>if fits sz xs then some (.sl false sz xs)else none
 | .app sz,[s,x]=>Zyb sz s x
 | .mks sz,[l,c]=>(vMks sz l c).map (·.v)
 | .mkz z,[l,c]=>(vMkz 1 [z] l c).map (·.v)
 | .s2b,[x]=>(vS2b x).map (·.v)
 | .b2s,[x]=>vB2s noH x
 | .i2i k,[x]=>vI2i k x
 | .s2s,[x]=>vS2s x
 | .s2a n,[x]=>Zzj n x
 | .nilck,[x]=>Zmr x
 | .chk n,[i]=>vChk n i
 | .ldd n base sz,[x,i]=>vLdd n base sz x i
 | .std n base sz,[x,i,y]=>vStd n base sz x i y
 | .set n off,[x,y]=>vSet n off x y
 | .b2so off len,[x]=>Zyc off len x
 | .chkd,[n,i]=>Z5z n i
 | .chkl,[n,i]=>Z7s n i
 | .rapp sz,[c,n,x]=>Ztc sz c n x
 | .rlen sz,[n,x]=>Zqn sz n x
 | .rmk z,[n,m]=>vRmk z n m
 | .b2sx,[c,n]=>Z7x c n
 | .cpya r n,[x,y]=>Z4d r n x y
 | .cpyn n,[y]=>Z9l n y
 | .clra z r n,[x]=>Z70 z r n x
 | .snap r n,[x]=>Z4m r n x
 | .snapd r n,[x,k]=>Z08 r n x k
 | .flr,[x]=>if x.flatT=true then some x else none
 | .snapx,[c,n]=>Zzw c n
 | .clrx z,[c,n,i]=>Z4s z c n i
 | .vlen,[a,b]=>Z4r a b
 | .vadd,[a,b,l]=>Z6w a b l
 | .vidx,[a,b,l]=>Z7t a b l
 | .snapv sz,[c,a,b]=>Zxf sz c a b
 | .mlk q z ok,[M,k]=>Ztj q z ok M k
 | .mup q,[M,k,x]=>Zsz q M k x
 | .mln,[M]=>Z7z M
 | .fn f,xs=>some (.fn f xs)
 | .sc,[x]=>if x.sc=true then some x else none
 | .scs,[x]=>if x.cells.all V.sc=true then some x else none
 |_,_=>none
inductive At where
 |osx (o i sz:Nat)
 |osc (o off n i sz:Nat)
 |osr (o j i sz:Nat)
 |c (v:V) (own:Bool)
 |n (i:Nat) (own sc:Bool)
 |ptr (o off:Nat)
 |ptd (o base i sz:Nat)
 |gp (g off:Nat)
 |gpd (g base i sz:Nat)
 |el (i off:Nat)
 |osl (o off len cap sz:Nat)
 |fp (m:Bool) (f:Nat) (ps:List (Nat×Nat))
 |osv (o i j sz:Nat)
 |mpp (o:Nat)
 |mpc (i:Nat)
 |nil
 deriving Inhabited
inductive Seg where
 |one (a:At)
 |many (n:Option Nat) (a:At)
 deriving Inhabited
inductive Sy where
 |at (a:At)
 |agg (ss:List Seg) (z:Option Nat)
 |tup (az:List At)
 deriving Inhabited
structure PS (X:Type) where
 vals:List X
 lits:List (Nat×Bool)
 tm:List (Nat×Sy)
 ob:List (Option (List Seg))
 g:Nat
structure PT where
 n:Nat
 tm:List (Nat×Sy)
 ob:List (Option (List Seg))
 g:Nat
 deriving Inhabited
structure RT where
 n:Nat
 res:List At
 ob:List (Option (List Seg))
 deriving Inhabited
structure FE where
 k:Nat
 f:Nat
 own:Bool
 ar:Nat
 ent:PT
 ret:Option (List RT)
 lab:List (Nat×PT)
 pl:Bool
 deriving Inhabited
structure Cfg where
 ow:Nat->Bool
 he:Nat->List FE
 gl:Nat->Option (List V)
structure Bld (X D:Type) where
 c:V->X
 fail:D
 prim:Prim->List X->Nat->(X->D)->D
 ite:X->D->D->D
 call:Nat->List X->Nat->(X->D)->D
 callv:X->List X->Nat->(X->D)->D
 callh:Nat->List X->Nat->(X->D)->D
 jmp:Nat->List X->D
 ret:List X->D
 amb:X->D->D->D
def vif (x:V)(a b:Option V):Option V:=match x with| .bool true=>a| .bool false=>b|_=>none
open Classical in
noncomputable def vamb (x:V)(a b:Option V):Option V:=match x with| .sl _ _ []=>if a=b then a else none| .sl _ _ (_::_)=>b|_=>none
abbrev Gam :=Nat->Nat->List V->Option V
def Ze4 (Γ:Gam):V->List V->Option V
 | .fn f caps,args=>Γ f 0 (args++caps)
 |_,_=>none
def oneV :List V->V
 | [x]=>x
 |xs=> .tup xs
noncomputable def BV (Γ:Gam)(f:Nat):Bld V (Option V) where
 c v:=v
 fail:=none
 prim p xs _ k:=(evp p xs).bind k
 ite:=vif
 call g xs _ k:=(Γ g 0 xs).bind k
 callv x xs _ k:=(Ze4 Γ x xs).bind k
 callh g xs _ k:=(Γ g 1 xs).bind k
 jmp l xs:=Γ f l xs
 ret xs:=some (oneV xs)
 amb:=vamb
def lk {α:Type}:List (Nat×α)->Nat->Option α
 | [],_=>none
 |(k,a)::r,t=>match Nat.beq k t with|true=>some a|false=>lk r t
def V.isNilSl :V->Bool
 | .sl true _ []=>true
 |_=>false
def At.noOwn :At->At
 | .n i _ s=> .n i false s
 |a=>a
def At.plain :At->At
 | .c v _=> .c v false
 | .n i _ _=> .n i false false
 |a=>a
def Seg.noOwn :Seg->Seg
 | .one a=> .one a.noOwn
 | .many n a=> .many n a.noOwn
def Sy.noOwn :Sy->Sy
 | .at a=> .at a.noOwn
 | .agg ss z=> .agg (ss.map Seg.noOwn) z
 | .tup az=> .tup (az.map At.noOwn)
def At.owned :At->Bool
 | .c _ o=>o
 | .n _ o _=>o
 |_=>false
def At.one :At->Bool
 | .c v _=>v.sc
 | .n _ _ s=>s
 | .ptr _ _=>true
 | .gp _ _=>true
 | .fp _ _ _=>true
 | .mpp _=>true
 |_=>false
section
variable {X D:Type}
def PS.get (S:PS X)(t:Nat):Option Sy:=lk S.tm t
def PS.put (S:PS X)(d:Option Nat)(y:Sy):PS X:=match d with|none=>S|some d=> {S with tm:=(d,y)::S.tm}
def PS.push (S:PS X)(x:X):PS X:= {S with vals:=S.vals++ [x]}
def PS.nx (S:PS X):Nat:=S.vals.length
def PS.disown (S:PS X)(t:Nat):PS X:=match S.get t with|some y=> {S with tm:=(t,y.noOwn)::S.tm}|none=>S
def PS.know (S:PS X)(i:Nat)(b:Bool):PS X:= {S with lits:=(i,b)::S.lits}
def PS.setOb (S:PS X)(o:Nat)(ss:List Seg):PS X:= {S with ob:=S.ob.set o (some ss)}
def PS.obj (S:PS X)(o:Nat):Option (List Seg):=match S.ob[o]? with|some (some ss)=>some ss|_=>none
def PS.mpo (S:PS X)(o:Nat):Option Nat:=match S.obj o with|some [.one (.mpc i)]=>some i|_=>none
def PS.cob (S:PS X)(o:Nat):Option (List Seg):=match S.obj o with|some [.one (.mpc _)]=>none|r=>r
def Zmk (v:V):Option At:=
 match v with
 | .gp g off=>some (.gp g off)
 |v=>match v.nf.clean with|true=>some (.c v.nf v.isNilSl)|false=>none
def PS.opd (S:PS X):Opd->Option Sy
 | .tmp t=>S.get t
 | .const v=>(Zmk v).map .at
def PS.valA (B:Bld X D)(S:PS X):At->Option X
 | .c v _=>some (B.c v)
 | .n i _ _=>match lk S.lits i with|some b=>some (B.c (.bool b))|none=>S.vals[i]?
 |_=>none
def segVals (B:Bld X D)(S:PS X):List Seg->Option (List (Option Nat)×List X)
 | []=>some ([],[])
 | .one a::r=>match S.valA B a,segVals B S r with|some x,some (ns,xs)=>some (none::ns,x::xs)|_,_=>none
 | .many (some n) a::r=>match S.valA B a,segVals B S r with|some x,some (ns,xs)=>some (some n::ns,x::xs)|_,_=>none
 | .many none _::_=>none
def mat (B:Bld X D)(S:PS X)(y:Option Sy)(k:X->PS X->D):D:=
 match y with
 |some (.at a)=>match S.valA B a with|some x=>k x S|none=>B.fail
 |some (.agg _ (some z))=>match S.vals[z]? with|some x=>k x S|none=>B.fail
 |some (.agg ss none)=>match segVals B S ss with|some (ns,xs)=>B.prim (.cat ns) xs S.nx fun x=>k x (S.push x)|none=>B.fail
 |some (.tup _)=>B.fail
 |none=>B.fail
def matL (B:Bld X D)(S:PS X):List Opd->(List X->PS X->D)->D
 | [],k=>k [] S
 |o::r,k=>mat B S (S.opd o) fun x S1=>matL B S1 r fun xs S2=>k (x::xs) S2
def Prim.one :Prim->Bool
 | .bin _ _| .un _| .len _| .mnx _| .idx| .sls _ _| .slc _ _ _ _| .bsl _| .app _| .mks _| .mkz _| .s2b| .b2s| .i2i _| .s2s| .chk _| .b2so _ _| .fn _| .sc| .chkd| .chkl| .rlen _| .b2sx| .cpyn _| .snapx| .mln| .vlen| .vadd| .vidx| .snapv _=>true
 | .mlk _ z ok=> !ok&&z.sc
 |_=>false
def doX (B:Bld X D)(S:PS X)(p:Prim)(xs:List X)(d:Option Nat)(own:Bool)(k:PS X->D):D:=
 B.prim p xs S.nx fun x=>k ((S.push x).put d (.at (.n S.nx own p.one)))
def doP (B:Bld X D)(S:PS X)(p:Prim)(os:List Opd)(d:Option Nat)(own:Bool)(k:PS X->D):D:=
 matL B S os fun xs S1=>doX B S1 p xs d own k
def optL :Option Opd->List Opd
 |none=> []
 |some x=> [x]
def Zi8 :AOp->Option (Prim×List Opd×Bool)
 | .ext t i=>some (.ext i,[t],false)
 | .bin op q x y=>match q with| .slice=>none| .ptr=>none|q=>some (.bin op q,[x,y],false)
 | .un op x=>some (.un op,[x],false)
 | .len s x=>some (.len s,[x],false)
 | .mnx m x y=>some (.mnx m,[x,y],false)
 | .fld n off x=>some (.fld n off,[x],false)
 | .idx x i=>some (.idx,[x,i],false)
 | .idxa l sz n x i=>some (.idxa l sz n,[x,i],false)
 | .sls x lo hi=>some (.sls lo.isSome hi.isSome,x::(optL lo++optL hi),false)
 | .slc sz x lo hi mx=>some (.slc sz lo.isSome hi.isSome mx.isSome,x::(optL lo++optL hi++optL mx),mx.isSome)
 | .bsl sz xs=>some (.bsl sz,xs,true)
 | .mks sz z l c=>match z with| []=>some (.mks sz,[l,c],true)| [z]=>(match Nat.beq sz 1&&z.flatR with|true=>some (.mkz z,[l,c],false)|false=>none)|_=>none
 | .s2b x=>some (.s2b,[x],true)
 | .b2s x=>some (.b2s,[x],false)
 | .i2i k x=>some (.i2i k,[x],false)
 | .s2s x=>some (.s2s,[x],false)
 | .mkf f xs=>some (.fn f,xs,false)
 |_=>none
def PS.truth (S:PS X):Option Sy->Option Bool
 |some (.at (.c (.bool b) _))=>some b
 |some (.at (.n i _ _))=>lk S.lits i
 |_=>none
def Zzc :V->Option IntKind
 | .int k 0=>some k
 |_=>none
def zrun (k:IntKind):List V->Nat
 |v::r=>match Zzc v with|some j=>(match decide (j=k)with|true=>zrun k r+1|false=>0)|none=>0
 | []=>0
def grp :Nat->List V->Option (List Seg)
 |0,_=>none
 |_+1,[]=>some []
 |m+1,v::r=>
  match Zzc v with
  |some k=>
   match Nat.ble 3 (zrun k r)with
   |true=>(grp m (r.drop (zrun k r))).map (.many (some (zrun k r+1)) (.c (.agg (repl (zrun k r+1) (.int k 0))) false):: ·)
   |false=>(grp m r).map (.one (.c v false):: ·)
  |none=>match v.sc,Zmk v with|true,some a=>(grp m r).map (.one a:: ·)|_,_=>none
def Seg.len :Seg->Option Nat
 | .one _=>some 1
 | .many n _=>n
def Zc6 :List Seg->Nat->Nat->Option (Seg×Nat×Nat)
 | [],_,_=>none
 |s::r,off,i=>
  match s.len with
  |none=>some (s,off,i)
  |some n=>match Nat.blt off n with|true=>some (s,off,i)|false=>Zc6 r (off-n) (i+1)
def Zby :List Seg->Nat->Option Nat
 |_,0=>some 0
 | [],_+1=>none
 |s::r,m+1=>match s.len with|some n=>(match Nat.ble n (m+1)&&Nat.ble 1 n with|true=>(Zby r (m+1-n)).map (· +1)|false=>none)|none=>none
def spl (ss:List Seg)(i:Nat)(m:Nat)(q:List Seg):List Seg:=ss.take i++q++ss.drop (i+m)
def ldIn (B:Bld X D)(S:PS X)(a:At)(n:Option Nat)(r:Nat)(k:Sy->PS X->D):D:=
 mat B S (some (.at a)) fun x S1=>B.prim (.ld n r) [x] S1.nx fun y=>k (.at (.n S1.nx false false)) (S1.push y)
def ldSegs (B:Bld X D)(S:PS X)(ss:List Seg)(i m:Nat)(k:Sy->PS X->D)(alt:D):D:=
 match Zby (ss.drop i) m with
 |some q=>
  match segVals B S ((ss.drop i).take q)with
  |some (ns,xs)=>B.prim (.cat ns) xs S.nx fun x=>k (.agg (((ss.drop i).take q).map Seg.noOwn) (some S.nx)) (S.push x)
  |none=>k (.agg (((ss.drop i).take q).map Seg.noOwn) none) S
 |none=>alt
def ldY (B:Bld X D)(S:PS X)(ss:List Seg)(off:Nat)(n:Option Nat)(k:Sy->PS X->D):D:=
 match Zc6 ss off 0,n with
 |some (.one a,0,_),none=>k (.at a.noOwn) S
 |some (.one _,0,i),some m=>ldSegs B S ss i m k B.fail
 |some (.many (some m') a,0,i),some m=>
  match Nat.beq m m'&&Nat.ble 2 m with
  |true=>k (.at a.plain) S
  |false=>ldSegs B S ss i m k (ldIn B S a n 0 k)
 |some (.many _ a,r,_),_=>ldIn B S a n r k
 |_,_=>B.fail
def ldAt (B:Bld X D)(S:PS X)(ss:List Seg)(off:Nat)(n:Option Nat)(d:Option Nat)(k:PS X->D):D:=ldY B S ss off n fun y S'=>k (S'.put d y)
def asSegs (B:Bld X D)(S:PS X)(n:Nat)(y:Sy)(mny:Bool)(k:List Seg->PS X->D):D:=
 match y with
 | .tup _=>B.fail
 | .agg q z=>match Zby q n with|some m=>(match Nat.beq m q.length with|true=>(match mny,z with|true,some z=>k [.many (some n) (.n z false false)] S|_,_=>k q S)|false=>B.fail)|none=>B.fail
 | .at a=>
  match n with
  |1=>match a.one with
   |true=>k [.one a.noOwn] S
   |false=>mat B S (some (.at a)) fun x S1=>B.prim .sc [x] S1.nx fun z=>k [.one (.n S1.nx false true)] (S1.push z)
  |n=>mat B S (some (.at a)) fun x S1=>B.prim (.cat [some n]) [x] S1.nx fun z=>k [.many (some n) (.n S1.nx false false)] (S1.push z)
def stAt (B:Bld X D)(S:PS X)(o:Nat)(ss:List Seg)(off n:Nat)(y:Sy)(d:Option Nat)(k:PS X->D):D:=
 match Zc6 ss off 0 with
 |some (s,r,i)=>
  match(match r with|0=>Zby (ss.drop i) n|_+1=>none)with
  |some m=>asSegs B S n y (match s with| .many (some n') _=>Nat.beq n n'|_=>false) fun q S1=>k ((S1.setOb o (spl ss i m q)).put d (.at .nil))
  |none=>
   match s with
   | .many sn a=>mat B S (some (.at a)) fun x S1=>mat B S1 (some y) fun z S2=>B.prim (.set n r) [x,z] S2.nx fun w=>k (((S2.push w).setOb o (spl ss i 1 [.many sn (.n S2.nx false false)])).put d (.at .nil))
   | .one _=>B.fail
 |none=>B.fail
def At.isVal :At->Bool
 | .c _ _=>true
 | .n _ _ _=>true
 |_=>false
def Seg.isVal :Seg->Bool
 | .one a=>a.isVal
 | .many _ a=>a.isVal
def Zoj :Option Sy->Option At
 |some (.at a)=>match a.isVal||a.one with|true=>some a|false=>none
 |some (.agg _ (some z))=>some (.n z false false)
 |_=>none
def Zdq (S:PS X):List (Nat×Nat×Opd)->Option (List At)
 | []=>some []
 |p::r=>match Zoj (S.opd p.2.2),Zdq S r with|some a,some l=>some (a::l)|_,_=>none
def Z0q (S:PS X)(ps:List (Nat×Nat×Opd)):Bool:=ps.all fun p=>Nat.beq p.2.1 1&&(match S.opd p.2.2 with|some (.at a)=>a.one|_=>false)
def Zju (n:Nat):Option Nat:=match n with|1=>none|n=>some n
def Zgc (n:Nat)(a:At):Seg:=match n with|1=> .one a.noOwn|n=> .many (some n) a.plain
def Zng :Nat->List (Nat×Nat×Opd)->Option Nat
 |o,[]=>some o
 |o,p::r=>match Nat.beq p.1 o with|true=>Zng (o+p.2.1) r|false=>none
def Zii :List (Nat×Nat×Opd)->List At->List Seg
 |p::r,a::l=>Zgc p.2.1 a::Zii r l
 |_,_=> []
def Ztd (ss:List Seg):List (Nat×Nat×Opd)->List At->Option (List Seg)
 | [],_=>some ss
 |p::r,a::l=>
  (match Zc6 ss p.1 0 with
  |some (_,0,i)=>match Zby (ss.drop i) p.2.1 with|some m=>Ztd (spl ss i m [Zgc p.2.1 a]) r l|none=>none
  |_=>none)
 |_::_,[]=>none
end
end Go.Abs
namespace Go.Abs
section
variable {X D:Type}
def bldR (B:Bld X D)(S:PS X)(z:List V)(ps:List (Nat×Nat×Opd))(d:Option Nat)(k:PS X->D)(ats:List At):D:=
 match Z0q S ps with
 |true=>
  (match(match Zng 0 ps with|some e=>Nat.beq e z.length|none=>false)with
  |true=>k (S.put d (.agg (Zii ps ats) none))
  |false=>
   match grp (z.length+1) z with
   |some ss=>(match Ztd ss ps ats with|some q=>k (S.put d (.agg q none))|none=>B.fail)
   |none=>B.fail)
 |false=>B.fail
def bldP (B:Bld X D)(S:PS X)(z:List V)(ps:List (Nat×Nat×Opd))(d:Option Nat)(k:PS X->D):D:=
 match Zdq S ps with
 |some ats=>
  match ats.any fun a=> !a.isVal with
  |true=>bldR B S z ps d k ats
  |false=>
  matL B S (ps.map (·.2.2)) fun xs S1=>B.prim (.cat (ps.map fun p=>Zju p.2.1)) xs S1.nx fun y=>
   match(match Zng 0 ps with|some e=>Nat.beq e z.length|none=>false)with
   |true=>k ((S1.push y).put d (.agg (Zii ps ats) (some S1.nx)))
   |false=>
    match grp (z.length+1) z with
    |some ss=>
     (match Ztd ss ps ats with
     |some q=>(match segVals B (S1.push y) q with
      |some (ns,ys)=>B.prim (.cat ns) ys (S1.push y).nx fun w=>k (((S1.push y).push w).put d (.agg q (some (S1.push y).nx)))
      |none=>B.fail)
     |none=>B.fail)
    |none=>B.fail
 |none=>B.fail
def PS.newOb (S:PS X)(ss:List Seg):PS X:= {S with ob:=S.ob++ [some ss]}
def mO (no:Nat)(ρ:List (Nat×Nat))(k o:Nat):Option (List (Nat×Nat)):=
 match Nat.blt k no with
 |true=>match lk ρ k with
  |some o'=>(match Nat.beq o o' with|true=>some ρ|false=>none)
  |none=>(match ρ.any (fun p=>Nat.beq p.2 o)with|true=>none|false=>some ((k,o)::ρ))
 |false=>none
def mPs (no:Nat):List (Nat×Nat)->List (Nat×Nat)->List (Nat×Nat)->Option (List (Nat×Nat))
 | [],[],ρ=>some ρ
 |(k,off)::r,(o,off')::q,ρ=>match Nat.beq off off',mO no ρ k o with|true,some ρ'=>mPs no r q ρ'|_,_=>none
 |_,_,_=>none
def mAt (B:Bld X D)(S:PS X)(no:Nat)(T y:At)(ρ:List (Nat×Nat))(acc:List X):Option (List (Nat×Nat)×List X):=
 match T,y with
 | .ptr k off, .ptr o off'=>match Nat.beq off off',mO no ρ k o with|true,some ρ'=>some (ρ',acc)|_,_=>none
 | .gp o off, .gp o' off'=>match Nat.beq o o'&&Nat.beq off off' with|true=>some (ρ,acc)|false=>none
 | .osl k off n c s, .osl o off' n' c' s'=>match Nat.beq off off'&&Nat.beq n n'&&Nat.beq c c'&&Nat.beq s s',mO no ρ k o with|true,some ρ'=>some (ρ',acc)|_,_=>none
 | .osx k i s, .osx o j s'=>match Nat.beq i acc.length&&Nat.beq s s',S.vals[j]?,mO no ρ k o with|true,some x,some ρ'=>some (ρ',acc++ [x])|_,_,_=>none
 | .osv k i j s, .osv o i' j' s'=>match Nat.beq i acc.length&&Nat.beq j (acc.length+1)&&Nat.beq s s',S.vals[i']?,S.vals[j']?,mO no ρ k o with|true,some x,some y,some ρ'=>some (ρ',acc++ [x,y])|_,_,_,_=>none
 | .osv k i j s, .osx o j' s'=>match Nat.beq i acc.length&&Nat.beq j (acc.length+1)&&Nat.beq s s',S.vals[j']?,mO no ρ k o with|true,some y,some ρ'=>some (ρ',acc++ [B.c (.int .i64 0),y])|_,_,_=>none
 | .fp m f ps, .fp m' f' ps'=>match Bool.xor m m'|| !Nat.beq f f',mPs no ps ps' ρ with|false,some ρ'=>some (ρ',acc)|_,_=>none
 | .el i off, .el j off'=>match Nat.beq i acc.length&&Nat.beq off off',S.vals[j]? with|true,some x=>some (ρ,acc++ [x])|_,_=>none
 | .n i own sc,y=>match Nat.beq i acc.length&&(!own||y.owned)&&(!sc||y.one),S.valA B y with|true,some x=>some (ρ,acc++ [x])|_,_=>none
 | .c .nilptr false, .c .nilptr _=>some (ρ,acc)
 | .mpp k, .mpp o=>match mO no ρ k o with|some ρ'=>some (ρ',acc)|none=>none
 | .mpc i, .mpc j=>match Nat.beq i acc.length,S.vals[j]? with|true,some x=>some (ρ,acc++ [x])|_,_=>none
 |_,_=>none
def mSegs (B:Bld X D)(S:PS X)(no:Nat):List Seg->List Seg->List (Nat×Nat)->List X->Option (List (Nat×Nat)×List X)
 | [],[],ρ,acc=>some (ρ,acc)
 | .one a::r, .one b::q,ρ,acc=>match mAt B S no a b ρ acc with|some (ρ,acc)=>mSegs B S no r q ρ acc|none=>none
 | .many (some n) a::r, .many (some m) b::q,ρ,acc=>match Nat.beq n m,mAt B S no a b ρ acc with|true,some (ρ,acc)=>mSegs B S no r q ρ acc|_,_=>none
 | .many none a::r, .many none b::q,ρ,acc=>match mAt B S no a b ρ acc with|some (ρ,acc)=>mSegs B S no r q ρ acc|none=>none
 |_,_,_,_=>none
def mObs (B:Bld X D)(S:PS X)(no:Nat):List (Option (List Seg))->Nat->List (Nat×Nat)->List X->Option (List (Nat×Nat)×List X)
 | [],_,ρ,acc=>some (ρ,acc)
 |q::r,k,ρ,acc=>
  match lk ρ k with
  |some o=>(match Nat.blt o S.ob.length with
   |true=>(match q with
    |none=>mObs B S no r (k+1) ρ acc
    |some ss=>match S.obj o with
     |some qs=>(match mSegs B S no ss qs ρ acc with|some (ρ,acc)=>mObs B S no r (k+1) ρ acc|none=>none)
     |none=>none)
   |false=>none)
  |none=>none
def mAts (B:Bld X D)(S:PS X)(no:Nat):List At->List At->List (Nat×Nat)->List X->Option (List (Nat×Nat)×List X)
 | [],[],ρ,acc=>some (ρ,acc)
 |a::r,b::q,ρ,acc=>match mAt B S no a b ρ acc with|some (ρ,acc)=>mAts B S no r q ρ acc|none=>none
 |_,_,_,_=>none
def mArgs (B:Bld X D)(S:PS X)(no:Nat)(az:List At):List (Nat×Sy)->List (Nat×Nat)->List X->Option (List (Nat×Nat)×List X)
 | [],ρ,acc=>some (ρ,acc)
 |(t, .at a)::r,ρ,acc=>(match az[t]? with|some b=>(match mAt B S no a b ρ acc with|some (ρ,acc)=>mArgs B S no az r ρ acc|none=>none)|none=>none)
 |_::_,_,_=>none
def fitE (B:Bld X D)(S:PS X)(E:FE)(az:List At):Option (List (Nat×Nat)×List X):=
 match Nat.beq az.length E.ar&&Nat.beq E.ent.g E.ent.ob.length with
 |true=>match mArgs B S E.ent.g az E.ent.tm [] []with
  |some (ρ,acc)=>match mObs B S E.ent.g E.ent.ob 0 ρ acc with
   |some (ρ,xs)=>(match Nat.beq xs.length E.ent.n with|true=>some (ρ,xs)|false=>none)
   |none=>none
  |none=>none
 |false=>none
def pickE (B:Bld X D)(S:PS X)(az:List At):List FE->Option (FE×List (Nat×Nat)×List X)
 | []=>none
 |E::r=>match fitE B S E az with|some q=>some (E,q)|none=>pickE B S az r
def rnPs (ρ:List (Nat×Nat)):List (Nat×Nat)->Option (List (Nat×Nat))
 | []=>some []
 |(k,off)::r=>match lk ρ k,rnPs ρ r with|some o,some q=>some ((o,off)::q)|_,_=>none
def rnAt (ρ:List (Nat×Nat))(b:Nat):At->Option At
 | .c v o=>some (.c v o)
 | .n i o s=>some (.n (b+i) o s)
 | .ptr k off=>match lk ρ k with|some o=>some (.ptr o off)|none=>none
 | .gp g off=>some (.gp g off)
 | .el i off=>some (.el (b+i) off)
 | .osl k off n c s=>match lk ρ k with|some o=>some (.osl o off n c s)|none=>none
 | .osx k i s=>match lk ρ k with|some o=>some (.osx o (b+i) s)|none=>none
 | .fp m f ps=>match rnPs ρ ps with|some q=>some (.fp m f q)|none=>none
 | .mpp k=>match lk ρ k with|some o=>some (.mpp o)|none=>none
 | .mpc i=>some (.mpc (b+i))
 |_=>none
def Zmq (ρ:List (Nat×Nat))(b:Nat):List At->Option (List At)
 | []=>some []
 |a::r=>match rnAt ρ b a,Zmq ρ b r with|some x,some l=>some (x::l)|_,_=>none
def Zhy (ρ:List (Nat×Nat))(b:Nat):List Seg->Option (List Seg)
 | []=>some []
 | .one a::r=>match rnAt ρ b a,Zhy ρ b r with|some x,some l=>some (.one x::l)|_,_=>none
 | .many n a::r=>match rnAt ρ b a,Zhy ρ b r with|some x,some l=>some (.many n x::l)|_,_=>none
def rlk :List (Nat×Nat)->Nat->Option Nat
 | [],_=>none
 |(k,o)::r,t=>match Nat.beq o t with|true=>some k|false=>rlk r t
def mapI {α β:Type}(f:Nat->α->β):Nat->List α->List β
 |_,[]=> []
 |i,a::r=>f i a::mapI f (i+1) r
def rnO (ρ:List (Nat×Nat))(b:Nat)(q:Option (Option (List Seg))):Option (List Seg):=match q with|some (some ss)=>Zhy ρ b ss|_=>none
def newR :Nat->Nat->Nat->List (Nat×Nat)
 |0,_,_=> []
 |n+1,k,o=>(k,o)::newR n (k+1) (o+1)
def PS.after (S:PS X)(g:Nat)(ρ:List (Nat×Nat))(rt:RT)(xs:List X):List (Nat×Nat)×PS X:=
 let ρ':=ρ++newR (rt.ob.length-g) g S.ob.length
 (ρ', {S with vals:=S.vals++xs,ob:=mapI (fun o q=>match rlk ρ' o with|some k=>rnO ρ' S.vals.length rt.ob[k]? |none=>q) 0 (S.ob++List.replicate (rt.ob.length-g) none)})
def putRs (B:Bld X D)(S:PS X)(d:Option Nat)(k:PS X->D):Option (List At)->D
 |some [a]=>k (S.put d (.at a))
 |some az=>k (S.put d (.tup az))
 |none=>B.fail
def unp (B:Bld X D)(v:X):Nat->Nat->Nat->(List X->D)->D
 |0,_,_,k=>k []
 |n+1,i,nx,k=>B.prim (.ext i) [v] nx fun x=>unp B v n (i+1) (nx+1) fun xs=>k (x::xs)
def unpR (B:Bld X D)(tag:Bool)(v:X)(n nx:Nat)(k:List X->D):D:=
 match tag,n with
 |false,1=>k [v]
 |false,n=>unp B v n 0 nx k
 |true,n=>unp B v n 1 nx k
def callRs (B:Bld X D)(S:PS X)(g:Nat)(ρ:List (Nat×Nat))(d:Option Nat)(tag:Bool)(v:X)(rt:RT)(k:PS X->D):D:=
 match Nat.ble g rt.ob.length with
 |true=>unpR B tag v rt.n S.nx fun xs=>putRs B (S.after g ρ rt xs).2 d k (Zmq (S.after g ρ rt xs).1 S.vals.length rt.res)
 |false=>B.fail
def swR (B:Bld X D)(t:X)(k:PS X->RT->D):PS X->Int->List RT->D
 |_,_,[]=>B.fail
 |S,_,[rt]=>k S rt
 |S,j,rt::r=>B.prim (.bin .eql .no) [t,B.c (.int .i64 j)] S.nx fun b=>B.ite b (k (S.push b) rt) (swR B t k (S.push b) (j+1) r)
def callE (B:Bld X D)(S:PS X)(d:Option Nat)(k:PS X->D):Option (FE×List (Nat×Nat)×List X)->D
 |some (E,ρ,xs)=>match E.ret with
  |some [rt]=>B.callh E.k xs S.nx fun v=>callRs B (S.push v) E.ent.g ρ d false v rt k
  |some rts=>B.callh E.k xs S.nx fun v=>B.prim (.ext 0) [v] (S.nx+1) fun t=>swR B t (fun S1 rt=>callRs B S1 E.ent.g ρ d true v rt k) ((S.push v).push t) 0 rts
  |none=>B.fail
 |none=>B.fail
def atO (B:Bld X D)(S:PS X)(y:Option Sy)(k:At->PS X->D):D:=
 match y with
 |some (.at a)=>k a S
 |some (.agg _ (some z))=>k (.n z false false) S
 |some (.agg ss none)=>match segVals B S ss with|some (ns,xs)=>B.prim (.cat ns) xs S.nx fun x=>k (.n S.nx false false) (S.push x)|none=>B.fail
 |_=>B.fail
def atsO (B:Bld X D)(S:PS X):List Opd->(List At->PS X->D)->D
 | [],k=>k [] S
 |o::r,k=>atO B S (S.opd o) fun a S1=>atsO B S1 r fun az S2=>k (a.noOwn::az) S2
def At.isPtr :At->Bool
 | .ptr _ _=>true
 | .osl _ _ _ _ _=>true
 | .osx _ _ _=>true
 | .osv _ _ _ _=>true
 | .fp _ _ (_::_)=>true
 | .mpp _=>true
 |_=>false
def Zol (S:PS X):List Opd->Option (List (Nat×Nat))
 | []=>some []
 |x::r=>match S.opd x,Zol S r with|some (.at (.ptr o off)),some l=>some ((o,off)::l)|_,_=>none
def Z1g (ps:List (Nat×Nat)):List At:=ps.map fun p=> .ptr p.1 p.2
def Zz2 (m:Bool)(az:List At)(ps:List (Nat×Nat)):List At:=match m with|true=>Z1g ps++az|false=>az++Z1g ps
def coal (B:Bld X D)(S:PS X)(o off n:Nat)(k:PS X->D):D:=
 match S.cob o with
 |some ss=>match Zc6 ss off 0 with
  |some (.many _ _,_,_)=>k S
  |some (.one _,0,i)=>match Zby (ss.drop i) n with
   |some q=>(match segVals B S ((ss.drop i).take q)with
    |some (ns,xs)=>B.prim (.cat ns) xs S.nx fun x=>k ((S.push x).setOb o (spl ss i q [.many (some n) (.n S.nx false false)]))
    |none=>B.fail)
   |none=>B.fail
  |_=>B.fail
 |none=>B.fail
def mseg (n:Nat)(a:At):List Seg:=match n with|0=> []|n+1=> [.many (some (n+1)) a]
def splitO (B:Bld X D)(S:PS X)(o off:Nat)(k:PS X->D):D:=
 match S.cob o with
 |some ss=>match Zc6 ss off 0 with
  |some (.many (some m) a,r,i)=>match S.valA B a with
   |some x=>B.prim (.ld (some r) 0) [x] S.nx fun y1=>B.prim (.ld none r) [x] (S.nx+1) fun y0=>B.prim (.ld (some (m-r-1)) (r+1)) [x] (S.nx+2) fun y2=>
     k ((((S.push y1).push y0).push y2).setOb o (spl ss i 1 (mseg r (.n S.nx false false)++(.one (.n (S.nx+1) false true)::mseg (m-r-1) (.n (S.nx+2) false false)))))
   |none=>B.fail
  |_=>k S
 |none=>B.fail
def onO (B:Bld X D)(S:PS X)(x:Opd)(k:Sy->D):D:=match S.opd x with|some y=>k y|none=>B.fail
def Zcp (b:Bool):Sy:= .at (.c (.bool b) false)
def Qac (n:Nat):Sy:= .at (.c (.int .i64 n) false)
def rowVal (B:Bld X D)(S:PS X)(o:Nat):Option X:=match S.cob o with|some [.many none a]=>S.valA B a|_=>none
def PS.dropOb (S:PS X)(o:Nat):PS X:= {S with ob:=S.ob.set o none}
def Zt8 :Option Sy->Bool
 |some (.at (.osl _ _ _ _ _))=>true
 |some (.at (.osc _ _ _ _ _))=>true
 |some (.at (.osx _ _ _))=>true
 |some (.at (.osv _ _ _ _))=>true
 |_=>false
def snapO (B:Bld X D)(S:PS X)(y:Option Sy)(k:X->PS X->D):D:=
 match y with
 |some (.at (.osl o off n _ 1))=>(match S.cob o,Nat.blt 0 n with
  |some ss,true=>(match Zc6 ss off 0 with
   |some (.many _ a,r,_)=>mat B S (some (.at a)) fun x S1=>B.prim (.snap r n) [x] S1.nx fun z=>k z (S1.push z)
   |_=>B.fail)
  |_,_=>B.fail)
 |some (.at (.osc o off n i 1))=>(match S.cob o,S.vals[i]? with
  |some ss,some j=>(match Zc6 ss off 0 with
   |some (.many _ a,r,_)=>mat B S (some (.at a)) fun x S1=>B.prim (.snapd r n) [x,j] S1.nx fun z=>k z (S1.push z)
   |_=>B.fail)
  |_,_=>B.fail)
 |some (.at (.osx o j sz))=>(match rowVal B S o,S.vals[j]?,sz with
  |some c,some n,1=>B.prim .snapx [c,n] S.nx fun z=>k z (S.push z)
  |some c,some n,sz=>B.prim (.snapv sz) [c,B.c (.int .i64 0),n] S.nx fun z=>k z (S.push z)
  |_,_,_=>B.fail)
 |some (.at (.osv o i j sz))=>(match rowVal B S o,S.vals[i]?,S.vals[j]? with
  |some c,some a,some b=>B.prim (.snapv sz) [c,a,b] S.nx fun z=>k z (S.push z)
  |_,_,_=>B.fail)
 |y=>mat B S y k
def Z0a (sz:Nat):Option Sy->Bool
 |some (.at (.osl _ _ _ _ s))=>Nat.beq s sz
 |some (.at (.osc _ _ _ _ s))=>Nat.beq s sz
 |some (.at (.osx _ _ s))=>Nat.beq s sz
 |some (.at (.osv _ _ _ s))=>Nat.beq s sz
 |some (.at (.n _ _ _))=>true
 |some (.at (.c _ _))=>true
 |some (.agg _ _)=>true
 |_=>false
def Zws :Option Sy->Bool
 |some (.at (.osx _ _ _))=>true
 |some (.at (.osv _ _ _ _))=>true
 |_=>false
def snapA (B:Bld X D):Bool->PS X->List Opd->(List X->PS X->D)->D
 |_,S,[],k=>k [] S
 |fl,S,o::r,k=>match fl&&Zws (S.opd o)with
  |true=>B.fail
  |false=>snapO B S (S.opd o) fun x S1=>snapA B (fl||Zws (S.opd o)) S1 r fun xs S2=>k (x::xs) S2
def Qbp (S:PS X)(xs:List Opd):Bool:=xs.any fun x=>match S.opd x with|some (.at a)=>a.isPtr|_=>false
def mapV (B:Bld X D)(S:PS X):Option Sy->Option X
 |some (.at (.mpp o))=>(S.mpo o).bind fun i=>S.vals[i]?
 |some (.at (.c .nilmap _))=>some (B.c (mpV []))
 |_=>none
def op1 (B:Bld X D)(ow:Cfg)(d:Option Nat)(op:AOp)(S:PS X)(k:PS X->D):D:=
 match op with
 | .mv x=>onO B S x fun y=>k (S.put d y.noOwn)
 | .mvo t=>match S.get t with|some (.at a)=>k ((S.disown t).put d (.at a))|_=>B.fail
 | .pick c a b=>
  match S.truth (S.opd c)with
  |some true=>onO B S a fun y=>k (S.put d y.noOwn)
  |some false=>onO B S b fun y=>k (S.put d y.noOwn)
  |none=>doP B S .pick [c,a,b] d false k
 | .un op x=>
  match op,S.truth (S.opd x)with
  | .not,some b=>k (S.put d (Zcp !b))
  |op,_=>doP B S (.un op) [x] d false k
 | .bin op q x y=>
  match q with
  | .slice=>
   match op,y with
   | .eql, .const (.sl true _ [])=>(match S.opd x with
    |some (.at (.osx _ j _))=>(match S.vals[j]? with|some n=>B.prim .chkd [n,B.c (.int .i64 0)] S.nx fun q=>k ((S.push q).put d (Zcp false))|none=>B.fail)
    |y0=>mat B S y0 fun v S1=>B.amb v (k (S1.put d (Zcp true))) (k (S1.put d (Zcp false))))
   | .neq, .const (.sl true _ [])=>(match S.opd x with
    |some (.at (.osx _ j _))=>(match S.vals[j]? with|some n=>B.prim .chkd [n,B.c (.int .i64 0)] S.nx fun q=>k ((S.push q).put d (Zcp true))|none=>B.fail)
    |y0=>mat B S y0 fun v S1=>B.amb v (k (S1.put d (Zcp false))) (k (S1.put d (Zcp true))))
   |_,_=>B.fail
  | .ptr=>
   match S.opd x,S.opd y with
   |some (.at (.ptr _ _)),some (.at (.c .nilptr _))=>(match op with| .eql=>k (S.put d (Zcp false))| .neq=>k (S.put d (Zcp true))|_=>B.fail)
   |some (.at (.c .nilptr _)),some (.at (.c .nilptr _))=>(match op with| .eql=>k (S.put d (Zcp true))| .neq=>k (S.put d (Zcp false))|_=>B.fail)
   |_,_=>B.fail
  |q=>
   match S.opd x,S.opd y with
   |some (.at (.c v _)),some (.at (.c w _))=>(match abin op q v w with|some z=>k (S.put d (.at (.c z false)))|none=>B.fail)
   |_,_=>doP B S (.bin op q) [x,y] d false k
 | .len s x=>
  match s,S.opd x with
  |false,some (.at (.osl _ _ n _ _))=>k (S.put d (Qac n))
  |false,some (.at (.osx _ i _))=>k (S.put d (.at (.n i false true)))
  |false,some (.at (.osv _ i j _))=>(match S.vals[i]?,S.vals[j]? with|some a,some b=>doX B S .vlen [a,b] d false k|_,_=>B.fail)
  |s,_=>doP B S (.len s) [x] d false k
 | .iaddr sz x i=>
  match S.opd x with
  |some (.at (.osx o j s))=>
   (match Nat.beq s sz,S.vals[j]? with
   |true,some n=>matL B S [i] fun xs S1=>B.prim .chkd (n::xs) S1.nx fun q=>k ((S1.push q).put d (.at (.ptd o 0 S1.nx sz)))
   |_,_=>B.fail)
  |some (.at (.osv o i' j' s))=>
   (match Nat.beq s sz,S.vals[i']?,S.vals[j']? with
   |true,some a,some b=>matL B S [i] fun xs S1=>B.prim .vidx (a::b::xs) S1.nx fun q=>k ((S1.push q).put d (.at (.ptd o 0 S1.nx sz)))
   |_,_,_=>B.fail)
  |some (.at (.osl o off n _ s))=>
   (match Nat.beq s sz with
   |true=>matL B S [i] fun xs S1=>B.prim (.chk n) xs S1.nx fun j=>k ((S1.push j).put d (.at (.ptd o off S1.nx sz)))
   |false=>B.fail)
  |_=>matL B S [x,i] fun xs S1=>B.prim (.elem sz) xs S1.nx fun e=>k ((S1.push e).put d (.at (.el S1.nx 0)))
 | .iarr n sz x i=>
  match S.opd x,i with
  |some (.at (.ptr o off)), .const (.int _ (.ofNat j))=>(match Nat.blt j n with|true=>k (S.put d (.at (.ptr o (off+j*sz))))|false=>B.fail)
  |some (.at (.ptr o off)),i=>coal B S o off (n*sz) fun S=>matL B S [i] fun xs S1=>B.prim (.chk n) xs S1.nx fun j=>k ((S1.push j).put d (.at (.ptd o off S1.nx sz)))
  |some (.at (.gp o off)),i=>matL B S [i] fun xs S1=>B.prim (.chk n) xs S1.nx fun j=>k ((S1.push j).put d (.at (.gpd o off S1.nx sz)))
  |_,_=>B.fail
 | .faddr off x=>
  match S.opd x with
  |some (.at (.ptr o a))=>k (S.put d (.at (.ptr o (a+off))))
  |some (.at (.el i a))=>k (S.put d (.at (.el i (a+off))))
  |some (.at (.ptd o b i sz))=>k (S.put d (.at (.ptd o (b+off) i sz)))
  |some (.at (.gp g a))=>k (S.put d (.at (.gp g (a+off))))
  |_=>B.fail
 | .load n x=>
  match S.opd x with
  |some (.at (.ptr o off))=>(match S.cob o with|some ss=>ldAt B S ss off n d k|none=>B.fail)
  |some (.at (.ptd o b i sz))=>(match S.cob o with
   |some ss=>(match Zc6 ss b 0,S.vals[i]? with
    |some (.many _ a,r,_),some j=>mat B S (some (.at a)) fun x S1=>doX B S1 (.ldd n r sz) [x,j] d false k
    |_,_=>B.fail)
   |none=>B.fail)
  |some (.at (.el i off))=>(match S.vals[i]? with|some x=>doX B S (.ld n off) [x] d false k|none=>B.fail)
  |some (.at (.gp g off))=>(match ow.gl g with|some cs=>doX B S (.ld n off) [B.c (.agg cs)] d false k|none=>B.fail)
  |some (.at (.gpd g b i sz))=>(match ow.gl g,S.vals[i]? with|some cs,some j=>doX B S (.ldd n b sz) [B.c (.agg cs),j] d false k|_,_=>B.fail)
  |_=>B.fail
 | .ldp n x=>
  match S.opd x with
  |some (.at (.el i off))=>(match S.vals[i]? with|some x=>doX B S (.ld n off) [x] d false k|none=>B.fail)
  |some (.at (.gp g off))=>(match ow.gl g with|some cs=>doX B S (.ld n off) [B.c (.agg cs)] d false k|none=>B.fail)
  |some (.at (.gpd g b i sz))=>(match ow.gl g,S.vals[i]? with|some cs,some j=>doX B S (.ldd n b sz) [B.c (.agg cs),j] d false k|_,_=>B.fail)
  |_=>B.fail
 | .ldo x=>
  match S.opd x with
  |some (.at (.ptr o off))=>(match S.cob o with
   |some ss=>(match Zc6 ss off 0 with
    |some (.one a,0,i)=>k ((S.setOb o (spl ss i 1 [.one a.noOwn])).put d (.at a))
    |_=>B.fail)
   |none=>B.fail)
  |_=>B.fail
 | .fld n off x=>
  match S.opd x with
  |some (.agg ss _)=>ldAt B S ss off n d k
  |_=>doP B S (.fld n off) [x] d false k
 | .slca n sz x lo hi mx=>
  match S.opd x,lo,hi,mx with
  |some (.at (.ptr o off)),none,none,none=>(match S.cob o with
   |some ss=>(match Zc6 ss off 0 with
    |some (.many (some m) _,r,i)=>(match Nat.ble (r+n*sz) m,Nat.blt 0 (n*sz)with|true,true=>k (S.put d (.at (.osl o off n n sz)))|_,_=>B.fail)
    |some (_,0,i)=>(match Zby (ss.drop i) (n*sz),Nat.blt 0 (n*sz)with|some _,true=>k (S.put d (.at (.osl o off n n sz)))|_,_=>B.fail)
    |_=>B.fail)
   |none=>B.fail)
  |_,_,_,_=>B.fail
 | .slc sz x lo hi mx=>
  match S.opd x with
  |some (.at (.osv o i j s))=>(match Nat.beq s sz,lo,hi,mx,S.vals[i]?,S.vals[j]? with
   |true,some l,none,none,some a,some b=>matL B S [l] fun xs S1=>B.prim .vadd (a::b::xs) S1.nx fun q=>k ((S1.push q).put d (.at (.osv o S1.nx j sz)))
   |true,none,some h,none,some a,some b=>matL B S [h] fun xs S1=>B.prim .vadd (a::b::xs) S1.nx fun q=>k ((S1.push q).put d (.at (.osv o i S1.nx sz)))
   |_,_,_,_,_,_=>B.fail)
  |some (.at (.osx o j s))=>(match Nat.beq s sz,lo,hi,mx,S.vals[j]? with
   |true,some l,none,none,some n=>(match Nat.beq sz 1 with
    |true=>matL B S [l] fun xs S1=>B.prim .chkd (n::xs) S1.nx fun q=>k ((S1.push q).put d (.at (.osr o j S1.nx sz)))
    |false=>matL B S [l] fun xs S1=>B.prim .vadd (B.c (.int .i64 0)::n::xs) S1.nx fun q=>k ((S1.push q).put d (.at (.osv o S1.nx j sz))))
   |true,none,some h,none,some n=>matL B S [h] fun xs S1=>B.prim .chkl (n::xs) S1.nx fun q=>k ((S1.push q).put d (.at (.osx o S1.nx sz)))
   |_,_,_,_,_=>B.fail)
  |some (.at (.osl o off n c s))=>(match Nat.beq s sz&&Nat.ble n c,lo,hi,mx with
   |true,some l,none,none=>matL B S [l] fun xs S1=>B.prim (.chk n) xs S1.nx fun q=>k ((S1.push q).put d (.at (.osc o off n S1.nx sz)))
   |_,_,_,_=>B.fail)
  |_=>doP B S (.slc sz lo.isSome hi.isSome mx.isSome) (x::(optL lo++optL hi++optL mx)) d mx.isSome k
 | .nro sz=>k (((S.push (B.c (.int .i64 0))).newOb [.many none (.c (.agg []) false)]).put d (.at (.osx S.ob.length S.nx sz)))
 | .mko sz z l c=>
  match sz,z with
  |1,[z0]=>(match z0.flatR with
   |true=>matL B S [l,c] fun xs S1=>B.prim (.rmk z0) xs S1.nx fun y=>(match xs with
    |n::_=>B.prim (.rlen 1) [n,B.c (.sl false 1 [])] (S1.nx+1) fun m=>k ((((S1.push y).push m).newOb [.many none (.n S1.nx false false)]).put d (.at (.osx S.ob.length (S1.nx+1) 1)))
    | []=>B.fail)
   |false=>B.fail)
  |_,_=>B.fail
 | .appo sz s x=>
  match S.opd s with
  |some (.at (.osx o j s'))=>(match Nat.beq s' sz&&Z0a sz (S.opd x),rowVal B S o,S.vals[j]? with
   |true,some c,some n=>snapO B S (S.opd x) fun v S1=>B.prim (.rapp sz) [c,n,v] S1.nx fun y=>B.prim (.rlen sz) [n,v] (S1.nx+1) fun m=>
      k (((((S1.push y).push m).dropOb o).newOb [.many none (.n S1.nx false false)]).put d (.at (.osx S.ob.length (S1.nx+1) sz)))
   |_,_,_=>B.fail)
  |_=>B.fail
 | .cpy x s=>
  match S.opd x with
  |some (.at (.osl o off n _ 1))=>(match S.cob o,Nat.blt 0 n with
   |some ss,true=>(match Zc6 ss off 0 with
    |some (.many sn a,r,i)=>mat B S (some (.at a)) fun c S1=>matL B S1 [s] fun xs S2=>(match xs with
     | [v]=>B.prim (.cpya r n) [c,v] S2.nx fun w=>B.prim (.cpyn n) [v] (S2.nx+1) fun m=>
       k ((((S2.push w).push m).setOb o (spl ss i 1 [.many sn (.n S2.nx false false)])).put d (.at (.n (S2.nx+1) false true)))
     |_=>B.fail)
    |_=>B.fail)
   |_,_=>B.fail)
  |_=>B.fail
 | .clr z x=>
  match S.opd x,z with
  |some (.at (.osr o j i 1)),[z0]=>(match rowVal B S o,S.vals[j]?,S.vals[i]?,z0.flatR with
   |some c,some n,some p,true=>B.prim (.clrx z0) [c,n,p] S.nx fun w=>k (((S.push w).setOb o [.many none (.n S.nx false false)]).put d (.at .nil))
   |_,_,_,_=>B.fail)
  |some (.at (.osl o off n _ 1)),[z0]=>(match S.cob o,Nat.blt 0 n&&z0.flatR with
   |some ss,true=>(match Zc6 ss off 0 with
    |some (.many sn a,r,i)=>mat B S (some (.at a)) fun c S1=>B.prim (.clra z0 r n) [c] S1.nx fun w=>
       k (((S1.push w).setOb o (spl ss i 1 [.many sn (.n S1.nx false false)])).put d (.at .nil))
    |_=>B.fail)
   |_,_=>B.fail)
  |_,_=>B.fail
 | .build z ps=>bldP B S z ps d k
 | .app sz s x=>
  match S.opd s with
  |some (.at a)=>match a.owned with
   |true=>matL B S [s,x] fun xs S1=>doX B (match s with| .tmp t=>S1.disown t| .const _=>S1) (.app sz) xs d true k
   |false=>B.fail
  |_=>B.fail
 | .b2s x=>
  match S.opd x with
  |some (.at (.osx o j 1))=>(match rowVal B S o,S.vals[j]? with|some c,some n=>doX B S .b2sx [c,n] d false k|_,_=>B.fail)
  |some (.at (.osl o off n _ 1))=>(match S.cob o with
   |some ss=>(match Zc6 ss off 0 with
    |some (.many _ a,r,_)=>mat B S (some (.at a)) fun x S1=>doX B S1 (.b2so r n) [x] d false k
    |_=>B.fail)
   |none=>B.fail)
  |_=>doP B S .b2s [x] d false k
 | .s2a n x=>matL B S [x] fun xs S1=>B.prim (.s2a n) xs S1.nx fun e=>k ((S1.push e).put d (.at (.el S1.nx 0)))
 | .nilck x=>
  match S.opd x with
  |some (.at (.ptr o a))=>k (S.put d (.at (.ptr o a)))
  |some (.at (.el i a))=>k (S.put d (.at (.el i a)))
  |_=>B.fail
 | .call f xs=>
  match xs.any fun x=>Zt8 (S.opd x)with
  |false=>matL B S xs fun ys S1=>B.call f ys S1.nx fun r=>k ((S1.push r).put d (.at (.n S1.nx (ow.ow f) false)))
  |true=>snapA B false S xs fun ys S1=>B.call f ys S1.nx fun r=>B.prim .flr [r] (S1.nx+1) fun z=>k (((S1.push r).push z).put d (.at (.n (S1.nx+1) false false)))
 | .callh f xs=>atsO B S xs fun az S1=>callE B S1 d k (pickE B S1 az (ow.he f))
 | .callvh f xs=>
  match S.opd f with
  |some (.at (.fp m g ps))=>atsO B S xs fun az S1=>(match(Zz2 m az ps).any At.isPtr with|true=>callE B S1 d k (pickE B S1 (Zz2 m az ps) (ow.he g))|false=>B.fail)
  |some (.at (.c (.fn g []) o))=>
   (match ow.he g with
   | []=>matL B S xs fun ys S1=>B.call g ys S1.nx fun r=>k ((S1.push r).put d (.at (.n S1.nx (ow.ow g) false)))
   |es=>match Qbp S xs with
    |true=>atsO B S xs fun az S1=>(match az.any At.isPtr with|true=>callE B S1 d k (pickE B S1 az es)|false=>B.fail)
    |false=>matL B S xs fun ys S1=>B.call g ys S1.nx fun r=>k ((S1.push r).put d (.at (.n S1.nx (ow.ow g) false))))
  |some (.at a)=>matL B S xs fun ys S1=>(match S1.valA B a with|some v=>B.callv v ys S1.nx fun r=>k ((S1.push r).put d (.at (.n S1.nx false false)))|none=>B.fail)
  |_=>B.fail
 | .mkf f xs=>
  match Zol S xs with
  |some (p::ps)=>k (S.put d (.at (.fp false f (p::ps))))
  |_=>doP B S (.fn f) xs d false k
 | .mkm f xs=>
  match Zol S xs with
  |some (p::ps)=>k (S.put d (.at (.fp true f (p::ps))))
  |_=>B.fail
 | .ext t i=>
  match S.opd t with
  |some (.tup az)=>(match az[i]? with|some a=>k (S.put d (.at a.noOwn))|none=>B.fail)
  |_=>doP B S (.ext i) [t] d false k
 | .new cs=>match grp (cs.length+1) cs with|some ss=>k ((S.newOb ss).put d (.at (.ptr S.ob.length 0)))|none=>B.fail
 | .box x=>
  match S.opd x with
  |some (.agg ss _)=>k ((S.newOb (ss.map Seg.noOwn)).put d (.at (.ptr S.ob.length 0)))
  |some (.tup _)=>B.fail
  |some (.at a)=>(match a.one with
   |true=>k ((S.newOb [.one a.noOwn]).put d (.at (.ptr S.ob.length 0)))
   |false=>mat B S (some (.at a)) fun x S1=>B.prim .scs [x] S1.nx fun z=>k (((S1.push z).newOb [.many none (.n S1.nx false false)]).put d (.at (.ptr S.ob.length 0))))
  |none=>B.fail
 | .store n a x=>
  match S.opd a with
  |some (.at (.ptr o off))=>(match S.cob o,S.opd x with
   |some ss,some y=>stAt B S o ss off n y d k
   |_,_=>B.fail)
  |some (.at (.ptd o b i sz))=>(match S.cob o with
   |some ss=>(match Zc6 ss b 0,S.vals[i]? with
    |some (.many sn a,r,p),some j=>mat B S (some (.at a)) fun c S1=>mat B S1 (S1.opd x) fun y S2=>
      B.prim (.std n r sz) [c,j,y] S2.nx fun w=>k (((S2.push w).setOb o (spl ss p 1 [.many sn (.n S2.nx false false)])).put d (.at .nil))
    |_,_=>B.fail)
   |none=>B.fail)
  |_=>B.fail
 | .sto a t=>
  match S.opd a,S.get t with
  |some (.at (.ptr o off)),some (.at y)=>splitO B S o off fun S=>(match S.cob o with
   |some ss=>(match Zc6 ss off 0,y.one with
    |some (.one _,0,i),true=>k (((S.disown t).setOb o (spl ss i 1 [.one y])).put d (.at .nil))
    |_,_=>B.fail)
   |none=>B.fail)
  |_,_=>B.fail
 | .nmp=>k ((S.push (B.c (mpV []))).newOb [.one (.mpc S.nx)]|>.put d (.at (.mpp S.ob.length)))
 | .mlk q z ok m kk=>
  match mapV B S (S.opd m),z.nf.clean with
  |some M,true=>mat B S (S.opd kk) fun x S1=>doX B S1 (.mlk q z.nf ok) [M,x] d false k
  |_,_=>B.fail
 | .mln m=>match mapV B S (S.opd m)with|some M=>doX B S .mln [M] d false k|none=>B.fail
 | .mup q m kk x=>
  match S.opd m with
  |some (.at (.mpp o))=>(match mapV B S (S.opd m)with
   |some M=>matL B S [kk,x] fun xs S1=>(match xs with
    | [y,w]=>B.prim (.mup q) [M,y,w] S1.nx fun M'=>k (((S1.push M').setOb o [.one (.mpc S1.nx)]).put d (.at .nil))
    |_=>B.fail)
   |none=>B.fail)
  |_=>B.fail
 |op=>match Zi8 op with|some (p,xs,own)=>doP B S p xs d own k|none=>B.fail
def opG (B:Bld X D)(ow:Cfg)(o:AOper)(S:PS X)(k:PS X->D):D:=
 match o.guard with
 |none=>op1 B ow o.dst o.op S k
 |some (t,w)=>
  match S.get t with
  |some (.at .nil)=>k (S.put o.dst (.at .nil))
  |y=>
   match S.truth y with
   |some b=>(match Bool.xor b w with|false=>op1 B ow o.dst o.op S k|true=>k (S.put o.dst (.at .nil)))
   |none=>
    match y with
    |some (.at (.n i _ _))=>
     (match S.vals[i]? with
     |some x=>
      (match w with
      |true=>B.ite x (op1 B ow o.dst o.op (S.know i true) k) (k ((S.know i false).put o.dst (.at .nil)))
      |false=>B.ite x (k ((S.know i true).put o.dst (.at .nil))) (op1 B ow o.dst o.op (S.know i false) k))
     |none=>B.fail)
    |_=>B.fail
def opsG (B:Bld X D)(ow:Cfg):List AOper->PS X->(PS X->D)->D
 | [],S,k=>k S
 |o::r,S,k=>opG B ow o S fun S'=>opsG B ow r S' k
def mTm (B:Bld X D)(S:PS X)(no:Nat):List (Nat×Sy)->List (Nat×Nat)->List X->Option (List (Nat×Nat)×List X)
 | [],ρ,acc=>some (ρ,acc)
 |(t, .at a)::r,ρ,acc=>
  (match S.get t with
  |some (.at b)=>match mAt B S no a b ρ acc with|some (ρ,acc)=>mTm B S no r ρ acc|none=>none
  |some (.agg _ (some z))=>match mAt B S no a (.n z false false) ρ acc with|some (ρ,acc)=>mTm B S no r ρ acc|none=>none
  |_=>none)
 |(t, .agg ss none)::r,ρ,acc=>
  (match S.get t with
  |some (.agg qs _)=>match mSegs B S no ss qs ρ acc with|some (ρ,acc)=>mTm B S no r ρ acc|none=>none
  |_=>none)
 |(_, .agg _ (some _))::_,_,_=>none
 |(_, .tup _)::_,_,_=>none
def idR :Nat->List (Nat×Nat)
 |0=> []
 |n+1=>idR n++ [(n,n)]
def jump (B:Bld X D)(m:Nat)(T:PT)(S:PS X):D:=
 match mTm B S T.ob.length T.tm (idR S.g) []with
 |some (ρ,acc)=>match mObs B S T.ob.length T.ob 0 ρ acc with
  |some (_,xs)=>match Nat.beq xs.length T.n&&(Nat.beq T.g S.g&&Nat.ble T.g T.ob.length&&Nat.ble S.g S.ob.length)with|true=>B.jmp m xs|false=>B.fail
  |none=>B.fail
 |none=>B.fail
def PT.start (T:PT)(xs:List X):PS X:=⟨xs,[],T.tm,T.ob,T.g⟩
def ACode.size :ACode->Nat
 | .seq a b=>a.size+b.size+1
 | .cond _ a b=>a.size+b.size+1
 | .block _ b=>b.size+1
 | .loop b=>b.size+1
 |_=>1
def pe (B:Bld X D)(ow:Cfg)(L:List (Nat×PT)):ACode->Nat->PS X->(Ex->PS X->D)->D
 | .skip,_,S,k=>k .normal S
 | .region os _,_,S,k=>opsG B ow os S (k .normal)
 | .seq a b,n,S,k=>pe B ow L a (n+1) S fun e S'=>
   match e with
   | .normal=>(match lk L (n+1+a.size)with|some T=>jump B (n+1+a.size) T S'|none=>pe B ow L b (n+1+a.size) S' k)
   |e=>k e S'
 | .cond c a b,n,S,k=>
  match S.truth (S.opd c)with
  |some true=>pe B ow L a (n+1) S k
  |some false=>pe B ow L b (n+1+a.size) S k
  |none=>
   match S.opd c with
   |some (.at (.n i _ _))=>(match S.vals[i]? with
    |some x=>B.ite x (pe B ow L a (n+1) (S.know i true) k) (pe B ow L b (n+1+a.size) (S.know i false) k)
    |none=>B.fail)
   |_=>B.fail
 | .block id b,n,S,k=>pe B ow L b (n+1) S fun e S'=>k (e.inBlock id) S'
 | .loop _,n,S,_=>match lk L n with|some T=>jump B n T S|none=>B.fail
 | .exit id,_,S,k=>k (.exit id) S
 | .ret,_,S,k=>k .ret S
 | .fail,_,_,_=>B.fail
def peL (B:Bld X D)(ow:Cfg)(L:List (Nat×PT))(c:ACode)(n:Nat)(S:PS X)(k:Ex->PS X->D):D:=
 match c with
 | .loop b=>pe B ow L b (n+1) S fun e S'=>
   match e with
   | .normal=>(match lk L n with|some T=>jump B n T S'|none=>B.fail)
   |e=>k e S'
 |c=>pe B ow L c n S k
def peAt (B:Bld X D)(ow:Cfg)(L:List (Nat×PT))(m:Nat):ACode->Nat->PS X->(Ex->PS X->D)->D
 | .seq a b,n,S,k=>
  match Nat.blt m (n+1+a.size)with
  |true=>peAt B ow L m a (n+1) S fun e S'=>
   match e with
   | .normal=>(match lk L (n+1+a.size)with|some T=>jump B (n+1+a.size) T S'|none=>pe B ow L b (n+1+a.size) S' k)
   |e=>k e S'
  |false=>match Nat.beq m (n+1+a.size)with
   |true=>peL B ow L b (n+1+a.size) S k
   |false=>peAt B ow L m b (n+1+a.size) S k
 | .cond _ a b,n,S,k=>
  match Nat.blt m (n+1+a.size)with
  |true=>peAt B ow L m a (n+1) S k
  |false=>peAt B ow L m b (n+1+a.size) S k
 | .block id b,n,S,k=>peAt B ow L m b (n+1) S fun e S'=>k (e.inBlock id) S'
 | .loop b,n,S,k=>
  match Nat.beq m n with
  |true=>peL B ow L (.loop b) n S k
  |false=>peAt B ow L m b (n+1) S fun e S'=>
   match e with
   | .normal=>(match lk L n with|some T=>jump B n T S'|none=>B.fail)
   |e=>k e S'
 |_,_,_,_=>B.fail
def resR (B:Bld X D)(S:PS X)(r:RS)(k:X->PS X->D):D:=
 match r with
 | .t t=>mat B S (S.get t) k
 | .c t n=>match S.get t with
  |some (.at (.ptr o off))=>(match S.cob o with
   |some ss=>ldY B S ss off n fun y S1=>mat B S1 (some y) k
   |none=>B.fail)
  |_=>B.fail
def resL (B:Bld X D)(S:PS X):List RS->List X->D
 | [],acc=>B.ret acc
 |r::rs,acc=>resR B S r fun x S1=>resL B S1 rs (acc++ [x])
def resK (B:Bld X D)(own:Bool)(res:List RS)(e:Ex)(S:PS X):D:=
 match e with
 | .exit _=>B.fail
 |_=>
  match own with
  |false=>resL B S res []
  |true=>match res with
   | [.t t]=>(match S.get t with
    |some (.at a)=>(match a.owned with|true=>resL B S res []|false=>B.fail)
    |_=>B.fail)
   |_=>B.fail
def resA (B:Bld X D)(S:PS X):List RS->(List At->PS X->D)->D
 | [],k=>k [] S
 | .t t::rs,k=>atO B S (S.get t) fun a S1=>resA B S1 rs fun az S2=>k (a::az) S2
 | .c t n::rs,k=>match S.get t with
  |some (.at (.ptr o off))=>(match S.cob o with
   |some ss=>ldY B S ss off n fun y S1=>atO B S1 (some y) fun a S2=>resA B S2 rs fun az S3=>k (a::az) S3
   |none=>B.fail)
  |_=>B.fail
def fitR (B:Bld X D)(S:PS X)(az:List At)(rt:RT):Option (List X):=
 match Nat.ble S.g rt.ob.length&&Nat.ble S.g S.ob.length with
 |true=>match mAts B S rt.ob.length rt.res az (idR S.g) []with
  |some (ρ,acc)=>match mObs B S rt.ob.length rt.ob 0 ρ acc with
   |some (_,xs)=>(match Nat.beq xs.length rt.n with|true=>some xs|false=>none)
   |none=>none
  |none=>none
 |false=>none
def dum (B:Bld X D):List X->List X
 | []=> [B.c (.bool true)]
 |xs=>xs
def retT (B:Bld X D)(S:PS X)(az:List At):Int->List RT->D
 |_,[]=>B.fail
 |j,rt::r=>match fitR B S az rt with|some xs=>B.ret (B.c (.int .i64 j)::dum B xs)|none=>retT B S az (j+1) r
def retP (B:Bld X D)(S:PS X)(az:List At):List RT->D
 | [rt]=>match fitR B S az rt with|some xs=>B.ret xs|none=>B.fail
 |rts=>retT B S az 0 rts
def oneA :List At->List At
 | [a]=> [a]
 |az=>az.map At.noOwn
def resH (B:Bld X D)(rts:List RT)(res:List RS)(e:Ex)(S:PS X):D:=
 match e with
 | .exit _=>B.fail
 |_=>resA B S res fun az S1=>retP B S1 (oneA az) rts
def resE (B:Bld X D)(E:FE)(res:List RS)(e:Ex)(S:PS X):D:=
 match E.ret with
 |none=>resK B E.own res e S
 |some rts=>resH B rts res e S
def params :Nat->List (Nat×Sy)
 |0=> []
 |n+1=>params n++ [(n, .at (.n n false false))]
def Z1n (n:Nat):PT:=⟨n,params n,[],0⟩
def peF (B:Bld X D)(ow:Cfg)(F:AFn)(E:FE)(l:Nat)(xs:List X):D:=
 match l with
 |0=>(match Nat.beq xs.length E.ar&&Nat.ble E.ar F.n&&Nat.beq E.k E.f&&E.ret.isNone with
  |true=>pe B ow E.lab F.body 2 ((Z1n E.ar).start xs) (resE B E F.res)
  |false=>B.fail)
 |1=>(match Nat.beq xs.length E.ent.n&&Nat.ble E.ar F.n&&E.ret.isSome with
  |true=>pe B ow E.lab F.body 2 (E.ent.start xs) (resE B E F.res)
  |false=>B.fail)
 |l+2=>
  match lk E.lab (l+2)with
  |some T=>(match Nat.beq xs.length T.n with
   |true=>peAt B ow E.lab (l+2) F.body 2 (T.start xs) (resE B E F.res)
   |false=>B.fail)
  |none=>B.fail
end
end Go.Abs
namespace Go.Abs
theorem Zgw {v:V}{b:Bool}{sz:Nat}{l:List V}(h:v.nf= .sl b sz l):b=false/\ ∃nl xs,v= .sl nl sz xs/\nfL xs=l/\(nl=true->xs=[]):=by
 cases v<;>simp_all[V.nf]
 rename_i nl sz' xs
 cases nl<;>cases xs<;>simp_all[V.nf,nfL]
theorem Zdo {v:V}(h:v.nf= .nilptr):v= .nilptr:=by
 cases v<;>simp_all[V.nf]
 all_goals (rename_i nl sz xs;cases nl<;>cases xs<;>simp[V.nf]at h)
theorem Zio {v:V}(h:v.nf= .nilif):v= .nilif:=by
 cases v<;>simp_all[V.nf]
 all_goals (rename_i nl sz xs;cases nl<;>cases xs<;>simp[V.nf]at h)
theorem Zq4 {v w:V}{t:Nat}(h:v.nf= .iface t w):∃u,v= .iface t u:=by
 cases v<;>simp_all[V.nf]
 all_goals (rename_i nl sz xs;cases nl<;>cases xs<;>simp[V.nf]at h)
theorem Zwg {op:BinOp}{q:EqK}(hq:q≠ .slice){x y z:V}(h:abin op q x.nf y.nf=some z):abin op q x y=some z:=by
 have key:∀v:V,(∃k n,v= .int k n) \/(∃s,v= .str s) \/((∀k n,v≠ .int k n)/\(∀s,v≠ .str s)/\(∀k n,v.nf≠ .int k n)/\(∀s,v.nf≠ .str s)):=by
  intro v
  cases v with
  |int k n=>grind
  |str s=>grind
  |sl nl sz xs=>cases nl<;>cases xs<;>exact .inr (.inr ⟨fun _ _ h=>(by cases h),fun _ h=>(by cases h),fun _ _ h=>(by grind[V.nf]),fun _ h=>(by grind[V.nf])⟩)
  |_=>grind[V.nf]
 have veq:∀a b:V,((∀k n,a≠ .int k n) \/(∀k n,b≠ .int k n))->((∀s,a≠ .str s) \/(∀s,b≠ .str s))->abin op q a b=vEq op (aeq q a b):=by
  intro a b h1 h2
  unfold abin
  split
  ·rcases h1 with h1|h1<;>exact absurd rfl (h1 _ _)
  ·rcases h2 with h2|h2<;>exact absurd rfl (h2 _)
  ·cases q<;>first|exact absurd rfl hq|(cases op<;>rfl)
  ·rfl
 have aeqnf:∀{b:Bool},aeq q x.nf y.nf=some b->aeq q x y=some b:=by
  intro b hb
  cases q with
  |slice=>grind
  |no=>grind[aeq]
  |fn=>grind[aeq]
  |bool=>
   cases hx:x.nf<;>rw[hx]at hb<;>cases hy:y.nf<;>rw[hy]at hb<;>simp[aeq]at hb
   grind[Zci,aeq]
  |flat ks=>
   cases hx:x.nf<;>rw[hx]at hb<;>cases hy:y.nf<;>rw[hy]at hb<;>simp only[aeq,reduceCtorEq]at hb
   obtain⟨xs,rfl,rfl⟩:=Zkj hx
   obtain⟨ys,rfl,rfl⟩:=Zkj hy
   exact Zg1 hb
  |ptr=>
   cases hx:x.nf<;>rw[hx]at hb<;>cases hy:y.nf<;>rw[hy]at hb<;>simp only[aeq,reduceCtorEq]at hb
   ·rw[Z0f hx,Zdo hy];exact hb
   ·rw[Zdo hx,Z0f hy];exact hb
   ·rw[Zdo hx,Zdo hy];exact hb
  |iface=>
   cases hx:x.nf<;>rw[hx]at hb<;>cases hy:y.nf<;>rw[hy]at hb<;>simp only[aeq,reduceCtorEq]at hb
   ·obtain⟨w,rfl⟩:=Zq4 hx;rw[Zio hy];exact hb
   ·obtain⟨w,rfl⟩:=Zq4 hy;rw[Zio hx];exact hb
   ·rw[Zio hx,Zio hy];exact hb
 rcases key x with⟨k,n,rfl⟩|⟨s,rfl⟩|⟨x1,x2,x3,x4⟩
 ·rcases key y with⟨k',n',rfl⟩|⟨s',rfl⟩|⟨y1,y2,y3,y4⟩
  ·exact h
  ·exact h
  ·cases hb:aeq q (V.int k n).nf y.nf<;>grind[aeq]
 ·rcases key y with⟨k',n',rfl⟩|⟨s',rfl⟩|⟨y1,y2,y3,y4⟩
  ·exact h
  ·exact h
  ·cases hb:aeq q (V.str s).nf y.nf<;>grind[aeq]
 ·rw[veq _ _ (.inl x3) (.inl x4)]at h
  cases hb:aeq q x.nf y.nf with
  |none=>rw[hb]at h;cases op<;>simp[vEq]at h
  |some b=>grind
def V.flat :V->Bool
 | .bool _| .int _ _| .str _=>true
 |_=>false
theorem Zlx {v:V}(h:v.flat=true):v.nf=v/\v.clean=true/\v.sc=true:=by cases v<;>simp[V.flat]at h<;>exact⟨rfl,rfl,rfl⟩
theorem Zms {op:BinOp}{q:EqK}{x y z:V}(h:abin op q x y=some z):z.flat=true:=by
 have hv:∀{b:Option Bool},vEq op b=some z->z.flat=true:=by
  intro b hb
  cases op<;>simp only[vEq,Xaa]at hb<;>obtain⟨c,_,rfl⟩:=hb<;>rfl
 unfold abin at h
 split at h
 ·split at h
  ·split at h<;>cases h;rfl
  ·split at h<;>cases h;rfl
  ·split at h
   ·unfold aint at h;split at h<;>(try split at h)<;>first|(cases h;rfl)|cases h
   ·cases h
 ·unfold astr at h;split at h<;>(try split at h)<;>first|(cases h;rfl)|cases h
 ·grind
 ·exact hv h
theorem Z6v {op:UnOp}{x z:V}(h:aun op x.nf=some z):aun op x=some z/\z.flat=true:=by
 unfold aun at h
 split at h
 ·rename_i hx;rw[Zb3 hx];exact⟨h,by cases h;rfl⟩
 ·rename_i hx;rw[Zb3 hx];exact⟨h,by cases h;rfl⟩
 ·rename_i hx;rw[Zci hx];exact⟨h,by cases h;rfl⟩
 ·cases h
theorem Zj7 {l:List V}(h:Zab l=true){i:Nat}{v:V}(hi:l[i]? =some v):v.clean=true:=Zaj.1 h v (Xaj hi)
theorem Zkq {l m:List V}(h:Zab l=true)(hm:∀v∈m,v∈l):Zab m=true:=Zaj.2 fun v hv=>Zaj.1 h v (hm v hv)
theorem Zbm {l:List V}(h:Zab l=true)(k:Nat):Zab (l.take k)=true:=Zkq h fun _ hv=>Xcl hv
theorem Zb5 {l:List V}(h:Zab l=true)(k:Nat):Zab (l.drop k)=true:=Zkq h fun _ hv=>Xca hv
theorem clean_cells {v:V}(h:v.clean=true):Zab v.cells=true:=Zaj.2 (V.clean_cells h)
theorem Za6 {n:Option Nat}{l:List V}{o:Nat}{v:V}(hl:Zab l=true)(h:Zak n l o=some v):v.clean=true:=by
 cases n with
 |none=>exact Zj7 hl h
 |some k=>
  simp only[Zak]at h
  split at h
  ·cases h;simp_all[Zbm,Zb5]
  ·cases h
theorem Zdy {l m:List V}(hl:Zab l=true)(hm:Zab m=true)(o:Nat):Zab (Zas l o m)=true:=by
 grind[Zbf,Zbm,Zb5,Zas]
theorem Zfd (l:Bytes):Zab (encB l)=true:=Zaj.2 fun v hv=>by obtain⟨b,_,rfl⟩:=Xa7.1 hv;rfl
theorem Zt4 {x z:V}{lo hi:Option V}(h:vSls x lo hi=some z):z.flat=true:=by
 unfold vSls at h
 split at h
 ·simp only[Xaa]at h;obtain⟨_,_,rfl⟩:=h;rfl
 ·cases h
theorem Zp1 {x:Option V}{o:Option Int}(h:vOpt (x.map V.nf)=some o):vOpt x=some o:=by
 cases x with
 |none=>exact h
 |some v=>
  unfold vOpt at h
  split at h
  ·grind
  ·rename_i k n e;injection e with e;rw[Zb3 e];exact h
  ·cases h
theorem Z3i {x z:V}{lo hi:Option V}(h:vSls x.nf (lo.map V.nf) (hi.map V.nf)=some z):vSls x lo hi=some z:=by
 unfold vSls at h
 split at h
 ·rename_i l h' s e1 e2 e3
  rw[Zdz e3]
  simp_all[Zp1,vSls]
 ·cases h
theorem Z2s {sz:Nat}{x:V}{z:Res}{lo hi mx:Option V}(hx:x.nf.clean=true)(h:vSlc sz x.nf (lo.map V.nf) (hi.map V.nf) (mx.map V.nf)=some z):
  ∃v,vSlc sz x lo hi mx=some ⟨v,mx.isSome,none⟩/\v.nf=z.v/\z.v.clean=true/\v.sc=true:=by
 unfold vSlc at h
 split at h
 ·rename_i l h' m nl s xs e1 e2 e3 e4
  obtain⟨rfl,nl',ys,rfl,rfl,hn⟩:=Zgw e4
  split at h
  ·simp only[Xaa]at h
   obtain⟨c,h1,rfl⟩:=h
   have hmx:mx.isSome=m.isSome:=by
    have:=Zp1 e3
    cases mx with
    |none=>grind[vOpt]
    |some v=>unfold vOpt at this;grind
   simp_all[Zp1,Z4w,Zdf,Zcb,Zb5,Zbm,vSlc]
  ·cases h
 ·grind[V.clean]
 ·cases h
theorem Zeh :∀{l:List V} {b:Bytes},Zb4 (nfL l)=some b->Zb4 l=some b
 | [],_,h=>h
 |v::r,b,h=>by
  unfold Zb4 at h
  split at h
  ·rename_i e;cases e
  ·rename_i n r' e
   obtain⟨e1,rfl⟩:=List.cons.inj e
   rw[Zb3 e1]
   simp only[Xaa]at h
   obtain⟨b',h1,h2⟩:=h
   simp only[Zb4,Zeh h1,Xay,h2]
  ·cases h
theorem Zin {sz:Nat}:∀{xs:List V},fits sz (nfL xs)=fits sz xs
 | []=>rfl
 |v::r=>by
  have e:(nfL v.cells).all V.sc=v.cells.all V.sc:=by rw[Zcn,List.all_map];congr 1;funext w;exact Zni w
  simp only[nfL,Zuc,Zbs,Zaq,Zin (xs:=r),e]
variable {Γ:Abs.Spec}{gl:Glob}{s:St}{d:Option Nat}{g:Option (Nat×Bool)}{a:List Nat}
theorem Z3f {op:AOp}{p:Prim}{xs:List Opd}{own:Bool}(hp:Zi8 op=some (p,xs,own)){ys:List V}(hy:nfL (xs.map (evO s.tm))=ys)(hc:Zab ys=true){z:V}(hz:evp p ys=some z):
  ∃v o,exec1 Γ gl ⟨d,op,g,a⟩ s=some (s.put d v o)/\v.nf=z/\z.clean=true/\(own=true->Own v o)/\(p.one=true->v.sc=true):=by
 have fl:∀{z:V},z.flat=true->z.nf=z/\z.clean=true/\(false=true->Own z false)/\(p.one=true->z.sc=true):=fun h=>⟨(Zlx h).1,(Zlx h).2.1,fun h=>(nomatch h),fun _=>(Zlx h).2.2⟩
 cases op<;>simp only[Zi8,Xac,Xen,reduceCtorEq]at hp
 case ext t i=>
  obtain⟨rfl,rfl,rfl⟩:=hp
  subst hy
  simp only[Xan,Xa9,nfL,evp]at hz
  unfold vExt at hz
  split at hz
  ·rename_i vs e
   obtain⟨cs,he,rfl⟩:=Z69 e
   simp only[Zfg,Xaa]at hz
   obtain⟨v,hv,rfl⟩:=hz
   refine⟨v,false,by simp_all,rfl, ?_,fun h=>(nomatch h),fun h=>(nomatch h)⟩
   simp only[Xan,Xa9,nfL,Zab,Xce,e,V.clean]at hc
   exact Zj7 hc (by rw[Zfg,hv];rfl)
  ·cases hz
 case bin op q x y=>
  have hq:q≠ .slice/\some (Prim.bin op q,[x,y],false)=some (p,xs,own):=by
   cases q<;>simp at hp⊢ <;>exact hp
  obtain⟨hq,h⟩:=hq
  cases h
  subst hy
  have h1:=Zwg hq hz
  obtain⟨q1,q2,q3,q4⟩:=fl (Zms hz)
  exact⟨z,false,by simp_all,q1,q2,q3,q4⟩
 case un op x=>
  obtain⟨rfl,rfl,rfl⟩:=hp
  subst hy
  obtain⟨h1,h2⟩:=Z6v hz
  obtain⟨q1,q2,q3,q4⟩:=fl h2
  exact⟨z,false,by simp_all,q1,q2,q3,q4⟩
 case len sb x=>
  obtain⟨rfl,rfl,rfl⟩:=hp
  subst hy
  simp only[Xan,Xa9,nfL,evp]at hz
  have h1:vLen sb (evO s.tm x)=some z/\z.flat=true:=by
   unfold vLen at hz
   split at hz
   ·rename_i e;rw[Zdz e];exact⟨hz,by cases hz;rfl⟩
   ·rename_i e
    obtain⟨_,nl,xs,he,rfl,_⟩:=Zgw e
    rw[he];rw[Zaq]at hz;exact⟨hz,by cases hz;rfl⟩
   ·simp_all[nfL,V.clean]
   ·cases hz
  obtain⟨q1,q2,q3,q4⟩:=fl h1.2
  exact⟨z,false,by simp_all,q1,q2,q3,q4⟩
 case mnx m x y=>
  obtain⟨rfl,rfl,rfl⟩:=hp
  subst hy
  simp only[Xan,Xa9,nfL,evp]at hz
  have h1:vMnx m (evO s.tm x) (evO s.tm y)=some z/\z.flat=true:=by
   unfold vMnx at hz
   split at hz
   ·rename_i e1 e2;rw[Zb3 e1,Zb3 e2]
    refine⟨hz, ?_⟩
    split at hz
    ·cases hz;rfl
    ·cases hz
   ·cases hz
  obtain⟨q1,q2,q3,q4⟩:=fl h1.2
  exact⟨z,false,by simp_all,q1,q2,q3,q4⟩
 case fld n off x=>
  obtain⟨rfl,rfl,rfl⟩:=hp
  subst hy
  simp only[Xan,Xa9,nfL,evp]at hz
  unfold vFld at hz
  split at hz
  ·rename_i cs e
   obtain⟨ds,he,rfl⟩:=Zkj e
   obtain⟨v,h1,h2⟩:=Zbu hz
   refine⟨v,false,by simp_all,h2, ?_,fun h=>(nomatch h),fun h=>(nomatch h)⟩
   simp only[Xan,Xa9,nfL,Zab,Xce,e,V.clean]at hc
   grind[Za6]
  ·cases hz
 case idx x i=>
  obtain⟨rfl,rfl,rfl⟩:=hp
  subst hy
  simp only[Xan,Xa9,nfL,evp]at hz
  have h1:vIdx (evO s.tm x) (evO s.tm i)=some z/\z.flat=true:=by
   unfold vIdx at hz
   split at hz
   ·rename_i e1 e2;rw[Zdz e1,Zb3 e2]
    refine⟨hz, ?_⟩
    split at hz
    ·simp only[Xaa]at hz;obtain⟨_,_,rfl⟩:=hz;rfl
    ·cases hz
   ·cases hz
  obtain⟨q1,q2,q3,q4⟩:=fl h1.2
  exact⟨z,false,by simp_all,q1,q2,q3,q4⟩
 case idxa l sz n x i=>
  obtain⟨rfl,rfl,rfl⟩:=hp
  subst hy
  simp only[Xan,Xa9,nfL,evp]at hz
  unfold Zqr at hz
  split at hz
  ·rename_i cs _ j e1 e2
   obtain⟨ds,he,rfl⟩:=Zkj e1
   split at hz
   ·rename_i hj
    obtain⟨v,h1,h2⟩:=Zbu hz
    refine⟨v,false,by rw[Z7g,he,Zb3 e2];simp_all[Zqr],h2, ?_,fun h=>(nomatch h),fun h=>(nomatch h)⟩
    simp only[Xan,Xa9,nfL,Zab,Xce,e1,V.clean,Xai]at hc
    grind[Za6]
   ·cases hz
  ·cases hz
 case sls x lo hi=>
  obtain⟨rfl,rfl,rfl⟩:=hp
  subst hy
  have h1:vSls (evO s.tm x).nf ((lo.map (evO s.tm)).map V.nf) ((hi.map (evO s.tm)).map V.nf)=some z:=by
   cases lo<;>cases hi<;>simpa[nfL,evp,Zuz,optL]using hz
  obtain⟨q1,q2,q3,q4⟩:=fl (Zt4 h1)
  exact⟨z,false,by simp_all[Z3i],q1,q2,q3,q4⟩
 case slc sz x lo hi mx=>
  obtain⟨rfl,rfl,rfl⟩:=hp
  subst hy
  have h1:∃r,vSlc sz (evO s.tm x).nf ((lo.map (evO s.tm)).map V.nf) ((hi.map (evO s.tm)).map V.nf) ((mx.map (evO s.tm)).map V.nf)=some r/\r.v=z:=by
   cases lo<;>cases hi<;>cases mx<;>(simp[nfL,evp,Ztf,optL]at hz⊢ <;>exact hz)
  obtain⟨r,h1,rfl⟩:=h1
  have hx:(evO s.tm x).nf.clean=true:=by
   simp_all[nfL]
  obtain⟨v,q1,q2,q3,q4⟩:=Z2s hx h1
  refine⟨v,mx.isSome,by simp_all,q2,q3,fun h=> .inl h,fun _=>q4⟩
 case bsl sz xs'=>
  obtain⟨rfl,rfl,rfl⟩:=hp
  subst hy
  simp only[evp]at hz
  split at hz
  ·rename_i hf
   cases hz
   rw[Zin]at hf
   exact⟨.sl false sz (xs'.map (evO s.tm)),true,by simp_all,rfl,by simp_all,fun _=> .inl rfl,fun _=>rfl⟩
  ·cases hz
 case mks sz z0 l c=>
  split at hp
  ·obtain⟨rfl,rfl,rfl⟩:=hp
   subst hy
   simp only[Xan,Xa9,nfL,evp,Xaa]at hz
   obtain⟨r,hr,rfl⟩:=hz
   have h1:vMks sz (evO s.tm l) (evO s.tm c)=some r/\r=⟨.sl false sz [],true,none⟩:=by
    unfold vMks at hr
    split at hr
    ·rename_i e1 e2;rw[Zb3 e1,Zb3 e2]
     refine⟨hr, ?_⟩<;>grind
    ·cases hr
   obtain⟨h1,rfl⟩:=h1
   exact⟨_,true,by rw[Z59];show putR s d (vMks sz _ _)=_;rw[h1];rfl,rfl,rfl,fun _=> .inl rfl,fun _=>rfl⟩
  ·rename_i z
   split at hp
   rotate_left
   ·cases hp
   rename_i hcz
   obtain⟨rfl,rfl,rfl⟩:=hp
   simp only[Xai]at hcz
   obtain rfl:=Xag hcz.1
   subst hy
   simp only[Xan,Xa9,nfL,evp,Xaa]at hz
   obtain⟨r,hr,rfl⟩:=hz
   have hzf:z.nf=z/\z.clean=true:=by
    have:=hcz.2
    unfold V.flatR at this
    split at this<;>first|exact⟨rfl,rfl⟩|cases this
   have h1:vMkz 1 [z] (evO s.tm l) (evO s.tm c)=some r/\ ∃n,r=⟨.sl false 1 (List.replicate n z),false,none⟩:=by
    unfold vMkz at hr
    split at hr
    ·rename_i e1 e2;rw[Zb3 e1,Zb3 e2]
     refine⟨hr, ?_⟩<;>grind
    ·cases hr
   obtain⟨h1,n,rfl⟩:=h1
   have hrep:nfL (List.replicate n z)=List.replicate n z:=by
    grind[Zcn,List.map_replicate]
   refine⟨.sl false 1 (List.replicate n z),false,by rw[Z59];show putR s d (vMkz 1 [z] _ _)=_;rw[h1];rfl, ?_, ?_,fun h=>(by cases h),fun _=>rfl⟩
   ·show V.sl false 1 (nfL (List.replicate n z))=_
    rw[hrep]
   simp_all[Zaj]
  ·cases hp
 case s2b x=>
  obtain⟨rfl,rfl,rfl⟩:=hp
  subst hy
  simp only[Xan,Xa9,nfL,evp,Xaa]at hz
  obtain⟨r,hr,rfl⟩:=hz
  unfold vS2b at hr
  split at hr
  ·rename_i b e
   cases hr
   exact⟨.sl false 1 (encB b),true,by rw[Z9a,Zdz e];rfl,by show V.sl false 1 (nfL (encB b))=_;rw[Zpz],Zfd b,fun _=> .inl rfl,fun _=>rfl⟩
  ·cases hr
 case b2s x=>
  obtain⟨rfl,rfl,rfl⟩:=hp
  subst hy
  simp only[Xan,Xa9,nfL,evp]at hz
  unfold vB2s at hz
  split at hz
  ·rename_i nl xs e
   obtain⟨_,nl',ys,he,rfl,_⟩:=Zgw e
   simp only[Xaa]at hz
   obtain⟨b,hb,rfl⟩:=hz
   exact⟨.str b,false,by simp_all[Zeh,vB2s],rfl,rfl,fun h=>(nomatch h),fun _=>rfl⟩
  ·grind[nfL,Zab,V.clean]
  ·cases hz
 case i2i k x=>
  obtain⟨rfl,rfl,rfl⟩:=hp
  subst hy
  simp only[Xan,Xa9,nfL,evp]at hz
  unfold vI2i at hz
  split at hz
  ·rename_i e
   cases hz
   exact⟨_,false,by rw[Z9c,Zb3 e];rfl,rfl,rfl,fun h=>(nomatch h),fun _=>rfl⟩
  ·cases hz
 case s2s x=>
  obtain⟨rfl,rfl,rfl⟩:=hp
  subst hy
  simp only[Xan,Xa9,nfL,evp]at hz
  unfold vS2s at hz
  split at hz
  ·rename_i e
   cases hz
   exact⟨_,false,by rw[Z95,Zdz e];rfl,rfl,rfl,fun h=>(nomatch h),fun _=>rfl⟩
  ·cases hz
 case mkf f xs'=>
  obtain⟨rfl,rfl,rfl⟩:=hp
  subst hy
  simp only[evp,Xac]at hz
  subst hz
  exact⟨.fn f (xs'.map (evO s.tm)),false,Z7j f xs',rfl,by simp_all,fun h=>(nomatch h),fun _=>rfl⟩
end Go.Abs
namespace Go.Abs
def fnV (m:Bool)(f:Nat)(cs:List V):V:=match m with|true=> .mfn f cs|false=> .fn f cs
def PsS (ι:List Nat):List (Nat×Nat)->List V->Prop
 | [],cs=>cs=[]
 |p::ps,cs=> ∃id cs',ι[p.1]? =some id/\cs= .ptr id p.2::cs'/\PsS ι ps cs'
def AtS (ι:List Nat)(vs:List V)(a:At)(v:V)(o:Bool):Prop:=
 match a with
 | .c w own=>v.nf=w/\w.clean=true/\(own=true-> ∃sz,v= .sl true sz [])
 | .n i own sc=>vs[i]? =some v.nf/\(own=true->Own v o)/\(sc=true->v.sc=true)
 | .ptr k off=> ∃id,ι[k]? =some id/\v= .ptr id off
 | .ptd k base i sz=> ∃id kd j,ι[k]? =some id/\vs[i]? =some (.int kd j)/\v= .ptr id (base+j.toNat*sz)
 | .gp g off=>v= .gp g off
 | .gpd g base i sz=> ∃kd j,vs[i]? =some (.int kd j)/\v= .gp g (base+j.toNat*sz)
 | .el i off=> ∃x,vs[i]? =some x/\v.nf= .el x.cells off
 | .osl k off len cap sz=> ∃id,ι[k]? =some id/\v= .osl id off len cap sz
 | .osx k i sz=> ∃id n cap,ι[k]? =some id/\vs[i]? =some (.int .i64 n)/\0<=n/\v= .osl id 0 n.toNat cap sz/\n.toNat<=cap
 | .osr k j i sz=> ∃id m kd p cap,ι[k]? =some id/\vs[j]? =some (.int .i64 m)/\vs[i]? =some (.int kd p)/\0<=p/\p<m/\v= .osl id (p.toNat*sz) (m.toNat-p.toNat) cap sz
 | .osc k off n i sz=> ∃id kd j cap,ι[k]? =some id/\vs[i]? =some (.int kd j)/\0<=j/\j<n/\v= .osl id (off+j.toNat*sz) (n-j.toNat) cap sz
 | .fp m f ps=> ∃cs,v=fnV m f cs/\PsS ι ps cs
 | .osv k i j sz=> ∃id a b cap,ι[k]? =some id/\vs[i]? =some (.int .i64 a)/\vs[j]? =some (.int .i64 b)/\0<=a/\a<=b/\v= .osl id (a.toNat*sz) (b.toNat-a.toNat) cap sz/\b.toNat-a.toNat<=cap
 | .mpp k=> ∃id,ι[k]? =some id/\v= .map id
 | .mpc _=>False
 | .nil=>v=Nil
def AtV (vs:List V)(a:At)(w:V):Prop:=
 match a with
 | .c v _=>v=w/\v.clean=true
 | .n i _ _=>vs[i]? =some w
 |_=>False
def SegsS (ι:List Nat)(vs:List V):List Seg->List V->(Nat->Bool)->Nat->Prop
 | [],cs,_,_=>cs=[]
 | .one a::r,cs,ow,j=> ∃c cs',cs=c::cs'/\AtS ι vs a c (ow j)/\c.sc=true/\SegsS ι vs r cs' ow (j+1)
 | .many n a::r,cs,ow,j=> ∃l cs' w,cs=l++cs'/\(∀m,n=some m->l.length=m)/\(n=none->r=[])/\l.all V.sc=true/\AtV vs a w/\nfL l=w.cells/\SegsS ι vs r cs' ow (j+l.length)
def AtsS (ι:List Nat)(vs:List V):List At->List V->Prop
 | [],ws=>ws=[]
 |a::az,ws=> ∃w ws',ws=w::ws'/\AtS ι vs a w false/\AtsS ι vs az ws'
def SyS (ι:List Nat)(vs:List V)(y:Sy)(v:V)(o:Bool):Prop:=
 match y with
 | .at a=>AtS ι vs a v o
 | .agg ss z=>(∃cs,v= .agg cs/\SegsS ι vs ss cs (fun _=>false) 0)/\ ∀i,z=some i->vs[i]? =some v.nf
 | .tup az=> ∃ws,v= .tup ws/\AtsS ι vs az ws
inductive ObS (ι:List Nat)(vs:List V):List Seg->Hp->(Nat->Bool)->Nat->Prop
 |cs {ss:List Seg} {H:Hp} {ow:Nat->Bool} {id:Nat} (cs:List V) (h:Zap H id=some cs) (hs:SegsS ι vs ss cs ow 0):ObS ι vs ss H ow id
 |mp {H:Hp} {ow:Nat->Bool} {id i:Nat} (l:List (V×V)) (h:hMap H id=some l) (hs:vs[i]? =some (mpV l).nf):ObS ι vs [.one (.mpc i)] H ow id
theorem ObS.cob {ι:List Nat}{vs:List V}{ss:List Seg}{H:Hp}{ow:Nat->Bool}{id:Nat}(h:ObS ι vs ss H ow id)(hn:∀i,ss≠ [.one (.mpc i)]):∃cs,Zap H id=some cs/\SegsS ι vs ss cs ow 0:=by
 cases h<;>grind
theorem ObS.map {ι:List Nat}{vs:List V}{i:Nat}{H:Hp}{ow:Nat->Bool}{id:Nat}(h:ObS ι vs [.one (.mpc i)] H ow id):∃l,hMap H id=some l/\vs[i]? =some (mpV l).nf:=by
 cases h with
 |cs cs h hs=>obtain⟨c,cs',_,hf,_⟩:=hs;exact hf.elim
 |mp l h hs=>grind
theorem Zze {H H':Hp}{id:Nat}(h:H id=H' id):hMap H id=hMap H' id:=by unfold hMap;rw[h]
structure Fc where
 ids:List Nat
 hs:HS
def Frame (c:Fc)(H:Hp)(co:Nat->Nat->Bool):Prop:=∀id,id<c.hs.nH->id∉c.ids->H id=c.hs.H id/\ ∀j,co id j=c.hs.co id j
structure Sat (c:Fc)(S:PS V)(ι:List Nat)(s:St):Prop where
 tm:∀t y,S.get t=some y->SyS ι S.vals y (s.tm t) (s.own (.slot t))
 ob:∀k ss,S.obj k=some ss-> ∃id,ι[k]? =some id/\ObS ι S.vals ss s.H (fun j=>s.own (.cell id j)) id
 nd:ι.Nodup
 lt:∀id∈ι,id<s.nH
 len:ι.length=S.ob.length
 lits:∀i b,lk S.lits i=some b->S.vals[i]? =some (.bool b)
 cln:∀x∈S.vals,x.clean=true
 g:c.ids.length=S.g
 pre:∀(k id:Nat),c.ids[k]? =some id->ι[k]? =some id
 new:∀(k id:Nat),ι[k]? =some id->S.g<=k->c.hs.nH<=id
 nH:c.hs.nH<=s.nH
 fr:Frame c s.H fun i j=>s.own (.cell i j)
theorem Z5w {X:Type}{S:PS X}{o:Nat}{ss:List Seg}(h:S.cob o=some ss):S.obj o=some ss/\ ∀i,ss≠ [.one (.mpc i)]:=by
 grind[PS.cob]
theorem Sat.cob {c:Fc}{S:PS V}{ι:List Nat}{s:St}(h:Sat c S ι s)(k:Nat)(ss:List Seg)(hk:S.cob k=some ss):∃id cs,ι[k]? =some id/\Zap s.H id=some cs/\SegsS ι S.vals ss cs (fun j=>s.own (.cell id j)) 0:=by
 obtain⟨e,hn⟩:=Z5w hk
 obtain⟨id,h1,h2⟩:=h.ob k ss e
 obtain⟨cs,h3,h4⟩:=h2.cob hn
 grind
theorem Sat.mpo {c:Fc}{S:PS V}{ι:List Nat}{s:St}(h:Sat c S ι s){k i:Nat}(hk:S.mpo k=some i):∃id l,ι[k]? =some id/\hMap s.H id=some l/\S.vals[i]? =some (mpV l).nf:=by
 unfold PS.mpo at hk
 split at hk
 ·rename_i e
  obtain⟨id,h1,h2⟩:=h.ob k _ e
  obtain⟨l,h3,h4⟩:=h2.map
  grind
 ·cases hk
def Pre (vs vs':List V):Prop:=∀(i:Nat) (x:V),vs[i]? =some x->vs'[i]? =some x
def PreN (ι ι':List Nat):Prop:=∀(i x:Nat),ι[i]? =some x->ι'[i]? =some x
theorem Pre.refl (vs:List V):Pre vs vs:=fun _ _ h=>h
theorem PreN.refl (vs:List Nat):PreN vs vs:=fun _ _ h=>h
theorem Pre.trans {a b c:List V}(h:Pre a b)(k:Pre b c):Pre a c:=fun i x hi=>k i x (h i x hi)
theorem Pre.app (a b:List V):Pre a (a++b):=fun i x hi=>by
 grind
theorem PreN.app (a b:List Nat):PreN a (a++b):=fun i x hi=>by
 grind
theorem PsS.mono {ι ι':List Nat}(h1:PreN ι ι'):∀{ps:List (Nat×Nat)} {cs:List V},PsS ι ps cs->PsS ι' ps cs
 | [],_,h=>h
 |_::_,_,⟨id,cs',h3,h4,h5⟩=>⟨id,cs',h1 _ _ h3,h4,PsS.mono h1 h5⟩
theorem AtS.mono {ι ι':List Nat}{vs vs':List V}(h1:PreN ι ι')(h2:Pre vs vs'){a:At}{v:V}{o:Bool}(h:AtS ι vs a v o):AtS ι' vs' a v o:=by
 cases a with
 |c w own=>exact h
 |n i own sc=>exact⟨h2 _ _ h.1,h.2⟩
 |ptr k off=>obtain⟨id,h3,h4⟩:=h;exact⟨id,h1 _ _ h3,h4⟩
 |ptd k b i sz=>obtain⟨id,kd,j,h3,h4,h5⟩:=h;exact⟨id,kd,j,h1 _ _ h3,h2 _ _ h4,h5⟩
 |gp g off=>exact h
 |gpd g b i sz=>obtain⟨kd,j,h4,h5⟩:=h;exact⟨kd,j,h2 _ _ h4,h5⟩
 |fp m f ps=>obtain⟨cs,h3,h4⟩:=h;exact⟨cs,h3,h4.mono h1⟩
 |osv k i j sz=>obtain⟨id,a,b,cap,h3,h4,h5,h6⟩:=h;exact⟨id,a,b,cap,h1 _ _ h3,h2 _ _ h4,h2 _ _ h5,h6⟩
 |mpp k=>obtain⟨id,h3,h4⟩:=h;exact⟨id,h1 _ _ h3,h4⟩
 |mpc i=>exact h
 |el i off=>obtain⟨x,h3,h4⟩:=h;exact⟨x,h2 _ _ h3,h4⟩
 |osl k off n c sz=>obtain⟨id,h3,h4⟩:=h;exact⟨id,h1 _ _ h3,h4⟩
 |osx k i sz=>obtain⟨id,n,cap,h3,h4,h5⟩:=h;exact⟨id,n,cap,h1 _ _ h3,h2 _ _ h4,h5⟩
 |osr k j i sz=>obtain⟨id,m,kd,p,cap,h3,h4,h5,h6⟩:=h;exact⟨id,m,kd,p,cap,h1 _ _ h3,h2 _ _ h4,h2 _ _ h5,h6⟩
 |osc k off n i sz=>obtain⟨id,kd,j,cap,h3,h4,h5⟩:=h;exact⟨id,kd,j,cap,h1 _ _ h3,h2 _ _ h4,h5⟩
 |nil=>exact h
theorem AtV.mono {vs vs':List V}(h2:Pre vs vs'){a:At}{v:V}(h:AtV vs a v):AtV vs' a v:=by
 cases a<;>first|exact h|exact h2 _ _ h
theorem SegsS.mono {ι ι':List Nat}{vs vs':List V}(h1:PreN ι ι')(h2:Pre vs vs'){ow:Nat->Bool}:∀{ss:List Seg} {cs:List V} {j:Nat},SegsS ι vs ss cs ow j->SegsS ι' vs' ss cs ow j
 | [],_,_,h=>h
 | .one a::r,_,_,⟨c,cs',e,h3,h4,h5⟩=>⟨c,cs',e,h3.mono h1 h2,h4,SegsS.mono h1 h2 h5⟩
 | .many n a::r,_,_,⟨l,cs',w,e,h3,h4,h5,h6,h7,h8⟩=>⟨l,cs',w,e,h3,h4,h5,h6.mono h2,h7,SegsS.mono h1 h2 h8⟩
theorem ObS.mono {ι ι':List Nat}{vs vs':List V}(h1:PreN ι ι')(h2:Pre vs vs'){ss:List Seg}{H H':Hp}{ow:Nat->Bool}{id:Nat}(h:ObS ι vs ss H ow id)(hH:H' id=H id):ObS ι' vs' ss H' ow id:=by
 cases h with
 |cs cs h hs=>
  refine .cs cs ?_ (hs.mono h1 h2)<;>grind[Zap]
 |mp l h hs=>exact .mp l ((Zze hH).trans h) (h2 _ _ hs)
theorem ObS.to {ι ι':List Nat}{vs vs':List V}{ss:List Seg}{H H':Hp}{ow ow':Nat->Bool}{id:Nat}(h:ObS ι vs ss H ow id)(h1:PreN ι ι')(h2:Pre vs vs')(hH:H' id=H id)(ho:∀j,ow' j=ow j):ObS ι' vs' ss H' ow' id:=by
 have:ow'=ow:=funext ho
 subst this
 exact h.mono h1 h2 hH
theorem AtsS.mono {ι ι':List Nat}{vs vs':List V}(h1:PreN ι ι')(h2:Pre vs vs'):∀{az:List At} {ws:List V},AtsS ι vs az ws->AtsS ι' vs' az ws
 | [],_,h=>h
 |_::_,_,⟨w,ws',e,h3,h4⟩=>⟨w,ws',e,h3.mono h1 h2,AtsS.mono h1 h2 h4⟩
theorem SyS.mono {ι ι':List Nat}{vs vs':List V}(h1:PreN ι ι')(h2:Pre vs vs'){y:Sy}{v:V}{o:Bool}(h:SyS ι vs y v o):SyS ι' vs' y v o:=by
 cases y with
 | «at» a=>exact AtS.mono h1 h2 h
 |agg ss z=>
  obtain⟨⟨cs,e,h3⟩,h4⟩:=h
  exact⟨⟨cs,e,h3.mono h1 h2⟩,fun i hi=>h2 _ _ (h4 i hi)⟩
 |tup az=>obtain⟨ws,e,h3⟩:=h;exact⟨ws,e,h3.mono h1 h2⟩
theorem AtS.noOwn {ι:List Nat}{vs:List V}{a:At}{v:V}{o:Bool}(h:AtS ι vs a v o)(o':Bool):AtS ι vs a.noOwn v o':=by
 cases a<;>first|exact h|exact⟨h.1,fun h=>(nomatch h),h.2.2⟩
theorem AtV.noOwn {vs:List V}{a:At}{v:V}(h:AtV vs a v):AtV vs a.noOwn v:=by cases a<;>exact h
theorem SegsS.noOwn {ι:List Nat}{vs:List V}{ow:Nat->Bool}(ow':Nat->Bool)(j':Nat):∀{ss:List Seg} {cs:List V} {j:Nat},SegsS ι vs ss cs ow j-> ∀j',SegsS ι vs (ss.map Seg.noOwn) cs ow' j'
 | [],_,_,h,_=>h
 | .one a::r,_,_,⟨c,cs',e,h3,h4,h5⟩,_=>⟨c,cs',e,h3.noOwn _,h4,SegsS.noOwn ow' j' h5 _⟩
 | .many n a::r,_,_,⟨l,cs',w,e,h3,h4,h5,h6,h7,h8⟩,_=>⟨l,cs',w,e,h3,fun hn=>by rw[h4 hn];rfl,h5,h6.noOwn,h7,SegsS.noOwn ow' j' h8 _⟩
theorem AtsS.noOwn {ι:List Nat}{vs:List V}:∀{az:List At} {ws:List V},AtsS ι vs az ws->AtsS ι vs (az.map At.noOwn) ws
 | [],_,h=>h
 |_::_,_,⟨w,ws',e,h3,h4⟩=>⟨w,ws',e,h3.noOwn _,AtsS.noOwn h4⟩
theorem SyS.noOwn {ι:List Nat}{vs:List V}{y:Sy}{v:V}{o:Bool}(h:SyS ι vs y v o)(o':Bool):SyS ι vs y.noOwn v o':=by
 cases y with
 | «at» a=>exact AtS.noOwn h o'
 |agg ss z=>
  obtain⟨⟨cs,e,h3⟩,h4⟩:=h
  exact⟨⟨cs,e,h3.noOwn _ 0 _⟩,h4⟩
 |tup az=>obtain⟨ws,e,h3⟩:=h;exact⟨ws,e,h3.noOwn⟩
theorem SegsS.ow {ι:List Nat}{vs:List V}{ow ow':Nat->Bool}:∀{ss:List Seg} {cs:List V} {j:Nat},SegsS ι vs ss cs ow j->(∀i,j<=i->i<j+cs.length->ow' i=ow i)->SegsS ι vs ss cs ow' j
 | [],_,_,h,_=>h
 | .one a::r,_,_,⟨c,cs',e,h3,h4,h5⟩,ho=>by
  subst e
  refine⟨c,cs',rfl, ?_,h4,SegsS.ow h5 fun i h6 h7=>ho i (by omega) (by simp;omega)⟩<;>grind
 | .many n a::r,_,_,⟨l,cs',w,e,h3,h4,h5,h6,h7,h8⟩,ho=>by
  subst e
  exact⟨l,cs',w,rfl,h3,h4,h5,h6,h7,SegsS.ow h8 fun i h9 h10=>ho i (by omega) (by simp;omega)⟩
theorem AtS.owned {ι:List Nat}{vs:List V}{a:At}{v:V}{o:Bool}(h:AtS ι vs a v o)(ho:a.owned=true):Own v o:=by
 cases a<;>simp[At.owned]at ho
 ·obtain⟨sz,e⟩:=h.2.2 ho;exact .inr ⟨sz,e⟩
 ·exact h.2.1 ho
theorem AtS.one {ι:List Nat}{vs:List V}{a:At}{v:V}{o:Bool}(h:AtS ι vs a v o)(ho:a.one=true):v.sc=true:=by
 cases a<;>simp[At.one]at ho
 ·rw[<-Zni,h.1];exact ho
 ·exact h.2.2 ho
 ·obtain⟨id,_,e⟩:=h;rw[e];rfl
 ·rw[show v=_ from h];rfl
 ·obtain⟨cs,e,_⟩:=h;rw[e];unfold fnV;split<;>rfl
 ·obtain⟨id,_,e⟩:=h;rw[e];rfl
variable {c:Fc}{ι:List Nat}{s:St}{S:PS V}
theorem Zc5 {α:Type}(k:Nat)(a:α)(l:List (Nat×α))(t:Nat):lk ((k,a)::l) t=if k=t then some a else lk l t:=by
 grind[Nat.eq_of_beq_eq_true,Nat.ne_of_beq_eq_false,lk]
theorem Z3o {X:Type}(S:PS X)(d:Option Nat)(y:Sy)(t:Nat):(S.put d y).get t=if d=some t then some y else S.get t:=by
 cases d<;>grind[Zc5,PS.put,PS.get]
theorem Zku {v:V}{a:At}(h:Zmk v=some a)(o:Bool)(vs:List V):AtS ι vs a v o:=by
 unfold Zmk at h
 split at h
 ·cases h;rfl
 ·split at h
  ·rename_i hc
   cases h
   refine⟨rfl, ?_,fun h=> ?_⟩
   ·exact hc
   ·unfold V.isNilSl at h
    grind
  ·cases h
theorem Sat.opd (h:Sat c S ι s){x:Opd}{y:Sy}(hx:S.opd x=some y):SyS ι S.vals y (evO s.tm x) (ownO s.own x):=by
 cases x with
 |tmp t=>exact h.tm t y hx
 |const v=>
  simp only[PS.opd,Xaa]at hx
  obtain⟨a,ha,rfl⟩:=hx
  exact Zku ha _ _
theorem Sat.valV {a:At}{w x:V}(h:Sat c S ι s)(ha:AtV S.vals a w){Γ:Gam}{f:Nat}(hx:S.valA (BV Γ f) a=some x):x=w/\x.clean=true:=by
 cases a with
 |c v o=>
  simp only[PS.valA,Xac]at hx
  subst hx;exact ha
 |n i o sc=>
  simp only[PS.valA]at hx
  split at hx
  ·rename_i b hb
   have:=h.lits i b hb
   rw[show S.vals[i]? =some w from ha]at this
   cases hx;cases this;exact⟨rfl,rfl⟩
  ·rw[show S.vals[i]? =some w from ha]at hx
   cases hx;exact⟨rfl,h.cln _ (Xaj ha)⟩
 |_=>exact ha.elim
theorem AtS.toV {vs:List V}{a:At}{v:V}{o:Bool}(h:AtS ι vs a v o){X:Type}{D:Type}{B:Bld X D}{S':PS X}{x:X}(hx:S'.valA B a=some x):AtV vs a v.nf:=by
 cases a<;>simp[PS.valA]at hx
 ·exact⟨h.1.symm,h.2.1⟩
 ·exact h.1
theorem Sat.val {a:At}{v x:V}{o:Bool}(h:Sat c S ι s)(ha:AtS ι S.vals a v o){Γ:Gam}{f:Nat}(hx:S.valA (BV Γ f) a=some x):x=v.nf/\x.clean=true:=h.valV (ha.toV hx) hx
structure Ext (S S':PS V):Prop where
 tm:S'.tm=S.tm
 ob:S'.ob=S.ob
 lits:S'.lits=S.lits
 vals:∃l,S'.vals=S.vals++l
 g:S'.g=S.g
theorem Ext.refl (S:PS V):Ext S S:=⟨rfl,rfl,rfl,⟨[],by simp⟩,rfl⟩
theorem Ext.trans {A B C:PS V}(h:Ext A B)(k:Ext B C):Ext A C:=⟨k.tm.trans h.tm,k.ob.trans h.ob,k.lits.trans h.lits,by
 obtain⟨l,hl⟩:=h.vals;obtain⟨m,hm⟩:=k.vals;grind,k.g.trans h.g⟩
theorem Ext.pre {S S':PS V}(h:Ext S S'):Pre S.vals S'.vals:=by obtain⟨l,hl⟩:=h.vals;rw[hl];exact .app _ _
theorem Ext.get {S S':PS V}(h:Ext S S')(t:Nat):S'.get t=S.get t:=by simp only[PS.get,h.tm]
theorem Ext.obj {S S':PS V}(h:Ext S S')(t:Nat):S'.obj t=S.obj t:=by simp only[PS.obj,h.ob]
theorem Ext.opd {S S':PS V}(h:Ext S S')(x:Opd):S'.opd x=S.opd x:=by cases x<;>simp only[PS.opd,h.get]
theorem Ext.push (S:PS V)(x:V):Ext S (S.push x):=⟨rfl,rfl,rfl,⟨[x],rfl⟩,rfl⟩
theorem Zan (S:PS V)(x:V):(S.push x).vals[S.nx]? =some x:=by simp[PS.push,PS.nx]
theorem Sat.ext {S':PS V}(h:Sat c S ι s)(he:Ext S S')(hc:∀x∈S'.vals,x.clean=true):Sat c S' ι s where
 tm t y hy:=by rw[he.get]at hy;exact(h.tm t y hy).mono (.refl _) he.pre
 ob k ss hk:=by
  rw[he.obj]at hk
  obtain⟨id,h1,h2⟩:=h.ob k ss hk
  exact⟨id,h1,h2.mono (.refl _) he.pre rfl⟩
 nd:=h.nd
 lt:=h.lt
 len:=by rw[he.ob];exact h.len
 lits i b hb:=by rw[he.lits]at hb;exact he.pre _ _ (h.lits i b hb)
 cln:=hc
 g:=by rw[he.g];exact h.g
 pre:=h.pre
 new:=by rw[he.g];exact h.new
 nH:=h.nH
 fr:=h.fr
theorem Sat.push (h:Sat c S ι s){x:V}(hx:x.clean=true):Sat c (S.push x) ι s:=h.ext (.push S x) fun y hy=>by
 rcases Xaz.1 hy with hy|hy
 ·exact h.cln y hy
 grind
theorem Ze7 :∀{ns:List (Option Nat)} {xs l:List V},catV ns xs=some l->Zab xs=true->Zab l=true
 | [],[],l,h,_=>by cases h;rfl
 |none::ns,x::xs,l,h,hc=>by
  simp only[catV]at h
  split at h
  ·simp only[Xaa]at h
   obtain⟨m,h1,rfl⟩:=h
   simp only[Zab,Xai]at hc⊢
   exact⟨hc.1,Ze7 h1 hc.2⟩
  ·cases h
 |some n::ns,x::xs,l,h,hc=>by
  simp only[catV]at h
  split at h
  ·simp only[Xaa]at h
   obtain⟨m,h1,rfl⟩:=h
   simp only[Zab,Xai]at hc
   exact Zbf (clean_cells hc.1) (Ze7 h1 hc.2)
  ·cases h
 | [],_::_,_,h,_=>by cases h
 |none::_,[],_,h,_=>by cases h
 |some _::_,[],_,h,_=>by cases h
theorem Sat.segVals (h:Sat c S ι s){Γ:Gam}{f:Nat}{ow:Nat->Bool}:∀{ss:List Seg} {cs:List V} {j:Nat} {ns:List (Option Nat)} {xs l:List V},SegsS ι S.vals ss cs ow j->segVals (BV Γ f) S ss=some (ns,xs)->catV ns xs=some l->
  nfL cs=l/\Zab xs=true
 | [],_,_,_,_,_,h1,h2,h3=>by
  obtain⟨rfl,rfl⟩:=h2
  cases h3
  rw[show _=[]from h1];exact⟨rfl,rfl⟩
 | .one a::r,_,_,_,_,_,⟨c,cs',e,q1,q2,q3⟩,h2,h3=>by
  simp only[Abs.segVals]at h2
  split at h2
  ·rename_i x _ ns xs hx hr
   cases h2
   simp only[catV]at h3
   split at h3
   ·simp only[Xaa]at h3
    obtain⟨m,h4,rfl⟩:=h3
    obtain⟨q4,q5⟩:=h.segVals q3 hr h4
    obtain⟨rfl,q6⟩:=h.val q1 hx
    grind[nfL,Zab]
   ·cases h3
  ·cases h2
 | .many (some n) a::r,_,_,_,_,_,⟨l',cs',w,e,q1,q2,q3,q4,q5,q6⟩,h2,h3=>by
  simp only[Abs.segVals]at h2
  split at h2
  ·rename_i x _ ns xs hx hr
   cases h2
   simp only[catV]at h3
   split at h3
   ·simp only[Xaa]at h3
    obtain⟨m,h4,rfl⟩:=h3
    obtain⟨q7,q8⟩:=h.segVals q6 hr h4
    obtain⟨rfl,q9⟩:=h.valV q4 hx
    grind[Zbv,Zab]
   ·cases h3
  ·cases h2
 | .many none a::r,_,_,_,_,_,_,h2,_=>by grind[Abs.segVals]
theorem Sat.mat (h:Sat c S ι s){Γ:Gam}{f:Nat}{y:Sy}{v:V}{o:Bool}(hy:SyS ι S.vals y v o){k:V->PS V->Option V}{r:V}(hk:mat (BV Γ f) S (some y) k=some r):
  ∃S',k v.nf S'=some r/\Sat c S' ι s/\Ext S S'/\v.nf.clean=true:=by
 cases y with
 | «at» a=>
  simp only[Abs.mat]at hk
  split at hk
  ·rename_i x hx
   obtain⟨rfl,hc⟩:=h.val hy hx
   exact⟨S,hk,h, .refl S,hc⟩
  ·cases hk
 |agg ss z=>
  obtain⟨⟨cs,rfl,h3⟩,h4⟩:=hy
  cases z with
  |some z=>
   simp only[Abs.mat,h4 z rfl]at hk
   exact⟨S,hk,h, .refl S,h.cln _ (Xaj (h4 z rfl))⟩
  |none=>
   simp only[Abs.mat]at hk
   split at hk
   ·rename_i ns xs hs
    simp only[BV,evp,Xab,Xaa]at hk
    obtain⟨x,⟨l,hl,rfl⟩,hk⟩:=hk
    obtain⟨rfl,hc⟩:=h.segVals h3 hs hl
    have hx:(V.agg cs).nf.clean=true:=by show Zab (nfL cs)=true;grind[Ze7]
    exact⟨S.push (V.agg (nfL cs)),hk,h.push hx, .push _ _,hx⟩
   ·cases hk
 |tup az=>grind[Abs.mat,BV]
theorem Sat.matL {Γ:Gam}{f:Nat}{r:V}:∀{xs:List Opd} {S:PS V} {k:List V->PS V->Option V},Sat c S ι s->matL (BV Γ f) S xs k=some r->
  ∃ys S',k ys S'=some r/\Sat c S' ι s/\Ext S S'/\nfL (xs.map (evO s.tm))=ys/\Zab ys=true
 | [],S,k,h,hk=>⟨[],S,hk,h, .refl S,rfl,rfl⟩
 |o::xs,S,k,h,hk=>by
  simp only[Abs.matL]at hk
  cases ho:S.opd o with
  |none=>rw[ho]at hk;cases hk
  |some y=>
   rw[ho]at hk
   obtain⟨S1,h1,h2,h3,h4⟩:=h.mat (h.opd ho) hk
   obtain⟨ys,S2,h5,h6,h7,h8,h9⟩:=Sat.matL h2 h1
   refine⟨_,S2,h5,h6,h3.trans h7, ?_, ?_⟩
   ·simp only[Xan,nfL,h8]
   ·simp only[Zab,h4,h9,Xcv]
theorem Sat.put (h:Sat c S ι s)(d:Option Nat){y:Sy}{v:V}{o:Bool}(hy:SyS ι S.vals y v o):Sat c (S.put d y) ι (s.put d v o) where
 tm t z hz:=by
  rw[Z3o]at hz
  have hv:(S.put d y).vals=S.vals:=by cases d<;>rfl
  cases d with
  |none=>exact h.tm t z hz
  |some d=>
   by_cases e:d=t
   ·simp_all
   ·simp only[Xac,e]at hz
    rw[Z7f,Z2i,if_neg (Ne.symm e),if_neg (Ne.symm e)];exact h.tm t z hz
 ob k ss hk:=by
  have e:(S.put d y).obj k=S.obj k:=by cases d<;>rfl
  have hv:(S.put d y).vals=S.vals:=by cases d<;>rfl
  rw[e]at hk
  obtain⟨id,h1,h2⟩:=h.ob k ss hk
  cases d<;>simp_all
 nd:=h.nd
 lt id hid:=by have:=h.lt id hid;cases d<;>exact this
 len:=by cases d<;>exact h.len
 lits i b hb:=by cases d<;>exact h.lits i b hb
 cln x hx:=by cases d<;>exact h.cln x hx
 g:=by cases d<;>exact h.g
 pre:=h.pre
 new:=by cases d<;>exact h.new
 nH:=by cases d<;>exact h.nH
 fr id h1 h2:=by cases d<;>exact h.fr id h1 h2
end Go.Abs
