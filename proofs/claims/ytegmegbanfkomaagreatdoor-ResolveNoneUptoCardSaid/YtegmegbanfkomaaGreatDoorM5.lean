/-
  Parts of the proof, one behind the other. Own work of this seat; some printed by its programs.
-/
import Derived.Test.YtegmegbanfkomaaGreatDoorM3
namespace Go.Proofs.YtegmegbanfkomaaGreatDoor
open Go.Abs Go.RowKit Go.ChangeShapes Go.WideShapes
section
variable {P:Program}{w:World}
theorem Zmi {n:String}{d:DataW Unit}:∀{l:List (String×DataW Unit)} {ps:List MemPlace},DataW.LaidVars P w l ps->(n,d)∈l->
  ∃g t cs fuel p,P.globalNamed n=some g/\(P.globals[g]?).map (·.type)=some t/\w.var? P n=some cs/\DataW.trod (fun _=>()) P w 0 (fun _=>true) false fuel t cs.toList=some (d,p)
 | [],_,_,h=>by cases h
 |(m,c)::r,ps,hl,h=>by
  obtain⟨g,t,cs,fuel,p,q,h1,h2,h3,h4,h5,_⟩:=hl
  rcases Xap.1 h with e|h
  ·cases e;exact⟨g,t,cs,fuel,p,h1,h2,h3,h4⟩
  ·exact Zmi h5 h
theorem Zob {n:String}{g:Nat}{cs:Array Value}(hg:P.globalNamed n=some g)(h:w.var? P n=some cs):∃t x,w.heap[g]? =some (.cells cs t x):=by
 unfold World.var? at h
 rw[hg,Xaw]at h
 split at h
 ·rename_i c t x hx;cases h;exact⟨t,x,hx⟩
 ·cases h
theorem trod_int {enc:TypeId×Value->Unit}{held:Bool}{fuel:Nat}{e:TypeId}{k k':IntKind}{cs:List Value}{n:Int}{p:List MemPlace}(he:P.underlying e=some (.int k))(h:DataW.trod enc P w 0 (fun _=>true) held fuel e cs=some (.lit (.int k' n),p)):cs=[.int k n]/\k'=k:=by
 cases fuel with
 |zero=>simp[DataW.trod]at h
 |succ m=>
  unfold DataW.trod at h
  rw[he]at h
  split at h<;>simp_all
theorem Zzd {enc:TypeId×Value->Unit}{held:Bool}{fuel:Nat}{e:TypeId}{cs:List Value}{s:Bytes}{p:List MemPlace}(he:P.underlying e=some .string)(h:DataW.trod enc P w 0 (fun _=>true) held fuel e cs=some (.lit (.string s),p)):∃b:ByteArray,cs=[.string b]/\b.data.toList=s:=by
 cases fuel with
 |zero=>simp[DataW.trod]at h
 |succ m=>
  unfold DataW.trod at h
  rw[he]at h
  split at h<;>simp_all
theorem Z25 {laid:List (String×DataW Unit)}{n:String}{d:DataW Unit}{g:Nat}{t e:TypeId}{k:IntKind}{m:Nat}(ns:List Int)(h:laidMet P laid w)(hm:(n,d)∈laid)(hg:P.globalNamed n=some g)(ht:(P.globals[g]?).map (·.type)=some t)
  (hu:P.underlying t=some (.array m e)) (he:P.underlying e=some (.int k)) (hc:P.cellsOf e=1) (hct:P.cellsOf t=ns.length) (hd:d= .agg (ns.map fun i=> .lit (.int k i))):Row w (G0 w) (fun _=>none) (ns.map (V.int k)) g 0/\(ns.map (V.int k)).length<=G0 w g:=by
 obtain⟨ps,hl,_,_⟩:=h
 obtain⟨g',t',cs,fuel,p,h1,h2,h3,h4⟩:=Zmi hl hm
 rw[hg]at h1;cases h1
 rw[ht]at h2;cases h2
 obtain⟨t1,x1,hh⟩:=Zob hg h3
 obtain⟨xs,fu,_,hx,hlen,hxl,hel⟩:=DataW.trod_array hu h4
 have hxs:xs.map (·.1)=ns.map fun i=>(DataW.lit (.int k i):DataW Unit):=by
  have:=(Prod.mk.inj hx).1
  rw[hd]at this
  exact(DataW.agg.inj this).symm
 have hnl:xs.length=ns.length:=by have:=congrArg List.length hxs;simpa using this
 have hsz:cs.size=ns.length:=by rw[<-hct, <-hlen];simp
 have hcell:∀i,(hi:i<ns.length)->cs[i]? =some (.int k ns[i]):=by
  intro i hi
  have h5:=hel i (by omega)
  rw[hc,Xdn,Xad (by omega)]at h5
  have h6:xs[i].1=DataW.lit (.int k ns[i]):=by
   have h7:(xs.map (·.1))[i]? =(ns.map fun i=>(DataW.lit (.int k i):DataW Unit))[i]? :=by rw[hxs]
   rw[Xbe,Xbe,Xad (by omega),Xad hi]at h7
   simpa using h7
  obtain⟨h8,_⟩:=trod_int (n:=ns[i]) (p:=xs[i].2) (k':=k) he (by rw[h5];exact congrArg some (Prod.ext h6 rfl))
  have hi':i<cs.toList.length:=by simp;omega
  rw[Xah hi',Xc6,Xcw]at h8
  have h9:=(List.cons.inj h8).1
  rw[Xau (by omega)]
  simpa using h9
 refine⟨⟨fun c hc=> ?_,fun i c hc=> ?_⟩, ?_⟩
 ·obtain⟨j,_,rfl⟩:=Xa7.1 hc;rfl
 ·rw[Xbe]at hc
  obtain⟨j,hj,rfl⟩:=Xaa.1 hc
  obtain⟨hi,hj⟩:=Xak.1 hj
  refine⟨.int k j, ?_, .int k j⟩
  rw[Xao]
  simp only[World.cell?,hh]
  rw[<-hj];exact hcell i hi
 ·simp only[Xb2,G0,hh];omega
theorem Zwi {laid:List (String×DataW Unit)}{n:String}{d:DataW Unit}{g:Nat}{t e:TypeId}(ss:List Bytes)(h:laidMet P laid w)(hm:(n,d)∈laid)(hg:P.globalNamed n=some g)(ht:(P.globals[g]?).map (·.type)=some t)
  (hu:P.underlying t=some (.slice e)) (he:P.underlying e=some .string) (hc:P.cellsOf e=1) (hd:∃r,d= .slice (ss.map fun s=> .lit (.string s)) r) (hne:ss≠ []):Row w (G0 w) (fun _=>none) [.sl false 1 (ss.map V.str)] g 0/\([V.sl false 1 (ss.map V.str)]:List V).length<=G0 w g:=by
 obtain⟨ps,hl,_,_⟩:=h
 obtain⟨g',t',cs,fuel,p,h1,h2,h3,h4⟩:=Zmi hl hm
 rw[hg]at h1;cases h1
 rw[ht]at h2;cases h2
 obtain⟨t1,x1,hh⟩:=Zob hg h3
 obtain⟨rr,hd⟩:=hd
 rcases DataW.trod_slice hu h4 with⟨_,hx⟩|⟨a,len,cap,elems,rest,fu,_,hcs,hx,_,hlc,_,hel,hget,_,_⟩
 ·have:=(Prod.mk.inj hx).1;rw[hd]at this;cases this
 ·have hxs:elems.map (·.1)=ss.map fun s=>(DataW.lit (.string s):DataW Unit):=by
   have:=(Prod.mk.inj hx).1
   rw[hd]at this
   exact(DataW.slice.inj this).1.symm
  have hnl:elems.length=ss.length:=by have:=congrArg List.length hxs;simpa using this
  have hcell:∀i,(hi:i<ss.length)-> ∃b:ByteArray,w.cell? ((a.add i).add 0)=some (.string b)/\b.data.toList=ss[i]:=by
   intro i hi
   have h5:=hget i (by omega)
   rw[hc,Xdn,Xad (by omega)]at h5
   obtain⟨cc,h51,h52⟩:=Xab.1 h5
   have h6:elems[i].1=DataW.lit (.string ss[i]):=by
    have h7:(elems.map (·.1))[i]? =(ss.map fun s=>(DataW.lit (.string s):DataW Unit))[i]? :=by rw[hxs]
    rw[Xbe,Xbe,Xad (by omega),Xad hi]at h7
    simpa using h7
   obtain⟨b,rfl,hb⟩:=Zzd (s:=ss[i]) (p:=elems[i].2) he (by rw[h52];exact congrArg some (Prod.ext h6 rfl))
   refine⟨b, ?_,hb⟩
   have h8:=(World.cells?_some h51).2.2 0 (by decide)
   simpa using h8
  have hpos:0<ss.length:=Xal.2 hne
  obtain⟨ab,ao,am⟩:=a
  have ham:am=none:=by
   obtain⟨b,hb,_⟩:=hcell 0 hpos
   unfold World.cell? at hb
   split at hb
   ·cases am with
    |none=>rfl
    |some _=>simp[Addr.add]at hb
   ·cases hb
  subst ham
  have hcell:∀i,(hi:i<ss.length)-> ∃b:ByteArray,w.cell? ⟨ab,ao+i,none⟩=some (.string b)/\b.data.toList=ss[i]:=by
   intro i hi
   obtain⟨b,h1,h2⟩:=hcell i hi
   rw[Zbx,Zbx,Xea]at h1
   exact⟨b,h1,h2⟩
  have hsz:cs= #[.slice (some ⟨ab,ao,none⟩) len cap]:=by cases cs;simp_all
  refine⟨⟨fun c hc=> ?_,fun i c hc=> ?_⟩, ?_⟩
  ·obtain rfl:=Xbp.1 hc;rfl
  ·cases i with
   |succ i=>simp at hc
   |zero=>
    simp at hc;subst hc
    refine⟨.slice (some ⟨ab,ao,none⟩) len cap,by simp[World.cell?,hh,hsz], ?_⟩
    have hlen:(ss.map V.str).length=len:=by simp;omega
    have hrep:=Rep.sl (W:=w) (G:=G0 w) (φ:=fun _=>none) 1 (ss.map V.str) ab ao cap (fun k=>(w.cell? ⟨ab,ao+k,none⟩).getD undef) (by omega) ?_ ?_ ?_ ?_
    ·rw[hlen]at hrep;exact hrep
    ·obtain⟨b,hb,_⟩:=hcell (ss.length-1) (by omega)
     have:=(Zqd hb).2
     simp only[Xb2,Xdn];omega
    ·intro x hx
     obtain⟨s,_,rfl⟩:=Xa7.1 hx
     exact⟨rfl,fun c hc=>by obtain rfl:=Xbp.1 hc;rfl⟩
    ·intro k hk
     simp only[Xb2,Xdn]at hk
     obtain⟨b,hb,_⟩:=hcell k hk
     have hb':w.cell? ⟨ab,ao+k,none⟩=some (.string b):=hb
     rw[hb'];rfl
    ·intro i x j c hx hj
     rw[Xbe]at hx
     obtain⟨s,hs,rfl⟩:=Xaa.1 hx
     obtain⟨hi,hs⟩:=Xak.1 hs
     cases j with
     |succ j=>simp[V.cells]at hj
     |zero=>
      simp[V.cells]at hj;subst hj
      obtain⟨b,hb,hbs⟩:=hcell i hi
      have hb':w.cell? ⟨ab,ao+(i*1+0),none⟩=some (.string b):=by rw[Xdn];exact hb
      show Rep _ _ _ _ ((w.cell? ⟨ab,ao+(i*1+0),none⟩).getD undef)
      rw[hb'];exact .str s b (by rw[hbs,hs])
  ·simp only[G0,hh,hsz];simp
end
noncomputable def cxG (gls:Nat->Option (List V))(w:World):Cx:=⟨Tryz.prog,w,gls⟩
theorem Z6l {gls:Nat->Option (List V)}{w W:World}{G:Nat->Nat}(h:OKW (cxG gls w) W G):OKW (cxD w) W G:=⟨h.below,h.Glo,h.Gz⟩
theorem Z9b {gls:Nat->Option (List V)}{w:World}{f:FuncId}{args:List V}{r:V×Bool}(h:PC (cxD w) f args r):PC (cxG gls w) f args r:=⟨h.1,fun W G φ xs ho hr=>h.2 W G φ xs (Z6l ho) hr⟩
theorem Z3v {gls:Nat->Option (List V)}{w:World}{c:FC}(h:c.Holds (cxD w)):c.Holds (cxG gls w):=fun args y hr=>by
 obtain⟨v,o,h1,h2⟩:=h args y hr
 exact⟨v,o,Z9b h1,h2⟩
theorem Zzv {laid:List (String×DataW Unit)}{w:World}(h:laidMetH Tryz.prog laid w)(hn:(laid.filter fun x=>x.2.handleName?.isSome)=[]):laidMet Tryz.prog laid w:=by
 unfold laidMetH at h
 rw[hn]at h;exact h
end Go.Proofs.YtegmegbanfkomaaGreatDoor
