/-
  Parts of the proof, one behind the other. Own work of this seat; some printed by its programs.
-/
import Derived.Test.YtpmgdngjbdkdfaaGreatDoorM4
import Derived.Test.YtpmgdngjbdkdfaaGreatDoorCards
import Derived.Test.YtpmgdngjbdkdfaaGreatDoorTie
import Derived.ProofKit
import Derived.OpenShut
import Derived.Deep.DeepHandedRow
import Derived.Lib.LaidTab
namespace Go.Proofs.YtpmgdngjbdkdfaaGreatDoor
open Go.Abs
set_option maxRecDepth 10000
variable {e:Ev}
def Zv0 (b:Bytes)(i:Nat):W32:=(((bw (b.getD i 0)<<<24)|||(bw (b.getD (i+1) 0)<<<16))|||(bw (b.getD (i+2) 0)<<<8))|||bw (b.getD (i+3) 0)
def Zm3 (b:Bytes):Nat->Nat->List W32->List W32
 |0,_,ws=>ws
 |n+1,i,ws=>Zm3 b n (i+1) (ws.set i (Zv0 b (4*i)))
def sig0 (x:W32):W32:=(Zdk x 7^^^Zdk x 18)^^^(x>>>3)
def sig1 (x:W32):W32:=(Zdk x 17^^^Zdk x 19)^^^(x>>>10)
def schW :Nat->Nat->List W32->List W32
 |0,_,ws=>ws
 |n+1,i,ws=>schW n (i+1) (ws.set i (((ws.getD (i-16) 0+sig0 (ws.getD (i-15) 0))+ws.getD (i-7) 0)+sig1 (ws.getD (i-2) 0)))
def rndW (K ws:List W32):Nat->Nat->W32->W32->W32->W32->W32->W32->W32->W32->List W32
 |0,_,a,b,c,d,e,f,g,h=> [a,b,c,d,e,f,g,h]
 |n+1,i,a,b,c,d,e,f,g,h=>
  let p:=(((h+Znt e 6 11 25)+((e&&&f)^^^(~~~e&&&g)))+K.getD i 0)+ws.getD i 0
  let q:=Znt a 2 13 22+(((a&&&b)^^^(a&&&c))^^^(b&&&c))
  rndW K ws n (i+1) (p+q) a b c (d+p) e f g
def addW (x:List W32):Nat->Nat->List W32->List W32
 |0,_,st=>st
 |n+1,i,st=>addW x n (i+1) (st.set i (st.getD i 0+x.getD i 0))
def allW (b:Bytes):List W32:=schW 48 16 (Zm3 b 16 0 (List.replicate 64 0))
def Zdx (K:List W32)(st:List W32)(b:Bytes):List W32:=
 addW (rndW K (allW b) 64 0 (st.getD 0 0) (st.getD 1 0) (st.getD 2 0) (st.getD 3 0) (st.getD 4 0) (st.getD 5 0) (st.getD 6 0) (st.getD 7 0)) 8 0 st
theorem Zg9 (b:Bytes):∀(n i:Nat) (ws:List W32),(Zm3 b n i ws).length=ws.length
 |0,_,_=>rfl
 |n+1,i,ws=>by rw[Zm3,Zg9 b n];simp
theorem Zrn :∀(n i:Nat) (ws:List W32),(schW n i ws).length=ws.length
 |0,_,_=>rfl
 |n+1,i,ws=>by rw[schW,Zrn n];simp
theorem Zrp (b:Bytes):(allW b).length=64:=by rw[allW,Zrn,Zg9];simp
theorem Zml (x:List W32):∀(n i:Nat) (st:List W32),(addW x n i st).length=st.length
 |0,_,_=>rfl
 |n+1,i,st=>by rw[addW,Zml x n];simp
theorem Zbt {α:Type}{l:List α}{d:α}{i:Nat}(h:i<l.length):l.getD i d=l[i]:=by simp[List.getD,h]
theorem v_eb {b:Bytes}{i:Nat}(h:i<b.length):evp (.elem 1) [.sl false 1 (b.map byteV), .int .i64 (i:Int)]=some (byteV (b.getD i 0)):=Zgf (by simp[List.getD,h])
theorem Z5q {c:UInt8}:evp (.ld none 0) [byteV c]=some (byteV c):=rfl
theorem v.word (b:Bytes)(h:4<=b.length):vl e 107 0 [.sl false 1 (b.map byteV)]=some (bv (Zv0 b 0)):=by
 have h0:evp (.elem 1) [.sl false 1 (b.map byteV), .int .i64 0]=some (byteV (b.getD 0 0)):=v_eb (i:=0) (by omega)
 have h1:evp (.elem 1) [.sl false 1 (b.map byteV), .int .i64 1]=some (byteV (b.getD 1 0)):=v_eb (i:=1) (by omega)
 have h2:evp (.elem 1) [.sl false 1 (b.map byteV), .int .i64 2]=some (byteV (b.getD 2 0)):=v_eb (i:=2) (by omega)
 have h3:evp (.elem 1) [.sl false 1 (b.map byteV), .int .i64 3]=some (byteV (b.getD 3 0)):=v_eb (i:=3) (by omega)
 have s24:∀x:W32,evp (.bin .shl .no) [bv x, .int .u64 24]=some (bv (x<<<24)):=fun x=>Zn0 x 24 .u64 (by decide)
 have s16:∀x:W32,evp (.bin .shl .no) [bv x, .int .u64 16]=some (bv (x<<<16)):=fun x=>Zn0 x 16 .u64 (by decide)
 have s8:∀x:W32,evp (.bin .shl .no) [bv x, .int .u64 8]=some (bv (x<<<8)):=fun x=>Zn0 x 8 .u64 (by decide)
 rw[w.zq65];unfold y.zq65
 simp only[yy,h0,h1,h2,h3,Z5q,Zzv,s24,s16,s8,b_or];rfl
theorem Zsr (b:Bytes)(i:Nat):Zv0 (b.drop i) 0=Zv0 b i:=by
 unfold Zv0
 simp[List.getD,Xcg]
theorem Zxo (c:UInt8):(bw c).toNat<256:=by
 unfold bw
 rw[BitVec.toNat_ofNat]
 have:=c.toNat_lt
 omega
theorem Zv3 {x y:W32}(k:Nat)(hx:x.toNat % 2^k=0)(hy:y.toNat<2^k):x+y=x|||y:=by
 refine BitVec.add_eq_or_of_and_eq_zero x y ?_
 apply BitVec.eq_of_toNat_eq
 rw[BitVec.toNat_and]
 obtain⟨q,hq⟩:∃q,x.toNat=2^k*q:=⟨x.toNat/2^k,by have:=Xfp x.toNat (2^k);omega⟩
 show x.toNat&&&y.toNat=0
 rw[hq]
 apply Nat.eq_of_testBit_eq
 intro j
 rw[Nat.testBit_and,Nat.zero_testBit,Nat.testBit_two_pow_mul]
 by_cases hj:k<=j
 ·rw[Nat.testBit_lt_two_pow (Xb0 hy (Nat.pow_le_pow_right (by decide) hj)),Xeq]
 ·rw[decide_eq_false hj];rfl
theorem Zyj (a b c d:UInt8):(((bw a<<<24)+(bw b<<<16))+(bw c<<<8))+bw d=(((bw a<<<24)|||(bw b<<<16))|||(bw c<<<8))|||bw d:=by
 have ha:=Zxo a;have hb:=Zxo b;have hc:=Zxo c;have hd:=Zxo d
 have e24:(bw a<<<24).toNat=(bw a).toNat*16777216:=by rw[BitVec.toNat_shiftLeft,Xea];exact Xeb (by omega)
 have e16:(bw b<<<16).toNat=(bw b).toNat*65536:=by rw[BitVec.toNat_shiftLeft,Xea];exact Xeb (by omega)
 have e8:(bw c<<<8).toNat=(bw c).toNat*256:=by rw[BitVec.toNat_shiftLeft,Xea];exact Xeb (by omega)
 have h1:(bw a<<<24)+(bw b<<<16)=(bw a<<<24)|||(bw b<<<16):=Zv3 24 (by rw[e24];omega) (by rw[e16];omega)
 have t1:((bw a<<<24)+(bw b<<<16)).toNat=(bw a).toNat*16777216+(bw b).toNat*65536:=by rw[BitVec.toNat_add,e24,e16];omega
 have h2:((bw a<<<24)+(bw b<<<16))+(bw c<<<8)=((bw a<<<24)+(bw b<<<16))|||(bw c<<<8):=Zv3 16 (by rw[t1];omega) (by rw[e8];omega)
 have t2:(((bw a<<<24)+(bw b<<<16))+(bw c<<<8)).toNat=(bw a).toNat*16777216+(bw b).toNat*65536+(bw c).toNat*256:=by rw[BitVec.toNat_add,t1,e8];omega
 have h3:(((bw a<<<24)+(bw b<<<16))+(bw c<<<8))+bw d=(((bw a<<<24)+(bw b<<<16))+(bw c<<<8))|||bw d:=Zv3 8 (by rw[t2];omega) (by omega)
 rw[h3,h2,h1]
theorem Z1o {b:Bytes}(hb:b.length=64){i:Nat}(hi:i<64):evp (.snapd 0 64) [bl b, .int .i64 (i:Int)]=some (.sl false 1 ((b.drop i).map byteV)):=by
 refine(if_pos (show 0<=(i:Int)/\(i:Int)<(64:Nat)/\0+64<=(bl b).cells.length from⟨by omega,by omega,by show _<=(b.map byteV).length;simp;omega⟩)).trans ?_
 show some (V.sl false 1 (((b.map byteV).drop (0+(i:Int).toNat)).take (64-(i:Int).toNat)))=_
 rw[Xan,Xbu,Xe1,Xaw (by simp;omega)]
theorem Z8e {x:W32}:evp .flr [bv x]=some (bv x):=rfl
theorem mul4 {i:Nat}(h:i<64):IntKind.i64.wrap (4*(i:Int))=((4*i:Nat):Int):=by rw[w64 _ (by omega)];omega
theorem v.load (st:V)(b:Bytes)(hb:b.length=64):∀(n i:Nat) (ws:List W32),i+n=16->ws.length=64->
  vl e 11456 8 [I i,st,bl b,wl ws]=vl e 11456 25 [I 16,st,bl b,wl (Zm3 b n i ws)]
 |0,i,ws,hi,hw=>by
  rw[w.zq29_h0_8];unfold y.zq29_h0_8
  simp only[yy,if_neg (show ¬((i:Int)<16)by omega)];rfl
 |n+1,i,ws,hi,hw=>by
  have hd:=v.word (e:=e) (b.drop (4*i)) (by simp;omega)
  rw[Zsr]at hd
  rw[w.zq29_h0_8];unfold y.zq29_h0_8
  simp only[yy,if_pos (show(i:Int)<16 by omega),Zj8,mul4 (show i<64 by omega),Zfj (m:=64) (k:= .i64) (i:=((4*i:Nat):Int)) (by omega) (by omega),Z1o hb (show 4*i<64 by omega),hd,Z8e,Zfj (m:=64) (k:= .i64) (i:=(i:Int)) (by omega) (by omega),Zve (show i<ws.length by omega),Zam (show i<64 by omega) (by decide)]
  exact v.load st b hb n (i+1) _ (by omega) (by simpa using hw)
theorem v.nload (st K z:V)(b:Bytes)(hb:b.length=64):∀(n i:Nat) (ws:List W32),i+n=16->ws.length=64->
  vl e 84 10 [.sl false 1 (b.map byteV),I i,st,K,z,wl ws]=vl e 84 25 [I 16,st,K,z,wl (Zm3 b n i ws)]
 |0,i,ws,hi,hw=>by
  rw[w.zq44_10];unfold y.zq44_10
  simp only[yy,if_neg (show ¬((i:Int)<16)by omega)];rfl
 |n+1,i,ws,hi,hw=>by
  have s24:∀x:W32,evp (.bin .shl .no) [bv x, .int .u64 24]=some (bv (x<<<24)):=fun x=>Zn0 x 24 .u64 (by decide)
  have s16:∀x:W32,evp (.bin .shl .no) [bv x, .int .u64 16]=some (bv (x<<<16)):=fun x=>Zn0 x 16 .u64 (by decide)
  have s8:∀x:W32,evp (.bin .shl .no) [bv x, .int .u64 8]=some (bv (x<<<8)):=fun x=>Zn0 x 8 .u64 (by decide)
  have e1:IntKind.i64.wrap (((4*i:Nat):Int)+1)=((4*i+1:Nat):Int):=by rw[w64 _ (by omega)];omega
  have e2:IntKind.i64.wrap (((4*i:Nat):Int)+2)=((4*i+2:Nat):Int):=by rw[w64 _ (by omega)];omega
  have e3:IntKind.i64.wrap (((4*i:Nat):Int)+3)=((4*i+3:Nat):Int):=by rw[w64 _ (by omega)];omega
  rw[w.zq44_10];unfold y.zq44_10
  simp only[yy,if_pos (show(i:Int)<16 by omega),Zj8,mul4 (show i<64 by omega),e1,e2,e3,v_eb (show 4*i<b.length by omega),v_eb (show 4*i+1<b.length by omega),v_eb (show 4*i+2<b.length by omega),v_eb (show 4*i+3<b.length by omega),Z5q,Zzv,s24,s16,s8,b_add,Zyj,
   Zfj (m:=64) (k:= .i64) (i:=(i:Int)) (by omega) (by omega),Zve (show i<ws.length by omega),Zam (show i<64 by omega) (by decide)]
  exact v.nload st K z b hb n (i+1) _ (by omega) (by simpa using hw)
theorem Zm6 {l:List W32}{i j:Nat}{x:Int}(hj:IntKind.i64.wrap x=(j:Int))(h:j<64)(hl:l.length=64):evp (.chk 64) [.int .i64 (IntKind.i64.wrap x)]=some (.int .i64 (j:Int))/\evp (.ldd none 0 1) [wl l, .int .i64 (j:Int)]=some (bv (l.getD j 0)):=by
 rw[hj]
 exact⟨Zfj (by omega) (by omega),by rw[Zss (by omega),Zbt (by omega)]⟩
theorem Zh2 {i k:Nat}(h:k<=i)(hi:i<1000):IntKind.i64.wrap ((i:Int)-(k:Int))=((i-k:Nat):Int):=by rw[w64 _ (by omega)];omega
theorem v.sched (a0 a1 a2 a3 a4 a5 a6 a7:W32)(b:V):∀(n i:Nat) (ws:List W32),i+n=64->16<=i->ws.length=64->
  vl e 11456 25 [I i,wl [a0,a1,a2,a3,a4,a5,a6,a7],b,wl ws]=vl e 11456 48 [bv a0,bv a1,bv a2,bv a3,bv a4,bv a5,bv a6,bv a7,wl (schW n i ws),I 0,wl [a0,a1,a2,a3,a4,a5,a6,a7],b]
 |0,i,ws,hi,_,hw=>by
  have l:∀k x,([a0,a1,a2,a3,a4,a5,a6,a7].map bv)[k]? =some x->evp (.ld none k) [wl [a0,a1,a2,a3,a4,a5,a6,a7]]=some x:=fun k x h=>h
  rw[w.zq29_h0_25];unfold y.zq29_h0_25
  simp only[yy,if_neg (show ¬((i:Int)<64)by omega),l 0 _ rfl,l 1 _ rfl,l 2 _ rfl,l 3 _ rfl,l 4 _ rfl,l 5 _ rfl,l 6 _ rfl,l 7 _ rfl];rfl
 |n+1,i,ws,hi,h16,hw=>by
  obtain⟨c15,l15⟩:=Zm6 (l:=ws) (i:=i) (j:=i-15) (x:=(i:Int)-15) (Zh2 (k:=15) (by omega) (by omega)) (by omega) hw
  obtain⟨c2,l2⟩:=Zm6 (l:=ws) (i:=i) (j:=i-2) (x:=(i:Int)-2) (Zh2 (k:=2) (by omega) (by omega)) (by omega) hw
  obtain⟨c16,l16⟩:=Zm6 (l:=ws) (i:=i) (j:=i-16) (x:=(i:Int)-16) (Zh2 (k:=16) (by omega) (by omega)) (by omega) hw
  obtain⟨c7,l7⟩:=Zm6 (l:=ws) (i:=i) (j:=i-7) (x:=(i:Int)-7) (Zh2 (k:=7) (by omega) (by omega)) (by omega) hw
  have r7:∀x:W32,vl e 108 0 [bv x, .int .i64 (-7)]=some (bv (Zdk x 7)):=fun x=>v.rot x 7 (by decide) (by decide) rfl
  have r18:∀x:W32,vl e 108 0 [bv x, .int .i64 (-18)]=some (bv (Zdk x 18)):=fun x=>v.rot x 18 (by decide) (by decide) rfl
  have r17:∀x:W32,vl e 108 0 [bv x, .int .i64 (-17)]=some (bv (Zdk x 17)):=fun x=>v.rot x 17 (by decide) (by decide) rfl
  have r19:∀x:W32,vl e 108 0 [bv x, .int .i64 (-19)]=some (bv (Zdk x 19)):=fun x=>v.rot x 19 (by decide) (by decide) rfl
  have s3:∀x:W32,evp (.bin .shr .no) [bv x, .int .u64 3]=some (bv (x>>>3)):=fun x=>Znu x 3 .u64 (by decide)
  have s10:∀x:W32,evp (.bin .shr .no) [bv x, .int .u64 10]=some (bv (x>>>10)):=fun x=>Znu x 10 .u64 (by decide)
  rw[w.zq29_h0_25];unfold y.zq29_h0_25
  simp only[yy,if_pos (show(i:Int)<64 by omega),c15,l15,c2,l2,c16,l16,c7,l7,r7,r18,r17,r19,s3,s10,b_xor,b_add,Zfj (m:=64) (k:= .i64) (i:=(i:Int)) (by omega) (by omega),Zve (show i<ws.length by omega),Zam (show i<64 by omega) (by decide)]
  exact v.sched a0 a1 a2 a3 a4 a5 a6 a7 b n (i+1) _ (by omega) (by omega) (by simpa using hw)
theorem v.nsched (a0 a1 a2 a3 a4 a5 a6 a7:W32)(K z:V):∀(n i:Nat) (ws:List W32),i+n=64->16<=i->ws.length=64->
  vl e 84 25 [I i,wl [a0,a1,a2,a3,a4,a5,a6,a7],K,z,wl ws]=vl e 84 48 [bv a0,bv a1,bv a2,bv a3,bv a4,bv a5,bv a6,bv a7,I 0,wl [a0,a1,a2,a3,a4,a5,a6,a7],K,z,wl (schW n i ws)]
 |0,i,ws,hi,_,hw=>by
  have l:∀k x,([a0,a1,a2,a3,a4,a5,a6,a7].map bv)[k]? =some x->evp (.ld none k) [wl [a0,a1,a2,a3,a4,a5,a6,a7]]=some x:=fun k x h=>h
  rw[w.zq44_25];unfold y.zq44_25
  simp only[yy,if_neg (show ¬((i:Int)<64)by omega),l 0 _ rfl,l 1 _ rfl,l 2 _ rfl,l 3 _ rfl,l 4 _ rfl,l 5 _ rfl,l 6 _ rfl,l 7 _ rfl];rfl
 |n+1,i,ws,hi,h16,hw=>by
  obtain⟨c15,l15⟩:=Zm6 (l:=ws) (i:=i) (j:=i-15) (x:=(i:Int)-15) (Zh2 (k:=15) (by omega) (by omega)) (by omega) hw
  obtain⟨c2,l2⟩:=Zm6 (l:=ws) (i:=i) (j:=i-2) (x:=(i:Int)-2) (Zh2 (k:=2) (by omega) (by omega)) (by omega) hw
  obtain⟨c16,l16⟩:=Zm6 (l:=ws) (i:=i) (j:=i-16) (x:=(i:Int)-16) (Zh2 (k:=16) (by omega) (by omega)) (by omega) hw
  obtain⟨c7,l7⟩:=Zm6 (l:=ws) (i:=i) (j:=i-7) (x:=(i:Int)-7) (Zh2 (k:=7) (by omega) (by omega)) (by omega) hw
  have r7:∀x:W32,vl e 101 0 [bv x, .int .u64 7]=some (bv (Zdk x 7)):=fun x=>v.turn x 7 (by decide)
  have r18:∀x:W32,vl e 101 0 [bv x, .int .u64 18]=some (bv (Zdk x 18)):=fun x=>v.turn x 18 (by decide)
  have r17:∀x:W32,vl e 101 0 [bv x, .int .u64 17]=some (bv (Zdk x 17)):=fun x=>v.turn x 17 (by decide)
  have r19:∀x:W32,vl e 101 0 [bv x, .int .u64 19]=some (bv (Zdk x 19)):=fun x=>v.turn x 19 (by decide)
  have s3:∀x:W32,evp (.bin .shr .no) [bv x, .int .u64 3]=some (bv (x>>>3)):=fun x=>Znu x 3 .u64 (by decide)
  have s10:∀x:W32,evp (.bin .shr .no) [bv x, .int .u64 10]=some (bv (x>>>10)):=fun x=>Znu x 10 .u64 (by decide)
  rw[w.zq44_25];unfold y.zq44_25
  simp only[yy,if_pos (show(i:Int)<64 by omega),c15,l15,c2,l2,c16,l16,c7,l7,r7,r18,r17,r19,s3,s10,b_xor,b_add,Zfj (m:=64) (k:= .i64) (i:=(i:Int)) (by omega) (by omega),Zve (show i<ws.length by omega),Zam (show i<64 by omega) (by decide)]
  exact v.nsched a0 a1 a2 a3 a4 a5 a6 a7 K z n (i+1) _ (by omega) (by omega) (by simpa using hw)
end Go.Proofs.YtpmgdngjbdkdfaaGreatDoor
namespace Go.Proofs.YtpmgdngjbdkdfaaGreatDoor
open Go.Abs
set_option maxRecDepth 10000
variable {e:Ev}
def KT :List W32:=[1116352408,1899447441,3049323471,3921009573,961987163,1508970993,2453635748,2870763221,3624381080,310598401,607225278,1426881987,1925078388,2162078206,2614888103,3248222580,3835390401,4022224774,264347078,604807628,770255983,1249150122,1555081692,1996064986,2554220882,2821834349,2952996808,3210313671,3336571891,3584528711,113926993,338241895,666307205,773529912,1294757372,1396182291,1695183700,1986661051,2177026350,2456956037,2730485921,2820302411,3259730800,3345764771,3516065817,3600352804,4094571909,275423344,430227734,506948616,659060556,883997877,958139571,1322822218,1537002063,1747873779,1955562222,2024104815,2227730452,2361852424,2428436474,2756734187,3204031479,3329325298]
theorem Z9g :tb0=KT.map bv:=rfl
theorem Zmu :KT.length=64:=rfl
theorem Z9n {k:IntKind}{i:Nat}(h:i<64):evp (.ldd none 0 1) [.agg tb0, .int k (i:Int)]=some (bv (KT.getD i 0)):=by
 rw[Z9g,Zbt (by rw[Zmu];exact h)];exact Zss (by rw[Zmu];exact h)
theorem Ztx {m:Nat}{l:List W32}{i:Nat}(h:i<l.length)(hm:i<m):evp (.idxa m 1 none) [wl l, .int .i64 (i:Int)]=some (bv (l.getD i 0)):=by
 show(if 0<=(i:Int)/\(i:Int)<(m:Int)then(l.map bv)[(i:Int).toNat*1]? else none)=_
 rw[if_pos ⟨by omega,by omega⟩,Xcw,Xbu,Xbt,Xad h,Zbt h];rfl
theorem v.rounds (st b:V)(ws:List W32)(hw:ws.length=64):∀(n i:Nat) (a b1 c d e1 f g h:W32),i+n=64->
  vl e 11456 48 [bv a,bv b1,bv c,bv d,bv e1,bv f,bv g,bv h,wl ws,I i,st,b]=vl e 11456 72 [wl (rndW KT ws n i a b1 c d e1 f g h),I 0,st,b]
 |0,i,a,b1,c,d,e1,f,g,h,hi=>by
  have hc:evp (.cat [none,none,none,none,none,none,none,none]) [bv a,bv b1,bv c,bv d,bv e1,bv f,bv g,bv h]=some (wl [a,b1,c,d,e1,f,g,h]):=rfl
  rw[w.zq29_h0_48];unfold y.zq29_h0_48
  simp only[yy,if_neg (show ¬((i:Int)<64)by omega),hc];rfl
 |n+1,i,a,b1,c,d,e1,f,g,h,hi=>by
  have r (k:Nat) (hk:k<=32) (h1:1<=k) (hq:evp (.bin .and .no) [.int .u64 (IntKind.u64.wrap (-(k:Int))), .int .u64 31]=some (.int .u64 ((32-k:Nat):Int))) (x:W32):=v.rot (e:=e) x k hk h1 hq
  have r6:∀x:W32,vl e 108 0 [bv x, .int .i64 (-6)]=some (bv (Zdk x 6)):=r 6 (by decide) (by decide) rfl
  have r11:∀x:W32,vl e 108 0 [bv x, .int .i64 (-11)]=some (bv (Zdk x 11)):=r 11 (by decide) (by decide) rfl
  have r25:∀x:W32,vl e 108 0 [bv x, .int .i64 (-25)]=some (bv (Zdk x 25)):=r 25 (by decide) (by decide) rfl
  have r2:∀x:W32,vl e 108 0 [bv x, .int .i64 (-2)]=some (bv (Zdk x 2)):=r 2 (by decide) (by decide) rfl
  have r13:∀x:W32,vl e 108 0 [bv x, .int .i64 (-13)]=some (bv (Zdk x 13)):=r 13 (by decide) (by decide) rfl
  have r22:∀x:W32,vl e 108 0 [bv x, .int .i64 (-22)]=some (bv (Zdk x 22)):=r 22 (by decide) (by decide) rfl
  rw[w.zq29_h0_48];unfold y.zq29_h0_48
  simp only[yy,if_pos (show(i:Int)<64 by omega),Ztx (m:=64) (l:=ws) (i:=i) (by omega) (by omega),r6,r11,r25,b_xor,b_add,b_and,Z5w,Zfj (m:=64) (k:= .i64) (i:=(i:Int)) (by omega) (by omega)]
  refine Zus (Z9n (show i<64 by omega)) ?_
  simp only[yy,b_add,r2,r13,r22,b_xor,b_and,Zam (show i<64 by omega) (by decide)]
  exact v.rounds st b ws hw n (i+1) _ _ _ _ _ _ _ _ (by omega)
theorem v.nrounds (st z:V)(ws:List W32)(hw:ws.length=64)(a0 a1 a2 a3 a4 a5 a6 a7:W32):∀(n i:Nat) (a b1 c d e1 f g h:W32),i+n=64->
  vl e 84 48 [bv a,bv b1,bv c,bv d,bv e1,bv f,bv g,bv h,I i,wl [a0,a1,a2,a3,a4,a5,a6,a7],wl KT,z,wl ws]=some (wl (addW (rndW KT ws n i a b1 c d e1 f g h) 8 0 [a0,a1,a2,a3,a4,a5,a6,a7]))
 |0,i,a,b1,c,d,e1,f,g,h,hi=>by
  have l:∀k x,([a0,a1,a2,a3,a4,a5,a6,a7].map bv)[k]? =some x->evp (.ld none k) [wl [a0,a1,a2,a3,a4,a5,a6,a7]]=some x:=fun k x h=>h
  have hc:∀x0 x1 x2 x3 x4 x5 x6 x7:W32,evp (.cat [none,none,none,none,none,none,none,none]) [bv x0,bv x1,bv x2,bv x3,bv x4,bv x5,bv x6,bv x7]=some (wl [x0,x1,x2,x3,x4,x5,x6,x7]):=fun _ _ _ _ _ _ _ _=>rfl
  rw[w.zq44_48];unfold y.zq44_48
  simp only[yy,if_neg (show ¬((i:Int)<64)by omega),l 0 _ rfl,l 1 _ rfl,l 2 _ rfl,l 3 _ rfl,l 4 _ rfl,l 5 _ rfl,l 6 _ rfl,l 7 _ rfl,b_add,hc];rfl
 |n+1,i,a,b1,c,d,e1,f,g,h,hi=>by
  have t6:∀x:W32,vl e 102 0 [bv x, .int .u64 6, .int .u64 11, .int .u64 25]=some (bv (Znt x 6 11 25)):=fun x=>v.three x 6 11 25 (by decide) (by decide) (by decide)
  have t2:∀x:W32,vl e 102 0 [bv x, .int .u64 2, .int .u64 13, .int .u64 22]=some (bv (Znt x 2 13 22)):=fun x=>v.three x 2 13 22 (by decide) (by decide) (by decide)
  have lk:evp (.ldd none 0 1) [wl KT, .int .i64 (i:Int)]=some (bv (KT.getD i 0)):=by rw[Zss (by rw[Zmu];omega),Zbt (by rw[Zmu];omega)]
  have lw:evp (.ldd none 0 1) [wl ws, .int .i64 (i:Int)]=some (bv (ws.getD i 0)):=by rw[Zss (by omega),Zbt (by omega)]
  rw[w.zq44_48];unfold y.zq44_48
  simp only[yy,if_pos (show(i:Int)<64 by omega),t6,t2,b_xor,b_add,b_and,Z5w,Zfj (m:=64) (k:= .i64) (i:=(i:Int)) (by omega) (by omega),lk,lw,Zam (show i<64 by omega) (by decide)]
  exact v.nrounds st z ws hw a0 a1 a2 a3 a4 a5 a6 a7 n (i+1) _ _ _ _ _ _ _ _ (by omega)
theorem v.addR (b:V)(x:List W32)(hx:x.length=8):∀(n i:Nat) (st:List W32),i+n=8->st.length=8->
  vl e 11456 72 [wl x,I i,wl st,b]=some (.tup [wl (addW x n i st),b])
 |0,i,st,hi,hs=>by
  rw[w.zq29_h0_72];unfold y.zq29_h0_72
  simp only[yy,if_neg (show ¬((i:Int)<8)by omega)];rfl
 |n+1,i,st,hi,hs=>by
  have lw:evp (.ldd none 0 1) [wl st, .int .i64 (i:Int)]=some (bv (st.getD i 0)):=by rw[Zss (by omega),Zbt (by omega)]
  rw[w.zq29_h0_72];unfold y.zq29_h0_72
  simp only[yy,if_pos (show(i:Int)<8 by omega),Ztx (m:=8) (l:=x) (i:=i) (by omega) (by omega),Zfj (m:=8) (k:= .i64) (i:=(i:Int)) (by omega) (by omega),lw,b_add,Zve (show i<st.length by omega),Zam (show i<8 by omega) (by decide)]
  exact v.addR b x hx n (i+1) _ (by omega) (by simpa using hs)
theorem Zr0 (K ws:List W32):∀(n i:Nat) (a b c d e f g h:W32),(rndW K ws n i a b c d e f g h).length=8
 |0,_,_,_,_,_,_,_,_,_=>rfl
 |n+1,i,a,b,c,d,e,f,g,h=>Zr0 K ws n (i+1) _ _ _ _ _ _ _ _
theorem Z3n {l:List W32}(h:l.length=8):∃a b c d e f g h,l=[a,b,c,d,e,f,g,h]:=by
 match l,h with
 | [a,b,c,d,e,f,g,h],_=>exact⟨a,b,c,d,e,f,g,h,rfl⟩
theorem v.block (st:List W32)(hs:st.length=8)(b:Bytes)(hb:b.length=64):vl e 11456 1 [wl st,bl b]=some (.tup [wl (Zdx KT st b),bl b]):=by
 obtain⟨a0,a1,a2,a3,a4,a5,a6,a7,rfl⟩:=Z3n hs
 rw[w.zq29_h0];unfold y.zq29_h0
 have hz:V.agg (repl 64 (.int .u32 0))=wl (List.replicate 64 0):=rfl
 rw[hz]
 have h1:=v.load (e:=e) (wl [a0,a1,a2,a3,a4,a5,a6,a7]) b hb 16 0 (List.replicate 64 0) (by decide) (by simp)
 have h2:=v.sched (e:=e) a0 a1 a2 a3 a4 a5 a6 a7 (bl b) 48 16 (Zm3 b 16 0 (List.replicate 64 0)) (by decide) (by decide) (by rw[Zg9];simp)
 have h3:=v.rounds (e:=e) (wl [a0,a1,a2,a3,a4,a5,a6,a7]) (bl b) (allW b) (Zrp b) 64 0 a0 a1 a2 a3 a4 a5 a6 a7 (by decide)
 have h4:=v.addR (e:=e) (bl b) (rndW KT (allW b) 64 0 a0 a1 a2 a3 a4 a5 a6 a7) (Zr0 ..) 8 0 [a0,a1,a2,a3,a4,a5,a6,a7] (by decide) rfl
 exact h1.trans (h2.trans (h3.trans h4))
theorem v.Next (st:List W32)(hs:st.length=8)(b:Bytes)(hb:b.length=64):vl e 84 0 [wl st, .sl false 1 (b.map byteV),wl KT]=some (wl (Zdx KT st b)):=by
 obtain⟨a0,a1,a2,a3,a4,a5,a6,a7,rfl⟩:=Z3n hs
 rw[w.zq44];unfold y.zq44
 have hz:V.agg (repl 64 (.int .u32 0))=wl (List.replicate 64 0):=rfl
 have hz8:V.agg [.int .u32 0, .int .u32 0, .int .u32 0, .int .u32 0, .int .u32 0, .int .u32 0, .int .u32 0, .int .u32 0]=wl (List.replicate 8 0):=rfl
 have hsc:∀l:List W32,evp .scs [wl l]=some (wl l):=fun l=>if_pos (by
  rw[Xal];intro c hc
  obtain⟨x,_,rfl⟩:=Xa9.1 (show c∈l.map bv from hc);rfl)
 rw[hz]
 simp only[yy,hsc]
 have h1:=v.nload (e:=e) (wl [a0,a1,a2,a3,a4,a5,a6,a7]) (wl KT) (wl (List.replicate 8 0)) b hb 16 0 (List.replicate 64 0) (by decide) (by simp)
 have h2:=v.nsched (e:=e) a0 a1 a2 a3 a4 a5 a6 a7 (wl KT) (wl (List.replicate 8 0)) 48 16 (Zm3 b 16 0 (List.replicate 64 0)) (by decide) (by decide) (by rw[Zg9];simp)
 have h3:=v.nrounds (e:=e) (wl [a0,a1,a2,a3,a4,a5,a6,a7]) (wl (List.replicate 8 0)) (allW b) (Zrp b) a0 a1 a2 a3 a4 a5 a6 a7 64 0 a0 a1 a2 a3 a4 a5 a6 a7 (by decide)
 exact h1.trans (h2.trans h3)
theorem v.Numbers :vl e 83 0 []=some (wl KT):=by
 rw[w.zq45];rfl
end Go.Proofs.YtpmgdngjbdkdfaaGreatDoor
namespace Go.Proofs.YtpmgdngjbdkdfaaGreatDoor
open Go.Abs
set_option maxRecDepth 10000
variable {e:Ev}
theorem Zqk (b:Bytes):encB b=b.map byteV:=rfl
theorem fill {α:Type}{F Z:List α}{i:Nat}(hi:i<F.length)(hl:F.length=Z.length):(F.take i++Z.drop i).set i F[i]=F.take (i+1)++Z.drop (i+1):=by
 have hz:Z.drop i=Z[i]'(by omega)::Z.drop (i+1):=Xap (by omega)
 have ht:F.take (i+1)=F.take i++ [F[i]]:=by simp
 have hlt:(F.take i).length=i:=by simp;omega
 rw[ht,hz,Xcl _ _ (by omega),hlt,Xfl,List.set_cons_zero,Xaj];rfl
theorem Zim {α:Type}{F Z:List α}{i:Nat}(hi:i<=F.length)(hl:F.length=Z.length):(F.take i++Z.drop i).length=F.length:=by simp;omega
def outB (st:List W32):Bytes:=(List.range 32).map fun i=>wb ((st.getD (i/4) 0)>>>(24-8*(i % 4)))
theorem Zgw (st:List W32):(outB st).length=32:=by simp[outB]
theorem Zr2 (st:List W32){i:Nat}(h:i<(outB st).length):(outB st)[i]=wb ((st.getD (i/4) 0)>>>(24-8*(i % 4))):=by simp[outB]
theorem Za3 {o:Bytes}(h:o.length=32):evp (.cat [some 32]) [bl o]=some (bl o):=by
 show(catV [some 32] [bl o]).map V.agg=_
 have hc:(bl o).cells.length=32/\(bl o).cells.all V.sc=true:=⟨by show(o.map byteV).length=32;simpa using h,by
  rw[Xal];intro c hc
  obtain⟨x,_,rfl⟩:=Xa9.1 (show c∈o.map byteV from hc);rfl⟩
 show((if(bl o).cells.length=32/\(bl o).cells.all V.sc=true then(catV [] []).map ((bl o).cells++ ·)else none)).map V.agg=_
 rw[if_pos hc]
 show some (V.agg ((bl o).cells++ []))=_
 rw[Xao];rfl
theorem Z3t :V.agg (repl 32 (.int .u8 0))=bl (List.replicate 32 0):=rfl
theorem v.out (z:V)(st:List W32)(hs:st.length=8):∀(n i:Nat),i+n=32->
  vl e 70 64 [I i,z,wl st,bl ((outB st).take i++(List.replicate 32 0).drop i)]=some (bl (outB st))
 |0,i,hi=>by
  have hl:=Zgw st
  rw[Xaw (by omega),Xav (by simp;omega),Xao]
  rw[w.zq63_64];unfold y.zq63_64
  simp only[yy,if_neg (show ¬((i:Int)<32)by omega),Za3 hl]
 |n+1,i,hi=>by
  have hl:=Zgw st
  have hq:evp (.bin .quo .no) [.int .i64 (i:Int), .int .i64 4]=some (.int .i64 ((i/4:Nat):Int)):=Zw2 (k:=4) (by decide) (by omega)
  have hr:evp (.bin .rem .no) [.int .i64 (i:Int), .int .i64 4]=some (.int .i64 ((i % 4:Nat):Int)):=Zu0 (k:=4) (by decide)
  have e1:IntKind.i64.wrap (8*((i % 4:Nat):Int))=((8*(i % 4):Nat):Int):=by rw[w64 _ (by omega)];omega
  have e2:IntKind.i64.wrap (24-((8*(i % 4):Nat):Int))=((24-8*(i % 4):Nat):Int):=by rw[w64 _ (by omega)];omega
  have lw:evp (.ldd none 0 1) [wl st, .int .i64 ((i/4:Nat):Int)]=some (bv (st.getD (i/4) 0)):=by rw[Zss (by omega),Zbt (by omega)]
  have hset:((outB st).take i++(List.replicate 32 0).drop i).set i (wb ((st.getD (i/4) 0)>>>(24-8*(i % 4))))=(outB st).take (i+1)++(List.replicate 32 0).drop (i+1):=by
   rw[<-Zr2 st (by omega)];exact fill (by omega) (by simpa using hl)
  have hst:=Zky (k:= .i64) (l:=(outB st).take i++(List.replicate 32 0).drop i) (i:=i) (x:=wb ((st.getD (i/4) 0)>>>(24-8*(i % 4)))) (by rw[Zim (by omega) (by simpa using hl)];omega)
  rw[hset]at hst
  rw[w.zq63_64];unfold y.zq63_64
  simp only[yy,if_pos (show(i:Int)<32 by omega),hq,Zfj (m:=8) (k:= .i64) (i:=((i/4:Nat):Int)) (by omega) (by omega),lw,hr,Zj8,e1,e2,Znu (st.getD (i/4) 0) (24-8*(i % 4)) .i64 (by omega),Zrw,Zfj (m:=32) (k:= .i64) (i:=(i:Int)) (by omega) (by omega),hst,Zam (show i<64 by omega) (by decide)]
  exact v.out z st hs n (i+1) (by omega)
theorem v.nout45 (st:List W32)(hs:st.length=8)(i:Nat)(hi:i<8):∀(n j:Nat),j+n=4->
  vl e 62 45 [I i,bv (st.getD i 0),I j,wl st,I i,V.agg (repl 32 (.int .u8 0)),bl ((outB st).take (4*i+j)++(List.replicate 32 0).drop (4*i+j))]=
   vl e 62 31 [wl st,I ((i+1:Nat):Int),V.agg (repl 32 (.int .u8 0)),bl ((outB st).take (4*(i+1))++(List.replicate 32 0).drop (4*(i+1)))]
 |0,j,hj=>by
  rw[w.zq46_45];unfold y.zq46_45
  have:4*i+j=4*(i+1):=by omega
  rw[this]
  simp only[yy,if_neg (show ¬((j:Int)<4)by omega),Zam (show i<64 by omega) (by decide)]
 |n+1,j,hj=>by
  have hl:=Zgw st
  have e0:IntKind.i64.wrap (4*(i:Int))=((4*i:Nat):Int):=mul4 (by omega)
  have e1:IntKind.i64.wrap (((4*i:Nat):Int)+(j:Int))=((4*i+j:Nat):Int):=by rw[w64 _ (by omega)];omega
  have e2:IntKind.i64.wrap (8*(j:Int))=((8*j:Nat):Int):=by rw[w64 _ (by omega)];omega
  have e3:IntKind.i64.wrap (24-((8*j:Nat):Int))=((24-8*j:Nat):Int):=by rw[w64 _ (by omega)];omega
  have e4:evp (.i2i .u64) [.int .i64 ((24-8*j:Nat):Int)]=some (.int .u64 ((24-8*j:Nat):Int)):=by
   show some (V.int .u64 (IntKind.u64.wrap ((24-8*j:Nat):Int)))=_
   rw[Zd3,Xdd (by omega) (by omega)]
  have hd:(4*i+j)/4=i/\(4*i+j) % 4=j:=by omega
  have hset:((outB st).take (4*i+j)++(List.replicate 32 0).drop (4*i+j)).set (4*i+j) (wb ((st.getD i 0)>>>(24-8*j)))=(outB st).take (4*i+(j+1))++(List.replicate 32 0).drop (4*i+(j+1)):=by
   have:=Zr2 st (i:=4*i+j) (by omega)
   rw[hd.1,hd.2]at this
   rw[<-this];exact fill (by omega) (by simpa using hl)
  have hst:=Zky (k:= .i64) (l:=(outB st).take (4*i+j)++(List.replicate 32 0).drop (4*i+j)) (i:=4*i+j) (x:=wb ((st.getD i 0)>>>(24-8*j))) (by rw[Zim (by omega) (by simpa using hl)];omega)
  rw[hset]at hst
  rw[w.zq46_45];unfold y.zq46_45
  simp only[yy,if_pos (show(j:Int)<4 by omega),Zj8,e0,e1,e2,e3,e4,Znu (st.getD i 0) (24-8*j) .u64 (by omega),Zrw,Zfj (m:=32) (k:= .i64) (i:=((4*i+j:Nat):Int)) (by omega) (by omega),hst,Zam (show j<64 by omega) (by decide)]
  exact v.nout45 st hs i hi n (j+1) (by omega)
theorem v.nout (st:List W32)(hs:st.length=8):∀(n i:Nat),i+n=8->
  vl e 62 31 [wl st,I i,V.agg (repl 32 (.int .u8 0)),bl ((outB st).take (4*i)++(List.replicate 32 0).drop (4*i))]=some (bl (outB st))
 |0,i,hi=>by
  have hl:=Zgw st
  rw[Xaw (by omega),Xav (by simp;omega),Xao]
  rw[w.zq46_31];unfold y.zq46_31
  simp only[yy,if_neg (show ¬((i:Int)<8)by omega),Za3 hl]
 |n+1,i,hi=>by
  rw[w.zq46_31];unfold y.zq46_31
  simp only[yy,if_pos (show(i:Int)<8 by omega),Ztx (m:=8) (l:=st) (i:=i) (by omega) (by omega)]
  exact(v.nout45 st hs i (by omega) 4 0 (by omega)).trans (v.nout st hs n (i+1) (by omega))
def lenB (n:Nat):Bytes:=(List.range 8).map fun i=>UInt8.ofNat (8*n/2^(56-8*i))
theorem Zg3 (n:Nat):(lenB n).length=8:=by simp[lenB]
theorem Zxk (n:Nat){i:Nat}(h:i<(lenB n).length):(lenB n)[i]=UInt8.ofNat (8*n/2^(56-8*i)):=by simp[lenB]
theorem Zeo (n:Nat):V.int .u8 (IntKind.u8.wrap (n:Int))=byteV (UInt8.ofNat n):=by
 rw[Z4e];unfold byteV
 congr 1
theorem v.lens (s:Bytes)(hs:s.length<=1000000000000)(o st:V)(base z:Bytes)(hb:base.length=56)(hz:z.length=8):∀(n i:Nat),i+n=8->
  vl e 70 43 [.str s,I i,o,st,bl (base++((lenB s.length).take i++z.drop i))]=vl e 70 43 [.str s,I 8,o,st,bl (base++lenB s.length)]
 |0,i,hi=>by
  have hl:=Zg3 s.length
  obtain rfl:i=8:=by omega
  rw[Xaw (by omega),Xav (by omega),Xao];rfl
 |n+1,i,hi=>by
  have hl:=Zg3 s.length
  have e0:IntKind.i64.wrap (56+(i:Int))=((56+i:Nat):Int):=by rw[w64 _ (by omega)];omega
  have e1:IntKind.i64.wrap (8*(i:Int))=((8*i:Nat):Int):=by rw[w64 _ (by omega)];omega
  have e2:IntKind.i64.wrap (56-((8*i:Nat):Int))=((56-8*i:Nat):Int):=by rw[w64 _ (by omega)];omega
  have e3:evp (.i2i .u64) [.int .i64 (s.length:Int)]=some (.int .u64 (s.length:Int)):=by
   show some (V.int .u64 (IntKind.u64.wrap (s.length:Int)))=_
   rw[Zd3,Xdd (by omega) (by omega)]
  have e4:evp (.bin .shl .no) [.int .u64 (s.length:Int), .int .u64 3]=some (.int .u64 ((8*s.length:Nat):Int)):=by
   show some (V.int .u64 (IntKind.u64.wrap ((s.length:Int)*2^3)))=_
   rw[Zd3,Xdd (by omega) (by omega)]
   congr 2;omega
  have e5:evp (.bin .shr .no) [.int .u64 ((8*s.length:Nat):Int), .int .i64 ((56-8*i:Nat):Int)]=some (.int .u64 ((8*s.length/2^(56-8*i):Nat):Int)):=by
   show(if((56-8*i:Nat):Int)<0 then none else some (V.int .u64 (((8*s.length:Nat):Int).fdiv (2^(min ((56-8*i:Nat):Int).toNat IntKind.u64.bits)))))=_
   have:min ((56-8*i:Nat):Int).toNat IntKind.u64.bits=56-8*i:=by show min _ 64=_;omega
   rw[if_neg (by omega),this,Xdh _ (Int.le_of_lt (Int.pow_pos (by decide)))]
   simp
  have e6:evp (.i2i .u8) [.int .u64 ((8*s.length/2^(56-8*i):Nat):Int)]=some (byteV (UInt8.ofNat (8*s.length/2^(56-8*i)))):=congrArg some (Zeo _)
  have hset:(base++((lenB s.length).take i++z.drop i)).set (56+i) (UInt8.ofNat (8*s.length/2^(56-8*i)))=base++((lenB s.length).take (i+1)++z.drop (i+1)):=by
   rw[Xcl _ _ (by omega),show 56+i-base.length=i by omega, <-Zxk s.length (by omega),fill (by omega) (by omega)]
  have hst:=Zky (k:= .i64) (l:=base++((lenB s.length).take i++z.drop i)) (i:=56+i) (x:=UInt8.ofNat (8*s.length/2^(56-8*i))) (by rw[Xaf,Zim (by omega) (by omega)];omega)
  rw[hset]at hst
  rw[w.zq63_43];unfold y.zq63_43
  simp only[yy,if_pos (show(i:Int)<8 by omega),e0,e3,e4,Zj8,e1,e2,e5,e6,Zfj (m:=64) (k:= .i64) (i:=((56+i:Nat):Int)) (by omega) (by omega),hst,Zam (show i<64 by omega) (by decide)]
  exact v.lens s hs o st base z hb hz n (i+1) (by omega)
theorem v.endOf (s:Bytes)(hs:s.length<=1000000000000)(o:V)(st:List W32)(h8:st.length=8)(base z:Bytes)(hb:base.length=56)(hz:z.length=8):
  vl e 70 39 [.str s,o,wl st,bl (base++z)]=some (bl (outB (Zdx KT st (base++lenB s.length)))):=by
 have h1:=v.lens (e:=e) s hs o (wl st) base z hb hz 8 0 (by omega)
 rw[Xcn,Xbc,Xba]at h1
 have hl:=Zg3 s.length
 have hblk:=v.block (e:=e) st h8 (base++lenB s.length) (by simp;omega)
 have h2:=v.out (e:=e) o (Zdx KT st (base++lenB s.length)) (by unfold Zdx;rw[Zml];exact h8) 32 0 (by omega)
 rw[Xcn,Xbc,Xba]at h2
 rw[w.zq63_39];unfold y.zq63_39
 refine h1.trans ?_
 rw[w.zq63_43];unfold y.zq63_43
 simp only[yy,if_neg (show ¬((8:Int)<8)by omega),hblk]
 exact h2
end Go.Proofs.YtpmgdngjbdkdfaaGreatDoor
namespace Go.Proofs.YtpmgdngjbdkdfaaGreatDoor
open Go.Abs
set_option maxRecDepth 10000
variable {e:Ev}
def padN (k:Nat):Nat:=(119-k % 64) % 64
def padB (n:Nat)(r:Bytes):Bytes:=r++(128::(List.replicate (padN r.length) 0++lenB n))
def Zj9 (K:List W32):Nat->Bytes->List W32->List W32
 |0,_,st=>st
 |m+1,b,st=>Zj9 K m (b.drop 64) (Zdx K st (b.take 64))
theorem Zsc (n:Nat)(r:Bytes):(padB n r).length=r.length+9+padN r.length:=by simp[padB,Zg3];omega
theorem Zo2 (k:Nat):(k+9+padN k) % 64=0/\padN k<64:=by unfold padN;omega
theorem Zf0 (K st:List W32)(b:Bytes):(Zdx K st b).length=st.length:=by unfold Zdx;rw[Zml]
def Zmh (n:Nat)(r:Bytes)(st:List W32):List W32:=Zj9 KT ((r.length+9+padN r.length)/64) (padB n r) st
theorem Zvw {n:Nat}{r:Bytes}(h:64<=r.length)(st:List W32):Zmh n r st=Zmh n (r.drop 64) (Zdx KT st (r.take 64)):=by
 have hp:padN (r.length-64)=padN r.length:=by unfold padN;omega
 have hm:(r.length+9+padN r.length)/64=(r.length-64+9+padN r.length)/64+1:=by omega
 unfold Zmh
 rw[Xct,hp,hm,Zj9]
 have h1:(padB n r).take 64=r.take 64:=by unfold padB;rw[Xb4 h]
 have h2:(padB n r).drop 64=padB n (r.drop 64):=by unfold padB;rw[Xby h,Xct,hp]
 rw[h1,h2]
theorem Zkd {n:Nat}{r:Bytes}(h:r.length<56)(st:List W32):Zmh n r st=Zdx KT st ((r++(128::List.replicate (55-r.length) 0))++lenB n):=by
 have hp:padN r.length=55-r.length:=by unfold padN;omega
 have hm:(r.length+9+padN r.length)/64=1:=by omega
 have hl:=Zsc n r
 unfold Zmh
 rw[hm,Zj9,Zj9,Xaw (by omega)]
 unfold padB
 rw[hp];simp
theorem Zut {n:Nat}{r:Bytes}(h:56<=r.length)(h2:r.length<64)(st:List W32):Zmh n r st=Zdx KT (Zdx KT st (r++(128::List.replicate (63-r.length) 0))) (List.replicate 56 0++lenB n):=by
 have hp:padN r.length=(63-r.length)+56:=by unfold padN;omega
 have hm:(r.length+9+padN r.length)/64=2:=by omega
 have e1:padB n r=(r++(128::List.replicate (63-r.length) 0))++(List.replicate 56 0++lenB n):=by
  unfold padB
  rw[hp, <-Xdu];simp
 have l1:(r++(128::List.replicate (63-r.length) 0)).length=64:=by simp;omega
 have l2:(List.replicate 56 (0:UInt8)++lenB n).length=64:=by simp[Zg3]
 unfold Zmh
 rw[hm,Zj9,Zj9,Zj9,e1, <-l1,List.take_left,Xc9,l1,Xaw (by omega)]
theorem Zv1 {b:Bytes}(hb:b.length=64)(r:Bytes):evp (.cpya 0 64) [bl b, .str r]=some (bl (r.take 64++b.drop (r.take 64).length)):=by
 refine(if_pos (show 0+64<=(bl b).cells.length by show _<=(b.map byteV).length;simp;omega)).trans ?_
 show some (V.agg (Zav (b.map byteV) 0 ((encB r).take 64)))=_
 unfold Zav
 rw[Zqk,Xcn,Xba,Xan, <-Xdw,Xcf, <-Xe1, <-Xcs]
theorem Zy2 {r:Bytes}:∃x,evp (.cpyn 64) [.str r]=some x:=⟨_,rfl⟩
theorem Zx2 {b:Bytes}(hb:b.length=64):evp (.clra (.int .u8 0) 0 64) [bl b]=some (bl (List.replicate 64 0)):=by
 refine(if_pos (show 0+64<=(bl b).cells.length by show _<=(b.map byteV).length;simp;omega)).trans ?_
 show some (V.agg (Zav (b.map byteV) 0 (List.replicate 64 (.int .u8 0))))=_
 unfold Zav
 rw[Xcn,Xba,Xav (by simp;omega),Xao];rfl
theorem v.sha12 (s:Bytes)(hs:s.length<=1000000000000):∀(m:Nat) (r:Bytes) (st:List W32) (b:Bytes),r.length<=m->st.length=8->b.length=64->
  vl e 70 12 [.str s, .str r,V.agg (repl 32 (.int .u8 0)),wl st,bl b]=some (bl (outB (Zmh s.length r st))):=by
 intro m
 induction m with
 |zero=>
  intro r st b hr h8 hb
  obtain rfl:r=[]:=Xbd (by omega)
  obtain⟨x,hx⟩:=Zy2 (r:=[])
  have hend:=v.endOf (e:=e) s hs (V.agg (repl 32 (.int .u8 0))) st h8 (128::List.replicate 55 0) (List.replicate 8 0) (by simp) (by simp)
  rw[Zkd (by decide)]
  have hst:=Zky (k:= .i64) (l:=List.replicate 64 0) (i:=0) (x:=128) (by simp)
  have hcp:=Zv1 (b:=List.replicate 64 0) (by simp) []
  rw[w.zq63_12];unfold y.zq63_12
  have e128:V.int .u8 128=byteV 128:=rfl
  simp only[yy,Xa7,Int.natCast_zero,if_neg (show ¬((64:Int)<=0)by omega),Zx2 hb,hcp,hx,Zfj (m:=64) (k:= .i64) (i:=0) (by omega) (by omega),e128]
  refine Zus hst ?_
  rw[if_neg (show ¬((56:Int)<=0)by omega)]
  exact hend
 |succ m ih=>
  intro r st b hr h8 hb
  obtain⟨x,hx⟩:=Zy2 (r:=r)
  by_cases h64:64<=r.length
  ·have hl64:(r.take 64).length=64:=by simp;omega
   have hcp:=Zv1 hb r
   rw[hl64,Xav (by omega),Xao]at hcp
   have hblk:=v.block (e:=e) st h8 (r.take 64) hl64
   have hsl:evp (.sls true false) [.str r, .int .i64 64]=some (.str (r.drop 64)):=Zk5 (l:=64) (by omega)
   rw[Zvw h64]
   rw[w.zq63_12];unfold y.zq63_12
   simp only[yy,if_pos (show(64:Int)<=(r.length:Int)by omega),hcp,hx,hblk,hsl]
   exact ih (r.drop 64) _ _ (by simp;omega) (by rw[Zf0];exact h8) hl64
  ·have htk:r.take 64=r:=Xaw (by omega)
   have hcp:=Zv1 (b:=List.replicate 64 0) (by simp) r
   rw[htk,List.drop_replicate]at hcp
   have hst:=Zky (k:= .i64) (l:=r++List.replicate (64-r.length) 0) (i:=r.length) (x:=128) (by simp;omega)
   have hset:(r++List.replicate (64-r.length) 0).set r.length 128=r++(128::List.replicate (63-r.length) 0):=by
    rw[Xcl _ _ (Xag _),Xfl,show 64-r.length=(63-r.length)+1 by omega,Xde,List.set_cons_zero]
   rw[hset]at hst
   have e128:V.int .u8 128=byteV 128:=rfl
   rw[w.zq63_12];unfold y.zq63_12
   by_cases h56:56<=r.length
   ·have l1:(r++(128::List.replicate (63-r.length) 0)).length=64:=by simp;omega
    have hblk:=v.block (e:=e) st h8 (r++(128::List.replicate (63-r.length) 0)) l1
    have hend:=v.endOf (e:=e) s hs (V.agg (repl 32 (.int .u8 0))) (Zdx KT st (r++(128::List.replicate (63-r.length) 0))) (by rw[Zf0];exact h8) (List.replicate 56 0) (List.replicate 8 0) (by simp) (by simp)
    rw[Xdu]at hend
    rw[Zut h56 (by omega)]
    simp only[yy,if_neg (show ¬((64:Int)<=(r.length:Int))by omega),Zx2 hb,hcp,hx,Zfj (m:=64) (k:= .i64) (i:=(r.length:Int)) (by omega) (by omega),e128,hst,if_pos (show(56:Int)<=(r.length:Int)by omega),hblk,Zx2 l1]
    exact hend
   ·have hend:=v.endOf (e:=e) s hs (V.agg (repl 32 (.int .u8 0))) st h8 (r++(128::List.replicate (55-r.length) 0)) (List.replicate 8 0) (by simp;omega) (by simp)
    have e1:(r++(128::List.replicate (55-r.length) 0))++List.replicate 8 0=r++(128::List.replicate (63-r.length) 0):=by
     rw[show 63-r.length=(55-r.length)+8 by omega, <-Xdu];simp
    rw[e1]at hend
    rw[Zkd (by omega)]
    simp only[yy,if_neg (show ¬((64:Int)<=(r.length:Int))by omega),Zx2 hb,hcp,hx,Zfj (m:=64) (k:= .i64) (i:=(r.length:Int)) (by omega) (by omega),e128,hst,if_neg (show ¬((56:Int)<=(r.length:Int))by omega)]
    exact hend
def H0 :List W32:=[1779033703,3144134277,1013904242,2773480762,1359893119,2600822924,528734635,1541459225]
def Zra (s:Bytes):Bytes:=outB (Zmh s.length s H0)
theorem Zhq (s:Bytes):(Zra s).length=32:=Zgw _
theorem v.shaOf (s:Bytes)(hs:s.length<=1000000000000):vl e 70 0 [.str s]=some (bl (Zra s)):=by
 rw[w.zq63];unfold y.zq63
 exact v.sha12 s hs s.length s H0 (List.replicate 64 0) (Xag _) rfl (by simp)
theorem Zy6 {l:Bytes}{x:UInt8}(h:l.length+1<=Lim):evp (.app 1) [bsl l, .sl false 1 [byteV x]]=some (bsl (l++ [x])):=by
 rw[bsl,Zlm (by simpa using h)];simp
theorem Zqy {l m:Bytes}(h:l.length+m.length<=Lim):evp (.app 1) [bsl l,bsl m]=some (bsl (l++m)):=by
 rw[bsl,bsl,Zlm (by simpa using h)];simp
theorem Zoe {x:UInt8}:evp (.bsl 1) [byteV x]=some (.sl false 1 [byteV x]):=rfl
theorem v.pad8 (b:Bytes)(hb:b.length<=1000000000):∀(n:Nat) (l:Bytes),n=padN (l.length-1)->1<=l.length->l.length+n<=2000000000->
  vl e 82 8 [bsl b,bsl l]=vl e 82 25 [bsl (l++List.replicate n 0),I b.length, .sl false 1 [],I 0]
 |n,l,hn,h1,h2=>by
  have hLim:Lim=4294967296:=rfl
  have hr:evp (.bin .rem .no) [.int .i64 (l.length:Int), .int .i64 64]=some (.int .i64 ((l.length % 64:Nat):Int)):=Zu0 (k:=64) (by decide)
  have e0:V.int .u8 0=byteV 0:=rfl
  rw[w.zq47_8];unfold y.zq47_8
  cases n with
  |zero=>
   have:l.length % 64=56:=by unfold padN at hn;omega
   simp only[yy,hr,if_pos (show((l.length % 64:Nat):Int)=56 by omega)]
   rw[List.replicate_zero,Xao]
  |succ n=>
   have hn':n=padN ((l++ [0]).length-1):=by simp;unfold padN at hn⊢;omega
   have:l.length % 64≠56:=by unfold padN at hn;omega
   simp only[yy,hr,if_neg (show ¬(((l.length % 64:Nat):Int)=56)by omega),e0,Zoe,Zy6 (show l.length+1<=Lim by omega)]
   have h3:=v.pad8 b hb n (l++ [0]) hn' (by simp) (by simp;omega)
   refine h3.trans ?_
   rw[Xaj,Xc2, <-Xde]
def Zu9 :Nat->Nat->Bytes->Bytes
 |0,_,t=>t
 |k+1,m,t=>Zu9 k (m/256) (UInt8.ofNat (m % 256)::t)
theorem Zbp {x y:Nat}(h:x % 256=y % 256):UInt8.ofNat x=UInt8.ofNat y:=by
 apply Xfa.1
 simp only[UInt8.toNat_ofNat']
 exact h
theorem Z0t (n:Nat):Zu9 7 (n/32) [UInt8.ofNat (n % 32*8)]=lenB n:=by
 show [_,_,_,_,_,_,_,_]=[_,_,_,_,_,_,_,_]
 simp only[Xej,Nat.reduceMul,Nat.reduceSub,Nat.reducePow]
 congr 1
 ·exact Zbp (by omega)
 congr 1
 ·exact Zbp (by omega)
 congr 1
 ·exact Zbp (by omega)
 congr 1
 ·exact Zbp (by omega)
 congr 1
 ·exact Zbp (by omega)
 congr 1
 ·exact Zbp (by omega)
 congr 1
 ·exact Zbp (by omega)
 congr 1
 ·exact Zbp (by omega)
theorem v.pad25 (out:Bytes)(ho:out.length<=2000000000):∀(k i m:Nat) (t:Bytes),i+k=8->1<=i->m<=1000000000->t.length=i->
  vl e 82 25 [bsl out,I m,bsl t,I i]=some (bsl (out++Zu9 k m t))
 |0,i,m,t,hi,h1,hm,ht=>by
  have hLim:Lim=4294967296:=rfl
  rw[w.zq47_25];unfold y.zq47_25
  simp only[yy,if_neg (show ¬((i:Int)<8)by omega),Zqy (show out.length+t.length<=Lim by omega)];rfl
 |k+1,i,m,t,hi,h1,hm,ht=>by
  have hLim:Lim=4294967296:=rfl
  have hr:evp (.bin .rem .no) [.int .i64 (m:Int), .int .i64 256]=some (.int .i64 ((m % 256:Nat):Int)):=Zu0 (k:=256) (by decide)
  have hq:evp (.bin .quo .no) [.int .i64 (m:Int), .int .i64 256]=some (.int .i64 ((m/256:Nat):Int)):=Zw2 (k:=256) (by decide) (by omega)
  have hn:evp (.i2i .u8) [.int .i64 ((m % 256:Nat):Int)]=some (byteV (UInt8.ofNat (m % 256))):=congrArg some (Zeo _)
  have ha:evp (.app 1) [.sl false 1 [byteV (UInt8.ofNat (m % 256))],bsl t]=some (bsl (UInt8.ofNat (m % 256)::t)):=Zqy (l:=[UInt8.ofNat (m % 256)]) (by simp;omega)
  rw[w.zq47_25];unfold y.zq47_25
  simp only[yy,if_pos (show(i:Int)<8 by omega),if_neg (show ¬((i:Int)=0)by omega),hr,hn,Zoe,ha,hq,Zam (show i<64 by omega) (by decide)]
  exact v.pad25 out ho k (i+1) (m/256) _ (by omega) (by omega) (by omega) (by simp;omega)
theorem v.Padded (b:Bytes)(hb:b.length<=1000000000):vl e 82 0 [bsl b]=some (bsl (padB b.length b)):=by
 have hLim:Lim=4294967296:=rfl
 have hpn:=(Zo2 b.length).2
 have e128:V.int .u8 128=byteV 128:=rfl
 have h0:evp (.bsl 1) []=some (bsl []):=rfl
 have h8:=v.pad8 (e:=e) b hb (padN b.length) (b++ [128]) (by simp) (by simp) (by simp;omega)
 have hr:evp (.bin .rem .no) [.int .i64 (b.length:Int), .int .i64 32]=some (.int .i64 ((b.length % 32:Nat):Int)):=Zu0 (k:=32) (by decide)
 have hq:evp (.bin .quo .no) [.int .i64 (b.length:Int), .int .i64 32]=some (.int .i64 ((b.length/32:Nat):Int)):=Zw2 (k:=32) (by decide) (by omega)
 have hm:IntKind.i64.wrap (((b.length % 32:Nat):Int)*8)=((b.length % 32*8:Nat):Int):=by rw[w64 _ (by omega)];omega
 have hn:evp (.i2i .u8) [.int .i64 ((b.length % 32*8:Nat):Int)]=some (byteV (UInt8.ofNat (b.length % 32*8))):=congrArg some (Zeo _)
 have ha:evp (.app 1) [.sl false 1 [byteV (UInt8.ofNat (b.length % 32*8))], .sl false 1 []]=some (bsl [UInt8.ofNat (b.length % 32*8)]):=Zqy (l:=[UInt8.ofNat (b.length % 32*8)]) (m:=[]) (by simp;omega)
 have h25:=v.pad25 (e:=e) (b++ [128]++List.replicate (padN b.length) 0) (by simp;omega) 7 1 (b.length/32) [UInt8.ofNat (b.length % 32*8)] (by omega) (by omega) (by omega) rfl
 rw[Z0t]at h25
 rw[w.zq47];unfold y.zq47
 simp only[yy,h0,Zqy (l:=[]) (m:=b) (by simp;omega),e128,Zoe]
 rw[Xba,Zy6 (by omega)]
 simp only[yy]
 refine h8.trans ?_
 rw[w.zq47_25];unfold y.zq47_25
 simp only[yy,if_pos (show(0:Int)<8 by omega),if_true,hr,Zj8,hm,hn,Zoe,ha,hq]
 refine h25.trans ?_
 unfold padB;simp
theorem Z86 {l:Bytes}{i j:Nat}(h1:i<=j)(h2:j<=l.length):evp (.slc 1 true true false) [bsl l, .int .i64 (i:Int), .int .i64 (j:Int)]=some (bsl ((l.take j).drop i)):=by
 simp only[evp,Zts,vSlc,vOpt]
 simp[cut3]
 exact⟨h2,h1⟩
theorem Zzi {l:List W32}(n:Nat)(h:l.length=n):evp (.cat [some n]) [wl l]=some (wl l):=by
 show((if(wl l).cells.length=n/\(wl l).cells.all V.sc=true then(catV [] []).map ((wl l).cells++ ·)else none)).map V.agg=_
 rw[if_pos ⟨by show(l.map bv).length=n;simpa using h,by
  rw[Xal];intro c hc
  obtain⟨x,_,rfl⟩:=Xa9.1 (show c∈l.map bv from hc);rfl⟩]
 show some (V.agg ((wl l).cells++ []))=_
 rw[Xao];rfl
theorem v.nOf14 (all:Bytes)(ha:all.length<=2000000000):∀(n j:Nat) (st:List W32),all.length=64*(j+n)->st.length=8->
  vl e 62 14 [bsl all,I ((64*j:Nat):Int),V.agg (repl 32 (.int .u8 0)),wl st,wl KT]=some (bl (outB (Zj9 KT n (all.drop (64*j)) st)))
 |0,j,st,hj,h8=>by
  rw[w.zq46_14];unfold y.zq46_14
  simp only[yy,if_neg (show ¬(((64*j:Nat):Int)<(all.length:Int))by omega)]
  have h:=v.nout (e:=e) st h8 8 0 (by omega)
  rw[Nat.mul_zero,Xcn,Xbc,Xba]at h
  exact h
 |n+1,j,st,hj,h8=>by
  have e1:IntKind.i64.wrap (((64*j:Nat):Int)+64)=((64*(j+1):Nat):Int):=by rw[w64 _ (by omega)];omega
  have hsl:=Z86 (l:=all) (i:=64*j) (j:=64*(j+1)) (by omega) (by omega)
  have hcl:(all.take (64*(j+1))).drop (64*j)=(all.drop (64*j)).take 64:=by rw[List.drop_take,show 64*(j+1)-64*j=64 by omega]
  rw[hcl]at hsl
  have hN:=v.Next (e:=e) st h8 ((all.drop (64*j)).take 64) (by simp;omega)
  rw[w.zq46_14];unfold y.zq46_14
  simp only[yy,if_pos (show((64*j:Nat):Int)<(all.length:Int)by omega),e1,hsl,hN,Zzi 8 (show(Zdx KT st ((all.drop (64*j)).take 64)).length=8 by rw[Zf0];exact h8)]
  have h:=v.nOf14 all ha n (j+1) (Zdx KT st ((all.drop (64*j)).take 64)) (by omega) (by rw[Zf0];exact h8)
  rw[Zj9,Xdp,show 64*j+64=64*(j+1)by omega]
  exact h
theorem v.refOf (b:Bytes)(hb:b.length<=1000000000):vl e 62 0 [bsl b]=some (bl (Zra b)):=by
 have hpn:=Zo2 b.length
 have hl:=Zsc b.length b
 have hc:evp (.cat [none,none,none,none,none,none,none,none]) [.int .u32 1779033703, .int .u32 3144134277, .int .u32 1013904242, .int .u32 2773480762, .int .u32 1359893119, .int .u32 2600822924, .int .u32 528734635, .int .u32 1541459225]=some (wl H0):=rfl
 have h:=v.nOf14 (e:=e) (padB b.length b) (by omega) ((b.length+9+padN b.length)/64) 0 H0 (by omega) rfl
 rw[w.zq46];unfold y.zq46
 simp only[yy,hc,v.Padded b hb,v.Numbers,Zzi 64 Zmu]
 exact h
end Go.Proofs.YtpmgdngjbdkdfaaGreatDoor
namespace Go.Proofs.YtpmgdngjbdkdfaaGreatDoor
open Go.Abs
set_option maxRecDepth 10000
variable {e:Ev}
def numB (n:Nat):Bytes:=(List.range 8).map fun i=>UInt8.ofNat (n/2^(56-8*i))
theorem Zbj (n:Nat):(numB n).length=8:=by simp[numB]
theorem Zrs (n:Nat){i:Nat}(h:i<(numB n).length):(numB n)[i]=UInt8.ofNat (n/2^(56-8*i)):=by simp[numB]
theorem Z41 {l:Bytes}{k:Nat}(h:l.length=k):evp (.b2so 0 k) [bl l]=some (.str l):=by
 show(if 0+k<=(l.map byteV).length then(Zb0 (((l.map byteV).drop 0).take k)).map V.str else none)=_
 rw[Xbc,Xaw (by simp;omega),Ze2]
 exact if_pos (by simp;omega)
theorem v.num10 (n:Nat)(hn:n<=1000000000000):∀(m i:Nat),i+m=8->vl e 86 10 [I n,I i,bl ((numB n).take i++(List.replicate 8 0).drop i)]=some (.str (numB n))
 |0,i,hi=>by
  have hl:=Zbj n
  rw[Xaw (by omega),Xav (by simp;omega),Xao]
  have hb:evp (.b2so 0 8) [bl (numB n)]=some (.str (numB n)):=Z41 (by omega)
  rw[w.zq3_10];unfold y.zq3_10
  simp only[yy,if_neg (show ¬((i:Int)<8)by omega),hb]
 |m+1,i,hi=>by
  have hl:=Zbj n
  have e1:IntKind.i64.wrap (8*(i:Int))=((8*i:Nat):Int):=by rw[w64 _ (by omega)];omega
  have e2:IntKind.i64.wrap (56-((8*i:Nat):Int))=((56-8*i:Nat):Int):=by rw[w64 _ (by omega)];omega
  have e3:evp (.i2i .u64) [.int .i64 (n:Int)]=some (.int .u64 (n:Int)):=by
   show some (V.int .u64 (IntKind.u64.wrap (n:Int)))=_
   rw[Zd3,Xdd (by omega) (by omega)]
  have e5:evp (.bin .shr .no) [.int .u64 (n:Int), .int .i64 ((56-8*i:Nat):Int)]=some (.int .u64 ((n/2^(56-8*i):Nat):Int)):=by
   show(if((56-8*i:Nat):Int)<0 then none else some (V.int .u64 ((n:Int).fdiv (2^(min ((56-8*i:Nat):Int).toNat IntKind.u64.bits)))))=_
   have:min ((56-8*i:Nat):Int).toNat IntKind.u64.bits=56-8*i:=by show min _ 64=_;omega
   rw[if_neg (by omega),this,Xdh _ (Int.le_of_lt (Int.pow_pos (by decide)))]
   simp
  have e6:evp (.i2i .u8) [.int .u64 ((n/2^(56-8*i):Nat):Int)]=some (byteV (UInt8.ofNat (n/2^(56-8*i)))):=congrArg some (Zeo _)
  have hset:((numB n).take i++(List.replicate 8 0).drop i).set i (UInt8.ofNat (n/2^(56-8*i)))=(numB n).take (i+1)++(List.replicate 8 0).drop (i+1):=by
   rw[<-Zrs n (by omega)];exact fill (by omega) (by simpa using hl)
  have hst:=Zky (k:= .i64) (l:=(numB n).take i++(List.replicate 8 0).drop i) (i:=i) (x:=UInt8.ofNat (n/2^(56-8*i))) (by rw[Zim (by omega) (by simpa using hl)];omega)
  rw[hset]at hst
  rw[w.zq3_10];unfold y.zq3_10
  simp only[yy,if_pos (show(i:Int)<8 by omega),e3,Zj8,e1,e2,e5,e6,Zfj (m:=8) (k:= .i64) (i:=(i:Int)) (by omega) (by omega),hst,Zam (show i<64 by omega) (by decide)]
  exact v.num10 n hn m (i+1) (by omega)
theorem v.codeNum (n:Nat)(hn:n<=1000000000000):vl e 86 0 [I n]=some (.str (numB n)):=by
 have h:=v.num10 (e:=e) n hn 8 0 (by omega)
 rw[Xcn,Xbc,Xba]at h
 rw[w.zq3];exact h
theorem Z8p (n:Nat):Zu9 8 n []=numB n:=by
 show [_,_,_,_,_,_,_,_]=[_,_,_,_,_,_,_,_]
 simp only[Xej,Nat.reduceMul,Nat.reduceSub,Nat.reducePow]
 congr 1
 ·exact Zbp (by omega)
 congr 1
 ·exact Zbp (by omega)
 congr 1
 ·exact Zbp (by omega)
 congr 1
 ·exact Zbp (by omega)
 congr 1
 ·exact Zbp (by omega)
 congr 1
 ·exact Zbp (by omega)
 congr 1
 ·exact Zbp (by omega)
 congr 1
 ·exact Zbp (by omega)
theorem v.num12 :∀(k i m:Nat) (t:Bytes),i+k=8->t.length=i->m<=1000000000000->vl e 65 12 [.int .u64 (m:Int), .str t,I i]=some (.str (Zu9 k m t))
 |0,i,m,t,hi,ht,hm=>by
  rw[w.zq43_12];unfold y.zq43_12
  simp only[yy,if_neg (show ¬((i:Int)<8)by omega)];rfl
 |k+1,i,m,t,hi,ht,hm=>by
  have hr:evp (.bin .rem .no) [.int .u64 (m:Int), .int .u64 256]=some (.int .u64 ((m % 256:Nat):Int)):=by
   show some (V.int .u64 ((m:Int).tmod (256:Nat)))=_
   rw[<-Xft]
  have hq:evp (.bin .quo .no) [.int .u64 (m:Int), .int .u64 256]=some (.int .u64 ((m/256:Nat):Int)):=by
   show some (V.int .u64 (IntKind.u64.wrap ((m:Int).tdiv (256:Nat))))=_
   rw[<-Int.ofNat_tdiv,Zd3]
   have:=Xe9 m 256
   generalize m/256=q at*
   rw[Xdd (by omega) (by omega)]
  have hn:evp (.i2i .u8) [.int .u64 ((m % 256:Nat):Int)]=some (byteV (UInt8.ofNat (m % 256))):=congrArg some (Zeo _)
  have hb:evp .b2s [.sl false 1 [byteV (UInt8.ofNat (m % 256))]]=some (.str [UInt8.ofNat (m % 256)]):=Z4d (l:=[UInt8.ofNat (m % 256)])
  have:=Xe9 m 256
  rw[w.zq43_12];unfold y.zq43_12
  simp only[yy,if_pos (show(i:Int)<8 by omega),hr,hn,Zoe,hb,Ziq (show([UInt8.ofNat (m % 256)]:Bytes).length+t.length<=4611686018427387904 by simp;omega),hq,Zam (show i<64 by omega) (by decide)]
  exact v.num12 k (i+1) (m/256) _ (by omega) (by simp;omega) (by omega)
theorem v.refNum (n:Nat)(hn:n<=1000000000000):vl e 65 0 [I n]=some (.str (numB n)):=by
 have e3:evp (.i2i .u64) [.int .i64 (n:Int)]=some (.int .u64 (n:Int)):=by
  show some (V.int .u64 (IntKind.u64.wrap (n:Int)))=_
  rw[Zd3,Xdd (by omega) (by omega)]
 rw[w.zq43];unfold y.zq43
 simp only[yy,e3]
 exact(v.num12 8 0 n [] (by omega) rfl hn).trans (by rw[Z8p])
def Zbq (l:List Bytes):Bytes:=(l.map fun p=>numB p.length++p).flatten
def Zck (l:List Bytes):Bytes:=numB l.length++Zbq l
def sumL (l:List Bytes):Nat:=(l.map fun p=>8+p.length).sum
theorem Zdc (x:Bytes)(r:List Bytes):sumL (x::r)=8+x.length+sumL r:=rfl
theorem Zcy (x:Bytes)(r:List Bytes):Zbq (x::r)=numB x.length++x++Zbq r:=rfl
theorem Zho :∀l:List Bytes,(Zbq l).length=sumL l
 | []=>rfl
 |x::r=>by
  have:=Zho r
  simp only[Zbq,sumL,Xaq,Xco,Xaf,Xfi,Zbj]at this⊢;omega
theorem Zdl (m:List Bytes):8*m.length<=sumL m:=by
 induction m with
 |nil=>simp[sumL]
 |cons x r ih=>simp only[sumL,Xaq,Xfi,Xax]at ih⊢;omega
theorem Zv5 {l:Bytes}{s:Bytes}(h:l.length+s.length<=Lim):evp (.app 1) [bsl l, .str s]=some (bsl (l++s)):=by
 show Zyd 1 (bsl l) (.str s)=_
 show(if(l.map byteV).length+(encB s).length<=Lim/\1=1 then some (V.sl false 1 (l.map byteV++encB s))else none)=_
 rw[if_pos ⟨by simpa[encB]using h,rfl⟩,Zqk, <-Xcs]
theorem v.join31 (l:List Bytes)(hl:sumL l<=1000000000):∀(n i:Nat) (out:Bytes),i+n=l.length->out.length+sumL (l.drop i)<=2000000000->
  vl e 64 31 [bsl out,strs l,I l.length,I i]=some (.str (out++Zbq (l.drop i)))
 |0,i,out,hi,ho=>by
  rw[w.zq2_31,Xav (by omega)];unfold y.zq2_31
  simp only[yy,if_neg (show ¬((i:Int)<(l.length:Int))by omega),Z4d]
  simp[Zbq]
 |n+1,i,out,hi,ho=>by
  have hLim:Lim=4294967296:=rfl
  have hlt:i<l.length:=by omega
  rw[Xap hlt]at ho⊢
  rw[Zdc]at ho
  rw[Zcy]
  have hn:=Zbj l[i].length
  have hlen:=Zdl l
  rw[w.zq2_31];unfold y.zq2_31
  simp only[yy,if_pos (show(i:Int)<(l.length:Int)by omega),Zen hlt,Zdw,v.codeNum l[i].length (by omega),Zv5 (show out.length+(numB l[i].length).length<=Lim by omega),Zv5 (show(out++numB l[i].length).length+l[i].length<=Lim by simp;omega),Zam hlt (by omega)]
  refine(v.join31 l hl n (i+1) _ (by omega) (by simp only[Xaf];omega)).trans ?_
  rw[Xaj,Xaj,Xaj]
theorem Zg1 :∀{l:List Bytes} {x:Bytes},x∈l->8+x.length<=sumL l
 |y::r,x,h=>by
  rcases Xa0.1 h with rfl|h
  ·simp[sumL]
  ·have:=Zg1 h;simp only[sumL,Xaq,Xfi]at this⊢;omega
theorem v.join10 (l:List Bytes)(hl:sumL l<=1000000000):∀(n i m:Nat),i+n=l.length->m+sumL (l.drop i)<=2000000000->
  vl e 64 10 [strs l,I m,strs l,I l.length,I i]=some (.str (Zck l))
 |0,i,m,hi,hm=>by
  have hLim:Lim=4294967296:=rfl
  have h8:=Zdl l
  have hn:=Zbj l.length
  have hk:evp (.mks 1) [.int .i64 0, .int .i64 (m:Int)]=some (bsl []):=by
   show(if(0:Int)=0/\0<=(m:Int)/\(m:Int)<=Lim then some (⟨.sl false 1 [],true,none⟩:Res)else none).map (·.v)=_
   rw[if_pos ⟨rfl,by omega,by omega⟩];rfl
  rw[w.zq2_10];unfold y.zq2_10
  simp only[yy,if_neg (show ¬((i:Int)<(l.length:Int))by omega),hk,v.codeNum l.length (by omega),Zv5 (l:=[]) (s:=numB l.length) (by simp;omega)]
  refine(v.join31 l hl l.length 0 _ (by omega) (by rw[Xbc];simp;omega)).trans ?_
  simp[Zck]
 |n+1,i,m,hi,hm=>by
  have hlt:i<l.length:=by omega
  rw[Xap hlt]at hm
  rw[Zdc]at hm
  have h8:=Zdl l
  have e1:IntKind.i64.wrap (8+(l[i].length:Int))=((8+l[i].length:Nat):Int):=by rw[w64 _ (by omega)];omega
  have e2:IntKind.i64.wrap ((m:Int)+((8+l[i].length:Nat):Int))=((m+(8+l[i].length):Nat):Int):=by rw[w64 _ (by omega)];omega
  rw[w.zq2_10];unfold y.zq2_10
  simp only[yy,if_pos (show(i:Int)<(l.length:Int)by omega),Zen hlt,Zdw,e1,e2,Zam hlt (by omega)]
  exact v.join10 l hl n (i+1) _ (by omega) (by omega)
theorem v.codeJoin (l:List Bytes)(hl:sumL l<=1000000000):vl e 64 0 [strs l]=some (.str (Zck l)):=by
 rw[w.zq2];unfold y.zq2
 simp only[yy]
 exact v.join10 l hl l.length 0 8 (by omega) (by rw[Xbc];omega)
theorem v.rjoin10 (l:List Bytes)(hl:sumL l<=1000000000):∀(n i:Nat) (out:Bytes),i+n=l.length->out.length+sumL (l.drop i)<=2000000000->
  vl e 43 10 [.str out,strs l,I l.length,I i]=some (.str (out++Zbq (l.drop i)))
 |0,i,out,hi,ho=>by
  rw[w.zq42_10,Xav (by omega)];unfold y.zq42_10
  simp only[yy,if_neg (show ¬((i:Int)<(l.length:Int))by omega)]
  simp[Zbq]
 |n+1,i,out,hi,ho=>by
  have hlt:i<l.length:=by omega
  rw[Xap hlt]at ho⊢
  rw[Zdc]at ho
  rw[Zcy]
  have hn:=Zbj l[i].length
  have h8:=Zdl l
  rw[w.zq42_10];unfold y.zq42_10
  simp only[yy,if_pos (show(i:Int)<(l.length:Int)by omega),Zen hlt,Zdw,v.refNum l[i].length (by omega),Ziq (show out.length+(numB l[i].length).length<=4611686018427387904 by omega),Ziq (show(out++numB l[i].length).length+l[i].length<=4611686018427387904 by simp;omega),Zam hlt (by omega)]
  refine(v.rjoin10 l hl n (i+1) _ (by omega) (by simp only[Xaf];omega)).trans ?_
  rw[Xaj,Xaj,Xaj]
theorem v.refJoin (l:List Bytes)(hl:sumL l<=1000000000):vl e 43 0 [strs l]=some (.str (Zck l)):=by
 have h8:=Zdl l
 have hn:=Zbj l.length
 rw[w.zq42];unfold y.zq42
 simp only[yy,v.refNum l.length (by omega)]
 refine(v.rjoin10 l hl l.length 0 _ (by omega) (by rw[Xbc];omega)).trans ?_
 simp[Zck]
theorem Zek (l:List Bytes):(Zck l).length=8+sumL l:=by simp[Zck,Zbj,Zho]
def Zaq (p s:Bytes):Bytes:=Zra (Zck [p,s])
theorem Zag (p s:Bytes):(Zaq p s).length=32:=Zhq _
theorem Zju {x y:Bytes}:evp (.bsl 1) [.str x, .str y]=some (strs [x,y]):=rfl
theorem Z1e {x y:Bytes}:evp (.app 1) [.sl false 1 [.str x], .sl false 1 [.str y]]=some (strs [x,y]):=by
 have:=Znb (l:=[x]) (x:=y) (show 1+1<=Lim by decide)
 exact this
theorem v.shaSum (p s:Bytes)(hp:p.length<=100)(hs:s.length<=100000000):vl e 46 0 [.str p, .sl false 1 [.str s]]=some (bl (Zaq p s)):=by
 have hl:sumL [p,s]=16+p.length+s.length:=by simp[sumL];omega
 have hj:=Zek [p,s]
 rw[w.zq64];unfold y.zq64
 simp only[yy,Zg0,Z1e,v.codeJoin [p,s] (by omega),v.shaOf (Zck [p,s]) (by omega),Za3 (Zhq (Zck [p,s]))]
 rfl
theorem v.refSum (p s:Bytes)(hp:p.length<=100)(hs:s.length<=100000000):vl e 40 0 [.str p, .str s]=some (bl (Zaq p s)):=by
 have hl:sumL [p,s]=16+p.length+s.length:=by simp[sumL];omega
 have hj:=Zek [p,s]
 have h2:evp .s2b [.str (Zck [p,s])]=some (bsl (Zck [p,s])):=rfl
 rw[w.zq57];unfold y.zq57
 simp only[yy,Zju,v.refJoin [p,s] (by omega),h2,v.refOf (Zck [p,s]) (by omega),Za3 (Zhq (Zck [p,s]))]
 rfl
theorem Zlz :∀{n:Nat} {x y:Bytes},x.length=n->y.length=n->Zaw (List.replicate n (some .u8,true)) (x.map byteV) (y.map byteV)=some (decide (x=y))
 |0,[],[],_,_=>rfl
 |n+1,a::x,b::y,hx,hy=>by
  have ih:=Zlz (n:=n) (x:=x) (y:=y) (by simpa using hx) (by simpa using hy)
  show(kdEq (some .u8,true) (byteV a) (byteV b)).bind (fun c=>(Zaw (List.replicate n (some .u8,true)) (x.map byteV) (y.map byteV)).map (c&& ·))=_
  rw[ih]
  show some (decide ((a.toNat:Int)=(b.toNat:Int))&&decide (x=y))=_
  have:((a.toNat:Int)=(b.toNat:Int))<->a=b:=⟨fun h=>Xfa.1 (by omega),fun h=>by rw[h]⟩
  by_cases h1:a=b
  ·subst h1;simp
  ·rw[decide_eq_false (fun h=>h1 (this.1 h))];simp[h1]
theorem Zpq {x y:Bytes}(hx:x.length=32)(hy:y.length=32):evp (.bin .eql (.flat [(some .u8,true),(some .u8,true),(some .u8,true),(some .u8,true),(some .u8,true),(some .u8,true),(some .u8,true),(some .u8,true),(some .u8,true),(some .u8,true),(some .u8,true),(some .u8,true),(some .u8,true),(some .u8,true),(some .u8,true),(some .u8,true),(some .u8,true),(some .u8,true),(some .u8,true),(some .u8,true),(some .u8,true),(some .u8,true),(some .u8,true),(some .u8,true),(some .u8,true),(some .u8,true),(some .u8,true),(some .u8,true),(some .u8,true),(some .u8,true),(some .u8,true),(some .u8,true)])) [bl x,bl y]=some (.bool (decide (x=y))):=by
 show(Zaw (List.replicate 32 (some .u8,true)) (x.map byteV) (y.map byteV)).map V.bool=_
 rw[Zlz hx hy];rfl
theorem Z90 {x y:Bytes}(hx:x.length=32)(hy:y.length=32):evp (.bin .neq (.flat [(some .u8,true),(some .u8,true),(some .u8,true),(some .u8,true),(some .u8,true),(some .u8,true),(some .u8,true),(some .u8,true),(some .u8,true),(some .u8,true),(some .u8,true),(some .u8,true),(some .u8,true),(some .u8,true),(some .u8,true),(some .u8,true),(some .u8,true),(some .u8,true),(some .u8,true),(some .u8,true),(some .u8,true),(some .u8,true),(some .u8,true),(some .u8,true),(some .u8,true),(some .u8,true),(some .u8,true),(some .u8,true),(some .u8,true),(some .u8,true),(some .u8,true),(some .u8,true)])) [bl x,bl y]=some (.bool (!decide (x=y))):=by
 show(Zaw (List.replicate 32 (some .u8,true)) (x.map byteV) (y.map byteV)).map (fun b=>V.bool !b)=_
 rw[Zlz hx hy];rfl
end Go.Proofs.YtpmgdngjbdkdfaaGreatDoor
namespace Go.Proofs.YtpmgdngjbdkdfaaGreatDoor
open Go.Abs
set_option maxRecDepth 10000
variable {e:Ev}
abbrev MB :=List (Bytes×Bytes)
def mkP (p:Bytes×Bytes):V×V:=(bl p.1, .str p.2)
abbrev mv (M:MB):V:=mpV (M.map mkP)
abbrev qK :KK:=(true,repl 32 (some .u8,true))
def putM :MB->Bytes->Bytes->MB
 | [],k,x=> [(k,x)]
 |p::r,k,x=>if k=p.1 then(k,x)::r else p::putM r k x
def getM :MB->Bytes->Option Bytes
 | [],_=>none
 |p::r,k=>if k=p.1 then some p.2 else getM r k
def keyL (M:MB):Prop:=∀p∈M,p.1.length=32
theorem Zps (l:List (V×V)):unMp (mpV l)=some l:=by
 show unM (l.map fun p=> .tup [p.1,p.2])=some l
 induction l with
 |nil=>rfl
 |cons p r ih=>simp only[Xaq,unM,ih];rfl
theorem Zic {x z:Bytes}(hx:x.length=32)(hz:z.length=32):Zd4 qK (bl x) (bl z)=some (decide (x=z)):=Zlz (n:=32) hx hz
theorem Zu2 {k x:Bytes}(hk:k.length=32):∀{M:MB},keyL M->mPut qK (bl k) (.str x) (M.map mkP)=some ((putM M k x).map mkP)
 | [],_=>rfl
 |p::r,h=>by
  have ih:=Zu2 (x:=x) hk (M:=r) fun q hq=>h q (by simp[hq])
  simp only[Xaq,mPut,putM,mkP]at ih⊢
  rw[Zic hk (h p (by simp)),Xak]
  by_cases he:k=p.1
  ·rw[if_pos (decide_eq_true he),if_pos he];rfl
  ·rw[if_neg (by simpa using he),if_neg he,ih];rfl
theorem Zsb {k:Bytes}(hk:k.length=32):∀{M:MB},keyL M->Zfv qK (bl k) (M.map mkP)=some ((getM M k).map V.str)
 | [],_=>rfl
 |p::r,h=>by
  have ih:=Zsb hk (M:=r) fun q hq=>h q (by simp[hq])
  simp only[Xaq,Zfv,getM,mkP]at ih⊢
  rw[Zic hk (h p (by simp)),Xak]
  by_cases he:k=p.1
  ·rw[if_pos (decide_eq_true he),if_pos he];rfl
  ·rw[if_neg (by simpa using he),if_neg he,ih]
theorem Z5b {M:MB}{k x:Bytes}(hM:keyL M)(hk:k.length=32):evp (.mup qK) [mv M,bl k, .str x]=some (mv (putM M k x)):=by
 show Zyv qK (mv M) (bl k) (.str x)=_
 simp only[Zyv,Zps,Xak]
 rw[Zic hk hk,if_pos (by simp),Zu2 hk hM];rfl
theorem Z1z {M:MB}{k:Bytes}(hM:keyL M)(hk:k.length=32):evp (.mlk qK (.str []) true) [mv M,bl k]=some (.tup [.str ((getM M k).getD []), .bool (getM M k).isSome]):=by
 show Zxe qK (.str []) true (mv M) (bl k)=_
 simp only[Zxe,Zps,Xak]
 rw[Zic hk hk,if_pos (by simp),Zsb hk hM]
 cases getM M k<;>rfl
theorem Z9z {M:MB}:evp .mln [mv M]=some (I M.length):=by
 show Zxa (mv M)=_
 simp only[Zxa,Zps,Xas,Xcf]
def Zoo (M:MB):List Bytes:=M.map (·.1)
theorem Zej (p:Bytes×Bytes)(r:MB):Zoo (p::r)=p.1::Zoo r:=rfl
theorem Zn1 (k x:Bytes):∀M:MB,Zoo (putM M k x)=if k∈Zoo M then Zoo M else Zoo M++ [k]
 | []=>rfl
 |p::r=>by
  have ih:=Zn1 k x r
  by_cases h:k=p.1
  ·rw[putM,if_pos h,if_pos (by rw[Zej,h];exact Xcr),Zej,Zej,h]
  ·rw[putM,if_neg h,Zej,ih,Zej]
   by_cases h2:k∈Zoo r
   ·rw[if_pos h2,if_pos (Xbk _ h2)]
   ·rw[if_neg h2,if_neg (fun hc=>(Xa0.1 hc).elim h h2)];rfl
def Zdf (ps:MB)(M:MB):MB:=ps.foldl (fun M p=>putM M p.1 p.2) M
theorem Zoi {M:MB}{k x:Bytes}(hM:keyL M)(hk:k.length=32):keyL (putM M k x):=by
 intro p hp
 have:p.1∈Zoo (putM M k x):=Xdf hp
 rw[Zn1]at this
 split at this
 ·obtain⟨q,hq,he⟩:=Xa9.1 this
  rw[<-he];exact hM q hq
 ·rcases Xay.1 this with h|h
  ·obtain⟨q,hq,he⟩:=Xa9.1 h
   rw[<-he];exact hM q hq
  ·rw[Xa1.1 h];exact hk
theorem Zet :∀{ps M:MB},keyL ps->keyL M->keyL (Zdf ps M)
 | [],_,_,h=>h
 |p::r,_,hp,h=>Zet (ps:=r) (fun q hq=>hp q (by simp[hq])) (Zoi h (hp p (by simp)))
theorem Zor (a b M:MB):Zdf (a++b) M=Zdf b (Zdf a M):=by simp[Zdf,List.foldl_append]
abbrev z32 :V:= .agg (repl 32 (.int .u8 0))
def Za8 :Bytes:=[98,108,111,98]
def Za1 :Bytes:=[116,114,101,101]
theorem v.PutBlob (d:Bytes)(hd:d.length<=32768)(M1:MB)(hM:keyL M1)(m2 m3:V):vl e 10224 1 [.str d,mv M1,m2,m3]=some (.tup [bl (Zaq Za8 d),I 0,mv (putM M1 (Zaq Za8 d) d),m2,m3]):=by
 have h1:vl e 22 0 [.str d]=some (bl (Zaq Za8 d)):=by
  rw[w.zq10];unfold y.zq10
  have:=v.shaSum (e:=e) Za8 d (by decide) (by omega)
  simp only[yy,Zg0]
  rw[show V.str [98,108,111,98]= .str Za8 from rfl,this]
  simp only[Xak,Za3 (Zag _ _)]
 rw[w.zq34_h0];unfold y.zq34_h0
 simp only[yy,if_neg (show ¬(32768:Int)<(d.length:Int)by omega),h1,Za3 (Zag _ _),Z5b hM (Zag _ _)]
structure En where
 nm:Bytes
 tr:Bool
 id:Bytes
def ev (x:En):V:= .agg (.str x.nm:: .bool x.tr::x.id.map byteV)
abbrev entV (l:List En):V:= .sl false 34 (l.map ev)
theorem Zge {l:List En}{i:Nat}(h:i<l.length):evp (.elem 34) [entV l,I i]=some (ev l[i]):=Zgf (by simp[h])
theorem Zko {l:List En}:evp (.len false) [entV l]=some (I l.length):=by rw[entV,Zs1,Xcf]
theorem Zmj (x:En):(ev x).cells= .str x.nm:: .bool x.tr::x.id.map byteV:=rfl
theorem Zkx {x:En}(h:x.id.length=32):(ev x).cells.length=34:=by rw[Zmj];simp[h]
theorem Z44 (x:En):(ev x).cells.all V.sc=true:=by
 rw[Zmj,Xcu,Xcu,Xal.2]
 ·rfl
 ·intro c hc;obtain⟨b,_,rfl⟩:=Xa9.1 hc;rfl
theorem Zmv {x:En}(h:x.id.length=32):evp (.ld (some 34) 0) [ev x]=some (ev x):=by
 show Zak (some 34) (ev x).cells 0=_
 simp only[Zak]
 rw[if_pos (by rw[Zkx h];omega),Xbc,Xaw (by rw[Zkx h];omega)];rfl
theorem Zhw {x:En}(h:x.id.length=32):evp (.cat [some 34]) [ev x]=some (ev x):=by
 show(catV [some 34] [ev x]).map V.agg=_
 simp only[catV]
 rw[if_pos ⟨Zkx h,Z44 x⟩]
 simp only[Xas,Xao];rfl
theorem Zmi {x:En}:evp (.ld none 0) [ev x]=some (.str x.nm):=rfl
theorem Zo8 {x:En}:evp (.ld none 1) [ev x]=some (.bool x.tr):=rfl
theorem Zx5 {x:En}(h:x.id.length=32):evp (.b2so 2 32) [ev x]=some (.str x.id):=by
 show Zxt 2 32 (ev x)=_
 unfold Zxt
 rw[if_pos (by rw[Zkx h];omega),Zmj]
 show(Zb0 ((x.id.map byteV).take 32)).map V.str=_
 rw[Xaw (by simp[h]),Ze2];rfl
structure EnOK (l:List En):Prop where
 nm:∀x∈l,Zbl x.nm=true/\x.nm.length<=128
 id:∀x∈l,x.id.length=32
 up:l.Pairwise fun a b=>Op.bytesLess a.nm b.nm=true
 len:l.length<=512
theorem Ztd {s:Bytes}(h:Zbl s=true)(hl:s.length<=128):Zc8 s=true:=by
 unfold Zc8
 rw[Zec (Zgr h)]
 simp[hl,h]
theorem v.last (s:Bytes)(c:UInt8)(hs:s.length<=1000000000)(hc:c∉s):vl e 103 0 [.str s,byteV c]=some (I (-1)):=by
 have key:∀(n:Nat),n<=s.length->vl e 116 8 [.str s,byteV c,I ((n:Int)-1)]=some (I (-1)):=by
  intro n
  induction n with
  |zero=>
   intro _
   rw[w.zq6_8];unfold y.zq6_8
   simp only[yy,if_neg (show ¬((0:Int)<=((0:Nat):Int)-1)by omega)]
  |succ n ih=>
   intro hn
   have hlt:n<s.length:=by omega
   have hne: ¬((s[n].toNat:Int)=(c.toNat:Int)):=fun h=>hc (by rw[<-Zl8.1 h];exact Xau hlt)
   have e0:((n+1:Nat):Int)-1=(n:Int):=by omega
   have:=ih (by omega)
   rw[w.zq6_8];unfold y.zq6_8
   rw[e0]
   have e1:IntKind.i64.wrap ((n:Int)-1)=(n:Int)-1:=w64 _ (by omega)
   simp only[yy,if_pos (show(0:Int)<=(n:Int)by omega),Zj3 (Xad hlt),byteV,if_neg hne,e1]
   exact this
 rw[w.zq81];unfold y.zq81
 have h1:vl e 116 0 [.str s,byteV c]=some (I (-1)):=by
  rw[w.zq6];unfold y.zq6
  have e1:IntKind.i64.wrap ((s.length:Int)-1)=(s.length:Int)-1:=w64 _ (by omega)
  simp only[yy,e1]
  exact key s.length (Xag _)
 simp only[yy,h1]
theorem v.Dir1 (s:Bytes)(hs:s.length<=1000000000)(hc:(47:UInt8)∉s):vl e 85 0 [.str s]=some (.str []):=by
 rw[w.zq17];unfold y.zq17
 have h1:=v.last (e:=e) s 47 hs hc
 have h2:evp (.mnx true) [.int .i64 (-1), .int .i64 0]=some (.int .i64 0):=rfl
 have h3:evp (.sls false true) [.str s, .int .i64 0]=some (.str []):=Zk1 (h:=0) (Xbw _)
 rw[show V.int .u8 47=byteV 47 from rfl]
 simp only[yy,h1,h2,h3]
theorem v.GoodTree8 (he:EnvT e)(l:List En)(h:EnOK l):∀(n i:Nat),i+n=l.length->vl e 63 8 [entV l,entV l,I l.length,I i]=some (.bool true):=by
 intro n
 induction n with
 |zero=>
  intro i hi
  have hlen:=h.len
  rw[w.zq12_8];unfold y.zq12_8
  simp only[yy,if_neg (show ¬((i:Int)<(l.length:Int))by omega),Zko]
  rw[decide_eq_true (show(l.length:Int)<=512 by omega)]
 |succ n ih=>
  intro i hi
  have hlen:=h.len
  have hlt:i<l.length:=by omega
  have hid:=h.id _ (Xau hlt)
  obtain⟨hp,hpl⟩:=h.nm _ (Xau hlt)
  have hg:=v.Good he l[i].nm (by omega)
  rw[Ztd hp hpl]at hg
  have hd:=v.Dir1 (e:=e) l[i].nm (by omega) (Zgr hp)
  have hn:(!decide (([]:Bytes)=[]))=false:=rfl
  have:=ih (i+1) (by omega)
  rw[w.zq12_8];unfold y.zq12_8
  by_cases h0:0<i
  ·have hlt':i-1<l.length:=by omega
   have hup:Op.bytesLess l[i-1].nm l[i].nm=true:=Xbe.1 h.up (i-1) i hlt' hlt (by omega)
   have hge:evp (.bin .geq .no) [.str l[i-1].nm, .str l[i].nm]=some (.bool false):=by
    show some (V.bool (!Op.bytesLess l[i-1].nm l[i].nm))=_
    rw[hup];rfl
   simp only[yy,if_pos (show(i:Int)<(l.length:Int)by omega),Zge hlt,Zmv hid,Zhw hid,Zmi,hg,hd,if_pos (show(0:Int)<(i:Int)by omega),Zjr (show 1<=i by omega) (by omega),Zge hlt',hge,Zam hlt (by omega)]
   simpa using this
  ·simp only[yy,if_pos (show(i:Int)<(l.length:Int)by omega),Zge hlt,Zmv hid,Zhw hid,Zmi,hg,hd,if_neg (show ¬(0:Int)<(i:Int)by omega),Zam hlt (by omega)]
   simpa using this
theorem v.GoodTree (he:EnvT e)(l:List En)(h:EnOK l):vl e 63 0 [entV l]=some (.bool true):=by
 rw[w.zq12];unfold y.zq12
 simp only[yy,Zko]
 exact v.GoodTree8 he l h l.length 0 (Xan _)
def enP (x:En):List Bytes:=[if x.tr then Za1 else Za8,x.nm,x.id]
def Zbi (l:List En):List Bytes:=l.flatMap enP
theorem Zdd (l:List En):(Zbi l).length=3*l.length:=by
 unfold Zbi
 induction l with
 |nil=>rfl
 |cons x r ih=>rw[Xbp,Xaf,ih];simp only[enP,Xax,Xa7];omega
theorem Zmq (a b:List Bytes):sumL (a++b)=sumL a+sumL b:=by simp[sumL]
theorem Zdz {l:List En}(h1:∀x∈l,x.nm.length<=128)(h2:∀x∈l,x.id.length=32):sumL (Zbi l)<=188*l.length:=by
 unfold Zbi
 induction l with
 |nil=>exact Xbw _
 |cons x r ih=>
  have:=ih (fun a ha=>h1 a (by simp[ha])) (fun a ha=>h2 a (by simp[ha]))
  have a1:=h1 x (by simp)
  have a2:=h2 x (by simp)
  rw[Xbp,Zmq,enP,Zdc,Zdc,Zdc,a2]
  have:(if x.tr=true then Za1 else Za8).length=4:=by cases x.tr<;>rfl
  rw[this]
  simp only[Xax,show sumL []=0 from rfl]
  omega
theorem Zuj {a:List Bytes}{x u t:Bytes}(h:a.length+3<=Lim):evp (.app 1) [strs a, .sl false 1 [.str x, .str u, .str t]]=some (strs (a++ [x,u,t])):=by
 rw[strs,Zlm (by simpa using h)];simp
theorem v.PutTree18 (l:List En)(h:EnOK l):∀(n i:Nat),i+n=l.length->vl e 41 18 [strs (Zbi (l.take i)),entV l,I l.length,I i]=some (.tup [.str (Zck (Zbi l)),I 0]):=by
 intro n
 induction n with
 |zero=>
  intro i hi
  have hlen:=h.len
  have hs:=Zdz (fun x hx=>(h.nm x hx).2) h.id
  have hj:=v.codeJoin (e:=e) (Zbi l) (by omega)
  rw[w.zq13_18];unfold y.zq13_18
  rw[Xaw (show l.length<=i by omega)]
  simp only[yy,if_neg (show ¬((i:Int)<(l.length:Int))by omega),hj]
 |succ n ih=>
  intro i hi
  have hlen:=h.len
  have hlt:i<l.length:=by omega
  have hid:=h.id _ (Xau hlt)
  have hal:(Zbi (l.take i)).length+3<=Lim:=by rw[Zdd,Xbr];unfold Lim;omega
  have hto:Zbi (l.take (i+1))=Zbi (l.take i)++enP l[i]:=by
   rw[Xck hlt,Zbi,List.flatMap_append];simp[Zbi]
  have:=ih (i+1) (by omega)
  rw[hto]at this
  have hb3:∀a b c:Bytes,evp (.bsl 1) [.str a, .str b, .str c]=some (.sl false 1 [.str a, .str b, .str c]):=fun _ _ _=>rfl
  rw[w.zq13_18];unfold y.zq13_18
  cases ht:l[i].tr with
  |false=>
   rw[enP,ht]at this
   simp only[yy,if_pos (show(i:Int)<(l.length:Int)by omega),Zge hlt,Zmv hid,Zhw hid,Zo8,ht,Zmi,Zx5 hid,hb3,Zuj hal,Zam hlt (by omega)]
   exact this
  |true=>
   rw[enP,ht]at this
   simp only[yy,if_pos (show(i:Int)<(l.length:Int)by omega),Zge hlt,Zmv hid,Zhw hid,Zo8,ht,Zmi,Zx5 hid,hb3,Zuj hal,Zam hlt (by omega)]
   exact this
def Zan (l:List En):Bytes:=Zck (Zbi l)
theorem v.PutTree (he:EnvT e)(l:List En)(h:EnOK l)(m1 m3:V)(M2:MB)(hM:keyL M2):vl e 10256 1 [entV l,m1,mv M2,m3]=some (.tup [bl (Zaq Za1 (Zan l)),I 0,m1,mv (putM M2 (Zaq Za1 (Zan l)) (Zan l)),m3]):=by
 have hlen:=h.len
 have hs:=Zdz (fun x hx=>(h.nm x hx).2) h.id
 have h1:vl e 41 0 [entV l]=some (.tup [.str (Zan l),I 0]):=by
  rw[w.zq13];unfold y.zq13
  have:=v.PutTree18 (e:=e) l h l.length 0 (Xan _)
  simp only[yy,v.GoodTree he l h,Zko]
  exact this
 have h2:vl e 42 0 [.str (Zan l)]=some (bl (Zaq Za1 (Zan l))):=by
  rw[w.zq14];unfold y.zq14
  have:=v.shaSum (e:=e) Za1 (Zan l) (by decide) (by unfold Zan;rw[Zek];omega)
  simp only[yy,Zg0]
  rw[show V.str [116,114,101,101]= .str Za1 from rfl,this]
  simp only[Xak,Za3 (Zag _ _)]
 rw[w.zq35_h0];unfold y.zq35_h0
 simp only[yy,h1,h2,Za3 (Zag _ _),Z5b hM (Zag _ _)]
 simp
end Go.Proofs.YtpmgdngjbdkdfaaGreatDoor
namespace Go.Proofs.YtpmgdngjbdkdfaaGreatDoor
open Go.Abs
set_option maxRecDepth 10000
variable {e:Ev}
abbrev aggS (l:List Bytes):V:= .agg (l.map .str)
theorem Zzr {l:List Bytes}{i:Nat}(h:i<l.length):evp (.ldd none 0 1) [aggS l,I i]=some (.str l[i]):=by
 show(l.map V.str)[0+(i:Int).toNat*1]? =_
 simp[h]
theorem Z3g {l:List Bytes}{i:Nat}{x:Bytes}(h:i<l.length):evp (.std 1 0 1) [aggS l,I i, .str x]=some (aggS (l.set i x)):=by
 show vSet 1 (0+(i:Int).toNat*1) (aggS l) (.str x)=_
 unfold vSet
 rw[if_pos (by simp[V.cells,V.sc];omega)]
 simp only[V.cells,Xan,Xbu,Xcw,Zav,Xc1]
 rw[Xc4,if_pos h]
 simp
theorem Z0d {l:List Bytes}{i:Nat}(h:i<l.length):evp (.clrx (.str [])) [aggS l,I l.length,I i]=some (aggS (l.take i++List.replicate (l.length-i) [])):=by
 show(if 0<=(i:Int)/\(i:Int)<(l.length:Int)/\(l.length:Int).toNat<=(aggS l).cells.length then some (V.agg (Zav (aggS l).cells (i:Int).toNat (List.replicate ((l.length:Int).toNat-(i:Int).toNat) (V.str []))))else none)=_
 rw[if_pos ⟨by omega,by omega,by simp[V.cells]⟩]
 simp only[V.cells,Xbu,Zav,Xes]
 rw[Xav (by simp;omega)]
 simp
theorem Zqt {l:List Bytes}{i:Nat}(h:i<=l.length):evp .snapx [aggS l,I i]=some (strs (l.take i)):=by
 show(if 0<=(i:Int)/\(i:Int).toNat<=(aggS l).cells.length then some (V.sl false 1 ((aggS l).cells.take (i:Int).toNat))else none)=_
 rw[if_pos ⟨by omega,by simp[V.cells];omega⟩]
 simp[V.cells]
theorem v.CloneS (l:List Bytes)(hl:l.length<=1000000):vl e 11280 1 [strs l]=some (.tup [I l.length,aggS l]):=by
 rw[w.zq67_h0];unfold y.zq67_h0
 have h1:evp (.rapp 1) [.agg [],I (0:Nat),strs l]=some (aggS l):=by
  show Zsg 1 (.agg []) (I (0:Nat)) (strs l)=_
  have hf:fits 1 (l.map V.str)=true:=by simp[fits,V.cells,V.sc]
  simp only[Zsg,Zb2,Xak,Zj6,hf,if_true,true_or]
  rw[if_pos ⟨by omega,by omega,by simp,by simp[Lim];omega⟩]
  have hfl:∀l:List Bytes,(l.map V.str).flatMap V.cells=l.map V.str:=fun l=>by
   induction l with
   |nil=>rfl
   |cons x r ih=>simp only[Xaq,Xbp,ih];rfl
  simp only[V.cells,Xbu,Xfm,Xcn,Xba,hfl]
 have h2:evp (.rlen 1) [I (0:Nat),strs l]=some (I l.length):=by
  show Zpk 1 (I (0:Nat)) (strs l)=_
  simp[Zpk,Zb2]
 have h1':evp (.rapp 1) [.agg [], .int .i64 0,strs l]=some (aggS l):=h1
 have h2':evp (.rlen 1) [.int .i64 0,strs l]=some (I l.length):=h2
 simp only[yy,h1',h2']
 cases l with
 |nil=>
  have:vamb (V.sl false 1 []) (some (V.tup [.int .i64 0, .agg []])) (some (V.tup [.int .i64 0, .agg []]))=some (V.tup [.int .i64 0, .agg []]):=by
   unfold vamb
   exact if_pos rfl
  exact this
 |cons x r=>rfl
end Go.Proofs.YtpmgdngjbdkdfaaGreatDoor
namespace Go.Proofs.YtpmgdngjbdkdfaaGreatDoor
open Go.Abs
set_option maxRecDepth 10000
variable {e:Ev}
theorem v.isE (x:Bytes):Ze6 (vl e) (.fn 81 []) [.str x]=some (.bool (decide (x=[]))):=by
 show vl e 81 0 ([.str x]++ [])=_
 rw[Xao,w.zq21];unfold y.zq21
 simp only[yy, ]
theorem v.Join2 (he:EnvT e)(d n:Bytes)(hn:n≠ [])(hd:d.length<=1000000)(hn2:n.length<=1000000):vl e 61 0 [strs [d,n]]=some (.str (if d=[]then n else d++47::n)):=by
 have hcl:=v.CloneS (e:=e) [d,n] (by simp)
 simp only[Xax,Xa7,Xan]at hcl
 have c0:evp .chkd [I (2:Nat),I (0:Nat)]=some (I (0:Nat)):=Zbc (by omega)
 have c1:evp .chkd [I (2:Nat),I (1:Nat)]=some (I (1:Nat)):=Zbc (by omega)
 have l0:evp (.ldd none 0 1) [aggS [d,n],I (0:Nat)]=some (.str d):=Zzr (l:=[d,n]) (i:=0) (by simp)
 have l1:evp (.ldd none 0 1) [aggS [d,n],I (1:Nat)]=some (.str n):=Zzr (l:=[d,n]) (i:=1) (by simp)
 rw[w.zq20];unfold y.zq20
 by_cases h:d=[]
 ·subst h
  rw[if_pos rfl]
  --the first is found
  have hi:vl e 11200 1 [I (2:Nat), .fn 81 [],aggS [[],n]]=some (.tup [I (0:Nat),aggS [[],n]]):=by
   rw[w.zq71_h0];unfold y.zq71_h0
   rw[w.zq71_h0_8];unfold y.zq71_h0_8
   have hp:=v.isE (e:=e) []
   simp only[yy,if_pos (show(0:Int)<((2:Nat):Int)by omega)]
   rw[show(V.int .i64 0)=I (0:Nat)from rfl,c0,Xak,l0,Xak,cv,hp]
   rfl
  have hdel:vl e 11264 1 [I (2:Nat), .fn 81 [],aggS [[],n]]=some (.tup [I (1:Nat),aggS [n,[]]]):=by
   rw[w.zq70_h0];unfold y.zq70_h0
   simp only[yy,hi,if_neg (show ¬((0:Nat):Int)= -1 by omega),Zam (show 0<1 by omega) (by omega)]
   have hp:=v.isE (e:=e) n
   rw[decide_eq_false hn]at hp
   have hst:evp (.std 1 0 1) [aggS [[],n],I (0:Nat), .str n]=some (aggS [n,n]):=Z3g (l:=[[],n]) (i:=0) (by simp)
   have hcx:evp (.clrx (.str [])) [aggS [n,n],I (2:Nat),I (1:Nat)]=some (aggS [n,[]]):=Z0d (l:=[n,n]) (i:=1) (by simp)
   have hck:evp .chkl [I (2:Nat),I (1:Nat)]=some (I (1:Nat)):=Z0s (by omega)
   rw[w.zq70_h0_18];unfold y.zq70_h0_18
   simp only[yy,if_pos (show((1:Nat):Int)<((2:Nat):Int)by omega),c1,l1,cv,hp,c0,hst,Zam (show 0<1 by omega) (by omega),Zam (show 1<2 by omega) (by omega)]
   rw[w.zq70_h0_18];unfold y.zq70_h0_18
   simp only[yy,if_neg (show ¬((2:Nat):Int)<((2:Nat):Int)by omega),c1,hcx,hck]
  have hsn:evp .snapx [aggS [n,[]],I (1:Nat)]=some (strs [n]):=Zqt (l:=[n,[]]) (i:=1) (by simp)
  have hj:=v.join he [n] [47] (by simp) (by simp[Zhr];omega)
  have hfl:evp .flr [.str n]=some (.str n):=rfl
  simp only[yy,hcl,hdel,hsn,hj]
  simp only[Zhr,hfl,Xak]
 ·rw[if_neg h]
  have hi:vl e 11200 1 [I (2:Nat), .fn 81 [],aggS [d,n]]=some (.tup [I (-1),aggS [d,n]]):=by
   have hp:=v.isE (e:=e) d
   have hq:=v.isE (e:=e) n
   rw[decide_eq_false h]at hp
   rw[decide_eq_false hn]at hq
   rw[w.zq71_h0];unfold y.zq71_h0
   rw[w.zq71_h0_8];unfold y.zq71_h0_8
   rw[show(V.int .i64 0)=I (0:Nat)from rfl]
   simp only[yy,if_pos (show((0:Nat):Int)<((2:Nat):Int)by omega),c0,l0,cv,hp,Zam (show 0<1 by omega) (by omega)]
   rw[w.zq71_h0_8];unfold y.zq71_h0_8
   simp only[yy,if_pos (show((0+1:Nat):Int)<((2:Nat):Int)by omega),c1,l1,cv,hq,Zam (show 1<2 by omega) (by omega)]
   rw[w.zq71_h0_8];unfold y.zq71_h0_8
   simp only[yy,if_neg (show ¬((0+1+1:Nat):Int)<((2:Nat):Int)by omega)]
  have hdel:vl e 11264 1 [I (2:Nat), .fn 81 [],aggS [d,n]]=some (.tup [I (2:Nat),aggS [d,n]]):=by
   rw[w.zq70_h0];unfold y.zq70_h0
   simp only[yy,hi]
   simp
  have hsn:evp .snapx [aggS [d,n],I (2:Nat)]=some (strs [d,n]):=Zqt (l:=[d,n]) (i:=2) (by simp)
  have hj:=v.join he [d,n] [47] (by simp) (by simp[Zhr];omega)
  have hfl:∀x:Bytes,evp .flr [.str x]=some (.str x):=fun _=>rfl
  simp only[yy,hcl,hdel,hsn,hj]
  simp only[hfl,Xak]
  simp[Zhr]
end Go.Proofs.YtpmgdngjbdkdfaaGreatDoor
namespace Go.Proofs.YtpmgdngjbdkdfaaGreatDoor
open Go.Abs
set_option maxRecDepth 10000
variable {e:Ev}
def pS (S:List Fi)(i:Nat):List Bytes:=Zae 47 (S.getD i ([],[])).1
structure SoOK (S:List Fi):Prop where
 good:∀f∈S,Zc8 f.1=true
 data:∀f∈S,f.2.length<=32768
 len:S.length<=512
 up:∀i j,i<j->j<S.length->cmpL (pS S i) (pS S j)<0
 free:∀i j,i<S.length->j<S.length->i≠j-> ∀R,pS S i≠pS S j++R
theorem Zf5 (A B:List Bytes):∀D:List Bytes,cmpL (D++A) (D++B)=cmpL A B
 | []=>rfl
 |x::D=>by rw[Xbq,Xbq,cmpL,if_pos (Zc9.2 rfl),Zf5 A B D]
theorem Ze8 {x z:Bytes}{A B:List Bytes}(h:cmpL (x::A) (z::B)<0):x=z \/Op.bytesLess x z=true:=by
 rw[cmpL]at h
 by_cases h0:cmpB x z=0
 ·exact .inl (Zc9.1 h0)
 ·rw[if_neg h0]at h;exact .inr (Zif.1 h)
theorem Zzp (p:Nat->Prop):∀n:Nat, ∃k,k<=n/\(∀i,i<k->p i)/\(k<n-> ¬p k)
 |0=>⟨0,Xag _,fun i h=>by omega,fun h=>by omega⟩
 |n+1=>by
  obtain⟨k,h1,h2,h3⟩:=Zzp p n
  by_cases hk:k<n
  ·exact⟨k,by omega,h2,fun _=>h3 hk⟩
  ·by_cases hp:p k
   ·refine⟨k+1,by omega,fun i hi=> ?_,fun h=>by omega⟩
    rcases Xbm (Nat.le_of_lt_succ hi)with h|rfl
    ·exact h2 i h
    ·exact hp
   ·exact⟨k,by omega,h2,fun _=>hp⟩
inductive Tr (S:List Fi):List Bytes->Nat->Nat->List En->Bytes->MB->MB->Prop
 |done {D:List Bytes} {a:Nat} {ls:List En} (hok:EnOK ls):Tr S D a a ls (Zaq Za1 (Zan ls)) [] [(Zaq Za1 (Zan ls),Zan ls)]
 |blob {D:List Bytes} {a b:Nat} {ls:List En} {x id:Bytes} {p1 p2:MB} (hab:a<b) (hx:pS S a=D++ [x]) (h:Tr S D (a+1) b (ls++ [⟨x,false,Zaq Za8 (S.getD a ([],[])).2⟩]) id p1 p2):
   Tr S D a b ls id ((Zaq Za8 (S.getD a ([],[])).2,(S.getD a ([],[])).2)::p1) p2
 |dir {D:List Bytes} {a b k:Nat} {ls:List En} {x id id1:Bytes} {p1 p2 q1 q2:MB} (hk:0<k) (hkb:a+k<=b) (hrun:∀i,a<=i->i<a+k-> ∃R,R≠ []/\pS S i=D++x::R) (hstop:a+k<b-> ¬ ∃R,R≠ []/\pS S (a+k)=D++x::R)
   (h1:Tr S (D++ [x]) a (a+k) [] id1 p1 p2) (h2:Tr S D (a+k) b (ls++ [⟨x,true,id1⟩]) id q1 q2):Tr S D a b ls id (p1++q1) (p2++q2)
theorem Zgl {a b:Nat}(h:a<=b):evp .vlen [I a,I b]=some (I (b-a:Nat)):=by
 show(if 0<=(a:Int)/\(a:Int)<=(b:Int)then some (V.int .i64 ((b:Int)-(a:Int)))else none)=_
 rw[if_pos (by omega), <-Int.ofNat_sub h]
theorem Zp9 {a b l:Nat}(h:a+l<=b):evp .vadd [I a,I b,I l]=some (I (a+l:Nat)):=by
 show(if 0<=(a:Int)/\0<=(l:Int)/\(a:Int)+(l:Int)<=(b:Int)then some (V.int .i64 ((a:Int)+(l:Int)))else none)=_
 rw[if_pos (by omega),Xfr]
theorem Zlc {a b l:Nat}(h:a+l<b):evp .vidx [I a,I b,I l]=some (I (a+l:Nat)):=by
 show(if 0<=(a:Int)/\0<=(l:Int)/\(a:Int)+(l:Int)<(b:Int)then some (V.int .i64 ((a:Int)+(l:Int)))else none)=_
 rw[if_pos (by omega),Xfr]
theorem Zqi (id:Bytes):(id.map byteV).all V.sc=true:=by
 rw[Xal];intro c hc;obtain⟨b,_,rfl⟩:=Xa9.1 hc;rfl
theorem Z2d {id:Bytes}(h:id.length=32):(bl id).cells.length=32/\(bl id).cells.all V.sc=true:=⟨by simp[V.cells,h],Zqi id⟩
theorem Zjo {nm id:Bytes}{t:Bool}(h:id.length=32):evp (.cat [none,none,some 32]) [.str nm, .bool t,bl id]=some (ev ⟨nm,t,id⟩):=by
 show(catV [none,none,some 32] [.str nm, .bool t,bl id]).map V.agg=_
 simp only[catV]
 rw[if_pos (show(V.str nm).sc=true from rfl),if_pos (show(V.bool t).sc=true from rfl),if_pos (Z2d h)]
 simp only[Xas,Xao];rfl
theorem Zvi {nm id:Bytes}(h:id.length=32):evp (.cat [none,some 32]) [.str nm,bl id]=some (.agg (.str nm::id.map byteV)):=by
 show(catV [none,some 32] [.str nm,bl id]).map V.agg=_
 simp only[catV]
 rw[if_pos (show(V.str nm).sc=true from rfl),if_pos (Z2d h)]
 simp only[Xas,Xao];rfl
theorem Zi0 {x:En}(h:x.id.length=32):evp (.bsl 34) [ev x]=some (.sl false 34 [ev x]):=by
 have:fits 34 [ev x]=true:=by simp[fits,Zkx h];exact Xal.1 (Z44 x)
 show(if fits 34 [ev x]then some (V.sl false 34 [ev x])else none)=_
 rw[this];rfl
theorem Zk4 {l:List En}{x:En}(h:l.length+1<=Lim):evp (.app 34) [entV l, .sl false 34 [ev x]]=some (entV (l++ [x])):=by
 rw[entV,Zlm (by simpa using h)];simp
theorem Zg7 {D:List Bytes}{x:Bytes}(hD:∀u∈D,Zbl u=true):(if Zai 47 D=[]then x else Zai 47 D++47::x)=Zai 47 (D++ [x]):=by
 by_cases h:D=[]
 ·subst h;rfl
 ·rw[if_neg (Zft h hD),Zdu 47 D [x] h (by simp)];rfl
section
variable (he:EnvT e)(S:List Fi)(hS:SoOK S)
include he hS
omit he in
theorem Zg6 {i:Nat}(h:i<S.length):∀x∈pS S i,Zbl x=true:=by
 unfold pS;rw[Zaz h];exact Zfx (hS.good _ (Xau h))
omit he hS in
theorem Zmd {i:Nat}(h:i<S.length):evp (.ldd none 0 2) [aggF S,I i]=some (.str (S.getD i ([],[])).1):=by rw[Zz8 h,Zaz h]
omit he in
theorem Zes {i:Nat}(h:i<S.length):(S.getD i ([],[])).1.length<=128:=by rw[Zaz h];exact Zmk (hS.good _ (Xau h))
omit he in
theorem v.below44 (D:List Bytes)(hD:∀u∈D,Zbl u=true)(x:Bytes)(hx:Zbl x=true)(hxl:x.length<=128)(hjl:(Zai 47 (D++ [x])).length<=1000)(a b k:Nat)(hab:a+k<=b)(hb:b<=S.length)(hrun:∀i,a<=i->i<a+k-> ∃R,R≠ []/\pS S i=D++x::R)(hstop:a+k<b-> ¬ ∃R,R≠ []/\pS S (a+k)=D++x::R)
  (ls:List En) (hls:ls.length<=512) (id1:Bytes) (hid:id1.length=32) (m1 m2 m3 n1 n2 n3 z:V)
  (hrec:vl e 10624 1 [.str (Zai 47 (D++ [x])),I a,I (a+k:Nat),aggF S,m1,m2,m3]=some (.tup [bl id1,I 0,aggF S,n1,n2,n3])):∀(n j:Nat),j+n=k->
  vl e 10624 44 [.str (Zai 47 D),I a,I b,entV ls, .str x, .str (Zai 47 (D++ [x])),I j,aggF S,m1,m2,m3,z]=vl e 10624 8 [.str (Zai 47 D),I (a+k:Nat),I b,entV (ls++ [⟨x,true,id1⟩]),aggF S,n1,n2,n3,z]:=by
 have hlen:=hS.len
 have hD':∀u∈D++ [x],Zbl u=true:=fun u hu=>(Xay.1 hu).elim (hD u) (fun h=>by rw[Xa1.1 h];exact hx)
 have hLim:ls.length+1<=Lim:=by unfold Lim;omega
 intro n
 induction n with
 |zero=>
  intro j hj
  have hjk:j=k:=by omega
  subst hjk
  rw[w.zq38_h0_44];unfold y.zq38_h0_44
  by_cases hc:a+j<b
  ·have hi:a+j<S.length:=by omega
   obtain⟨u,hu,_⟩:=v.Under (e:=e) (Zai 47 (D++ [x])) (S.getD (a+j) ([],[])).1 (by omega) (by have:=Zes S hS hi;omega)
   have hno:(Zch (Zai 47 (D++ [x])) (S.getD (a+j) ([],[])).1).isSome=false:=by
    cases h:Zch (Zai 47 (D++ [x])) (S.getD (a+j) ([],[])).1 with
    |none=>rfl
    |some r=>
     obtain⟨R,hR,hs⟩:=Zhl hD' h
     exact absurd ⟨R,hR,by rw[pS,hs];simp⟩ (hstop hc)
   rw[hno]at hu
   simp only[yy,Zgl (show a<=b by omega),if_pos (show(j:Int)<((b-a:Nat):Int)by omega),Zlc hc,Zmd S hi,hu,Zp9 (show a+j<=b by omega),hrec,Za3 hid,Zjo hid,Zi0 (x:=⟨x,true,id1⟩) hid,Zk4 hLim]
   simp
  ·simp only[yy,Zgl (show a<=b by omega),if_neg (show ¬(j:Int)<((b-a:Nat):Int)by omega),Zp9 (show a+j<=b by omega),hrec,Za3 hid,Zjo hid,Zi0 (x:=⟨x,true,id1⟩) hid,Zk4 hLim]
   simp
 |succ n ih=>
  intro j hj
  have hi:a+j<S.length:=by omega
  obtain⟨R,hR,hs⟩:=hrun (a+j) (by omega) (by omega)
  obtain⟨u,hu,_⟩:=v.Under (e:=e) (Zai 47 (D++ [x])) (S.getD (a+j) ([],[])).1 (by omega) (by have:=Zes S hS hi;omega)
  have hpp:=Zg6 S hS hi
  rw[hs]at hpp
  have hyes:=Zlv (p:=(S.getD (a+j) ([],[])).1) hD' (R:=R) (fun c hc=>hpp c (by simp[hc])) hR (by rw[<-pS,hs];simp)
  rw[hyes]at hu
  have:=ih (j+1) (by omega)
  rw[w.zq38_h0_44];unfold y.zq38_h0_44
  simp only[yy,Zgl (show a<=b by omega),if_pos (show(j:Int)<((b-a:Nat):Int)by omega),Zlc (show a+j<b by omega),Zmd S hi,hu,Xdc,Zam (show j<j+1 by omega) (by omega)]
  exact this
theorem v.below8 :∀(q:Nat) (D:List Bytes) (a b:Nat) (ls:List En),(16-D.length)*513+(b-a)<=q->a<=b->b<=S.length->(∀u∈D,Zbl u=true)->(Zai 47 D).length<=128->(∀i,a<=i->i<b-> ∃R,R≠ []/\pS S i=D++R)->EnOK ls->ls.length+(b-a)<=512->(∀en∈ls, ∀i,a<=i->i<b-> ∀x R,pS S i=D++x::R->Op.bytesLess en.nm x=true)->
  ∃(id:Bytes) (p1 p2:MB),Tr S D a b ls id p1 p2/\id.length=32/\keyL p1/\keyL p2/\ ∀(M1 M2:MB) (m3 z:V),keyL M1->keyL M2->
   vl e 10624 8 [.str (Zai 47 D),I a,I b,entV ls,aggF S,mv M1,mv M2,m3,z]=some (.tup [bl id,I 0,aggF S,mv (Zdf p1 M1),mv (Zdf p2 M2),m3]):=by
 have hlen:=hS.len
 intro q
 induction q with
 |zero=>
  intro D a b ls hq hab hb hD hjl hin hls hll hlt
  have hab':a=b:=by omega
  subst hab'
  refine⟨_,_,_, .done hls,Zag _ _,(fun p hp=>by cases hp),(fun p hp=>by rw[Xa1.1 hp];exact Zag _ _),fun M1 M2 m3 z h1 h2=> ?_⟩
  rw[w.zq38_h0_8];unfold y.zq38_h0_8
  simp only[yy,Zgl (Xag a),if_neg (show ¬(0:Int)<((a-a:Nat):Int)by omega),v.PutTree he ls hls (mv M1) m3 M2 h2,Za3 (Zag _ _)]
  rfl
 |succ q ih=>
  intro D a b ls hq hab hb hD hjl hin hls hll hlt
  rcases Xbm hab with hlt'|rfl
  rotate_left
  ·refine⟨_,_,_, .done hls,Zag _ _,(fun p hp=>by cases hp),(fun p hp=>by rw[Xa1.1 hp];exact Zag _ _),fun M1 M2 m3 z h1 h2=> ?_⟩
   rw[w.zq38_h0_8];unfold y.zq38_h0_8
   simp only[yy,Zgl (Xag a),if_neg (show ¬(0:Int)<((a-a:Nat):Int)by omega),v.PutTree he ls hls (mv M1) m3 M2 h2,Za3 (Zag _ _)]
   rfl
  have ha:a<S.length:=by omega
  obtain⟨R0,hR0,hs0⟩:=hin a (Xag _) hlt'
  obtain⟨x,R,rfl⟩:∃x R,R0=x::R:=by cases R0 with
   |nil=>exact absurd rfl hR0
   |cons x R=>exact⟨x,R,rfl⟩
  have hpa:=Zg6 S hS ha
  rw[hs0]at hpa
  have hx:Zbl x=true:=hpa x (by simp)
  have hR:∀u∈R,Zbl u=true:=fun u hu=>hpa u (by simp[hu])
  have hxR:∀u∈x::R,Zbl u=true:=fun u hu=>hpa u (by simp only[Xay];exact .inr hu)
  have hpl:=Zes S hS ha
  have hgood:Zc8 (S.getD a ([],[])).1=true:=by rw[Zaz ha];exact hS.good _ (Xau ha)
  have h16:(pS S a).length<=16:=by
   have:=hgood
   simp only[Zc8,Xai,decide_eq_true_eq]at this
   exact this.1.2
  have hD16:D.length<16:=by rw[hs0]at h16;simp at h16;omega
  have hxl:x.length<=128:=by
   have:=Zbf 47 (show x∈Zae 47 (S.getD a ([],[])).1 by rw[<-pS,hs0];simp)
   omega
  --what stands behind the directory
  have hund:=Zlv (p:=(S.getD a ([],[])).1) hD hxR (by simp) (by rw[<-pS];exact hs0)
  obtain⟨r,hr,hr2⟩:=v.Under (e:=e) (Zai 47 D) (S.getD a ([],[])).1 (by omega) (by omega)
  have hr3:=hr2 _ hund
  subst hr3
  rw[hund,Xdc]at hr
  have hrl:=Zov hund
  have hsp:=v.pSplit he (Zai 47 (x::R)) (by omega)
  have hps:Zcc (Zai 47 (x::R))=x::R:=by
   unfold Zcc
   rw[if_neg (Zft (by simp) hxR),Zhk (by simp) hxR]
  rw[hps]at hsp
  have hnew:∀(t:Bool) (id:Bytes),id.length=32->EnOK (ls++ [⟨x,t,id⟩]):=fun t id hid=> {
   nm:=fun en hen=>(Xay.1 hen).elim (hls.nm en) (fun h=>by rw[Xa1.1 h];exact⟨hx,hxl⟩)
   id:=fun en hen=>(Xay.1 hen).elim (hls.id en) (fun h=>by rw[Xa1.1 h];exact hid)
   up:=Xb7.2 ⟨hls.up,List.pairwise_singleton _ _,fun u hu t ht=>by rw[Xa1.1 ht];exact hlt u hu a (Xag _) hlt' x R hs0⟩
   len:=by simp;omega}
  by_cases hRn:R=[]
  ·--a file
   subst hRn
   have hd:(S.getD a ([],[])).2.length<=32768:=by rw[Zaz ha];exact hS.data _ (Xau ha)
   obtain⟨id,p1,p2,t1,t2,t3,t4,t5⟩:=ih D (a+1) b (ls++ [⟨x,false,Zaq Za8 (S.getD a ([],[])).2⟩]) (by omega) (by omega) hb hD hjl (fun i h1 h2=>hin i (by omega) h2) (hnew _ _ (Zag _ _)) (by simp;omega) (fun en hen i h1 h2 x' R' hs'=>by
    have hup:=hS.up a i (by omega) (by omega)
    rw[hs0,hs',Zf5]at hup
    have hxx:Op.bytesLess x x'=true:=by
     rcases Ze8 hup with rfl|h
     ·exact absurd (by rw[hs',hs0];simp) (hS.free i a (by omega) ha (by omega) R')
     ·exact h
    rcases Xay.1 hen with h|h
    ·exact hlt en h i (by omega) h2 x' R' hs'
    ·rw[Xa1.1 h];exact hxx)
   refine⟨id,_,_, .blob hlt' hs0 t1,t2,fun p hp=>(Xa0.1 hp).elim (fun h=>by rw[h];exact Zag _ _) (t3 p),t4,fun M1 M2 m3 z h1 h2=> ?_⟩
   have hpb:=v.PutBlob (e:=e) (S.getD a ([],[])).2 hd M1 h1 (mv M2) m3
   have hdd:evp (.ldd none 1 2) [aggF S,I a]=some (.str (S.getD a ([],[])).2):=by rw[Z4g ha,Zaz ha]
   have hi0:evp .vidx [I a,I b, .int .i64 0]=some (I a):=Zlc (l:=0) (by omega)
   have ha1:evp .vadd [I a,I b, .int .i64 1]=some (I (a+1:Nat)):=Zp9 (l:=1) (by omega)
   rw[w.zq38_h0_8];unfold y.zq38_h0_8
   have hjx:Zai 47 [x]=x:=rfl
   rw[hjx]at hr hsp
   simp only[yy,Zgl hab,if_pos (show(0:Int)<((b-a:Nat):Int)by omega),hi0,Zmd S ha,hr,hsp,Zof,Zdw,hdd,hpb,Za3 (Zag _ _),Zvi (Zag _ _),Zjo (Zag _ _),Zi0 (x:=⟨x,false,Zaq Za8 (S.getD a ([],[])).2⟩) (Zag _ _),Zk4 (show ls.length+1<=Lim by unfold Lim;omega),ha1]
   simp only[if_true]
   exact t5 (putM M1 _ _) M2 m3 z (Zoi h1 (Zag _ _)) h2
  ·--a directory
   obtain⟨k,hk1,hk2,hk3⟩:=Zzp (fun t=> ∃R,R≠ []/\pS S (a+t)=D++x::R) (b-a)
   have hk0:0<k:=by
    refine Nat.pos_of_ne_zero fun h=> ?_
    subst h
    exact hk3 (by omega) ⟨R,hRn,hs0⟩
   have hrun:∀i,a<=i->i<a+k-> ∃R,R≠ []/\pS S i=D++x::R:=fun i h1 h2=>by
    have:=hk2 (i-a) (by omega)
    rwa[show a+(i-a)=i by omega]at this
   have hstop:a+k<b-> ¬ ∃R,R≠ []/\pS S (a+k)=D++x::R:=fun h=>hk3 (by omega)
   have hD':∀u∈D++ [x],Zbl u=true:=fun u hu=>(Xay.1 hu).elim (hD u) (fun h=>by rw[Xa1.1 h];exact hx)
   have hjl':(Zai 47 (D++ [x])).length<=128:=by
    have hj:=Za5 47 (S.getD a ([],[])).1
    rw[<-pS,hs0,show D++x::R=(D++ [x])++R by simp,Zdu 47 (D++ [x]) R (by simp) hRn]at hj
    have:=congrArg List.length hj
    simp only[Xaf,Xax]at this
    omega
   obtain⟨id1,p1,p2,s1,s2,s3,s4,s5⟩:=ih (D++ [x]) a (a+k) [] (by simp only[Xaf,Xax,Xa7];omega) (by omega) (by omega) hD' hjl' (fun i h1 h2=>by
    obtain⟨R',hR',hs'⟩:=hrun i h1 h2
    exact⟨R',hR',by rw[hs'];simp⟩) {nm:=(fun _ h=>by cases h),id:=(fun _ h=>by cases h),up:= .nil,len:=by simp} (by simp;omega) (fun en hen=>by cases hen)
   obtain⟨id,q1,q2,t1,t2,t3,t4,t5⟩:=ih D (a+k) b (ls++ [⟨x,true,id1⟩]) (by omega) (by omega) hb hD hjl (fun i h1 h2=>hin i (by omega) h2) (hnew _ _ s2) (by simp;omega) (fun en hen i h1 h2 x' R' hs'=>by
    --the first behind the directory
    obtain⟨R2,hR2,hs2⟩:=hin (a+k) (by omega) (by omega)
    obtain⟨x2,R3,rfl⟩:∃x2 R3,R2=x2::R3:=by cases R2 with
     |nil=>exact absurd rfl hR2
     |cons x R=>exact⟨x,R,rfl⟩
    have hup:=hS.up a (a+k) (by omega) (by omega)
    rw[hs0,hs2,Zf5]at hup
    have hxx2:Op.bytesLess x x2=true:=by
     rcases Ze8 hup with rfl|h
     ·by_cases hR3:R3=[]
      ·subst hR3
       exact absurd (show pS S a=pS S (a+k)++R by rw[hs0,hs2];simp) (hS.free a (a+k) ha (by omega) (by omega) R)
      ·exact absurd ⟨R3,hR3,hs2⟩ (hstop (by omega))
     ·exact h
    have hxx:Op.bytesLess x x'=true:=by
     rcases Xbm h1 with h|rfl
     ·have hup2:=hS.up (a+k) i h (by omega)
      rw[hs2,hs',Zf5]at hup2
      rcases Ze8 hup2 with rfl|h
      ·exact hxx2
      ·exact Zeq hxx2 h
     ·rw[hs2]at hs'
      have:=Xcd hs'
      simp only[Xb8]at this
      rw[<-this.1];exact hxx2
    rcases Xay.1 hen with h|h
    ·exact hlt en h i (by omega) h2 x' R' hs'
    ·rw[Xa1.1 h];exact hxx)
   refine⟨id,_,_, .dir hk0 (by omega) hrun hstop s1 t1,t2,fun p hp=>(Xay.1 hp).elim (s3 p) (t3 p),fun p hp=>(Xay.1 hp).elim (s4 p) (t4 p),fun M1 M2 m3 z h1 h2=> ?_⟩
   have hr8:=s5 M1 M2 m3 z32 h1 h2
   have hrec:vl e 10624 1 [.str (Zai 47 (D++ [x])),I a,I (a+k:Nat),aggF S,mv M1,mv M2,m3]=some (.tup [bl id1,I 0,aggF S,mv (Zdf p1 M1),mv (Zdf p2 M2),m3]):=by
    rw[w.zq38_h0];unfold y.zq38_h0
    exact hr8
   have h44:=v.below44 S hS D hD x hx hxl (by omega) a b k (by omega) hb hrun hstop ls (by omega) id1 s2 (mv M1) (mv M2) m3 (mv (Zdf p1 M1)) (mv (Zdf p2 M2)) m3 z hrec k 0 (Xan _)
   have hi0:evp .vidx [I a,I b, .int .i64 0]=some (I a):=Zlc (l:=0) (by omega)
   have hne: ¬x=Zai 47 (x::R):=fun h=>by
    have:=Zgr hx
    rw[h,Zc1 _ _ _ hRn]at this
    exact this (by simp)
   have hjn:=v.Join2 he (Zai 47 D) x (Zht hx) (by omega) (by omega)
   rw[Zg7 hD]at hjn
   rw[w.zq38_h0_8];unfold y.zq38_h0_8
   simp only[yy,Zgl hab,if_pos (show(0:Int)<((b-a:Nat):Int)by omega),hi0,Zmd S ha,hr,hsp,Zof,Zdw,if_neg hne,Zju,hjn]
   refine h44.trans ?_
   rw[t5 _ _ m3 z (Zet s3 h1) (Zet s4 h2),Zor,Zor]
end
end Go.Proofs.YtpmgdngjbdkdfaaGreatDoor
namespace Go.Proofs.YtpmgdngjbdkdfaaGreatDoor
open Go.Abs
set_option maxRecDepth 10000
variable {e:Ev}
theorem Zd8 {p:Bytes}(h:Zc8 p=true):Zcc p=Zae 47 p:=if_neg (Z0h h)
theorem Zfl {a b:Bytes}(ha:Zc8 a=true)(hb:Zc8 b=true):Zcv a b=true<-> ∃R,Zae 47 b=Zae 47 a++R:=by
 have ja:=Za5 47 a
 constructor
 ·intro h
  unfold Zcv at h
  simp only[Xa5,decide_eq_true_eq]at h
  rcases h with h|h
  ·obtain⟨r,hr⟩:=Xcy.1 h
   rw[<-ja]at hr
   obtain⟨R,_,hs⟩:=Zhl (Zfx ha) hr
   exact⟨R,hs⟩
  ·exact⟨[],by rw[h];simp⟩
 ·rintro⟨R,hR⟩
  unfold Zcv
  simp only[Xa5,decide_eq_true_eq]
  by_cases h0:R=[]
  ·right
   subst h0
   rw[Xao]at hR
   rw[<-ja, <-hR,Za5]
  ·left
   have hp:=Zfx hb
   rw[hR]at hp
   have:=Zlv (Zfx ha) (fun x hx=>hp x (by simp[hx])) h0 hR
   rw[ja]at this
   rw[this];rfl
theorem Zwv :∀{A B R:List Bytes},¬cmpL B A<0-> ¬cmpL (A++R) B<0-> ∃R',B=A++R'
 | [],B,_,_,_=>⟨B,rfl⟩
 |x::A,[],_,h,_=>absurd (show cmpL [] (x::A)<0 by simp[cmpL]) h
 |x::A,z::B,R,h1,h2=>by
  rw[cmpL]at h1
  rw[Xbq,cmpL]at h2
  have hs:=Zoz x z
  by_cases h0:cmpB x z=0
  ·have hz:cmpB z x=0:=by omega
   rw[if_pos hz]at h1
   rw[if_pos h0]at h2
   obtain⟨R',hR'⟩:=Zwv h1 h2
   exact⟨R',by rw[hR',Zc9.1 h0];rfl⟩
  ·rw[if_neg (by omega)]at h1
   rw[if_neg h0]at h2
   omega
theorem Zqs :∀(A R:List Bytes),R≠ []->cmpL A (A++R)<0
 | [],R,h=>by cases R with
  |nil=>exact absurd rfl h
  |cons x r=>simp[cmpL]
 |x::A,R,h=>by rw[Xbq,cmpL,if_pos (Zc9.2 rfl)];exact Zqs A R h
def Znm (l:List Fi):Prop:=(∀f∈l,Zc8 f.1=true)/\l.Pairwise fun a b=>Zcv a.1 b.1=false/\Zcv b.1 a.1=false
theorem Zq2 (l:List Fi):(∀i,i<l.length->okI l i)<->Znm l:=by
 constructor
 ·intro h
  refine⟨fun f hf=> ?_,Xbe.2 fun i j hi hj hij=> ?_⟩
  ·obtain⟨i,hi,rfl⟩:=Xb3.1 hf
   have:=(h i hi).1
   rwa[Zaz hi]at this
  ·have h1:=(h j hj).2 i hi (by omega)
   have h2:=(h i hi).2 j hj (by omega)
   rw[Zaz hi,Zaz hj]at h1 h2
   exact⟨h1,h2⟩
 ·rintro⟨h1,h2⟩ i hi
  have h2:=Xbe.1 h2
  refine⟨by rw[Zaz hi];exact h1 _ (Xau hi),fun k hk hki=> ?_⟩
  rw[Zaz hi,Zaz hk]
  rcases Xfd hki with h|h
  ·exact(h2 k i hk hi h).1
  ·exact(h2 i k hi hk h).2
theorem Zln {l m:List Fi}(h:l.Perm m):Znm l<->Znm m:=by
 have hp:∀{l m:List Fi},l.Perm m->Znm l->Znm m:=fun h hl=>
  ⟨fun f hf=>hl.1 f (h.mem_iff.2 hf),h.pairwise hl.2 (fun hab=>⟨hab.2,hab.1⟩)⟩
 exact⟨hp h,hp h.symm⟩
def Zix (S:List Fi)(j:Nat):Prop:=Zc8 (S.getD j ([],[])).1=true/\(0<j->Zcv (S.getD (j-1) ([],[])).1 (S.getD j ([],[])).1=false)
abbrev pc (a b:Fi):Int:=pcmp a.1 b.1
theorem Zvy {S:List Fi}(hs:So pc S):(∀j,j<S.length->Zix S j)<->Znm S:=by
 constructor
 ·intro h
  have hg:∀f∈S,Zc8 f.1=true:=fun f hf=>by
   obtain⟨i,hi,rfl⟩:=Xb3.1 hf
   have:=(h i hi).1
   rwa[Zaz hi]at this
  refine⟨hg,Xbe.2 fun i j hi hj hij=> ?_⟩
  have gi:=hg _ (Xau hi)
  have gj:=hg _ (Xau hj)
  have hle: ¬cmpL (Zae 47 S[j].1) (Zae 47 S[i].1)<0:=by
   have:=Xbe.1 hs i j hi hj hij
   unfold Le pc pcmp at this
   rwa[Zd8 gi,Zd8 gj]at this
  have first:Zcv S[i].1 S[j].1=false:=by
   cases hc:Zcv S[i].1 S[j].1 with
   |false=>rfl
   |true=>
    obtain⟨R,hR⟩:=(Zfl gi gj).1 hc
    have hk:i+1<S.length:=by omega
    have gk:=hg _ (Xau hk)
    have h1: ¬cmpL (Zae 47 S[i+1].1) (Zae 47 S[i].1)<0:=by
     have:=Xbe.1 hs i (i+1) hi hk (by omega)
     unfold Le pc pcmp at this
     rwa[Zd8 gi,Zd8 gk]at this
    have h2: ¬cmpL (Zae 47 S[i].1++R) (Zae 47 S[i+1].1)<0:=by
     rw[<-hR]
     rcases Xbm (show i+1<=j by omega)with h'|h'
     ·have:=Xbe.1 hs (i+1) j hk hj h'
      unfold Le pc pcmp at this
      rwa[Zd8 gj,Zd8 gk]at this
     ·have:S[i+1]=S[j]:=by congr 1
      rw[this]
      intro hx
      have:=cmpL_zero.2 (rfl:Zae 47 S[j].1=Zae 47 S[j].1)
      omega
    obtain⟨R',hR'⟩:=Zwv h1 h2
    have:=(h (i+1) hk).2 (by omega)
    rw[Zaz hk,Nat.add_sub_cancel,Zaz hi,(Zfl gi gk).2 ⟨R',hR'⟩]at this
    cases this
  refine⟨first, ?_⟩
  cases hc:Zcv S[j].1 S[i].1 with
  |false=>rfl
  |true=>
   obtain⟨R,hR⟩:=(Zfl gj gi).1 hc
   by_cases h0:R=[]
   ·rw[h0,Xao]at hR
    rw[(Zfl gi gj).2 ⟨[],by rw[hR];simp⟩]at first
    cases first
   ·rw[hR]at hle
    exact absurd (Zqs _ R h0) hle
 ·rintro⟨h1,h2⟩ j hj
  refine⟨by rw[Zaz hj];exact h1 _ (Xau hj),fun h0=> ?_⟩
  rw[Zaz hj,Zaz (show j-1<S.length by omega)]
  exact(Xbe.1 h2 (j-1) j (by omega) hj (by omega)).1
theorem Z5j {S:List Fi}(hs:So pc S)(ha:Znm S)(hd:∀f∈S,f.2.length<=32768)(hl:S.length<=512):SoOK S:=by
 have free:∀i j,i<S.length->j<S.length->i≠j-> ∀R,pS S i≠pS S j++R:=by
  intro i j hi hj hij R h
  unfold pS at h
  rw[Zaz hi,Zaz hj]at h
  have gi:=ha.1 _ (Xau hi)
  have gj:=ha.1 _ (Xau hj)
  have hc:=(Zfl gj gi).2 ⟨R,h⟩
  rcases Xfd hij with h'|h'
  ·rw[(Xbe.1 ha.2 i j hi hj h').2]at hc;cases hc
  ·rw[(Xbe.1 ha.2 j i hj hi h').1]at hc;cases hc
 refine⟨ha.1,hd,hl,fun i j hij hj=> ?_,free⟩
 have hi:i<S.length:=by omega
 have gi:=ha.1 _ (Xau hi)
 have gj:=ha.1 _ (Xau hj)
 have hle:=Xbe.1 hs i j hi hj hij
 unfold Le pc pcmp at hle
 rw[Zd8 gi,Zd8 gj]at hle
 have hne:cmpL (pS S i) (pS S j)≠0:=fun h=>free i j hi hj (by omega) [] (by rw[Xao];exact cmpL_zero.1 h)
 have hsw:=Zhe (pS S i) (pS S j)
 have e1:pS S i=Zae 47 S[i].1:=by unfold pS;rw[Zaz hi]
 have e2:pS S j=Zae 47 S[j].1:=by unfold pS;rw[Zaz hj]
 rw[<-e1, <-e2]at hle
 omega
abbrev zid :Bytes:=List.replicate 32 0
theorem Zmw :evp (.cat []) []=some (.agg []):=rfl
theorem Zmn :evp (.cat [some 32]) [.agg (repl 32 (.int .u8 0))]=some (bl zid):=by rw[Z3t];exact Za3 (by simp)
section
variable (he:EnvT e)(S:List Fi)(hl:S.length<=1000000)(hb:∀f∈S,f.1.length<=1000000/\f.2.length<=1000000000)(m1 m2 m3 z:V)
include hl
theorem v.build65 :∀(n i:Nat),i+n=S.length->(vl e 10208 65 [I S.length,I S.length,I S.length,I i,m1,m2,m3,z,aggF S]=
  if ∀f∈S.drop i,f.2.length<=32768 then(vl e 10208 65 [I S.length,I S.length,I S.length,I S.length,m1,m2,m3,z,aggF S])else some (.tup [bl zid,I 3,m1,m2,m3])):=by
 intro n
 induction n with
 |zero=>
  intro i hi
  rw[if_pos (by rw[Xav (by omega)];simp),show i=S.length by omega]
 |succ n ih=>
  intro i hi
  have hlt:i<S.length:=by omega
  have hd:=Xap hlt
  rw[w.zq31_h0_65];unfold y.zq31_h0_65
  by_cases hc:32768<S[i].2.length
  ·simp only[yy,if_pos (show(i:Int)<(S.length:Int)by omega),Zbc hlt,Zd9 hlt,Zca,Zm2,if_pos (show(32768:Int)<(S[i].2.length:Int)by omega),Zmw,Zmn]
   rw[if_neg (fun h=>by have:=h S[i] (by rw[hd];exact Xcr);omega)]
  ·simp only[yy,if_pos (show(i:Int)<(S.length:Int)by omega),Zbc hlt,Zd9 hlt,Zca,Zm2,if_neg (show ¬(32768:Int)<(S[i].2.length:Int)by omega),Zam hlt (by omega)]
   rw[ih (i+1) (by omega)]
   have:(∀f∈S.drop (i+1),f.2.length<=32768)<-> ∀f∈S.drop i,f.2.length<=32768:=by
    rw[hd]
    exact⟨fun h f hf=>(Xa0.1 hf).elim (fun h=>by rw[h];omega) (h f),fun h f hf=>h f (Xbk _ hf)⟩
   by_cases hp:∀f∈S.drop (i+1),f.2.length<=32768
   ·rw[if_pos hp,if_pos (this.1 hp)]
   ·rw[if_neg hp,if_neg (fun h=>hp (this.2 h))]
include he hb
open Classical in
theorem v.build28 :∀(n i:Nat),i+n=S.length->(vl e 10208 28 [I S.length,I S.length,I S.length,I i,m1,m2,m3,z,aggF S]=
  if ∀j,j<S.length->i<=j->Zix S j then(vl e 10208 65 [I S.length,I S.length,I S.length,I (0:Nat),m1,m2,m3,z,aggF S])else some (.tup [bl zid,I 1,m1,m2,m3])):=by
 intro n
 induction n with
 |zero=>
  intro i hi
  rw[if_pos (fun j h1 h2=>by omega),w.zq31_h0_28];unfold y.zq31_h0_28
  simp only[yy,if_neg (show ¬(i:Int)<(S.length:Int)by omega)]
  rfl
 |succ n ih=>
  intro i hi
  have hlt:i<S.length:=by omega
  have hg:=v.Good he S[i].1 (hb _ (Xau hlt)).1
  have hih:=ih (i+1) (by omega)
  have cong:Zix S i->((if ∀j,j<S.length->i+1<=j->Zix S j then(vl e 10208 65 [I S.length,I S.length,I S.length,I (0:Nat),m1,m2,m3,z,aggF S])else some (.tup [bl zid,I 1,m1,m2,m3]))=
    if ∀j,j<S.length->i<=j->Zix S j then(vl e 10208 65 [I S.length,I S.length,I S.length,I (0:Nat),m1,m2,m3,z,aggF S])else some (.tup [bl zid,I 1,m1,m2,m3])):=by
   intro h0
   have:(∀j,j<S.length->i+1<=j->Zix S j)<-> ∀j,j<S.length->i<=j->Zix S j:=by
    refine⟨fun h j h1 h2=> ?_,fun h j h1 h2=>h j h1 (by omega)⟩
    rcases Xbm h2 with h'|rfl
    ·exact h j h1 h'
    ·exact h0
   by_cases hp:∀j,j<S.length->i+1<=j->Zix S j
   ·rw[if_pos hp,if_pos (this.1 hp)]
   ·rw[if_neg hp,if_neg (fun h=>hp (this.2 h))]
  have bad: ¬Zix S i->some (V.tup [bl zid,I 1,m1,m2,m3])=if ∀j,j<S.length->i<=j->Zix S j then(vl e 10208 65 [I S.length,I S.length,I S.length,I (0:Nat),m1,m2,m3,z,aggF S])else some (.tup [bl zid,I 1,m1,m2,m3]):=by
   intro h0
   rw[if_neg (fun h=>h0 (h i hlt (Xag _)))]
  rw[w.zq31_h0_28];unfold y.zq31_h0_28
  cases hgd:Zc8 S[i].1 with
  |false=>
   rw[hgd]at hg
   rw[<-bad (fun h=>by have:=h.1;rw[Zaz hlt,hgd]at this;cases this)]
   simp only[yy,if_pos (show(i:Int)<(S.length:Int)by omega),Zbc hlt,Zd9 hlt,Zca,Zep,hg,Zmw,Zmn]
  |true=>
   rw[hgd]at hg
   by_cases h0:0<i
   ·have hlt':i-1<S.length:=by omega
    obtain⟨x,hx,_⟩:=v.Under (e:=e) S[i-1].1 S[i].1 (hb _ (Xau hlt')).1 (hb _ (Xau hlt)).1
    have hl1:evp (.ldd none 0 2) [aggF S,I (i-1:Nat)]=some (.str S[i-1].1):=Zz8 hlt'
    have p1:=Zjr (show 1<=i by omega) (show i<=1152921504606846976 by omega)
    cases hu:(Zch S[i-1].1 S[i].1).isSome with
    |true=>
     rw[hu]at hx
     rw[<-bad (fun h=>by have:=h.2 h0;rw[Zaz hlt,Zaz hlt',Zcv,hu]at this;cases this)]
     simp only[yy,if_pos (show(i:Int)<(S.length:Int)by omega),Zbc hlt,Zd9 hlt,Zca,Zep,hg,if_pos (show(0:Int)<(i:Int)by omega),p1,Zbc hlt',hl1,hx,Zmw,Zmn]
    |false=>
     rw[hu]at hx
     by_cases heq:S[i-1].1=S[i].1
     ·rw[<-bad (fun h=>by have:=h.2 h0;rw[Zaz hlt,Zaz hlt',Zcv,decide_eq_true heq,Xfn]at this;cases this)]
      simp only[yy,if_pos (show(i:Int)<(S.length:Int)by omega),Zbc hlt,Zd9 hlt,Zca,Zep,hg,if_pos (show(0:Int)<(i:Int)by omega),p1,Zbc hlt',hl1,hx,if_pos heq,Zmw,Zmn]
     ·rw[<-cong ⟨by rw[Zaz hlt];exact hgd,fun _=>by rw[Zaz hlt,Zaz hlt',Zcv,hu,decide_eq_false heq];rfl⟩, <-hih]
      simp only[yy,if_pos (show(i:Int)<(S.length:Int)by omega),Zbc hlt,Zd9 hlt,Zca,Zep,hg,if_pos (show(0:Int)<(i:Int)by omega),p1,Zbc hlt',hl1,hx,if_neg heq,Zam hlt (by omega)]
   ·rw[<-cong ⟨by rw[Zaz hlt];exact hgd,fun h=>absurd h h0⟩, <-hih]
    simp only[yy,if_pos (show(i:Int)<(S.length:Int)by omega),Zbc hlt,Zd9 hlt,Zca,Zep,hg,if_neg (show ¬(0:Int)<(i:Int)by omega),Zam hlt (by omega)]
end
theorem v.Build (he:EnvT e)(l:List Fi)(hl:l.length<=1000000)(hb:∀f∈l,f.1.length<=1000000/\f.2.length<=1000000000):
  ∃(id:Bytes) (p1 p2:MB),id.length=32/\keyL p1/\keyL p2/\(whyB l≠0->p1=[]/\p2=[])/\(whyB l=0-> ∃S,S.Perm l/\SoOK S/\Tr S [] 0 S.length [] id p1 p2)/\
   ∀(M1 M2:MB) (m3:V),keyL M1->keyL M2->vl e 10208 1 [Zad l,mv M1,mv M2,m3]=some (.tup [bl id,I (whyB l),mv (Zdf p1 M1),mv (Zdf p2 M2),m3]):=by
 obtain⟨S,hperm,hso,hsort⟩:=v.sort (v.ord he) l (fun f hf=>(hb f hf).1) (by omega)
 have hSl:S.length=l.length:=hperm.length_eq
 have hbS:∀f∈S,f.1.length<=1000000/\f.2.length<=1000000000:=fun f hf=>hb f (hperm.mem_iff.1 hf)
 have start:∀(M1 M2 m3:V),¬512<l.length->vl e 10208 1 [Zad l,M1,M2,m3]=vl e 10208 28 [I S.length,I S.length,I S.length,I (0:Nat),M1,M2,m3,z32,aggF S]:=by
  intro M1 M2 m3 hn
  rw[w.zq31_h0];unfold y.zq31_h0
  simp only[yy,Zc7,if_neg (show ¬(512:Int)<(l.length:Int)by omega),v.CloneF l hl,hsort]
  rw[hSl];rfl
 have hall:=(Zvy hso).trans ((Zln hperm).trans (Zq2 l).symm)
 unfold whyB
 by_cases h512:512<l.length
 ·rw[if_pos h512]
  refine⟨zid,[],[],by simp,(fun _ h=>by cases h),(fun _ h=>by cases h),fun _=>⟨rfl,rfl⟩,fun h=>absurd h (by decide),fun M1 M2 m3 _ _=> ?_⟩
  rw[w.zq31_h0];unfold y.zq31_h0
  simp only[yy,Zc7,if_pos (show(512:Int)<(l.length:Int)by omega),Zmw,Zmn]
  rfl
 rw[if_neg h512]
 have h28:=fun(m1 m2 m3:V)=>v.build28 he S (by omega) hbS m1 m2 m3 z32 S.length 0 (Xan _)
 by_cases hok:∀i,i<l.length->okI l i
 rotate_left
 ·rw[if_neg hok]
  refine⟨zid,[],[],by simp,(fun _ h=>by cases h),(fun _ h=>by cases h),fun _=>⟨rfl,rfl⟩,fun h=>absurd h (by decide),fun M1 M2 m3 _ _=> ?_⟩
  rw[start _ _ _ h512,h28,if_neg (fun h=>hok (hall.1 fun j hj=>h j hj (Xbw _)))]
  rfl
 rw[if_pos hok]
 have hadj:∀j,j<S.length->0<=j->Zix S j:=fun j hj _=>hall.2 hok j hj
 have h65:=fun(m1 m2 m3:V)=>v.build65 (e:=e) S (by omega) m1 m2 m3 z32 S.length 0 (Xan _)
 by_cases hd:∀f∈l,f.2.length<=32768
 rotate_left
 ·rw[if_neg hd]
  refine⟨zid,[],[],by simp,(fun _ h=>by cases h),(fun _ h=>by cases h),fun _=>⟨rfl,rfl⟩,fun h=>absurd h (by decide),fun M1 M2 m3 _ _=> ?_⟩
  rw[start _ _ _ h512,h28,if_pos hadj,h65,if_neg (fun h=>hd fun f hf=>h f (by rw[Xbc];exact hperm.mem_iff.2 hf))]
  rfl
 rw[if_pos hd]
 have hS:SoOK S:=Z5j hso ((Zvy hso).1 fun j hj=>hadj j hj (Xbw _)) (fun f hf=>hd f (hperm.mem_iff.1 hf)) (by omega)
 obtain⟨id,p1,p2,t1,t2,t3,t4,t5⟩:=v.below8 he S hS _ [] 0 S.length [] (Xag _) (Xbw _) (Xag _) (fun u hu=>by cases hu) (by simp[Zai]) (fun i _ hi=>⟨pS S i,Zbe _ _,rfl⟩) {nm:=(fun _ h=>by cases h),id:=(fun _ h=>by cases h),up:= .nil,len:=by simp} (by simp;omega) (fun en hen=>by cases hen)
 refine⟨id,p1,p2,t2,t3,t4,fun h=>absurd rfl h,fun _=>⟨S,hperm,hS,t1⟩,fun M1 M2 m3 k1 k2=> ?_⟩
 rw[start _ _ _ h512,h28,if_pos hadj,h65,if_pos (fun f hf=>hd f (hperm.mem_iff.1 (by rw[Xbc]at hf;exact hf)))]
 have hb8:=t5 M1 M2 m3 z32 k1 k2
 have hrec:vl e 10624 1 [.str [],I (0:Nat),I S.length,aggF S,mv M1,mv M2,m3]=some (.tup [bl id,I 0,aggF S,mv (Zdf p1 M1),mv (Zdf p2 M2),m3]):=by
  rw[w.zq38_h0];unfold y.zq38_h0
  exact hb8
 rw[w.zq31_h0_65];unfold y.zq31_h0_65
 simp only[yy,if_neg (show ¬(S.length:Int)<(S.length:Int)by omega)]
 rw[show V.int .i64 0=I (0:Nat)from rfl,hrec]
 simp only[yy,Za3 t2]
end Go.Proofs.YtpmgdngjbdkdfaaGreatDoor
namespace Go.Proofs.YtpmgdngjbdkdfaaGreatDoor
open Go.Abs
set_option maxRecDepth 10000
theorem Z4v (n:Nat):(UInt8.ofNat n).toNat=n % 256:=by simp
def valB (b:Bytes):Nat:=b.foldl (fun v c=>v*256+c.toNat) 0
theorem Zqz {n:Nat}(h:n<18446744073709551616):valB (numB n)=n:=by
 have e:numB n=[UInt8.ofNat (n/2^56),UInt8.ofNat (n/2^48),UInt8.ofNat (n/2^40),UInt8.ofNat (n/2^32),UInt8.ofNat (n/2^24),UInt8.ofNat (n/2^16),UInt8.ofNat (n/2^8),UInt8.ofNat (n/2^0)]:=rfl
 rw[e]
 simp only[valB,List.foldl,Z4v,Nat.reducePow]
 omega
theorem Zrb {n m:Nat}(hn:n<18446744073709551616)(hm:m<18446744073709551616)(h:numB n=numB m):n=m:=by
 rw[<-Zqz hn, <-Zqz hm,h]
theorem Zkn :∀{l m:List Bytes},l.length=m.length->(∀x∈l,x.length<18446744073709551616)->(∀x∈m,x.length<18446744073709551616)->Zbq l=Zbq m->l=m
 | [],[],_,_,_,_=>rfl
 |x::l,z::m,hl,h1,h2,h=>by
  rw[Zcy,Zcy,Xaj,Xaj]at h
  obtain⟨e1,e2⟩:=Xdb h (by rw[Zbj,Zbj])
  have hx:=Zrb (h1 x (by simp)) (h2 z (by simp)) e1
  obtain⟨e3,e4⟩:=Xdb e2 hx
  rw[e3,Zkn (by simpa using hl) (fun a ha=>h1 a (by simp[ha])) (fun a ha=>h2 a (by simp[ha])) e4]
theorem Zm1 {l m:List Bytes}(hl:l.length<18446744073709551616)(hm:m.length<18446744073709551616)(h1:∀x∈l,x.length<18446744073709551616)(h2:∀x∈m,x.length<18446744073709551616)(h:Zck l=Zck m):l=m:=by
 unfold Zck at h
 obtain⟨e1,e2⟩:=Xdb h (by rw[Zbj,Zbj])
 exact Zkn (Zrb hl hm e1) h1 h2 e2
theorem Z1t {x z:En}(h:enP x=enP z):x=z:=by
 obtain⟨a,b,c⟩:=x
 obtain⟨a',b',c'⟩:=z
 simp only[enP,Xb8,and_true]at h
 obtain⟨h1,rfl,rfl⟩:=h
 have:b=b':=by
  cases b<;>cases b'<;>first|rfl|(simp[Za1,Za8]at h1)
 subst this;rfl
theorem Zi4 :∀{l m:List En},Zbi l=Zbi m->l=m
 | [],[],_=>rfl
 | [],x::m,h=>by have:=congrArg List.length h;rw[Zdd,Zdd]at this;simp at this
 |x::l,[],h=>by have:=congrArg List.length h;rw[Zdd,Zdd]at this;simp at this
 |x::l,z::m,h=>by
  unfold Zbi at h
  rw[Xbp,Xbp]at h
  obtain⟨e1,e2⟩:=Xdb h rfl
  rw[Z1t e1,Zi4 (l:=l) (m:=m) e2]
theorem Zvg {l m:List En}(hl:EnOK l)(hm:EnOK m)(h:Zan l=Zan m):l=m:=by
 have len:∀{l:List En},EnOK l->(Zbi l).length<18446744073709551616/\ ∀x∈Zbi l,x.length<18446744073709551616:=by
  intro l hl
  have h0:=hl.len
  have hs:=Zdz (fun x hx=>(hl.nm x hx).2) hl.id
  refine⟨by rw[Zdd];omega,fun x hx=> ?_⟩
  have:=Zg1 hx
  omega
 exact Zi4 (Zm1 (len hl).1 (len hm).1 (len hl).2 (len hm).2 h)
theorem Zyi {X es:List En}(h:EnOK es)(he:Zan X=Zan es):X=es:=by
 have h0:=h.len
 have hs:=Zdz (fun x hx=>(h.nm x hx).2) h.id
 have l1:sumL (Zbi X)=sumL (Zbi es):=by
  have:=congrArg List.length he
  simp only[Zan,Zek]at this;omega
 have s1:=Zdl (Zbi X)
 have s2:=Zdl (Zbi es)
 exact Zi4 (Zm1 (by omega) (by omega) (fun x hx=>by have:=Zg1 hx;omega) (fun x hx=>by have:=Zg1 hx;omega) he)
def Cons (P:MB):Prop:=∀p∈P, ∀q∈P,p.1=q.1->p.2=q.2
theorem Cons.sub {P Q:MB}(h:Cons P)(hs:∀p∈Q,p∈P):Cons Q:=fun p hp q hq=>h p (hs p hp) q (hs q hq)
theorem Tr.fin {S:List Fi}{D:List Bytes}{a b:Nat}{ls:List En}{id:Bytes}{p1 p2:MB}(h:Tr S D a b ls id p1 p2):∃es,id=Zaq Za1 (Zan (ls++es))/\(Zaq Za1 (Zan (ls++es)),Zan (ls++es))∈p2:=by
 induction h with
 |done=>exact⟨[],by rw[Xao],by rw[Xao];simp⟩
 |blob _ _ _ ih=>
  obtain⟨es,h1,h2⟩:=ih
  exact⟨_::es,by rw[h1,Xaj];rfl,by rw[Xaj]at h2;exact h2⟩
 |dir _ _ _ _ _ _ _ ih=>
  obtain⟨es,h1,h2⟩:=ih
  exact⟨_::es,by rw[h1,Xaj];rfl,by rw[Xaj]at h2;exact Xbb _ h2⟩
theorem Tr.det {S:List Fi}{D:List Bytes}{a b:Nat}{ls:List En}{id:Bytes}{p1 p2:MB}(h:Tr S D a b ls id p1 p2):∀{id':Bytes} {q1 q2:MB},Tr S D a b ls id' q1 q2->id=id'/\p1=q1/\p2=q2:=by
 induction h with
 |done=>
  intro id' q1 q2 h'
  cases h' with
  |done=>exact⟨rfl,rfl,rfl⟩
  |blob hab _ _=>omega
  |dir hk hkb _ _ _ _=>omega
 | @blob D a b ls x id p1 p2 hab hx h ih=>
  intro id' q1 q2 h'
  cases h' with
  |done=>omega
  |blob hab' hx' h'=>
   have:=Xcd (hx.symm.trans hx')
   simp only[Xb8,and_true]at this
   subst this
   obtain⟨e1,e2,e3⟩:=ih h'
   exact⟨e1,by rw[e2],e3⟩
  |dir hk hkb hrun hstop h1 h2=>
   obtain⟨R,hR,hs⟩:=hrun a (Xag _) (by omega)
   have:=Xcd (hx.symm.trans hs)
   simp only[Xb8]at this
   exact absurd this.2.symm hR
 | @dir D a b k ls x id id1 p1 p2 q1 q2 hk hkb hrun hstop h1 h2 ih1 ih2=>
  intro id' r1 r2 h'
  obtain⟨R,hR,hs⟩:=hrun a (Xag _) (by omega)
  cases h' with
  |done=>omega
  |blob hab' hx' h'=>
   have:=Xcd (hx'.symm.trans hs)
   simp only[Xb8]at this
   exact absurd this.2.symm hR
  | @dir _ _ _ k' _ x' _ _ _ _ _ _ hk' hkb' hrun' hstop' h1' h2'=>
   obtain⟨R',hR',hs'⟩:=hrun' a (Xag _) (by omega)
   have:=Xcd (hs.symm.trans hs')
   simp only[Xb8]at this
   obtain⟨rfl,_⟩:=this
   have hkk:k=k':=by
    rcases Xbx k k' with h|h|h
    ·exact absurd (hrun' (a+k) (by omega) (by omega)) (hstop (by omega))
    ·exact h
    ·exact absurd (hrun (a+k') (by omega) (by omega)) (hstop' (by omega))
   subst hkk
   obtain⟨e1,e2,e3⟩:=ih1 h1'
   subst e1 e2 e3
   obtain⟨f1,f2,f3⟩:=ih2 h2'
   exact⟨f1,by rw[f2],by rw[f3]⟩
def relS (S:List Fi)(D:List Bytes)(a b:Nat):List (List Bytes×Bytes):=(List.range' a (b-a)).map fun i=>((pS S i).drop D.length,(S.getD i ([],[])).2)
theorem Zqx (S:List Fi)(D:List Bytes)(a:Nat):relS S D a a=[]:=by simp[relS]
theorem Zr6 {S:List Fi}{D:List Bytes}{a b:Nat}(h:a<b):relS S D a b=((pS S a).drop D.length,(S.getD a ([],[])).2)::relS S D (a+1) b:=by
 unfold relS
 rw[show b-a=(b-(a+1))+1 by omega,Xd8];rfl
theorem Zu4 {S:List Fi}{D:List Bytes}{a m b:Nat}(h1:a<=m)(h2:m<=b):relS S D a b=relS S D a m++relS S D m b:=by
 unfold relS
 rw[<-Xcs]
 have:=List.range'_append_1 (s:=a) (m:=m-a) (n:=b-m)
 rw[show a+(m-a)=m by omega,show m-a+(b-m)=b-a by omega]at this
 rw[this]
theorem Zrt {S:List Fi}{D:List Bytes}{x:Bytes}{a b:Nat}(h:∀i,a<=i->i<b-> ∃R,R≠ []/\pS S i=D++x::R):relS S D a b=(relS S (D++ [x]) a b).map fun p=>(x::p.1,p.2):=by
 unfold relS
 rw[Xdm]
 refine Xec fun i hi=> ?_
 rw[List.mem_range'_1]at hi
 obtain⟨R,_,hs⟩:=h i hi.1 (by omega)
 simp only[Function.comp,hs,Xc3,and_true]
 rw[Xc9]
 have:(D++x::R).drop (D++ [x]).length=R:=by rw[show D++x::R=(D++ [x])++R by simp,Xc9]
 rw[this]
theorem Tr.ok {S:List Fi}(hS:SoOK S){D:List Bytes}{a b:Nat}{ls:List En}{id:Bytes}{p1 p2:MB}(h:Tr S D a b ls id p1 p2):id.length=32:=by
 obtain⟨es,h1,_⟩:=h.fin
 rw[h1];exact Zag _ _
theorem Tr.inj {S S':List Fi}{P1 P2:MB}(c1:Cons P1)(c2:Cons P2)(okP:∀es,(Zaq Za1 (Zan es),Zan es)∈P2->EnOK es)
  {D:List Bytes} {a b:Nat} {ls:List En} {id:Bytes} {p1 p2:MB} (h:Tr S D a b ls id p1 p2):(∀p∈p1,p∈P1)->(∀p∈p2,p∈P2)->
  ∀{D':List Bytes} {a' b':Nat} {ls':List En} {q1 q2:MB},Tr S' D' a' b' ls' id q1 q2->(∀p∈q1,p∈P1)->(∀p∈q2,p∈P2)->ls.length=ls'.length->relS S D a b=relS S' D' a' b':=by
 --the whole lists are the same
 have whole:∀{X Y:List En},Zaq Za1 (Zan X)=Zaq Za1 (Zan Y)->(Zaq Za1 (Zan X),Zan X)∈P2->(Zaq Za1 (Zan Y),Zan Y)∈P2->X=Y:=by
  intro X Y he h1 h2
  exact Zvg (okP _ h1) (okP _ h2) (c2 _ h1 _ h2 he)
 induction h with
 | @done D a ls hok=>
  intro s1 s2 D' a' b' ls' q1 q2 h' t1 t2 hl
  have hin:(Zaq Za1 (Zan ls),Zan ls)∈P2:=s2 _ (Xa1.2 rfl)
  have no:∀{e:En} {es:List En},Zaq Za1 (Zan ls)=Zaq Za1 (Zan ((ls'++ [e])++es))->(Zaq Za1 (Zan ((ls'++ [e])++es)),Zan ((ls'++ [e])++es))∈P2->False:=by
   intro e es he hin'
   have:=whole he hin hin'
   have:=congrArg List.length this
   simp at this;omega
  rw[Zqx]
  generalize hid:Zaq Za1 (Zan ls)=idd at h'
  cases h' with
  |done=>rw[Zqx]
  |blob hab hx h2=>
   obtain⟨es,e1,e2⟩:=h2.fin
   exact(no (hid.trans e1) (t2 _ e2)).elim
  |dir hk hkb hrun hstop h1 h2=>
   obtain⟨es,e1,e2⟩:=h2.fin
   exact(no (hid.trans e1) (t2 _ (Xbb _ e2))).elim
 | @blob D a b ls x id p1 p2 hab hx h ih=>
  intro s1 s2 D' a' b' ls' q1 q2 h' t1 t2 hl
  obtain⟨es,e1,e2⟩:=h.fin
  rw[Zr6 hab,hx,Xc9]
  generalize hid:id=idd at h'
  cases h' with
  |done=>
   have:=whole (e1.symm.trans hid) (s2 _ e2) (t2 _ (Xa1.2 rfl))
   have:=congrArg List.length this
   simp at this;omega
  | @blob _ _ _ _ x' _ _ _ hab' hx' h2=>
   subst hid
   obtain⟨es',f1,f2⟩:=h2.fin
   have hw:=whole (e1.symm.trans f1) (s2 _ e2) (t2 _ f2)
   rw[Xaj,Xaj]at hw
   obtain⟨g1,g2⟩:=Xdb hw hl
   simp only[Xc2,Xb8,En.mk.injEq,true_and]at g2
   obtain⟨⟨rfl,hd⟩,_⟩:=g2
   have hdd:=c1 (Zaq Za8 (S.getD a ([],[])).2,(S.getD a ([],[])).2) (s1 _ (by simp)) (Zaq Za8 (S'.getD a' ([],[])).2,(S'.getD a' ([],[])).2) (t1 _ (by simp)) hd
   simp only at hdd
   rw[Zr6 hab',hx',Xc9,hdd,ih (fun p hp=>s1 p (by simp[hp])) s2 h2 (fun p hp=>t1 p (by simp[hp])) t2 (by simp[hl])]
  | @dir _ _ _ _ _ x' _ _ _ _ _ _ hk hkb hrun hstop h1 h2=>
   subst hid
   obtain⟨es',f1,f2⟩:=h2.fin
   have hw:=whole (e1.symm.trans f1) (s2 _ e2) (t2 _ (Xbb _ f2))
   rw[Xaj,Xaj]at hw
   obtain⟨g1,g2⟩:=Xdb hw hl
   simp at g2
 | @dir D a b k ls x id id1 p1 p2 r1 r2 hk hkb hrun hstop h1 h2 ih1 ih2=>
  intro s1 s2 D' a' b' ls' q1 q2 h' t1 t2 hl
  obtain⟨es,e1,e2⟩:=h2.fin
  have e2':=s2 _ (Xbb _ e2)
  rw[Zu4 (show a<=a+k by omega) hkb,Zrt hrun]
  generalize hid:id=idd at h'
  cases h' with
  |done=>
   have:=whole (e1.symm.trans hid) e2' (t2 _ (Xa1.2 rfl))
   have:=congrArg List.length this
   simp at this;omega
  | @blob _ _ _ _ x' _ _ _ hab' hx' h2'=>
   subst hid
   obtain⟨es',f1,f2⟩:=h2'.fin
   have hw:=whole (e1.symm.trans f1) e2' (t2 _ f2)
   rw[Xaj,Xaj]at hw
   obtain⟨g1,g2⟩:=Xdb hw hl
   simp at g2
  | @dir _ _ _ k' _ x' _ id1' _ _ _ _ hk' hkb' hrun' hstop' h1' h2'=>
   subst hid
   obtain⟨es',f1,f2⟩:=h2'.fin
   have hw:=whole (e1.symm.trans f1) e2' (t2 _ (Xbb _ f2))
   rw[Xaj,Xaj]at hw
   obtain⟨g1,g2⟩:=Xdb hw hl
   simp only[Xc2,Xb8,En.mk.injEq,true_and]at g2
   obtain⟨⟨rfl,hd⟩,_⟩:=g2
   subst hd
   rw[Zu4 (show a'<=a'+k' by omega) hkb',Zrt hrun',
    ih1 (fun p hp=>s1 p (Xbo _ hp)) (fun p hp=>s2 p (Xbo _ hp)) h1' (fun p hp=>t1 p (Xbo _ hp)) (fun p hp=>t2 p (Xbo _ hp)) rfl,
    ih2 (fun p hp=>s1 p (Xbb _ hp)) (fun p hp=>s2 p (Xbb _ hp)) h2' (fun p hp=>t1 p (Xbb _ hp)) (fun p hp=>t2 p (Xbb _ hp)) (by simp[hl])]
theorem Tr.oks {S:List Fi}{D:List Bytes}{a b:Nat}{ls:List En}{id:Bytes}{p1 p2:MB}(h:Tr S D a b ls id p1 p2):∀p∈p2, ∃es,EnOK es/\p=(Zaq Za1 (Zan es),Zan es):=by
 induction h with
 |done hok=>exact fun p hp=>⟨_,hok,Xa1.1 hp⟩
 |blob _ _ _ ih=>exact ih
 |dir _ _ _ _ _ _ ih1 ih2=>exact fun p hp=>(Xay.1 hp).elim (ih1 p) (ih2 p)
theorem Tr.finOK {S:List Fi}{D:List Bytes}{a b:Nat}{ls:List En}{id:Bytes}{p1 p2:MB}(h:Tr S D a b ls id p1 p2):∃es,EnOK (ls++es):=by
 induction h with
 |done hok=>exact⟨[],by rw[Xao];exact hok⟩
 |blob _ _ _ ih=>
  obtain⟨es,h1⟩:=ih
  exact⟨_::es,by rw[Xaj]at h1;exact h1⟩
 |dir _ _ _ _ _ _ _ ih=>
  obtain⟨es,h1⟩:=ih
  exact⟨_::es,by rw[Xaj]at h1;exact h1⟩
theorem Z2l {S S':List Fi}(hS:SoOK S)(hS':SoOK S')(h:relS S [] 0 S.length=relS S' [] 0 S'.length):S=S':=by
 have key:∀S:List Fi,relS S [] 0 S.length=S.map fun f=>(Zae 47 f.1,f.2):=by
  intro S
  unfold relS
  refine Xd9 (by simp) fun i h1 h2=> ?_
  simp only[Xcf]at h2
  simp only[List.getElem_map,List.getElem_range',Xan,Nat.one_mul,Xa7,Xbc,pS]
  rw[Zaz h2]
 rw[key,key]at h
 refine Xd9 (by simpa using congrArg List.length h) fun i h1 h2=> ?_
 have:=congrArg (fun l=>l[i]?) h
 simp only[Xbt,Xad h1,Xad h2,Xas,Xac,Xc3]at this
 have e1:S[i].1=S'[i].1:=by rw[<-Za5 47 S[i].1, <-Za5 47 S'[i].1,this.1]
 exact Prod.ext e1 this.2
theorem Tr.one {S S':List Fi}(hS:SoOK S)(hS':SoOK S'){id id':Bytes}{p1 p2 q1 q2:MB}(h:Tr S [] 0 S.length [] id p1 p2)(h':Tr S' [] 0 S'.length [] id' q1 q2)(c1:Cons (p1++q1))(c2:Cons (p2++q2)):id=id'<->S=S':=by
 constructor
 ·intro he
  subst he
  refine Z2l hS hS' (h.inj c1 c2 (fun es hes=> ?_) (fun p hp=>Xbo _ hp) (fun p hp=>Xbo _ hp) h' (fun p hp=>Xbb _ hp) (fun p hp=>Xbb _ hp) rfl)
  have:∃es',EnOK es'/\(Zaq Za1 (Zan es),Zan es)=(Zaq Za1 (Zan es'),Zan es'):=(Xay.1 hes).elim (h.oks _) (h'.oks _)
  obtain⟨es',o,hq⟩:=this
  rw[Zyi o (congrArg Prod.snd hq)];exact o
 ·rintro rfl
  exact(h.det h').1
end Go.Proofs.YtpmgdngjbdkdfaaGreatDoor
namespace Go.Proofs.YtpmgdngjbdkdfaaGreatDoor
open Go.Abs
set_option maxRecDepth 10000
variable {e:Ev}
theorem v.rSplit (p:Bytes)(hp:p.length<=1000000):vl e 52 0 [.str p]=some (strs (Zcc p)):=by
 rw[w.zq55];unfold y.zq55 Zcc
 by_cases h:p=[]
 ·simp only[yy,if_pos h];rfl
 ·simp only[yy,if_neg h,v.rParts p (by omega)]
theorem Zzl (a b:Bytes):evp (.bin .gtr .no) [.str a, .str b]=some (.bool (Op.bytesLess b a)):=by
 show some (V.bool (!(Op.bytesLess a b||decide (a=b))))=_
 rw[Zlb]
theorem v.rCmp10 (a b:List Bytes)(ha:a.length<=1000000000)(hb:b.length<=1000000000):∀(n i:Nat),i+n=a.length->i<=b.length->vl e 32 10 [strs a,strs b,I i]=some (I (cmpL (a.drop i) (b.drop i))):=by
 intro n
 induction n with
 |zero=>
  intro i hi hib
  rw[w.zq50_10];unfold y.zq50_10
  have e1:a.drop i=[]:=Xav (by omega)
  rw[e1]
  by_cases h:a.length<b.length
  ·simp only[yy,Zd6,if_neg (show ¬((i:Int)<(a.length:Int))by omega),if_pos (show(a.length:Int)<(b.length:Int)by omega)]
   rw[Xap (show i<b.length by omega)];rfl
  ·simp only[yy,Zd6,if_neg (show ¬((i:Int)<(a.length:Int))by omega),if_neg (show ¬(a.length:Int)<(b.length:Int)by omega),if_neg (show ¬(b.length:Int)<(a.length:Int)by omega)]
   rw[Xav (show b.length<=i by omega)];rfl
 |succ n ih=>
  intro i hi hib
  have ha':i<a.length:=by omega
  rw[w.zq50_10];unfold y.zq50_10
  by_cases hb':i<b.length
  ·have:=ih (i+1) (by omega) (by omega)
   rw[Xap ha',Xap hb',cmpL]
   unfold cmpB
   cases hl:Op.bytesLess a[i] b[i]with
   |true=>
    simp only[yy,Zd6,if_pos (show(i:Int)<(a.length:Int)by omega),if_pos (show(i:Int)<(b.length:Int)by omega),Zen ha',Zen hb',Zdw,hl]
    simp
   |false=>
    cases hg:Op.bytesLess b[i] a[i]with
    |true=>
     simp only[yy,Zd6,if_pos (show(i:Int)<(a.length:Int)by omega),if_pos (show(i:Int)<(b.length:Int)by omega),Zen ha',Zen hb',Zdw,Zzl,hl,hg]
     simp
    |false=>
     simp only[yy,Zd6,if_pos (show(i:Int)<(a.length:Int)by omega),if_pos (show(i:Int)<(b.length:Int)by omega),Zen ha',Zen hb',Zdw,Zzl,hl,hg,Zam ha' (show a.length<=1152921504606846976 by omega)]
     rw[this]
     simp
  ·rw[Xap ha',Xav (show b.length<=i by omega)]
   simp only[yy,Zd6,if_pos (show(i:Int)<(a.length:Int)by omega),if_neg (show ¬(i:Int)<(b.length:Int)by omega),if_neg (show ¬(a.length:Int)<(b.length:Int)by omega),if_pos (show(b.length:Int)<(a.length:Int)by omega)]
   rfl
theorem v.rCompare (a b:Bytes)(ha:a.length<=1000000)(hb:b.length<=1000000):vl e 32 0 [.str a, .str b]=some (I (pcmp a b)):=by
 have h1:=Zdr a
 have h2:=Zdr b
 rw[w.zq50];unfold y.zq50
 simp only[yy,v.rSplit a ha,v.rSplit b hb]
 exact v.rCmp10 (Zcc a) (Zcc b) (by omega) (by omega) (Zcc a).length 0 (Xan _) (Xbw _)
theorem Zzd {sz:Nat}{l:List V}{i:Nat}(h:i<=l.length):evp (.slc sz false true false) [.sl false sz l, .int .i64 (i:Int)]=some (.sl false sz (l.take i)):=by
 simp only[evp,Zts,vSlc,vOpt]
 simp[cut3,h]
theorem Zqa {l:List Fi}{i:Nat}(h:i<=l.length):evp (.slc 2 false true false) [Zad l,I i]=some (Zad (l.take i)):=by
 rw[Zad,Zzd (by simpa using h),Zad,Xdw]
theorem Zp0 {l:List Fi}{i:Nat}(h:i<=l.length):evp (.slc 2 true false false) [Zad l,I i]=some (Zad (l.drop i)):=by
 rw[Zad,Zy5 (by simpa using h),Zad,Xe1]
theorem Zh7 {l m:List Fi}(h:l.length+m.length<=Lim):evp (.app 2) [Zad l,Zad m]=some (Zad (l++m)):=by
 rw[Zad,Zad,Zlm (by simpa using h),Zad,Xcs]
theorem Zzx {x:Fi}:evp (.bsl 2) [fv x]=some (Zad [x]):=rfl
theorem Zt6 :evp (.bsl 2) []=some (Zad []):=rfl
theorem v.sorted25 (he:EnvT e)(l:List Fi)(i:Nat)(hi:i<l.length)(hl:l.length<=1000000)(out:List Fi)(ho:out.length<=1000000)(hb:∀f∈out,f.1.length<=1000000)(hf:l[i].1.length<=1000000)(hs:So pc out):
  ∀k,k<=out.length->(∀j (h:j<out.length),k<=j->pc l[i] out[j]<0)->
  ∃R:List Fi,R.Perm (out++ [l[i]])/\So pc R/\vl e 11 25 [Zad out,I k,Zad l,I l.length,I i,fv l[i]]=vl e 11 10 [Zad R,Zad l,I l.length,I (i+1:Nat)]:=by
 have hor:=v.ord (e:=e) he
 intro k
 --the place is found
 have put:∀k,k<=out.length->(∀j (h:j<out.length),k<=j->pc l[i] out[j]<0)->(∀j (h:j<out.length),j<k-> ¬pc l[i] out[j]<0)->(out.take k++l[i]::out.drop k).Perm (out++ [l[i]])/\So pc (out.take k++l[i]::out.drop k):=by
  intro k hk h1 h2
  constructor
  ·refine Xfk.trans ?_
   rw[Xbl]
   exact(Xd4 (l₁:=[l[i]]))
  ·refine Xb7.2 ⟨hs.sublist (Xfh _ _),Xci.2 ⟨fun t ht=>hor.asy _ _ (Zf6 (P:=fun t=>pc l[i] t<0) h1 t ht),hs.sublist (Xeo _ _)⟩,fun s hs' t ht=> ?_⟩
   have q:=Zi2 (P:=fun t=> ¬pc l[i] t<0) h2 s hs'
   rcases Xa0.1 ht with rfl|ht
   ·exact q
   ·exact hor.tr _ _ _ q (hor.asy _ _ (Zf6 (P:=fun t=>pc l[i] t<0) h1 t ht))
 induction k with
 |zero=>
  intro hk h1
  obtain⟨p1,p2⟩:=put 0 hk h1 (fun j _ h=>by omega)
  refine⟨_,p1,p2, ?_⟩
  have t0:evp (.slc 2 false true false) [Zad out,I (0:Nat)]=some (Zad []):=Zqa (l:=out) (i:=0) (Xbw _)
  have d0:evp (.slc 2 true false false) [Zad out,I (0:Nat)]=some (Zad out):=Zp0 (l:=out) (i:=0) (Xbw _)
  have a0:evp (.app 2) [Zad [],Zad []]=some (Zad []):=Zh7 (l:=[]) (m:=[]) (by simp[Lim])
  have a1:evp (.app 2) [Zad [],Zad [l[i]]]=some (Zad [l[i]]):=Zh7 (l:=[]) (m:=[l[i]]) (by simp[Lim])
  have a2:evp (.app 2) [Zad [l[i]],Zad out]=some (Zad (l[i]::out)):=Zh7 (l:=[l[i]]) (m:=out) (by simp[Lim];omega)
  rw[w.zq61_25];unfold y.zq61_25
  simp only[yy,if_neg (show ¬(0:Int)<((0:Nat):Int)by omega),Zt6,t0,a0,Zzx,a1,d0,a2,Zam hi (show l.length<=1152921504606846976 by omega)]
  rfl
 |succ k ih=>
  intro hk h1
  have hlt:k<out.length:=by omega
  have hc:=v.rCompare (e:=e) out[k].1 l[i].1 (hb _ (Xau hlt)) hf
  have sw:=Ze9 out[k].1 l[i].1
  have g1:evp (.elem 2) [Zad out,I k]=some (fv out[k]):=Zc5 hlt
  have p1:IntKind.i64.wrap (((k+1:Nat):Int)-1)=(k:Int):=by rw[Zjr (by omega) (by omega)];rfl
  by_cases hgt:0<pcmp out[k].1 l[i].1
  ·obtain⟨R,r1,r2,r3⟩:=ih (by omega) (fun j hj hkj=>by
    rcases Xbm hkj with h|rfl
    ·exact h1 j hj h
    ·show pcmp l[i].1 out[k].1<0
     omega)
   refine⟨R,r1,r2, ?_⟩
   rw[w.zq61_25];unfold y.zq61_25
   simp only[yy,if_pos (show(0:Int)<((k+1:Nat):Int)by omega),p1,g1,Zep,hc,if_pos hgt]
   exact r3
  ·have hno:∀j (h:j<out.length),j<k+1-> ¬pc l[i] out[j]<0:=by
    intro j hj hjk
    have q: ¬pc l[i] out[k]<0:=by
     show ¬pcmp l[i].1 out[k].1<0
     omega
    exact hor.tr _ _ _ (Zfi hor hs (show j<=k by omega) hlt) q
   obtain⟨q1,q2⟩:=put (k+1) hk h1 hno
   refine⟨_,q1,q2, ?_⟩
   have t0:=Zqa (l:=out) (i:=k+1) hk
   have d0:=Zp0 (l:=out) (i:=k+1) hk
   have a0:evp (.app 2) [Zad [],Zad (out.take (k+1))]=some (Zad (out.take (k+1))):=Zh7 (l:=[]) (by simp[Lim];omega)
   have a1:evp (.app 2) [Zad (out.take (k+1)),Zad [l[i]]]=some (Zad (out.take (k+1)++ [l[i]])):=Zh7 (by simp[Lim];omega)
   have a2:evp (.app 2) [Zad (out.take (k+1)++ [l[i]]),Zad (out.drop (k+1))]=some (Zad ((out.take (k+1)++ [l[i]])++out.drop (k+1))):=Zh7 (by simp[Lim];omega)
   rw[w.zq61_25];unfold y.zq61_25
   simp only[yy,if_pos (show(0:Int)<((k+1:Nat):Int)by omega),p1,g1,Zep,hc,if_neg hgt,Zt6,t0,a0,Zzx,a1,d0,a2,Zam hi (show l.length<=1152921504606846976 by omega)]
   rw[Xaj];rfl
theorem v.rSorted (he:EnvT e)(l:List Fi)(hl:l.length<=1000000)(hb:∀f∈l,f.1.length<=1000000):
  ∃R:List Fi,R.Perm l/\So pc R/\vl e 11 0 [Zad l]=some (Zad R):=by
 have key:∀(n i:Nat) (out:List Fi),i+n=l.length->out.Perm (l.take i)->So pc out-> ∃R:List Fi,R.Perm l/\So pc R/\vl e 11 10 [Zad out,Zad l,I l.length,I i]=some (Zad R):=by
  intro n
  induction n with
  |zero=>
   intro i out hi hp hs
   refine⟨out,by rw[Xaw (by omega)]at hp;exact hp,hs, ?_⟩
   rw[w.zq61_10];unfold y.zq61_10
   simp only[yy,if_neg (show ¬((i:Int)<(l.length:Int))by omega)]
  |succ n ih=>
   intro i out hi hp hs
   have hlt:i<l.length:=by omega
   have hol:out.length=i:=by rw[hp.length_eq,Xbr];omega
   obtain⟨R,r1,r2,r3⟩:=v.sorted25 he l i hlt hl out (by omega) (fun f hf=>hb f (Xbn (hp.mem_iff.1 hf))) (hb _ (Xau hlt)) hs out.length (Xag _) (fun j h1 h2=>by omega)
   obtain⟨R',q1,q2,q3⟩:=ih (i+1) R (by omega) (by
    rw[Xck hlt]
    exact r1.trans (hp.append_right _)) r2
   refine⟨R',q1,q2, ?_⟩
   rw[w.zq61_10];unfold y.zq61_10
   simp only[yy,if_pos (show(i:Int)<(l.length:Int)by omega),Zc5 hlt,Zgp,Zca,Zc7]
   exact r3.trans q3
 rw[w.zq61];unfold y.zq61
 simp only[yy,Zc7]
 exact key l.length 0 [] (Xan _) (by simp) .nil
theorem Zu3 {α:Type}{r:α->α->Prop}(has:∀a b,r a b-> ¬r b a):∀{l m:List α},l.Perm m->l.Pairwise r->m.Pairwise r->l=m
 | [],m,hp,_,_=>(List.nil_perm.1 hp).symm
 |a::l,[],hp,_,_=>absurd (List.perm_nil.1 hp) (by simp)
 |a::l,b::m,hp,h1,h2=>by
  have h1':=Xci.1 h1
  have h2':=Xci.1 h2
  have hab:a=b:=by
   rcases Xa0.1 (hp.mem_iff.1 (Xcr (a:=a) (l:=l)))with h|ha
   ·exact h
   ·rcases Xa0.1 (hp.mem_iff.2 (Xcr (a:=b) (l:=m)))with h|hb
    ·exact h.symm
    ·exact absurd (h1'.1 b hb) (has b a (h2'.1 a ha))
  subst hab
  rw[Zu3 has (List.perm_cons a|>.1 hp) h1'.2 h2'.2]
theorem Zms {S R:List Fi}(hS:SoOK S)(hR:SoOK R)(h:S.Perm R):S=R:=by
 have pw:∀{S:List Fi},SoOK S->S.Pairwise fun a b=>cmpL (Zae 47 a.1) (Zae 47 b.1)<0:=by
  intro S hS
  refine Xbe.2 fun i j hi hj hij=> ?_
  have:=hS.up i j hij hj
  unfold pS at this
  rwa[Zaz hi,Zaz hj]at this
 exact Zu3 (fun a b h1 h2=>by rw[Zhe]at h2;omega) h (pw hS) (pw hR)
theorem Z2a {a:List Bytes}{x:Bytes}(h:a.length+1<=Lim):evp (.app 1) [strs a, .sl false 1 [.str x]]=some (strs (a++ [x])):=Znb h
theorem Z0o {a:List Bytes}{x u:Bytes}(h:a.length+2<=Lim):evp (.app 1) [strs a,strs [x,u]]=some (strs (a++ [x,u])):=by
 rw[strs,strs,Zlm (by simpa using h)];simp
theorem v.rTree10 (l:List En)(h:EnOK l):∀(n i:Nat),i+n=l.length->vl e 17 10 [strs (Zbi (l.take i)),entV l,I l.length,I i]=some (.str (Zan l)):=by
 intro n
 induction n with
 |zero=>
  intro i hi
  have hlen:=h.len
  have hs:=Zdz (fun x hx=>(h.nm x hx).2) h.id
  have hj:=v.refJoin (e:=e) (Zbi l) (by omega)
  rw[w.zq58_10];unfold y.zq58_10
  rw[Xaw (show l.length<=i by omega)]
  simp only[yy,if_neg (show ¬((i:Int)<(l.length:Int))by omega),hj]
  rfl
 |succ n ih=>
  intro i hi
  have hlen:=h.len
  have hlt:i<l.length:=by omega
  have hid:=h.id _ (Xau hlt)
  have hal:(Zbi (l.take i)).length+3<=Lim:=by rw[Zdd,Xbr];unfold Lim;omega
  have hto:Zbi (l.take (i+1))=Zbi (l.take i)++enP l[i]:=by
   rw[Xck hlt,Zbi,List.flatMap_append];simp[Zbi]
  have:=ih (i+1) (by omega)
  rw[hto]at this
  have p1:∀x:Bytes,evp (.app 1) [strs (Zbi (l.take i)), .sl false 1 [.str x]]=some (strs (Zbi (l.take i)++ [x])):=fun x=>Z2a (by omega)
  have p2:∀x a b:Bytes,evp (.app 1) [strs (Zbi (l.take i)++ [x]),strs [a,b]]=some (strs ((Zbi (l.take i)++ [x])++ [a,b])):=fun x a b=>Z0o (by simp;omega)
  rw[w.zq58_10];unfold y.zq58_10
  cases ht:l[i].tr with
  |false=>
   rw[enP,ht]at this
   simp only[yy,if_pos (show(i:Int)<(l.length:Int)by omega),Zge hlt,Zmv hid,Zhw hid,Zo8,ht,Zmi,Zx5 hid,Zg0,Zju,p1,p2,Zam hlt (by omega)]
   rw[Xaj];exact this
  |true=>
   rw[enP,ht]at this
   simp only[yy,if_pos (show(i:Int)<(l.length:Int)by omega),Zge hlt,Zmv hid,Zhw hid,Zo8,ht,Zmi,Zx5 hid,Zg0,Zju,p1,p2,Zam hlt (by omega)]
   rw[Xaj];exact this
theorem v.rTree (l:List En)(h:EnOK l):vl e 17 0 [entV l]=some (.str (Zan l)):=by
 rw[w.zq58];unfold y.zq58
 simp only[yy,Zko]
 exact v.rTree10 l h l.length 0 (Xan _)
structure Obj where
 kind:Bytes
 id:Bytes
 data:Bytes
def ov (o:Obj):V:= .agg (.str o.kind::(o.id.map byteV++ [.str o.data]))
abbrev objV (l:List Obj):V:= .sl false 34 (l.map ov)
def idL (l:List Obj):Prop:=∀o∈l,o.id.length=32
theorem Zns {l:List Obj}{i:Nat}(h:i<l.length):evp (.elem 34) [objV l,I i]=some (ov l[i]):=Zgf (by simp[h])
theorem Zur {l:List Obj}:evp (.len false) [objV l]=some (I l.length):=by rw[objV,Zs1,Xcf]
theorem Zmy {o:Obj}(h:o.id.length=32):(ov o).cells.length=34:=by simp[ov,V.cells,h]
theorem Z31 (o:Obj):(ov o).cells.all V.sc=true:=by
 show(V.str o.kind::(o.id.map byteV++ [.str o.data])).all V.sc=true
 rw[Xcu,Xeg,Zqi];rfl
theorem Zn7 {o:Obj}(h:o.id.length=32):evp (.ld (some 34) 0) [ov o]=some (ov o):=by
 show Zak (some 34) (ov o).cells 0=_
 simp only[Zak]
 rw[if_pos (by rw[Zmy h];omega),Xbc,Xaw (by rw[Zmy h];omega)];rfl
theorem Zh6 {o:Obj}(h:o.id.length=32):evp (.cat [some 34]) [ov o]=some (ov o):=by
 show(catV [some 34] [ov o]).map V.agg=_
 simp only[catV]
 rw[if_pos ⟨Zmy h,Z31 o⟩]
 simp only[Xas,Xao];rfl
theorem Zp5 {o:Obj}:evp (.ld none 0) [ov o]=some (.str o.kind):=rfl
theorem Zh8 {o:Obj}(h:o.id.length=32):evp (.ld (some 32) 1) [ov o]=some (bl o.id):=by
 show Zak (some 32) (ov o).cells 1=_
 simp only[Zak]
 rw[if_pos (by rw[Zmy h];omega)]
 show some (V.agg ((o.id.map byteV++ [V.str o.data]).take 32))=_
 rw[Xb4 (by simp[h]),Xaw (by simp[h])]
theorem Zsa {o:Obj}(h:o.id.length=32):evp (.ld none 33) [ov o]=some (.str o.data):=by
 show(ov o).cells[33]? =_
 show(V.str o.kind::(o.id.map byteV++ [V.str o.data]))[33]? =_
 rw[Xee,Xa2 (by simp[h])]
 simp[h]
theorem Zyy {k id d:Bytes}(h:id.length=32):evp (.cat [none,some 32,none]) [.str k,bl id, .str d]=some (ov ⟨k,id,d⟩):=by
 show(catV [none,some 32,none] [.str k,bl id, .str d]).map V.agg=_
 simp only[catV]
 rw[if_pos (show(V.str k).sc=true from rfl),if_pos (Z2d h),if_pos (show(V.str d).sc=true from rfl)]
 simp only[Xas];rfl
theorem Zz5 {o:Obj}(h:o.id.length=32):evp (.bsl 34) [ov o]=some (objV [o]):=by
 have:fits 34 [ov o]=true:=by simp[fits,Zmy h];exact Xal.1 (Z31 o)
 show(if fits 34 [ov o]then some (V.sl false 34 [ov o])else none)=_
 rw[this];rfl
theorem Zzn {l:List Obj}{o:Obj}(h:l.length+1<=Lim):evp (.app 34) [objV l,objV [o]]=some (objV (l++ [o])):=by
 rw[objV,objV,Zlm (by simpa using h)];simp
theorem v.rPut12 (kind data:Bytes)(L A:List Obj)(hL:idL L)(hLl:L.length+1<=1000000)(z:V):∀(n i:Nat),i+n=L.length->
  ∃L':List Obj,idL L'/\L'.length<=L.length+1/\vl e 10240 12 [.str kind, .str data,objV L,I L.length,I i,objV L,objV A,z,bl (Zaq kind data)]=some (.tup [bl (Zaq kind data),objV L',objV A]):=by
 intro n
 induction n with
 |zero=>
  intro i hi
  refine⟨L++ [⟨kind,Zaq kind data,data⟩],fun o ho=>(Xay.1 ho).elim (hL o) (fun h=>by rw[Xa1.1 h];exact Zag _ _),by simp, ?_⟩
  rw[w.zq26_h0_12];unfold y.zq26_h0_12
  simp only[yy,if_neg (show ¬((i:Int)<(L.length:Int))by omega),Zyy (Zag _ _),Zz5 (o:=⟨kind,Zaq kind data,data⟩) (Zag _ _),Zzn (show L.length+1<=Lim by unfold Lim;omega),Za3 (Zag _ _)]
 |succ n ih=>
  intro i hi
  have hlt:i<L.length:=by omega
  have hid:=hL _ (Xau hlt)
  obtain⟨L',r1,r2,r3⟩:=ih (i+1) (by omega)
  rw[w.zq26_h0_12];unfold y.zq26_h0_12
  by_cases hk:L[i].kind=kind
  ·by_cases he:L[i].id=Zaq kind data
   ·refine⟨L,hL,by omega, ?_⟩
    simp only[yy,if_pos (show(i:Int)<(L.length:Int)by omega),Zns hlt,Zn7 hid,Zh6 hid,Zp5,if_pos hk,Zh8 hid,Zpq hid (Zag _ _),if_pos he,Za3 (Zag _ _)]
   ·refine⟨L',r1,r2, ?_⟩
    simp only[yy,if_pos (show(i:Int)<(L.length:Int)by omega),Zns hlt,Zn7 hid,Zh6 hid,Zp5,if_pos hk,Zh8 hid,Zpq hid (Zag _ _),if_neg he,Zam hlt (by omega)]
    exact r3
  ·refine⟨L',r1,r2, ?_⟩
   simp only[yy,if_pos (show(i:Int)<(L.length:Int)by omega),Zns hlt,Zn7 hid,Zh6 hid,Zp5,if_neg hk,Zam hlt (by omega)]
   exact r3
theorem v.rPut (kind data:Bytes)(hk:kind.length<=100)(hd:data.length<=100000000)(L A:List Obj)(hL:idL L)(hLl:L.length+1<=1000000)(hA:A.length+1<=1000000):
  ∃L':List Obj,idL L'/\L'.length<=L.length+1/\vl e 10240 1 [.str kind, .str data,objV L,objV A]=some (.tup [bl (Zaq kind data),objV L',objV (A++ [⟨kind,Zaq kind data,data⟩])]):=by
 obtain⟨L',r1,r2,r3⟩:=v.rPut12 (e:=e) kind data L (A++ [⟨kind,Zaq kind data,data⟩]) hL hLl z32 L.length 0 (Xan _)
 refine⟨L',r1,r2, ?_⟩
 rw[w.zq26_h0];unfold y.zq26_h0
 simp only[yy,v.refSum kind data hk hd,Za3 (Zag _ _),Zyy (Zag _ _),Zz5 (o:=⟨kind,Zaq kind data,data⟩) (Zag _ _),Zzn (show A.length+1<=Lim by unfold Lim;omega),Zur]
 exact r3
theorem v.rJoin2 (d n:Bytes)(hn:n≠ [])(hd:d.length<=1000000)(hl:n.length<=1000000):vl e 69 0 [strs [d,n]]=some (.str (if d=[]then n else d++47::n)):=by
 have hn': ¬n=[]:=hn
 have g0:evp (.elem 1) [strs [d,n], .int .i64 0]=some (.str d):=Zen (l:=[d,n]) (i:=0) (by simp)
 have g1:evp (.elem 1) [strs [d,n], .int .i64 1]=some (.str n):=Zen (l:=[d,n]) (i:=1) (by simp)
 have j2:∀s:Bytes,vl e 69 10 [.str s,strs [d,n], .int .i64 2, .int .i64 2]=some (.str s):=fun s=>by
  rw[w.zq52_10];rfl
 have k0:∀s:Bytes,s.length<=1000000->evp (.bin .add .no) [.str [], .str s]=some (.str s):=fun s h=>Ziq (s:=[]) (by simp;omega)
 have j1:∀s:Bytes,s.length<=1000000->vl e 69 10 [.str s,strs [d,n], .int .i64 2, .int .i64 1]=some (.str (if s=[]then n else s++47::n)):=fun s hsl=>by
  have l1:evp (.bin .lss .no) [.int .i64 1, .int .i64 2]=some (.bool true):=rfl
  have l2:evp (.bin .add .no) [.int .i64 1, .int .i64 1]=some (.int .i64 2):=rfl
  rw[w.zq52_10];unfold y.zq52_10
  simp only[pr,l1,l2,g1,Xak]
  by_cases hs:s=[]
  ·subst hs
   simp only[yy,Zdw,if_neg hn',k0 n hl,j2]
   simp
  ·have a1:evp (.bin .add .no) [.str s, .str [47]]=some (.str (s++ [47])):=Ziq (by simp;omega)
   have a2:evp (.bin .add .no) [.str (s++ [47]), .str n]=some (.str ((s++ [47])++n)):=Ziq (by simp;omega)
   simp only[yy,Zdw,if_neg hn',if_neg hs,a1,a2,j2]
   simp
 have l1:evp (.bin .lss .no) [.int .i64 0, .int .i64 2]=some (.bool true):=rfl
 have l2:evp (.bin .add .no) [.int .i64 0, .int .i64 1]=some (.int .i64 1):=rfl
 have j0:vl e 69 10 [.str [],strs [d,n], .int .i64 2, .int .i64 0]=some (.str (if d=[]then n else d++47::n)):=by
  rw[w.zq52_10];unfold y.zq52_10
  simp only[pr,l1,l2,g0,Xak]
  simp only[yy,Zdw,k0 d hd,j1 d hd]
  by_cases hs:d=[]<;>simp[hs]
 rw[w.zq52];unfold y.zq52
 exact j0
end Go.Proofs.YtpmgdngjbdkdfaaGreatDoor
namespace Go.Proofs.YtpmgdngjbdkdfaaGreatDoor
open Go.Abs
set_option maxRecDepth 10000
variable {e:Ev}
def pv (n i:Nat):Nat:=n/2^(64-8*i)
def byn (n i:Nat):Nat:=n/2^(56-8*i) % 256
theorem Z0p (n:Nat){i:Nat}(h:i<8):pv n i*256+byn n i=pv n (i+1):=by
 have e1:64-8*i=(56-8*i)+8:=by omega
 have e2:64-8*(i+1)=56-8*i:=by omega
 unfold pv byn
 rw[e1,e2,Nat.pow_add, <-Xej]
 have:=Xfp (n/2^(56-8*i)) 256
 omega
theorem Z9a (n i:Nat):pv n i<=n:=Xe9 _ _
theorem pv0 {n:Nat}(h:n<18446744073709551616):pv n 0=0:=Nat.div_eq_of_lt h
theorem pv8 (n:Nat):pv n 8=n:=by simp[pv]
theorem Z08 (n:Nat)(r:Bytes){i:Nat}(h:i<8):(numB n++r)[i]? =some (UInt8.ofNat (n/2^(56-8*i))):=by
 have hl:i<(numB n).length:=by rw[Zbj];exact h
 rw[Xa3 hl,Xad hl,Zrs]
theorem Zuk (n i:Nat):(UInt8.ofNat (n/2^(56-8*i))).toNat=byn n i:=by simp[byn]
theorem Z4w (n i:Nat):byn n i<256:=Nat.mod_lt _ (by decide)
theorem Z71 {a:Nat}(h:a<1152921504606846):evp (.bin .shl .no) [.int .u64 (a:Int), .int .u64 8]=some (.int .u64 ((a*256:Nat):Int)):=by
 show(if(8:Int)<0 then none else some (V.int .u64 (IntKind.u64.wrap ((a:Int)*2^(min (8:Int).toNat IntKind.u64.bits)))))=_
 rw[if_neg (by decide),Zd3]
 have:(2:Int)^(min (8:Int).toNat IntKind.u64.bits)=256:=rfl
 rw[this]
 congr 2
 omega
theorem or64 {a b:Nat}(ha:a<1152921504606846)(hb:b<256):evp (.bin .or .no) [.int .u64 ((a*256:Nat):Int), .int .u64 (b:Int)]=some (.int .u64 ((a*256+b:Nat):Int)):=by
 show some (V.int .u64 (IntKind.u64.wrap ((BitVec.ofInt 64 ((a*256:Nat):Int)|||BitVec.ofInt 64 (b:Int)).toNat:Int)))=_
 have hor:(a*256|||b)=a*256+b:=by
  have:=Nat.shiftLeft_add_eq_or_of_lt (show b<2^8 by omega) a
  rw[Xea]at this
  exact this.symm
 rw[BitVec.ofInt_natCast,BitVec.ofInt_natCast,BitVec.toNat_or,BitVec.toNat_ofNat,BitVec.toNat_ofNat,Xeb (by omega),Xeb (by omega),hor,Zd3]
 congr 2
 omega
theorem b64 (c:UInt8):evp (.i2i .u64) [byteV c]=some (.int .u64 (c.toNat:Int)):=by
 show some (V.int .u64 (IntKind.u64.wrap (c.toNat:Int)))=_
 have:=c.toNat_lt
 rw[Zd3,Xdd (by omega) (by omega)]
theorem v.readNum18 (n:Nat)(hn:n<=1000000000)(r:Bytes):∀(m i:Nat),i+m=8->vl e 117 18 [.str (numB n++r), .int .u64 (pv n i:Nat),I i]=some (.tup [I n, .bool true]):=by
 intro m
 induction m with
 |zero=>
  intro i hi
  have:i=8:=by omega
  subst this
  have e1:evp (.i2i .i64) [.int .u64 ((pv n 8:Nat):Int)]=some (I n):=by
   rw[pv8]
   show some (V.int .i64 (IntKind.i64.wrap (n:Int)))=_
   rw[w64 _ (by omega)]
  rw[w.zq4_18];unfold y.zq4_18
  simp only[yy,if_neg (show ¬(((8:Nat):Int)<8)by omega),e1]
 |succ m ih=>
  intro i hi
  have hpl:=Z9a n i
  have:=ih (i+1) (by omega)
  rw[<-Z0p n (show i<8 by omega), <-Zuk]at this
  rw[w.zq4_18];unfold y.zq4_18
  simp only[yy,if_pos (show(i:Int)<8 by omega),Z71 (a:=pv n i) (by omega),Zj3 (Z08 n r (show i<8 by omega)),b64,or64 (a:=pv n i) (by omega) (show(UInt8.ofNat (n/2^(56-8*i))).toNat<256 by rw[Zuk];exact Z4w n i),Zam (show i<8 by omega) (by omega)]
  exact this
theorem v.readNum (n:Nat)(hn:n<=1000000000)(r:Bytes):vl e 117 0 [.str (numB n++r)]=some (.tup [I n, .bool true]):=by
 have:=v.readNum18 (e:=e) n hn r 8 0 rfl
 rw[pv0 (by omega)]at this
 rw[w.zq4];unfold y.zq4
 simp only[yy,if_neg (show ¬(((numB n++r).length:Nat):Int)<8 by rw[Xaf,Zbj];omega)]
 exact this
theorem Z8d (x r:Bytes):(((numB x.length++x++r).take (8+x.length)).drop 8)=x/\(numB x.length++x++r).drop (8+x.length)=r:=by
 have hl:(numB x.length++x).length=8+x.length:=by rw[Xaf,Zbj]
 constructor
 ·rw[Xb4 (by omega),Xaw (by omega),Xby (by rw[Zbj];omega),List.drop_of_length_le (by rw[Zbj];omega)];rfl
 ·rw[<-hl,Xc9]
theorem v.split30 (l:List Bytes)(hl:sumL l<=1000000):∀(r out:List Bytes),out++r=l->vl e 104 30 [strs out, .str (Zbq r),I l.length,I out.length]=some (.tup [strs l,I 0]):=by
 intro r
 induction r with
 |nil=>
  intro out ho
  rw[Xao]at ho
  subst ho
  have hp:Zbq []=[]:=rfl
  rw[hp,w.zq5_30];unfold y.zq5_30
  simp only[yy,if_neg (show ¬((out.length:Int)<(out.length:Int))by omega)]
  simp
 |cons x r ih=>
  intro out ho
  have hll:=Zdl l
  have hx:=Zg1 (show x∈l by rw[<-ho];simp)
  have hol:out.length<l.length:=by rw[<-ho];simp
  have hlen:(Zbq (x::r)).length=sumL (x::r):=Zho _
  rw[Zdc]at hlen
  have hsl:sumL l=sumL out+(8+x.length+sumL r):=by rw[<-ho,Zmq,Zdc]
  have:=ih (out++ [x]) (by rw[<-ho];simp)
  rw[Xaf,Xc1]at this
  obtain⟨c1,c2⟩:=Z8d x (Zbq r)
  have hN:=v.readNum (e:=e) x.length (by omega) (x++Zbq r)
  rw[<-Xaj, <-Zcy]at hN
  rw[<-Zcy]at c1 c2
  have e1:IntKind.i64.wrap ((((Zbq (x::r)).length:Nat):Int)-8)=(((Zbq (x::r)).length-8:Nat):Int):=by rw[w64 _ (by omega)];omega
  have e2:IntKind.i64.wrap (8+(x.length:Int))=((8+x.length:Nat):Int):=by rw[w64 _ (by omega)];omega
  have s1:evp (.sls true true) [.str (Zbq (x::r)), .int .i64 8,I (8+x.length:Nat)]=some (.str x):=by
   have:=Zvk (s:=Zbq (x::r)) (l:=8) (h:=8+x.length) (by omega) (by omega)
   rw[c1]at this;exact this
  have s2:evp (.sls true false) [.str (Zbq (x::r)),I (8+x.length:Nat)]=some (.str (Zbq r)):=by
   rw[Zk5 (by omega),c2]
  rw[w.zq5_30];unfold y.zq5_30
  simp only[yy,if_pos (show(out.length:Int)<(l.length:Int)by omega),hN,if_neg (show ¬((x.length:Int)<0)by omega),e1,if_neg (show ¬(((Zbq (x::r)).length-8:Nat):Int)<(x.length:Int)by omega),e2,s1,Zg0,Znb (show out.length+1<=Lim by unfold Lim;omega),s2,Zam hol (by omega)]
  exact this
theorem v.codeSplit (l:List Bytes)(hl:sumL l<=1000000):vl e 104 0 [.str (Zck l)]=some (.tup [strs l,I 0]):=by
 have hll:=Zdl l
 have hlen:=Zek l
 have hN:=v.readNum (e:=e) l.length (by omega) (Zbq l)
 rw[<-show Zck l=numB l.length++Zbq l from rfl]at hN
 have s2:evp (.sls true false) [.str (Zck l), .int .i64 8]=some (.str (Zbq l)):=by
  have:=Zk5 (s:=Zck l) (l:=8) (by omega)
  rw[show(Zck l).drop 8=Zbq l by unfold Zck;rw[Xby (by rw[Zbj];omega),List.drop_of_length_le (by rw[Zbj];omega)];rfl]at this
  exact this
 have hmx:evp (.mnx false) [I l.length, .int .i64 4096]=some (I (min l.length 4096:Nat)):=by
  show vMnx false (I l.length) (.int .i64 4096)=_
  simp only[vMnx]
  by_cases h:l.length<=4096
  ·rw[Xfo h];simp;omega
  ·rw[Nat.min_eq_right (by omega)];simp;omega
 have hmk:evp (.mks 1) [.int .i64 0,I (min l.length 4096:Nat)]=some (strs []):=by
  show(vMks 1 (.int .i64 0) (I (min l.length 4096:Nat))).map Res.v=_
  simp only[vMks]
  rw[if_pos ⟨trivial,by omega,by unfold Lim;omega⟩];rfl
 have h17:vl e 104 17 [.str (Zck l),I l.length, .bool false]=some (.tup [strs l,I 0]):=by
  rw[w.zq5_17];unfold y.zq5_17
  simp only[yy,hmx,hmk,s2]
  exact v.split30 l hl l [] rfl
 have q:evp (.bin .quo .no) [I (Zck l).length, .int .i64 8]=some (I ((Zck l).length/8:Nat)):=Zw2 (k:=8) (by decide) (by omega)
 rw[w.zq5];unfold y.zq5
 simp only[yy,if_neg (show ¬(1048576:Int)<((Zck l).length:Int)by omega),hN,if_neg (show ¬((l.length:Int)<0)by omega),q,show decide ((((Zck l).length/8:Nat):Int)<(l.length:Int))=false from decide_eq_false (by omega)]
 exact h17
end Go.Proofs.YtpmgdngjbdkdfaaGreatDoor
namespace Go.Proofs.YtpmgdngjbdkdfaaGreatDoor
open Go.Abs
set_option maxRecDepth 10000
variable {e:Ev}
theorem v.New :vl e 10192 1 []=some (.tup [mv [],mv [],mv []]):=by
 rw[w.zq83_h0];rfl
theorem v.Size (M1 M2 M3:MB)(h:M1.length+M2.length+M3.length<=1000000000):vl e 10448 1 [mv M1,mv M2,mv M3]=some (.tup [I (M1.length+M2.length+M3.length:Nat),mv M1,mv M2,mv M3]):=by
 rw[w.zq36_h0];unfold y.zq36_h0
 simp only[yy,Z9z,Zed (show M1.length+M2.length<=_ by omega),Zed (show M1.length+M2.length+M3.length<=_ by omega)]
theorem Zjd (x:Bytes):evp .scs [bl x]=some (bl x):=if_pos (Zqi x)
theorem Zn4 {x:Bytes}(h:x.length=32):evp (.ld (some 32) 0) [bl x]=some (bl x):=by
 show Zak (some 32) (bl x).cells 0=_
 have:(bl x).cells.length=32:=by simp[V.cells,h]
 simp only[Zak]
 rw[if_pos (by omega),Xbc,Xaw (by omega)];rfl
theorem Z9u :Zan []=[0,0,0,0,0,0,0,0]:=by decide
theorem v.Read0 :∀(n i:Nat),i+n=8->vl e 117 18 [.str [0,0,0,0,0,0,0,0], .int .u64 0,I i]=some (.tup [I 0, .bool true]):=by
 intro n
 induction n with
 |zero=>
  intro i hi
  rw[w.zq4_18];unfold y.zq4_18
  simp only[yy,if_neg (show ¬((i:Int)<8)by omega)]
  rfl
 |succ n ih=>
  intro i hi
  have hx:([0,0,0,0,0,0,0,0]:Bytes)[i]? =some 0:=by
   have:i=0 \/i=1 \/i=2 \/i=3 \/i=4 \/i=5 \/i=6 \/i=7:=by omega
   rcases this with rfl|rfl|rfl|rfl|rfl|rfl|rfl|rfl<;>rfl
  have h1:evp (.bin .shl .no) [.int .u64 0, .int .u64 8]=some (.int .u64 0):=rfl
  have h2:evp (.i2i .u64) [byteV 0]=some (.int .u64 0):=rfl
  have h3:evp (.bin .or .no) [.int .u64 0, .int .u64 0]=some (.int .u64 0):=rfl
  rw[w.zq4_18];unfold y.zq4_18
  simp only[yy,if_pos (show(i:Int)<8 by omega),h1,Zj3 hx,h2,h3,Zam (show i<8 by omega) (by omega)]
  exact ih (i+1) (by omega)
theorem v.Get0 (he:EnvT e):vl e 87 0 [.str (Zan [])]=some (.tup [entV [],I 0]):=by
 rw[Z9u]
 have hr:vl e 117 0 [.str [0,0,0,0,0,0,0,0]]=some (.tup [I 0, .bool true]):=by
  rw[w.zq4];unfold y.zq4
  simp only[yy,Xax,Xa7]
  exact v.Read0 8 0 rfl
 have hs:vl e 104 0 [.str [0,0,0,0,0,0,0,0]]=some (.tup [strs [],I 0]):=by
  rw[w.zq5];unfold y.zq5
  have q0:evp (.len true) [.str [0,0,0,0,0,0,0,0]]=some (.int .i64 8):=rfl
  have q1:evp (.bin .quo .no) [.int .i64 8, .int .i64 8]=some (.int .i64 1):=rfl
  have q3:evp (.mnx false) [I 0, .int .i64 4096]=some (I 0):=rfl
  have q4:evp (.mks 1) [.int .i64 0,I 0]=some (strs []):=rfl
  have q5:evp (.sls true false) [.str [0,0,0,0,0,0,0,0], .int .i64 8]=some (.str []):=rfl
  have h17:vl e 104 17 [.str [0,0,0,0,0,0,0,0],I 0, .bool false]=some (.tup [strs [],I 0]):=by
   rw[w.zq5_17];unfold y.zq5_17
   simp only[vif,pr,q3,q4,q5,Xak]
   rw[w.zq5_30];rfl
  simp only[pr,ca,q0,q1,hr,Xak]
  exact h17
 have h9:vl e 87 9 [strs [], .bool false]=some (.tup [entV [],I 0]):=by
  rw[w.zq11_9]
  show vl e 87 18 [strs [],entV []]=_
  have h42:=v.GoodTree he [] {nm:=(fun _ h=>by cases h),id:=(fun _ h=>by cases h),up:= .nil,len:=by simp}
  rw[w.zq11_18];unfold y.zq11_18
  simp only[yy,Zd6,Xa7,h42]
  rfl
 rw[w.zq11];unfold y.zq11
 simp only[pr,ca,hs,Xak]
 exact h9
theorem v.sortE (c:V):vl e 10544 1 [I 0,c, .agg []]=some (.agg []):=by
 have ins:∀x:V,vl e 11137 1 [I 0, .int .i64 0,I 0,c,x]=some x:=fun x=>by
  rw[w.zq73_h1]
  show vl e 11137 5 [I 0, .int .i64 0,I 0,c, .int .i64 1,x]=_
  rw[w.zq73_h1_5];rfl
 have s24:vl e 10849 24 [I 0,I 0,c, .int .i64 20, .agg []]=some (.agg []):=by
  rw[w.zq75_h1_24];rfl
 have s8:vl e 10849 8 [I 0,I 0,c, .int .i64 20, .int .i64 0, .int .i64 20, .agg []]=some (.agg []):=by
  rw[w.zq75_h1_8];unfold y.zq75_h1_8
  have l1:evp (.bin .leq .no) [.int .i64 20,I 0]=some (.bool false):=rfl
  simp only[pr,ch,l1,ins,Xak]
  exact s24
 have s1:vl e 10849 1 [I 0,I 0,c, .agg []]=some (.agg []):=by
  rw[w.zq75_h1];exact s8
 rw[w.zq72_h0];unfold y.zq72_h0
 simp only[ch,s1,Xak]
theorem v.BuildE (he:EnvT e):vl e 10208 1 [Zad [],mv [],mv [],mv []]=some (.tup [bl (Zaq Za1 (Zan [])),I 0,mv [],mv [(Zaq Za1 (Zan []),Zan [])],mv []]):=by
 have hok:EnOK []:= {nm:=(fun _ h=>by cases h),id:=(fun _ h=>by cases h),up:= .nil,len:=by simp}
 have hpt:=v.PutTree he [] hok (mv []) (mv []) [] (fun _ h=>by cases h)
 have b8:∀z:V,vl e 10624 8 [.str [], .int .i64 0,I 0,entV [], .agg [],mv [],mv [],mv [],z]=some (.tup [bl (Zaq Za1 (Zan [])),I 0, .agg [],mv [],mv [(Zaq Za1 (Zan []),Zan [])],mv []]):=fun z=>by
  have l1:evp .vlen [.int .i64 0,I 0]=some (I 0):=rfl
  have l2:evp (.bin .gtr .no) [I 0, .int .i64 0]=some (.bool false):=rfl
  rw[w.zq38_h0_8];unfold y.zq38_h0_8
  simp only[pr,ch,l1,l2,Xak]
  simp only[yy,hpt,Za3 (Zag _ _)]
  rfl
 have b1:vl e 10624 1 [.str [], .int .i64 0,I 0, .agg [],mv [],mv [],mv []]=some (.tup [bl (Zaq Za1 (Zan [])),I 0, .agg [],mv [],mv [(Zaq Za1 (Zan []),Zan [])],mv []]):=by
  rw[w.zq38_h0];exact b8 _
 have h65:∀z:V,vl e 10208 65 [I 0,I 0,I 0, .int .i64 0,mv [],mv [],mv [],z, .agg []]=some (.tup [bl (Zaq Za1 (Zan [])),I 0,mv [],mv [(Zaq Za1 (Zan []),Zan [])],mv []]):=fun z=>by
  have l2:evp (.bin .lss .no) [.int .i64 0,I 0]=some (.bool false):=rfl
  rw[w.zq31_h0_65];unfold y.zq31_h0_65
  simp only[pr,ch,l2,b1,Xak]
  simp only[yy,Za3 (Zag _ _)]
 have h28:∀z:V,vl e 10208 28 [I 0,I 0,I 0, .int .i64 0,mv [],mv [],mv [],z, .agg []]=some (.tup [bl (Zaq Za1 (Zan [])),I 0,mv [],mv [(Zaq Za1 (Zan []),Zan [])],mv []]):=fun z=>by
  have l2:evp (.bin .lss .no) [.int .i64 0,I 0]=some (.bool false):=rfl
  rw[w.zq31_h0_28];unfold y.zq31_h0_28
  simp only[pr,l2,Xak]
  exact h65 z
 have hcl:vl e 10528 1 [Zad []]=some (.tup [I 0, .agg []]):=v.CloneF [] (by simp)
 rw[w.zq31_h0];unfold y.zq31_h0
 simp only[yy,Zc7,hcl,v.sortE]
 exact h28 _
theorem v.alive08 (he:EnvT e):vl e 7 0 []=some (.bool true):=by
 have t1:(Zaq Za1 (Zan [])).length=32:=Zag _ _
 have t3:keyL [(Zaq Za1 (Zan []),Zan [])]:=fun p hp=>by rw[Xa1.1 hp];exact t1
 have x1:=v.BuildE he
 have x2:=v.PutTree he [] {nm:=(fun _ h=>by cases h),id:=(fun _ h=>by cases h),up:= .nil,len:=by simp} (mv []) (mv []) [(Zaq Za1 (Zan []),Zan [])] t3
 have e3:putM [(Zaq Za1 (Zan []),Zan [])] (Zaq Za1 (Zan [])) (Zan [])=[(Zaq Za1 (Zan []),Zan [])]:=by simp[putM]
 rw[e3]at x2
 have hg:=Z1z (M:=[(Zaq Za1 (Zan []),Zan [])]) (k:=Zaq Za1 (Zan [])) t3 t1
 have e4:getM [(Zaq Za1 (Zan []),Zan [])] (Zaq Za1 (Zan []))=some (Zan []):=by simp[getM]
 rw[e4]at hg
 simp only[Xb1,Xdc]at hg
 have ht:vl e 11056 1 [bl (Zaq Za1 (Zan [])),mv [],mv [(Zaq Za1 (Zan []),Zan [])],mv []]=some (.tup [entV [],I 0,mv [],mv [(Zaq Za1 (Zan []),Zan [])],mv []]):=by
  rw[w.zq37_h0];unfold y.zq37_h0
  simp only[yy,Zjd,Zn4 t1,hg,v.Get0 he]
 have hd:vl e 10704 1 [.str [],bl (Zaq Za1 (Zan [])),I 1, .sl false 33 [],I 4096,mv [],mv [(Zaq Za1 (Zan []),Zan [])],mv []]=some (.tup [I 0, .sl false 33 [],I 4096,mv [],mv [(Zaq Za1 (Zan []),Zan [])],mv []]):=by
  rw[w.zq39_h0];unfold y.zq39_h0
  simp only[yy,Zjd,Zn4 t1,if_neg (show ¬(16:Int)<1 by omega),ht,Zko]
  rw[w.zq39_h0_26];unfold y.zq39_h0_26
  simp only[yy,Xa7]
  rfl
 have hf:vl e 10288 1 [bl (Zaq Za1 (Zan [])),mv [],mv [(Zaq Za1 (Zan []),Zan [])],mv []]=some (.tup [.sl false 33 [],I 0,mv [],mv [(Zaq Za1 (Zan []),Zan [])],mv []]):=by
  rw[w.zq33_h0];unfold y.zq33_h0
  simp only[yy,Zjd,Zn4 t1,hd]
  rfl
 have hz:=v.Size (e:=e) [] [(Zaq Za1 (Zan []),Zan [])] [] (by simp)
 have n0:V.sl false 2 []=Zad []:=rfl
 have n1:V.sl false 34 []=entV []:=rfl
 rw[w.zq41];unfold y.zq41
 rw[n0,n1]
 simp only[yy,v.New,x1,Za3 t1,x2,hf,Zpq t1 t1]
 simp only[if_true,Xa7,Int.natCast_zero,Int.cast_ofNat_Int]
 rw[hz]
 rfl
theorem Z8b {l:List Fi}{n:Nat}(h:l.length<=n)(hn:n<=1000)(h2:∀f∈l,f.1.length+f.2.length<=4096):l.length<=1000000/\ ∀f∈l,f.1.length<=1000000/\f.2.length<=1000000000:=
 ⟨by omega,fun f hf=>by have:=h2 f hf;omega⟩
theorem Z4u {S:List Fi}{D:List Bytes}{a b:Nat}{ls:List En}{id:Bytes}{p1 p2:MB}(h:Tr S D a b ls id p1 p2):a<=b/\p1.length<=b-a:=by
 induction h with
 |done=>simp
 |blob hab hx h ih=>simp only[Xax];omega
 |dir hk hkb hrun hstop h1 h2 ih1 ih2=>simp only[Xaf];omega
theorem Z10 {S:List Fi}(h16:∀i,i<S.length->(pS S i).length<=16){D:List Bytes}{a b:Nat}{ls:List En}{id:Bytes}{p1 p2:MB}(h:Tr S D a b ls id p1 p2):b<=S.length->(∀i,a<=i->i<b->D.length<(pS S i).length)->p2.length<=1+(b-a)*(16-D.length):=by
 induction h with
 |done=>intro _ _;simp
 | @blob D a b ls x id p1 p2 hab hx h ih=>
  intro hb hi
  have:=ih hb fun i h1 h2=>hi i (by omega) h2
  have h3:b-a=(b-(a+1))+1:=by omega
  rw[h3,Xca];omega
 | @dir D a b k ls x id id1 p1 p2 q1 q2 hk hkb hrun hstop h1 h2 ih1 ih2=>
  intro hb hi
  have r1:=ih1 (by omega) fun i k1 k2=>by
   obtain⟨R,hR,hs⟩:=hrun i k1 k2
   have:=Xaz.2 hR
   rw[hs];simp;omega
  have r2:=ih2 hb fun i k1 k2=>hi i (by omega) k2
  have ha:=hi a (Xag _) (by omega)
  have ha2:=h16 a (by omega)
  simp only[Xaf,Xax,Xa7]at r1⊢
  have e1:a+k-a=k:=by omega
  have e2:b-a=k+(b-(a+k)):=by omega
  have e3:16-D.length=(16-(D.length+(0+1)))+1:=by omega
  rw[e1]at r1
  rw[e2,Xca]
  have e4:k*(16-D.length)=k*(16-(D.length+(0+1)))+k:=by rw[e3,Nat.mul_succ]
  omega
end Go.Proofs.YtpmgdngjbdkdfaaGreatDoor
namespace Go.Proofs.YtpmgdngjbdkdfaaGreatDoor
open Go.Abs
set_option maxRecDepth 10000
variable {e:Ev}
theorem v.oid (id:Bytes)(h:id.length=32):vl e 105 0 [.str id]=some (.tup [bl id, .bool true]):=by
 have hw:∀l:Bytes,(encB l).flatMap V.cells=l.map byteV:=by
  intro l
  induction l with
  |nil=>rfl
  |cons a r ih=>
   show(byteV a).cells++(encB r).flatMap V.cells=_
   rw[ih];rfl
 have hf:fits 1 (encB id)=true:=by
  unfold fits encB
  rw[Xal];intro c hc
  obtain⟨x,_,rfl⟩:=Xa9.1 hc
  rfl
 have hne:encB id≠ []:=fun hn=>by
  rw[encB,Xe8]at hn
  rw[hn]at h;cases h
 have h1:evp (.s2a 32) [.sl false 1 (encB id)]=some (bl id):=by
  show Zyn 32 (.sl false 1 (encB id))=_
  simp only[Zyn]
  rw[if_pos ⟨Nat.le_of_eq (by rw[Zpu,h]),hne,hf⟩,hw]
 have h2:=Zn4 h
 rw[w.zq15];unfold y.zq15
 simp only[yy,h,Z9k,h1,h2,Za3 h]
 rfl
theorem Zz2 {l:List Bytes}{x:En}:evp (.slc 1 true false false) [strs (enP x++l), .int .i64 3]=some (strs l):=by
 have:=Zy5 (sz:=1) (l:=(enP x++l).map V.str) (i:=3) (by simp[enP])
 rw[<-Xe1]at this
 exact this
theorem v.getTree18 (he:EnvT e)(l:List En)(h:EnOK l):∀(r acc:List En),acc++r=l->vl e 87 18 [strs (Zbi r),entV acc]=some (.tup [entV l,I 0]):=by
 have hlen:=h.len
 intro r
 induction r with
 |nil=>
  intro acc ha
  rw[Xao]at ha
  subst ha
  have ht:Zbi []=[]:=rfl
  rw[ht,w.zq11_18];unfold y.zq11_18
  simp only[yy,Zd6,Xa7,if_neg (show ¬(0:Int)<((0:Nat):Int)by omega),v.GoodTree he acc h]
 |cons x r ih=>
  intro acc ha
  have hid:=h.id x (by rw[<-ha];simp)
  have hal:acc.length<l.length:=by rw[<-ha];simp
  have:=ih (acc++ [x]) (by rw[<-ha];simp)
  have ht:Zbi (x::r)=enP x++Zbi r:=rfl
  have hl3:(strs (enP x++Zbi r))=strs ((if x.tr then Za1 else Za8)::x.nm::x.id::Zbi r):=rfl
  have g0:evp (.elem 1) [strs (enP x++Zbi r), .int .i64 0]=some (.str (if x.tr then Za1 else Za8)):=Zgf (i:=0) rfl
  have g1:evp (.elem 1) [strs (enP x++Zbi r), .int .i64 1]=some (.str x.nm):=Zgf (i:=1) rfl
  have g2:evp (.elem 1) [strs (enP x++Zbi r), .int .i64 2]=some (.str x.id):=Zgf (i:=2) rfl
  have hpos:(0:Int)<((enP x++Zbi r).length:Int):=by simp[enP];omega
  have hap:=Zk4 (l:=acc) (x:=x) (by unfold Lim;omega)
  rw[ht,w.zq11_18];unfold y.zq11_18
  obtain⟨nm,tr,id⟩:=x
  cases tr with
  |false=>
   have k1: ¬(¬(Za8=[98,108,111,98])):=fun h=>h rfl
   have k2: ¬(Za8=[116,114,101,101]):=by decide
   simp only[yy,Zd6,if_pos hpos,g2,Zdw,v.oid id hid,Za3 hid,g0,g1,if_neg (show ¬(false=true)by decide),show(Za8=[98,108,111,98])=True from eq_true rfl,if_true,show decide (Za8=[116,114,101,101])=false from rfl,Zjo hid,Zi0 (x:=⟨nm,false,id⟩) hid,hap,Zz2]
   exact this
  |true=>
   simp only[yy,Zd6,if_pos hpos,g2,Zdw,v.oid id hid,Za3 hid,g0,g1,if_true,show(Za1=[98,108,111,98])=False from eq_false (by decide),if_false,show(Za1=[116,114,101,101])=True from eq_true rfl,decide_true,Zjo hid,Zi0 (x:=⟨nm,true,id⟩) hid,hap,Zz2]
   exact this
theorem v.getTree (he:EnvT e)(l:List En)(h:EnOK l):vl e 87 0 [.str (Zan l)]=some (.tup [entV l,I 0]):=by
 have hlen:=h.len
 have hs:=Zdz (fun x hx=>(h.nm x hx).2) h.id
 have h9:vl e 87 9 [strs (Zbi l), .bool false]=some (.tup [entV l,I 0]):=by
  rw[w.zq11_9];unfold y.zq11_9
  exact v.getTree18 he l h l [] rfl
 have hr:evp (.bin .rem .no) [I (Zbi l).length, .int .i64 3]=some (I 0):=by
  have:=Zu0 (n:=(Zbi l).length) (k:=3) (by decide)
  rw[show(Zbi l).length % 3=0 by rw[Zdd,Nat.mul_mod_right]]at this
  exact this
 rw[w.zq11];unfold y.zq11
 simp only[yy,show Zan l=Zck (Zbi l)from rfl,v.codeSplit (Zbi l) (by omega),Zd6,hr]
 exact h9
end Go.Proofs.YtpmgdngjbdkdfaaGreatDoor
namespace Go.Proofs.YtpmgdngjbdkdfaaGreatDoor
open Go.Abs
set_option maxRecDepth 10000
variable {e:Ev}
theorem v.rUnderS {d p r:Bytes}(hd:d.length<=1000000)(h:Zch d p=some r):vl e 30 0 [.str d, .str p]=some (.tup [.str r, .bool true]):=by
 unfold Zch at h
 rw[w.zq56];unfold y.zq56
 by_cases h0:d=[]
 ·rw[if_pos h0]at h
  by_cases h2:p=[]
  ·rw[if_pos h2]at h;cases h
  ·rw[if_neg h2]at h
   simp only[Xac]at h
   subst h
   simp only[yy,if_pos h0]
   simp[h2]
 ·rw[if_neg h0]at h
  split at h
  ·rename_i hc
   obtain⟨h1,h2⟩:=hc
   simp only[Xac]at h
   subst h
   have hl:d.length+1<p.length:=by
    refine Xd7 fun hn=>h2 (Xav hn)
   have hlt:d.length<p.length:=by omega
   have ht:p.take (d.length+1)=p.take d.length++ [p[d.length]]:=Xck hlt
   rw[ht]at h1
   have e0:=Xdb h1 (by simp;omega)
   have h3:p[d.length]=47:=by simpa using e0.2
   have e1:IntKind.i64.wrap ((d.length:Int)+1)=((d.length+1:Nat):Int):=Zam (show d.length<d.length+1 by omega) (by omega)
   have h3':((p[d.length].toNat:Nat):Int)=47:=by rw[h3];rfl
   simp only[yy,if_neg h0,e1,if_neg (show ¬(p.length:Int)<=((d.length+1:Nat):Int)by omega),Zk1 (show d.length<=p.length by omega),if_pos e0.1,Zj3 (Xad hlt),byteV,if_pos h3',Zk5 (show d.length+1<=p.length by omega)]
  ·cases h
def Zo1 (ls:List En):Bytes:=(ls.getLast?.map En.nm).getD []
theorem Zjk (ls:List En)(x:En):Zo1 (ls++ [x])=x.nm:=by simp[Zo1]
theorem Z2o {S:List Fi}(hS:SoOK S){D:List Bytes}{a b k:Nat}{x:Bytes}(hb:b<=S.length)(hin:∀i,a<=i->i<b-> ∃R,R≠ []/\pS S i=D++R)(hk:0<k)(hrun:∀i,a<=i->i<a+k-> ∃R,R≠ []/\pS S i=D++x::R)(hstop:a+k<b-> ¬ ∃R,R≠ []/\pS S (a+k)=D++x::R):
  ∀j,a+k<=j->j<b-> ∀R',pS S j=D++x::R'->False:=by
 intro j hj hjb R' hR'
 obtain⟨R0,hR0,hs0⟩:=hrun a (Xag _) (by omega)
 have free:∀i,i<S.length->i≠a->pS S i≠D++ [x]:=fun i hi hia he=>hS.free a i (by omega) hi (Ne.symm hia) R0 (by rw[he,hs0];simp)
 obtain⟨R2,hR2,hs2⟩:=hin (a+k) (by omega) (by omega)
 obtain⟨x2,R3,rfl⟩:∃x2 R3,R2=x2::R3:=by cases R2 with
  |nil=>exact absurd rfl hR2
  |cons x R=>exact⟨x,R,rfl⟩
 have hup:=hS.up a (a+k) (by omega) (by omega)
 rw[hs0,hs2,Zf5]at hup
 have hxx2:Op.bytesLess x x2=true:=by
  rcases Ze8 hup with rfl|h
  ·by_cases hR3:R3=[]
   ·subst hR3
    exact absurd hs2 (free (a+k) (by omega) (by omega))
   ·exact absurd ⟨R3,hR3,hs2⟩ (hstop (by omega))
  ·exact h
 rcases Xbm hj with h|rfl
 ·have hup2:=hS.up (a+k) j h (by omega)
  rw[hs2,hR',Zf5]at hup2
  rcases Ze8 hup2 with rfl|h
  ·rw[Zbu]at hxx2;cases hxx2
  ·have:=Zeq hxx2 h
   rw[Zbu]at this;cases this
 ·rw[hs2]at hR'
  have:=Xcd hR'
  simp only[Xb8]at this
  rw[this.1,Zbu]at hxx2;cases hxx2
section
variable (S:List Fi)(hS:SoOK S)
include hS
theorem v.rskip (D:List Bytes)(hD:∀u∈D,Zbl u=true)(hjl:(Zai 47 D).length<=1000)(ls last L A z:V):∀(n i:Nat),i+n<=S.length->(∀k,i<=k->k<i+n-> ¬ ∃R,R≠ []/\pS S k=D++R)->
  vl e 10768 12 [.str (Zai 47 D),Zad S,ls,last,Zad S,I S.length,I i,L,A,z]=vl e 10768 12 [.str (Zai 47 D),Zad S,ls,last,Zad S,I S.length,I (i+n:Nat),L,A,z]:=by
 have hlen:=hS.len
 intro n
 induction n with
 |zero=>intro i _ _;rfl
 |succ n ih=>
  intro i hi hno
  have hlt:i<S.length:=by omega
  obtain⟨u,hu⟩:=v.rUnder (e:=e) (Zai 47 D) S[i].1 (by omega) (by have:=Zmk (hS.good _ (Xau hlt));omega)
  have h0:(Zch (Zai 47 D) S[i].1).isSome=false:=by
   cases h:Zch (Zai 47 D) S[i].1 with
   |none=>rfl
   |some r=>
    obtain⟨R,hR,hs⟩:=Zhl hD h
    exact absurd ⟨R,hR,by rw[pS,Zaz hlt];exact hs⟩ (hno i (Xag _) (by omega))
  rw[h0]at hu
  have:=ih (i+1) (by omega) (fun k h1 h2=>hno k (by omega) (by omega))
  rw[show i+1+n=i+(n+1)by omega]at this
  rw[w.zq28_h0_12];unfold y.zq28_h0_12
  simp only[yy,if_pos (show(i:Int)<(S.length:Int)by omega),Zc5 hlt,Zgp,Zca,Zep,hu,Zam hlt (by omega)]
  exact this
theorem Zma {D R:List Bytes}{x:Bytes}{i:Nat}(hlt:i<S.length)(hD:∀u∈D,Zbl u=true)(hjl:(Zai 47 D).length<=1000)(hs:pS S i=D++x::R):
  vl e 30 0 [.str (Zai 47 D), .str S[i].1]=some (.tup [.str (Zai 47 (x::R)), .bool true])/\vl e 50 0 [.str (Zai 47 (x::R))]=some (strs (x::R))/\Zbl x=true/\x.length<=128:=by
 have hpp:=Zg6 S hS hlt
 rw[hs]at hpp
 have hl:=Zmk (hS.good _ (Xau hlt))
 have hxR:∀u∈x::R,Zbl u=true:=fun u hu=>hpp u (Xay.2 (.inr hu))
 have hu:=Zlv (p:=S[i].1) hD hxR (by simp) (by rw[<-Zaz hlt];exact hs)
 have hrl:=Zov hu
 refine⟨v.rUnderS (by omega) hu, ?_,hxR x (by simp), ?_⟩
 ·rw[v.rParts _ (by omega),Zhk (by simp) hxR]
 ·have:=Zbf 47 (show x∈Zae 47 S[i].1 by rw[<-Zaz hlt];show x∈pS S i;rw[hs];simp)
  omega
theorem v.rrun (D:List Bytes)(hD:∀u∈D,Zbl u=true)(hjl:(Zai 47 D).length<=1000)(ls:List En)(hls:ls.length<=600)(x id1:Bytes)(L A z:V):∀(n i:Nat),i+n<=S.length->(∀k,i<=k->k<i+n-> ∃R,R≠ []/\pS S k=D++x::R)->
  vl e 10768 12 [.str (Zai 47 D),Zad S,entV (ls++ [⟨x,true,id1⟩]), .str x,Zad S,I S.length,I i,L,A,z]=vl e 10768 12 [.str (Zai 47 D),Zad S,entV (ls++ [⟨x,true,id1⟩]), .str x,Zad S,I S.length,I (i+n:Nat),L,A,z]:=by
 have hlen:=hS.len
 intro n
 induction n with
 |zero=>intro i _ _;rfl
 |succ n ih=>
  intro i hi hyes
  have hlt:i<S.length:=by omega
  obtain⟨R,hR,hs⟩:=hyes i (Xag _) (by omega)
  obtain⟨u1,u2,u3,_⟩:=Zma (e:=e) S hS hlt hD hjl hs
  have hne: ¬x=Zai 47 (x::R):=fun h=>by
   have:=Zgr u3
   rw[h,Zc1 _ _ _ hR]at this
   exact this (by simp)
  have:=ih (i+1) (by omega) (fun k h1 h2=>hyes k (by omega) (by omega))
  rw[show i+1+n=i+(n+1)by omega]at this
  have h40:vl e 10768 40 [.str (Zai 47 D),Zad S,entV (ls++ [⟨x,true,id1⟩]), .str x,Zad S,I S.length,I i, .bool false,L,A,z]=vl e 10768 12 [.str (Zai 47 D),Zad S,entV (ls++ [⟨x,true,id1⟩]), .str x,Zad S,I S.length,I (i+1:Nat),L,A,z]:=by
   rw[w.zq28_h0_40];unfold y.zq28_h0_40
   simp only[yy,Zam hlt (by omega)]
  have hlast:ls.length<(ls++ [(⟨x,true,id1⟩:En)]).length:=by simp
  have hg:=Zge hlast
  have hge:(ls++ [(⟨x,true,id1⟩:En)])[ls.length]=⟨x,true,id1⟩:=by simp
  rw[hge]at hg
  have p1:IntKind.i64.wrap (((ls++ [(⟨x,true,id1⟩:En)]).length:Int)-1)=(ls.length:Int):=by
   rw[Xaf,Xc1]
   exact Zjr (show 1<=ls.length+1 by omega) (by omega)
  rw[w.zq28_h0_12];unfold y.zq28_h0_12
  simp only[yy,if_pos (show(i:Int)<(S.length:Int)by omega),Zc5 hlt,Zgp,Zca,Zep,u1,u2,Zof,Zdw,if_neg hne,if_neg (show ¬((ls++ [(⟨x,true,id1⟩:En)]).length:Int)=0 by simp),p1,hg,Zo8,Zmi]
  exact h40.trans this
theorem v.rbelow {D:List Bytes}{a b:Nat}{ls:List En}{id:Bytes}{p1 p2:MB}(h:Tr S D a b ls id p1 p2):b<=S.length->(∀u∈D,Zbl u=true)->(Zai 47 D).length<=128->(∀i,a<=i->i<b-> ∃R,R≠ []/\pS S i=D++R)->(∀i,b<=i->i<S.length-> ¬ ∃R,R≠ []/\pS S i=D++R)->
  (∀i,i<a-> ∀j,a<=j->j<b-> ∀x R R',pS S i=D++x::R->pS S j=D++x::R'->False)-> ∀(L A:List Obj) (z:V),idL L->L.length+(p1.length+p2.length)<=100000->A.length+(p1.length+p2.length)<=100000->
  ∃L' N:List Obj,idL L'/\idL N/\N.length=p1.length+p2.length/\L'.length<=L.length+N.length/\(∀p∈p1,(⟨Za8,p.1,p.2⟩:Obj)∈N)/\(∀p∈p2,(⟨Za1,p.1,p.2⟩:Obj)∈N)/\
   vl e 10768 12 [.str (Zai 47 D),Zad S,entV ls, .str (Zo1 ls),Zad S,I S.length,I a,objV L,objV A,z]=some (.tup [bl id,objV L',objV (A++N)]):=by
 have hlen:=hS.len
 induction h with
 | @done D a ls hok=>
  intro hb hD hjl hin hout hinv L A z hL hl1 hl2
  simp only[Xa7,Xax]at hl1 hl2
  have h0:=hok.len
  have hs:=Zdz (fun x hx=>(hok.nm x hx).2) hok.id
  obtain⟨L',r1,r2,r3⟩:=v.rPut (e:=e) Za1 (Zan ls) (by simp[Za1]) (by rw[Zan,Zek];omega) L A hL (by omega) (by omega)
  refine⟨L',[⟨Za1,Zaq Za1 (Zan ls),Zan ls⟩],r1,fun o ho=>by rw[Xa1.1 ho];exact Zag _ _,rfl,r2,(fun p hp=>by cases hp),(fun p hp=>by rw[Xa1.1 hp];simp), ?_⟩
  have hsk:=v.rskip (e:=e) S hS D hD (by omega) (entV ls) (.str (Zo1 ls)) (objV L) (objV A) z (S.length-a) a (by omega) (fun k h1 h2=>hout k h1 (by omega))
  rw[hsk,show a+(S.length-a)=S.length by omega]
  rw[w.zq28_h0_12];unfold y.zq28_h0_12
  simp only[yy,if_neg (show ¬((S.length:Int)<(S.length:Int))by omega),v.rTree ls hok]
  rw[show(V.str [116,114,101,101])= .str Za1 from rfl,r3]
  simp only[yy,Za3 (Zag _ _)]
 | @blob D a b ls x id p1 p2 hab hx h ih=>
  intro hb hD hjl hin hout hinv L A z hL hl1 hl2
  simp only[Xax]at hl1 hl2
  have hlt:a<S.length:=by omega
  obtain⟨u1,u2,u3,u4⟩:=Zma (e:=e) S hS hlt hD (by omega) hx
  have hd:S[a].2.length<=32768:=hS.data _ (Xau hlt)
  obtain⟨L1,r1,r2,r3⟩:=v.rPut (e:=e) Za8 S[a].2 (by simp[Za8]) (by omega) L A hL (by omega) (by omega)
  have hfin:=h.finOK
  obtain⟨es,hes⟩:=hfin
  have hll:=hes.len
  simp only[Xaf,Xax]at hll
  have hga:S.getD a ([],[])=S[a]:=Zaz hlt
  rw[hga]at ih⊢
  obtain⟨L',N,q1,q1',q2,q3,q4,q5,q6⟩:=ih hb hD hjl (fun i h1 h2=>hin i (by omega) h2) hout (fun i h1 j h2 h3 x' R R' e1 e2=>by
   rcases Xbm (Nat.le_of_lt_succ h1)with h4|rfl
   ·exact hinv i h4 j (by omega) h3 x' R R' e1 e2
   ·rw[hx]at e1
    have:=Xcd e1
    simp only[Xb8]at this
    obtain⟨rfl,rfl⟩:=this
    exact hS.free j i (by omega) hlt (by omega) R' (by rw[e2,hx];simp)) L1 (A++ [⟨Za8,Zaq Za8 S[a].2,S[a].2⟩]) z r1 (by omega) (by simp;omega)
  refine⟨L',⟨Za8,Zaq Za8 S[a].2,S[a].2⟩::N,q1,fun o ho=>(Xa0.1 ho).elim (fun h=>by rw[h];exact Zag _ _) (q1' o),by simp[q2];omega,by simp;omega,fun p hp=>(Xa0.1 hp).elim (fun h=>by rw[h];simp) (fun h=>Xbk _ (q4 p h)),fun p hp=>Xbk _ (q5 p hp), ?_⟩
  have hjx:Zai 47 [x]=x:=rfl
  rw[hjx]at u1 u2
  rw[Zjk,Xaj]at q6
  rw[w.zq28_h0_12];unfold y.zq28_h0_12
  simp only[yy,if_pos (show(a:Int)<(S.length:Int)by omega),Zc5 hlt,Zgp,Zca,Zep,u1,u2,Zof,Zdw,Zm2]
  rw[show(V.str [98,108,111,98])= .str Za8 from rfl,r3]
  simp only[yy,if_true,Zvi (Zag _ _),Zjo (Zag _ _),Zi0 (x:=⟨x,false,Zaq Za8 S[a].2⟩) (Zag _ _),Zk4 (show ls.length+1<=Lim by unfold Lim;omega),Zam hlt (by omega)]
  exact q6
 | @dir D a b k ls x id id1 p1 p2 q1 q2 hk hkb hrun hstop h1 h2 ih1 ih2=>
  intro hb hD hjl hin hout hinv L A z hL hl1 hl2
  simp only[Xaf]at hl1 hl2
  have hlt:a<S.length:=by omega
  obtain⟨R,hR,hs⟩:=hrun a (Xag _) (by omega)
  obtain⟨u1,u2,u3,u4⟩:=Zma (e:=e) S hS hlt hD (by omega) hs
  have hid1:id1.length=32:=h1.ok hS
  obtain⟨es,hes⟩:=h2.finOK
  have hll:=hes.len
  simp only[Xaf,Xax]at hll
  have hrout:=Z2o hS hb hin hk hrun hstop
  have hD':∀u∈D++ [x],Zbl u=true:=fun u hu=>(Xay.1 hu).elim (hD u) (fun h=>by rw[Xa1.1 h];exact u3)
  have hjl':(Zai 47 (D++ [x])).length<=128:=by
   have hpl:=Zes S hS hlt
   have hj:=Za5 47 (S.getD a ([],[])).1
   rw[<-pS,hs,show D++x::R=(D++ [x])++R by simp,Zdu 47 (D++ [x]) R (by simp) hR]at hj
   have:=congrArg List.length hj
   simp only[Xaf,Xax]at this
   omega
  --the directory's own tree
  obtain⟨L1,N1,a1,a1',a2,a3,a4,a5,a6⟩:=ih1 (by omega) hD' hjl' (fun i g1 g2=>by
   obtain⟨R',hR',hs'⟩:=hrun i g1 g2
   exact⟨R',hR',by rw[hs'];simp⟩) (fun i g1 g2=>by
   rintro⟨R',hR',hs'⟩
   have hs'':pS S i=D++x::R':=by rw[hs'];simp
   by_cases hib:i<b
   ·exact hrout i g1 hib R' hs''
   ·exact hout i (by omega) g2 ⟨x::R',by simp,hs''⟩) (fun i g1 j g2 g3 x' R1 R2 e1 e2=>hinv i g1 j g2 (by omega) x (x'::R1) (x'::R2) (by rw[e1];simp) (by rw[e2];simp)) L A z32 hL (by omega) (by omega)
  obtain⟨L2,N2,b1,b1',b2,b3,b4,b5,b6⟩:=ih2 hb hD hjl (fun i g1 g2=>hin i (by omega) g2) hout (fun i g1 j g2 g3 x' R1 R2 e1 e2=>by
   rcases Xa4 i a with h4|h4
   ·exact hinv i h4 j (by omega) g3 x' R1 R2 e1 e2
   ·obtain⟨R',hR',hs'⟩:=hrun i h4 g1
    rw[hs']at e1
    have:=Xcd e1
    simp only[Xb8]at this
    obtain⟨rfl,_⟩:=this
    exact hrout j g2 g3 R2 e2) L1 (A++N1) z a1 (by omega) (by rw[Xaf];omega)
  refine⟨L2,N1++N2,b1,fun o ho=>(Xay.1 ho).elim (a1' o) (b1' o),by simp[a2,b2];omega,by rw[Xaf];omega,fun p hp=>(Xay.1 hp).elim (fun h=>Xbo _ (a4 p h)) (fun h=>Xbb _ (b4 p h)),fun p hp=>(Xay.1 hp).elim (fun h=>Xbo _ (a5 p h)) (fun h=>Xbb _ (b5 p h)), ?_⟩
  rw[Zjk,Xaj]at b6
  have hrec:vl e 10768 1 [.str (Zai 47 (D++ [x])),Zad S,objV L,objV A]=some (.tup [bl id1,objV L1,objV (A++N1)]):=by
   have hsk:=v.rskip (e:=e) S hS (D++ [x]) hD' (by omega) (entV []) (.str []) (objV L) (objV A) z32 a 0 (by omega) (fun i g1 g2=>by
    rintro⟨R',hR',hs'⟩
    exact hinv i (by omega) a (Xag _) (by omega) x R' R (by rw[hs'];simp) hs)
   rw[Xan]at hsk
   rw[w.zq28_h0];unfold y.zq28_h0
   simp only[yy,Zc7]
   exact hsk.trans a6
  have hnl: ¬x=Zo1 ls:=by
   intro hx
   rcases List.eq_nil_or_concat ls with rfl|⟨l0,y0,rfl⟩
   ·exact Zht u3 hx
   ·rw[List.concat_eq_append,Zjk]at hx
    have hup:=hes.up
    rw[List.concat_eq_append,Xaj,Xaj]at hup
    have:=Xb7.1 hup
    have:=(Xci.1 this.2.1).1 ⟨x,true,id1⟩ (by simp)
    simp only at this
    rw[hx,Zbu]at this;cases this
  have hne: ¬x=Zai 47 (x::R):=fun h=>by
   have:=Zgr u3
   rw[h,Zc1 _ _ _ hR]at this
   exact this (by simp)
  have hjn:=v.rJoin2 (e:=e) (Zai 47 D) x (Zht u3) (by omega) (by omega)
  rw[Zg7 hD]at hjn
  have hrr:=v.rrun (e:=e) S hS D hD (by omega) ls (by omega) x id1 (objV L1) (objV (A++N1)) z (k-1) (a+1) (by omega) (fun i g1 g2=>hrun i (by omega) (by omega))
  rw[show a+1+(k-1)=a+k by omega]at hrr
  have h40:vl e 10768 40 [.str (Zai 47 D),Zad S,entV ls, .str x,Zad S,I S.length,I a, .bool true,objV L,objV A,z]=some (.tup [bl id,objV L2,objV (A++(N1++N2))]):=by
   rw[w.zq28_h0_40];unfold y.zq28_h0_40
   simp only[yy,Zju,hjn,hrec,Zjo hid1,Zi0 (x:=⟨x,true,id1⟩) hid1,Zk4 (show ls.length+1<=Lim by unfold Lim;omega),Zam hlt (by omega)]
   exact hrr.trans b6
  rw[w.zq28_h0_12];unfold y.zq28_h0_12
  simp only[yy,if_pos (show(a:Int)<(S.length:Int)by omega),Zc5 hlt,Zgp,Zca,Zep,u1,u2,Zof,Zdw,if_neg hne,if_neg hnl]
  exact h40
end
end Go.Proofs.YtpmgdngjbdkdfaaGreatDoor
namespace Go.Proofs.YtpmgdngjbdkdfaaGreatDoor
open Go.Abs
set_option maxRecDepth 10000
variable {e:Ev}
theorem Z34 {l:List Fi}(h:whyB l=0):l.length<=512/\Znm l/\ ∀f∈l,f.2.length<=32768:=by
 unfold whyB at h
 split at h
 ·cases h
 ·rename_i h1
  split at h
  ·rename_i h2
   split at h
   ·rename_i h3
    exact⟨by omega,(Zq2 l).1 h2,h3⟩
   ·cases h
  ·cases h
theorem v.rSortedOK (he:EnvT e){l S:List Fi}(hl:l.length<=1000000)(hb:∀f∈l,f.1.length<=1000000)(h0:whyB l=0)(hp:S.Perm l)(hS:SoOK S):vl e 11 0 [Zad l]=some (Zad S):=by
 obtain⟨R,r1,r2,r3⟩:=v.rSorted he l hl hb
 obtain⟨k1,k2,k3⟩:=Z34 h0
 have hR:SoOK R:=Z5j r2 ((Zln r1).2 k2) (fun f hf=>k3 f (r1.mem_iff.1 hf)) (by rw[r1.length_eq];exact k1)
 rw[r3,Zms hR hS (r1.trans hp.symm)]
theorem v.rBuild (he:EnvT e){l S:List Fi}(hl:l.length<=1000000)(hb:∀f∈l,f.1.length<=1000000/\f.2.length<=1000000000)(h0:whyB l=0)(hp:S.Perm l)(hS:SoOK S){id:Bytes}{p1 p2:MB}(ht:Tr S [] 0 S.length [] id p1 p2)(L A:List Obj)(hL:idL L)(h1:L.length+(p1.length+p2.length)<=100000)(h2:A.length+(p1.length+p2.length)<=100000):
  ∃L' N:List Obj,idL L'/\idL N/\N.length=p1.length+p2.length/\L'.length<=L.length+N.length/\(∀p∈p1,(⟨Za8,p.1,p.2⟩:Obj)∈N)/\(∀p∈p2,(⟨Za1,p.1,p.2⟩:Obj)∈N)/\
   vl e 10384 1 [Zad l,objV L,objV A]=some (.tup [bl id,I 0,objV L',objV (A++N)]):=by
 obtain⟨L',N,q1,q2,q3,q4,q5,q6,q7⟩:=v.rbelow (e:=e) S hS ht (Xag _) (fun u hu=>by cases hu) (by simp[Zai]) (fun i _ hi=>⟨pS S i,Zbe _ _,rfl⟩) (fun i g1 g2=>by omega) (fun i g1=>by omega) L A z32 hL h1 h2
 have hw:=v.why (e:=e) l hl hb
 rw[h0]at hw
 have hid:id.length=32:=ht.ok hS
 have hbel:vl e 10768 1 [.str [],Zad S,objV L,objV A]=some (.tup [bl id,objV L',objV (A++N)]):=by
  rw[w.zq28_h0];unfold y.zq28_h0
  simp only[yy,Zc7]
  exact q7
 refine⟨L',N,q1,q2,q3,q4,q5,q6, ?_⟩
 rw[w.zq25_h0];unfold y.zq25_h0
 simp only[yy,hw,v.rSortedOK he hl (fun f hf=>(hb f hf).1) h0 hp hS,hbel,Za3 hid]
 rfl
theorem Z00 {l:List Obj}{i:Nat}(h:i<=l.length):evp (.slc 34 false true false) [objV l,I i]=some (objV (l.take i)):=by
 rw[objV,Zzd (by simpa using h),objV,Xdw]
section
variable (A:List Obj)(hA:idL A)(hAl:A.length<=1000000)
include hA hAl
theorem v.twice22 (i:Nat)(hi:i<A.length)(L:V):∀(n j:Nat),j+n=i->
  vl e 10496 22 [objV A,I A.length,I i,objV (A.take i),I i,I j,L,objV A,ov A[i]]=vl e 10496 8 [objV A,I A.length,I (i+1:Nat),L,objV A]/\(∀k (h:k<A.length),j<=k->k<i->A[i].kind=A[k].kind->A[i].id=A[k].id->A[i].data=A[k].data) \/
  vl e 10496 22 [objV A,I A.length,I i,objV (A.take i),I i,I j,L,objV A,ov A[i]]=some (.tup [.bool true,L,objV A]):=by
 intro n
 have hidi:=hA _ (Xau hi)
 induction n with
 |zero=>
  intro j hj
  have:j=i:=by omega
  subst this
  refine .inl ⟨?_,fun k _ h1 h2=>by omega⟩
  rw[w.zq27_h0_22];unfold y.zq27_h0_22
  simp only[yy,if_neg (show ¬((j:Int)<(j:Int))by omega),Zam hi (by omega)]
 |succ n ih=>
  intro j hj
  have hlt:j<A.length:=by omega
  have hjt:j<(A.take i).length:=by rw[Xbr];omega
  have hidj:=hA _ (Xau hlt)
  have hg:=Zns hjt
  rw[List.getElem_take]at hg
  have hnx:=Zam (show j<i by omega) (by omega)
  have hih:=ih (j+1) (by omega)
  have ext:(A[i].kind=A[j].kind->A[i].id=A[j].id->A[i].data=A[j].data)->(∀k (h:k<A.length),j+1<=k->k<i->A[i].kind=A[k].kind->A[i].id=A[k].id->A[i].data=A[k].data)->(∀k (h:k<A.length),j<=k->k<i->A[i].kind=A[k].kind->A[i].id=A[k].id->A[i].data=A[k].data):=by
   intro h0 h1 k hk h2 h3
   rcases Xbm h2 with h|rfl
   ·exact h1 k hk h h3
   ·exact h0
  rw[w.zq27_h0_22];unfold y.zq27_h0_22
  by_cases hk:A[i].kind=A[j].kind
  ·by_cases hd:A[i].id=A[j].id
   ·by_cases hx:A[i].data=A[j].data
    ·simp only[yy,if_pos (show(j:Int)<(i:Int)by omega),hg,Zn7 hidj,Zh6 hidj,Zp5,if_pos hk,Zh8 hidi,Zh8 hidj,Zpq hidi hidj,if_pos hd,Zsa hidi,Zsa hidj,if_pos hx,hnx]
     exact hih.imp (fun h=>⟨h.1,ext (fun _ _=>hx) h.2⟩) id
    ·right
     simp only[yy,if_pos (show(j:Int)<(i:Int)by omega),hg,Zn7 hidj,Zh6 hidj,Zp5,if_pos hk,Zh8 hidi,Zh8 hidj,Zpq hidi hidj,if_pos hd,Zsa hidi,Zsa hidj,if_neg hx]
   ·simp only[yy,if_pos (show(j:Int)<(i:Int)by omega),hg,Zn7 hidj,Zh6 hidj,Zp5,if_pos hk,Zh8 hidi,Zh8 hidj,Zpq hidi hidj,if_neg hd,hnx]
    exact hih.imp (fun h=>⟨h.1,ext (fun _ h=>absurd h hd) h.2⟩) id
  ·simp only[yy,if_pos (show(j:Int)<(i:Int)by omega),hg,Zn7 hidj,Zh6 hidj,Zp5,if_neg hk,hnx]
   exact hih.imp (fun h=>⟨h.1,ext (fun h=>absurd h hk) h.2⟩) id
theorem v.twice8 (L:V):∀(n i:Nat),i+n=A.length-> ∃t:Bool,vl e 10496 8 [objV A,I A.length,I i,L,objV A]=some (.tup [.bool t,L,objV A])/\(t=false-> ∀j (h:j<A.length),i<=j-> ∀k (h':k<A.length),k<j->A[j].kind=A[k].kind->A[j].id=A[k].id->A[j].data=A[k].data):=by
 intro n
 induction n with
 |zero=>
  intro i hi
  refine⟨false, ?_,fun _ j h1 h2=>by omega⟩
  rw[w.zq27_h0_8];unfold y.zq27_h0_8
  simp only[yy,if_neg (show ¬((i:Int)<(A.length:Int))by omega)]
 |succ n ih=>
  intro i hi
  have hlt:i<A.length:=by omega
  have hid:=hA _ (Xau hlt)
  have hl:evp (.len false) [objV (A.take i)]=some (I i):=by rw[Zur,Xbr,Xfo (by omega)]
  rw[w.zq27_h0_8];unfold y.zq27_h0_8
  simp only[yy,if_pos (show(i:Int)<(A.length:Int)by omega),Zns hlt,Zn7 hid,Zh6 hid,Z00 (show i<=A.length by omega),hl]
  rcases v.twice22 (e:=e) A hA hAl i hlt L i 0 (Xan _)with⟨h1,h2⟩|h1
  ·obtain⟨t,t1,t2⟩:=ih (i+1) (by omega)
   refine⟨t,h1.trans t1,fun ht j hj hij k hk hkj=> ?_⟩
   rcases Xbm hij with h|rfl
   ·exact t2 ht j hj h k hk hkj
   ·exact h2 k hk (Xbw _) hkj
  ·exact⟨true,h1,fun h=>by cases h⟩
end
theorem Ztn {A:List Obj}(h:∀j (h:j<A.length), ∀k (h':k<A.length),k<j->A[j].kind=A[k].kind->A[j].id=A[k].id->A[j].data=A[k].data)(K:Bytes)(P:MB)(hP:∀p∈P,(⟨K,p.1,p.2⟩:Obj)∈A):Cons P:=by
 intro p hp q hq hpq
 obtain⟨i,hi,h1⟩:=Xb3.1 (hP p hp)
 obtain⟨j,hj,h2⟩:=Xb3.1 (hP q hq)
 rcases Xbx i j with hij|rfl|hij
 ·have:=h j hj i hi hij (by rw[h1,h2]) (by rw[h1,h2];exact hpq.symm)
  rw[h1,h2]at this;exact this.symm
 ·rw[h1]at h2
  simp only[Obj.mk.injEq]at h2
  exact h2.2.2
 ·have:=h i hi j hj hij (by rw[h1,h2]) (by rw[h1,h2];exact hpq)
  rw[h1,h2]at this;exact this
end Go.Proofs.YtpmgdngjbdkdfaaGreatDoor
namespace Go.Proofs.YtpmgdngjbdkdfaaGreatDoor
open Go.Abs
set_option maxRecDepth 10000
variable {e:Ev}
theorem Zog (k x c:Bytes):∀M:MB,getM (putM M k x) c=if c=k then some x else getM M c
 | []=>rfl
 |p::r=>by
  unfold putM
  by_cases h:k=p.1
  ·rw[if_pos h]
   show(if c=k then some x else getM r c)=_
   by_cases hc:c=k
   ·rw[if_pos hc,if_pos hc]
   ·rw[if_neg hc,if_neg hc]
    show _=if c=p.1 then some p.2 else getM r c
    rw[if_neg (by rw[<-h];exact hc)]
  ·rw[if_neg h]
   show(if c=p.1 then some p.2 else getM (putM r k x) c)=_
   rw[Zog k x c r]
   by_cases hc:c=k
   ·rw[if_pos hc,if_pos hc,if_neg (by rw[hc];exact h)]
   ·rw[if_neg hc,if_neg hc];rfl
theorem Zmo {k x:Bytes}:∀{P M:MB},(∀q∈P,q.1=k->q.2=x)->(getM M k=some x \/ ∃q∈P,q.1=k)->getM (Zdf P M) k=some x
 | [],M,_,h=>h.elim id fun⟨q,hq,_⟩=>by cases hq
 |q::r,M,h1,h2=>by
  show getM (Zdf r (putM M q.1 q.2)) k=_
  refine Zmo (fun p hp=>h1 p (Xbk _ hp)) ?_
  rw[Zog]
  by_cases hk:k=q.1
  ·left;rw[if_pos hk,h1 q Xcr hk.symm]
  ·rw[if_neg hk]
   rcases h2 with h2|⟨p,hp,hpk⟩
   ·exact .inl h2
   ·rcases Xa0.1 hp with rfl|hp
    ·exact absurd hpk.symm hk
    ·exact .inr ⟨p,hp,hpk⟩
theorem Zqf {P:MB}(c:Cons P){q:Bytes×Bytes}(hq:q∈P)(M:MB):getM (Zdf P M) q.1=some q.2:=
 Zmo (fun p hp h=>c p hp q hq h) (.inr ⟨q,hq,rfl⟩)
abbrev Inp :=Bytes×Bytes
def iv (x:Inp):V:= .agg (.str x.1::x.2.map byteV)
abbrev inpV (l:List Inp):V:= .sl false 33 (l.map iv)
theorem Zfz {x:Inp}(h:x.2.length=32):(iv x).cells.length=33/\(iv x).cells.all V.sc=true:=by
 refine⟨by simp[iv,V.cells,h], ?_⟩
 show(V.str x.1::x.2.map byteV).all V.sc=true
 rw[Xcu,Zqi];rfl
theorem Z56 {x:Inp}(h:x.2.length=32):evp (.bsl 33) [iv x]=some (inpV [x]):=by
 obtain⟨hl,hs⟩:=Zfz h
 have:fits 33 [iv x]=true:=by simp[fits,hl];exact Xal.1 hs
 show(if fits 33 [iv x]then some (V.sl false 33 [iv x])else none)=_
 rw[this];rfl
theorem Z4x {l m:List Inp}(h:l.length+m.length<=Lim):evp (.app 33) [inpV l,inpV m]=some (inpV (l++m)):=by
 rw[inpV,inpV,Zlm (by simpa using h),inpV,Xcs]
theorem Zzh {x:En}(h:x.id.length=32):evp (.ld (some 32) 2) [ev x]=some (bl x.id):=by
 show Zak (some 32) (ev x).cells 2=_
 simp only[Zak]
 rw[if_pos (by rw[Zkx h];omega)]
 show some (V.agg ((x.id.map byteV).take 32))=_
 rw[Xaw (by simp[h])]
def fOut (S:List Fi)(i:Nat):Inp:=((S.getD i ([],[])).1,Zaq Za8 (S.getD i ([],[])).2)
def outs (S:List Fi)(a b:Nat):List Inp:=(List.range' a (b-a)).map (fOut S)
theorem Zvc (S:List Fi)(a:Nat):outs S a a=[]:=by simp[outs]
theorem Zui {S:List Fi}{a b:Nat}(h:a<b):outs S a b=fOut S a::outs S (a+1) b:=by
 unfold outs
 rw[show b-a=(b-(a+1))+1 by omega,Xd8];rfl
theorem Zxr {S:List Fi}{a m b:Nat}(h1:a<=m)(h2:m<=b):outs S a b=outs S a m++outs S m b:=by
 unfold outs
 rw[<-Xcs]
 have:=List.range'_append_1 (s:=a) (m:=m-a) (n:=b-m)
 rw[show a+(m-a)=m by omega,show m-a+(b-m)=b-a by omega]at this
 rw[this]
theorem Zij (S:List Fi)(a b:Nat):(outs S a b).length=b-a:=by simp[outs]
theorem v.TreeS (he:EnvT e){M2:MB}(hM:keyL M2)(m1 m3:V){id:Bytes}(hid:id.length=32){l:List En}(hl:EnOK l)(hg:getM M2 id=some (Zan l)):vl e 11056 1 [bl id,m1,mv M2,m3]=some (.tup [entV l,I 0,m1,mv M2,m3]):=by
 have h1:=Z1z (M:=M2) (k:=id) hM hid
 rw[hg]at h1
 simp only[Xb1,Xdc]at h1
 rw[w.zq37_h0];unfold y.zq37_h0
 simp only[yy,Zjd,Zn4 hid,h1,v.getTree he l hl]
theorem v.walk1 (he:EnvT e){M2:MB}(hM:keyL M2)(m1 m3 at_ out left:V){id:Bytes}(hid:id.length=32){l:List En}(hl:EnOK l)(hg:getM M2 id=some (Zan l)){lvl:Nat}(hlv:lvl<=16):
  vl e 10704 1 [at_,bl id,I lvl,out,left,m1,mv M2,m3]=vl e 10704 26 [at_,I lvl,entV l,I l.length,I (0:Nat),out,left,m1,mv M2,m3]:=by
 rw[w.zq39_h0];unfold y.zq39_h0
 simp only[yy,Zjd,Zn4 hid,if_neg (show ¬(16:Int)<(lvl:Int)by omega),v.TreeS he hM m1 m3 hid hl hg,Zko]
 rfl
theorem Tr.walk (he:EnvT e){S:List Fi}(hS:SoOK S){M2:MB}(hM:keyL M2)(m1 m3:V){D:List Bytes}{a b:Nat}{ls:List En}{id:Bytes}{p1 p2:MB}(h:Tr S D a b ls id p1 p2):
  (∀q∈p2,getM M2 q.1=some q.2)->b<=S.length->(∀u∈D,Zbl u=true)->(Zai 47 D).length<=128->
  ∃es,EnOK (ls++es)/\getM M2 id=some (Zan (ls++es))/\a<=b/\ ∀(out:List Inp) (left:Nat),p1.length+p2.length<=left+1->left<=5000->out.length+(b-a)<=100000->
   vl e 10704 26 [.str (Zai 47 D),I (D.length+1:Nat),entV (ls++es),I (ls++es).length,I ls.length,inpV out,I left,m1,mv M2,m3]=
    some (.tup [I 0,inpV (out++outs S a b),I (left+1-(p1.length+p2.length):Nat),m1,mv M2,m3]):=by
 induction h with
 | @done D a ls hok=>
  intro hg hb hD hjl
  refine⟨[],by rw[Xao];exact hok,by rw[Xao];exact hg _ (Xa1.2 rfl),Xag _,fun out left h1 h2 h3=> ?_⟩
  rw[Xao,Zvc,Xao,w.zq39_h0_26];unfold y.zq39_h0_26
  simp only[yy,if_neg (show ¬((ls.length:Int)<(ls.length:Int))by omega)]
  rfl
 | @blob D a b ls x id p1 p2 hab hx h ih=>
  intro hg hb hD hjl
  obtain⟨es,q1,q2,q3,q4⟩:=ih hg hb hD hjl
  have hlt:a<S.length:=by omega
  have hpa:=Zg6 S hS hlt
  rw[hx]at hpa
  have hxp:Zbl x=true:=hpa x (by simp)
  have hpl:=Zes S hS hlt
  have hxl:x.length<=128:=by
   have:=Zbf 47 (show x∈Zae 47 (S.getD a ([],[])).1 by rw[<-pS,hx];simp)
   omega
  have e0:ls++⟨x,false,Zaq Za8 (S.getD a ([],[])).2⟩::es=(ls++ [⟨x,false,Zaq Za8 (S.getD a ([],[])).2⟩])++es:=by simp
  refine⟨⟨x,false,Zaq Za8 (S.getD a ([],[])).2⟩::es,by rw[e0];exact q1,by rw[e0];exact q2,by omega,fun out left h1 h2 h3=> ?_⟩
  obtain⟨_,f1,f2⟩:=h.fin
  have hp2:0<p2.length:=Xek f2
  simp only[Xax]at h1
  have hn:=Zag Za8 (S.getD a ([],[])).2
  have hq:=q4 (out++ [fOut S a]) (left-1) (by omega) (by omega) (by simp;omega)
  rw[show(out++ [fOut S a])++outs S (a+1) b=out++outs S a b by rw[Zui hab];simp]at hq
  rw[e0]
  have hll:ls.length<((ls++ [(⟨x,false,Zaq Za8 (S.getD a ([],[])).2⟩:En)])++es).length:=by simp
  have hge:=Zge hll
  have hat:((ls++ [(⟨x,false,Zaq Za8 (S.getD a ([],[])).2⟩:En)])++es)[ls.length]=⟨x,false,Zaq Za8 (S.getD a ([],[])).2⟩:=by
   rw[Xcj (by simp)];simp
  rw[hat]at hge
  have hle:evp (.ld (some 34) 0) [ev ⟨x,false,Zaq Za8 (S.getD a ([],[])).2⟩]=some (ev ⟨x,false,Zaq Za8 (S.getD a ([],[])).2⟩):=Zmv hn
  have hce:evp (.cat [some 34]) [ev ⟨x,false,Zaq Za8 (S.getD a ([],[])).2⟩]=some (ev ⟨x,false,Zaq Za8 (S.getD a ([],[])).2⟩):=Zhw hn
  have hie:evp (.ld (some 32) 2) [ev ⟨x,false,Zaq Za8 (S.getD a ([],[])).2⟩]=some (bl (Zaq Za8 (S.getD a ([],[])).2)):=Zzh hn
  have hjn:=v.Join2 he (Zai 47 D) x (Zht hxp) (by omega) (by omega)
  rw[Zg7 hD]at hjn
  have hpath:Zai 47 (D++ [x])=(S.getD a ([],[])).1:=by rw[<-hx];exact Za5 47 _
  rw[hpath]at hjn
  have hp1:IntKind.i64.wrap ((left:Int)-1)=((left-1:Nat):Int):=Zjr (by omega) (by omega)
  have hnx:IntKind.i64.wrap ((ls.length:Int)+1)=((ls++ [(⟨x,false,Zaq Za8 (S.getD a ([],[])).2⟩:En)]).length:Int):=by
   rw[Xaf,Xc1]
   have:=q1.len
   exact Zam (show ls.length<ls.length+1 by omega) (by simp at this;omega)
  rw[w.zq39_h0_26];unfold y.zq39_h0_26
  simp only[yy,if_pos (show(ls.length:Int)<(((ls++ [(⟨x,false,Zaq Za8 (S.getD a ([],[])).2⟩:En)])++es).length:Int)by omega),hge,hle,hce,if_neg (show ¬(left:Int)=0 by omega),hp1,Zmi,Zju,hjn,Zo8,hie,Zvi hn,hnx]
  rw[show V.agg (.str (S.getD a ([],[])).1::(Zaq Za8 (S.getD a ([],[])).2).map byteV)=iv (fOut S a)from rfl]
  simp only[yy,Z56 (x:=fOut S a) hn,Z4x (l:=out) (m:=[fOut S a]) (by unfold Lim;simp;omega)]
  rw[hq]
  simp only[Xax]
  congr 6
  omega
 | @dir D a b k ls x id id1 p1 p2 r1 r2 hk hkb hrun hstop h1 h2 ih1 ih2=>
  intro hg hb hD hjl
  have hlt:a<S.length:=by omega
  obtain⟨R,hR,hs⟩:=hrun a (Xag _) (by omega)
  have hpa:=Zg6 S hS hlt
  rw[hs]at hpa
  have hxp:Zbl x=true:=hpa x (by simp)
  have hpl:=Zes S hS hlt
  have hxl:x.length<=128:=by
   have:=Zbf 47 (show x∈Zae 47 (S.getD a ([],[])).1 by rw[<-pS,hs];simp)
   omega
  have hD':∀u∈D++ [x],Zbl u=true:=fun u hu=>(Xay.1 hu).elim (hD u) (fun h=>by rw[Xa1.1 h];exact hxp)
  have hjl':(Zai 47 (D++ [x])).length<=128:=by
   have hj:=Za5 47 (S.getD a ([],[])).1
   rw[<-pS,hs,show D++x::R=(D++ [x])++R by simp,Zdu 47 (D++ [x]) R (by simp) hR]at hj
   have:=congrArg List.length hj
   simp only[Xaf,Xax]at this
   omega
  have h16:D.length+2<=16:=by
   have hgd:=hS.good _ (Xau hlt)
   simp only[Zc8,Xai,decide_eq_true_eq]at hgd
   have h16:=hgd.1.2
   have hps:pS S a=Zae 47 S[a].1:=by unfold pS;rw[Zaz hlt]
   rw[<-hps,hs]at h16
   have:=Xaz.2 hR
   simp at h16;omega
  obtain⟨es1,u1,u2,u3,u4⟩:=ih1 (fun q hq=>hg q (Xbo _ hq)) (by omega) hD' hjl'
  obtain⟨es,q1,q2,q3,q4⟩:=ih2 (fun q hq=>hg q (Xbb _ hq)) hb hD hjl
  rw[Xba]at u1 u2 u4
  have hn:id1.length=32:=h1.ok hS
  have e0:ls++⟨x,true,id1⟩::es=(ls++ [⟨x,true,id1⟩])++es:=by simp
  refine⟨⟨x,true,id1⟩::es,by rw[e0];exact q1,by rw[e0];exact q2,by omega,fun out left g1 g2 g3=> ?_⟩
  obtain⟨_,_,f2⟩:=h1.fin
  obtain⟨_,_,f4⟩:=h2.fin
  have hp2:0<p2.length:=Xek f2
  have hr2:0<r2.length:=Xek f4
  simp only[Xaf]at g1
  have hq1:=u4 out (left-1) (by omega) (by omega) (by omega)
  have hq:=q4 (out++outs S a (a+k)) (left-1+1-(p1.length+p2.length)) (by omega) (by omega) (by rw[Xaf,Zij];omega)
  rw[show(out++outs S a (a+k))++outs S (a+k) b=out++outs S a b by rw[Zxr (show a<=a+k by omega) hkb];simp]at hq
  rw[e0]
  have hll:ls.length<((ls++ [(⟨x,true,id1⟩:En)])++es).length:=by simp
  have hge:=Zge hll
  have hat:((ls++ [(⟨x,true,id1⟩:En)])++es)[ls.length]=⟨x,true,id1⟩:=by
   rw[Xcj (by simp)];simp
  rw[hat]at hge
  have hle:evp (.ld (some 34) 0) [ev ⟨x,true,id1⟩]=some (ev ⟨x,true,id1⟩):=Zmv hn
  have hce:evp (.cat [some 34]) [ev ⟨x,true,id1⟩]=some (ev ⟨x,true,id1⟩):=Zhw hn
  have hie:evp (.ld (some 32) 2) [ev ⟨x,true,id1⟩]=some (bl id1):=Zzh hn
  have hjn:=v.Join2 he (Zai 47 D) x (Zht hxp) (by omega) (by omega)
  rw[Zg7 hD]at hjn
  have hp1:IntKind.i64.wrap ((left:Int)-1)=((left-1:Nat):Int):=Zjr (by omega) (by omega)
  have hlv1:IntKind.i64.wrap (((D.length+1:Nat):Int)+1)=(((D++ [x]).length+1:Nat):Int):=by
   rw[Xaf,Xc1]
   exact Zam (show D.length+1<64 by omega) (by decide)
  have hnx:IntKind.i64.wrap ((ls.length:Int)+1)=((ls++ [(⟨x,true,id1⟩:En)]).length:Int):=by
   rw[Xaf,Xc1]
   have:=q1.len
   exact Zam (show ls.length<ls.length+1 by omega) (by simp at this;omega)
  have hrec:vl e 10704 1 [.str (Zai 47 (D++ [x])),bl id1,I ((D++ [x]).length+1:Nat),inpV out,I (left-1:Nat),m1,mv M2,m3]=some (.tup [I 0,inpV (out++outs S a (a+k)),I (left-1+1-(p1.length+p2.length):Nat),m1,mv M2,m3]):=by
   rw[v.walk1 he hM m1 m3 _ _ _ hn u1 u2 (by simp;omega)]
   exact hq1
  rw[w.zq39_h0_26];unfold y.zq39_h0_26
  simp only[yy,if_pos (show(ls.length:Int)<(((ls++ [(⟨x,true,id1⟩:En)])++es).length:Int)by omega),hge,hle,hce,if_neg (show ¬(left:Int)=0 by omega),hp1,Zmi,Zju,hjn,Zo8,hie,hlv1,hrec,hnx]
  rw[hq,show left-1+1-(List.length p1+List.length p2)+1-(List.length r1+List.length r2)=left+1-(List.length (p1++r1)+List.length (p2++r2))by simp only[Xaf];omega]
  exact if_pos trivial
theorem Tr.blobs {S:List Fi}{D:List Bytes}{a b:Nat}{ls:List En}{id:Bytes}{p1 p2:MB}(h:Tr S D a b ls id p1 p2):∀i,a<=i->i<b->(Zaq Za8 (S.getD i ([],[])).2,(S.getD i ([],[])).2)∈p1:=by
 induction h with
 |done=>intro i h1 h2;omega
 |blob _ _ _ ih=>
  intro i h1 h2
  rcases Xbm h1 with h|rfl
  ·exact Xbk _ (ih i h h2)
  ·exact Xcr
 | @dir D a b k ls x id id1 p1 p2 r1 r2 hk hkb hrun hstop h1 h2 ih1 ih2=>
  intro i g1 g2
  by_cases hi:i<a+k
  ·exact Xbo _ (ih1 i g1 hi)
  ·exact Xbb _ (ih2 i (by omega) g2)
theorem v.FilesS (he:EnvT e){S:List Fi}(hS:SoOK S){M2:MB}(hM:keyL M2)(m1 m3:V){id:Bytes}{p1 p2:MB}(h:Tr S [] 0 S.length [] id p1 p2)(hg:∀q∈p2,getM M2 q.1=some q.2)(hl:p1.length+p2.length<=4097):
  vl e 10288 1 [bl id,m1,mv M2,m3]=some (.tup [inpV (outs S 0 S.length),I 0,m1,mv M2,m3]):=by
 obtain⟨es,u1,u2,u3,u4⟩:=h.walk he hS hM m1 m3 hg (Xag _) (fun u hu=>by cases hu) (by simp[Zai])
 have hid:=h.ok hS
 have hsl:=hS.len
 rw[Xba]at u1 u2 u4
 have hw:vl e 10704 1 [.str [],bl id, .int .i64 1, .sl false 33 [], .int .i64 4096,m1,mv M2,m3]=some (.tup [I 0,inpV ([]++outs S 0 S.length),I (4096+1-(p1.length+p2.length):Nat),m1,mv M2,m3]):=by
  rw[<-u4 [] 4096 (by omega) (by omega) (by simp;omega)]
  exact v.walk1 he hM m1 m3 _ _ _ hid u1 u2 (lvl:=1) (by omega)
 rw[Xba]at hw
 rw[w.zq33_h0];unfold y.zq33_h0
 simp only[yy,Zjd,Zn4 hid,hw]
 rfl
end Go.Proofs.YtpmgdngjbdkdfaaGreatDoor
namespace Go.Proofs.YtpmgdngjbdkdfaaGreatDoor
open Go.Abs
set_option maxRecDepth 10000
variable {e:Ev}
theorem v.clash1 (he:EnvT e){a Sa:List Fi}(ha:a.length<=1000000/\ ∀f∈a,f.1.length<=1000000/\f.2.length<=1000000000)(wa:whyB a=0)(hpa:Sa.Perm a)(hSa:SoOK Sa)
  {id:Bytes} {p1 p2:MB} (ta:Tr Sa [] 0 Sa.length [] id p1 p2) (hla:p1.length+p2.length<=20000):
  ∃t:Bool,vl e 10 0 [.sl false 1 [Zad a]]=some (.bool t)/\(t=false->Cons p1/\Cons p2):=by
 obtain⟨L1,N1,a1,a2,a3,a4,a5,a6,a7⟩:=v.rBuild he ha.1 ha.2 wa hpa hSa ta [] [] (fun _ h=>by cases h) (by simp;omega) (by simp;omega)
 rw[Xba]at a7
 obtain⟨t,t1,t2⟩:=v.twice8 (e:=e) N1 a2 (by omega) (objV L1) N1.length 0 (Xan _)
 have g0:evp (.elem 1) [.sl false 1 [Zad a], .int .i64 0]=some (Zad a):=rfl
 have gl:∀l:List Fi,evp (.ld none 0) [Zad l]=some (Zad l):=fun _=>rfl
 have c1:vl e 10 10 [.sl false 1 [Zad a], .int .i64 1, .int .i64 1,objV L1,objV N1]=some (.bool t):=by
  have hT:vl e 10496 1 [objV L1,objV N1]=some (.tup [.bool t,objV L1,objV N1]):=by
   rw[w.zq27_h0];unfold y.zq27_h0
   simp only[yy,Zur]
   exact t1
  rw[w.zq59_10];unfold y.zq59_10
  have l1:evp (.bin .lss .no) [.int .i64 1, .int .i64 1]=some (.bool false):=rfl
  simp only[pr,l1,Xak]
  simp only[yy,hT]
 have c0:vl e 10 10 [.sl false 1 [Zad a], .int .i64 1, .int .i64 0,objV [],objV []]=some (.bool t):=by
  have l1:evp (.bin .lss .no) [.int .i64 0, .int .i64 1]=some (.bool true):=rfl
  have l2:evp (.bin .add .no) [.int .i64 0, .int .i64 1]=some (.int .i64 1):=rfl
  rw[w.zq59_10];unfold y.zq59_10
  simp only[pr,l1,l2,Xak]
  simp only[yy,g0,gl,a7]
  exact c1
 refine⟨t, ?_,fun ht=> ?_⟩
 ·rw[w.zq59];unfold y.zq59
  exact c0
 ·have hall:=fun j hj k hk=>t2 ht j hj (Xbw _) k hk
  exact⟨Ztn hall Za8 _ a5,Ztn hall Za1 _ a6⟩
theorem Zxi {l m:List Fi}(h:l.Perm m):whyB l=whyB m:=by
 have h1:(∀i,i<l.length->okI l i)<-> ∀i,i<m.length->okI m i:=(Zq2 l).trans ((Zln h).trans (Zq2 m).symm)
 have h2:(∀f∈l,f.2.length<=32768)<-> ∀f∈m,f.2.length<=32768:=⟨fun q f hf=>q f (h.mem_iff.2 hf),fun q f hf=>q f (h.mem_iff.1 hf)⟩
 unfold whyB
 rw[<-h.length_eq]at h1⊢
 simp only[h2]
 by_cases hc:512<l.length
 ·rw[if_pos hc,if_pos hc]
 ·rw[if_neg hc,if_neg hc]
  by_cases hk:∀i,i<l.length->okI l i
  ·rw[if_pos hk,if_pos (h1.1 hk)]
  ·rw[if_neg hk,if_neg (fun q=>hk (h1.2 q))]
theorem v.Blb (d:Bytes)(hd:d.length<=1000000):vl e 22 0 [.str d]=some (bl (Zaq Za8 d)):=by
 rw[w.zq10];unfold y.zq10
 have:=v.shaSum (e:=e) Za8 d (by decide) (by omega)
 simp only[yy,Zg0]
 rw[show V.str [98,108,111,98]= .str Za8 from rfl,this]
 simp only[Xak,Za3 (Zag _ _)]
theorem v.BlobS {M1:MB}(hM:keyL M1)(m2 m3:V){id d:Bytes}(hid:id.length=32)(hg:getM M1 id=some d):vl e 10336 1 [bl id,mv M1,m2,m3]=some (.tup [.str d,I 0,mv M1,m2,m3]):=by
 have h1:=Z1z (M:=M1) (k:=id) hM hid
 rw[hg]at h1
 simp only[Xb1,Xdc]at h1
 rw[w.zq30_h0];unfold y.zq30_h0
 simp only[yy,Zjd,Zn4 hid,h1]
theorem Z5h {l:List Inp}{i:Nat}(h:i<l.length):evp (.elem 33) [inpV l,I i]=some (iv l[i]):=Zgf (by simp[h])
theorem Zy8 {l:List Inp}:evp (.len false) [inpV l]=some (I l.length):=by rw[inpV,Zs1,Xcf]
theorem Z3l {x:Inp}(h:x.2.length=32):evp (.ld (some 33) 0) [iv x]=some (iv x):=by
 show Zak (some 33) (iv x).cells 0=_
 simp only[Zak]
 rw[if_pos (by rw[(Zfz h).1];omega),Xbc,Xaw (by rw[(Zfz h).1];omega)];rfl
theorem Z2h {x:Inp}(h:x.2.length=32):evp (.cat [some 33]) [iv x]=some (iv x):=by
 show(catV [some 33] [iv x]).map V.agg=_
 simp only[catV]
 rw[if_pos ⟨(Zfz h).1,(Zfz h).2⟩]
 simp only[Xas,Xao];rfl
theorem Z4o {x:Inp}:evp (.ld none 0) [iv x]=some (.str x.1):=rfl
theorem Z6p {x:Inp}(h:x.2.length=32):evp (.ld (some 32) 1) [iv x]=some (bl x.2):=by
 show Zak (some 32) (iv x).cells 1=_
 simp only[Zak]
 rw[if_pos (by rw[(Zfz h).1];omega)]
 show some (V.agg ((x.2.map byteV).take 32))=_
 rw[Xaw (by simp[h])]
theorem Z5k (k:Int){n:Nat}(h0:0<n)(hn:n<=1000000):∃j:Nat,j<n/\ ∃u:Int,evp (.i2i .u64) [.int .i64 k]=some (.int .u64 u)/\ ∃r:Int,evp (.bin .rem .no) [.int .u64 u, .int .u64 n]=some (.int .u64 r)/\evp (.i2i .i64) [.int .u64 r]=some (I j):=by
 have hu:∃q:Nat,IntKind.u64.wrap k=q/\q<18446744073709551616:=by
  have:IntKind.u64.wrap k=k % 18446744073709551616:=by simp[IntKind.wrap,IntKind.signed,IntKind.bits]
  refine⟨(k % 18446744073709551616).toNat,by rw[this];omega,by omega⟩
 obtain⟨q,h1,h2⟩:=hu
 have hlt:=Nat.mod_lt q h0
 refine⟨q % n,hlt,(q:Int),by rw[<-h1];rfl,((q % n:Nat):Int), ?_, ?_⟩
 ·show(if(n:Int)=0 then none else some (V.int .u64 ((q:Int).tmod (n:Int))))=_
  rw[if_neg (by omega), <-Xft]
 ·exact Znr (by omega)
section
variable (a Sa:List Fi)(hS:SoOK Sa)(k:Int){M1 M2:MB}(hM1:keyL M1)(hg1:∀i,i<Sa.length->getM M1 (Zaq Za8 (Sa.getD i ([],[])).2)=some (Sa.getD i ([],[])).2)(m2 m3:V){id:Bytes}(hid:id.length=32)
include hS hM1 hg1
theorem v.back40 :∀(n i:Nat),i+n=Sa.length->vl e 5 40 [Zad a, .int .i64 k,Zad Sa,inpV (outs Sa 0 Sa.length),I Sa.length,I i,bl id,mv M1,m2,m3]=vl e 5 40 [Zad a, .int .i64 k,Zad Sa,inpV (outs Sa 0 Sa.length),I Sa.length,I Sa.length,bl id,mv M1,m2,m3]:=by
 intro n
 induction n with
 |zero=>intro i hi;rw[show i=Sa.length by omega]
 |succ n ih=>
  intro i hi
  have hlen:=hS.len
  have hlt:i<Sa.length:=by omega
  have hlo:i<(outs Sa 0 Sa.length).length:=by rw[Zij];omega
  have hat:(outs Sa 0 Sa.length)[i]=fOut Sa i:=by simp[outs]
  have hn:(fOut Sa i).2.length=32:=Zag _ _
  have hg:=Z5h hlo
  rw[hat]at hg
  have hd:(Sa.getD i ([],[])).2.length<=32768:=by rw[Zaz hlt];exact hS.data _ (Xau hlt)
  have hb:=v.BlobS (e:=e) hM1 m2 m3 hn (hg1 i hlt)
  have hB:=v.Blb (e:=e) (Sa.getD i ([],[])).2 (by omega)
  have hge:=Zc5 hlt
  have hge':Sa[i]=Sa.getD i ([],[]):=(Zaz hlt).symm
  rw[hge']at hge
  conv=>lhs;rw[w.zq40_40]
  unfold y.zq40_40
  simp only[yy,if_pos (show(i:Int)<(Sa.length:Int)by omega),hg,Z3l hn,Z2h hn,Z6p hn,hb,Z4o,hge,Zep,Zm2,hB,Z90 hn (Zag Za8 (Sa.getD i ([],[])).2),Zam hlt (by omega)]
  rw[ih (i+1) (by omega)]
  simp[fOut]
end
theorem q.treeBack (he:EnvT e)(a:List Fi)(ha:a.length<=1000000000/\ ∀f∈a,f.1.length<=1000000000/\f.2.length<=1000000000)(k:Int):
  vl e 5 0 [Zad a, .int .i64 k]=some (.bool true):=by
 have t15:vl e 5 15 [Zad a, .int .i64 k, .bool true]=some (.bool true):=by
  rw[w.zq40_15];rfl
 obtain⟨g1,hg1,hs1⟩:=v.great (e:=e) a ha.1 ha.2 40 4096 (by omega)
 have hg1:vl e 8 0 [Zad a, .int .i64 40, .int .i64 4096]=some (.bool g1):=hg1
 rw[w.zq40];unfold y.zq40
 cases g1 with
 |true=>simp only[yy,v.alive08 he,hg1];exact t15
 |false=>
 have na:=(hs1 rfl).1
 obtain⟨la,ba⟩:=Z8b (hs1 rfl).1 (by omega) (hs1 rfl).2
 have wa:=v.why (e:=e) a la ba
 simp only[yy,v.alive08 he,hg1,wa]
 by_cases h1:whyB a=0
 rotate_left
 ·rw[if_neg h1];exact t15
 rw[if_pos h1]
 by_cases h0:a.length=0
 ·simp only[yy,Zc7,if_pos (show(a.length:Int)=0 by omega)]
  exact t15
 obtain⟨id,p1,p2,a1,a2,a3,a4,a5,a6⟩:=v.Build he a la ba
 obtain⟨Sa,pa,oa,ta⟩:=a5 h1
 have hlen:Sa.length=a.length:=pa.length_eq
 have size:p1.length+p2.length<=4097:=by
  have k1:=(Z4u ta).2
  have k2:=Z10 (fun i hi=>by
   have:=oa.good _ (Xau hi)
   simp only[Zc8,Xai,decide_eq_true_eq]at this
   unfold pS;rw[Zaz hi];exact this.1.2) ta (Xag _) (fun i _ hi=>by
    have:=Xaz.2 (Zbe 47 (Sa.getD i ([],[])).1)
    simpa[pS]using this)
  simp only[Xa7]at k2
  omega
 obtain⟨t,c1,c2⟩:=v.clash1 he ⟨la,ba⟩ h1 pa oa ta (by omega)
 have sa:=v.rSortedOK he la (fun f hf=>(ba f hf).1) h1 pa oa
 have k0:keyL []:=fun _ h=>by cases h
 have x1:=a6 [] [] (mv []) k0 k0
 rw[h1]at x1
 have hbs:evp (.bsl 1) [Zad a]=some (.sl false 1 [Zad a]):=rfl
 simp only[yy,Zc7,if_neg (show ¬(a.length:Int)=0 by omega),hbs,c1]
 cases t with
 |true=>exact t15
 |false=>
 obtain⟨d1,d2⟩:=c2 rfl
 have kM1:=Zet a2 k0
 have kM2:=Zet a3 k0
 have hf:=v.FilesS he oa kM2 (mv (Zdf p1 [])) (mv []) ta (fun q hq=>Zqf d2 hq []) size
 have hblob:∀i,i<Sa.length->getM (Zdf p1 []) (Zaq Za8 (Sa.getD i ([],[])).2)=some (Sa.getD i ([],[])).2:=fun i hi=>Zqf d1 (q:=(Zaq Za8 (Sa.getD i ([],[])).2,(Sa.getD i ([],[])).2)) (ta.blobs i (Xbw _) hi) []
 --the second tree
 obtain⟨j,hj,u,u1,r,u2,u3⟩:=Z5k k (n:=a.length) (by omega) la
 have hrot:(a.drop j++a.take j).Perm a:=by
  have:=Xd4 (l₁:=a.drop j) (l₂:=a.take j)
  rw[Xbl]at this
  exact this
 have lr:(a.drop j++a.take j).length<=1000000:=by rw[hrot.length_eq];exact la
 have br:∀f∈a.drop j++a.take j,f.1.length<=1000000/\f.2.length<=1000000000:=fun f hf=>ba f (hrot.mem_iff.1 hf)
 obtain⟨id',q1,q2,b1,b2,b3,b4,b5,b6⟩:=v.Build he _ lr br
 have h2:whyB (a.drop j++a.take j)=0:=(Zxi hrot).trans h1
 obtain⟨Sb,pb,ob,tb⟩:=b5 h2
 have hSS:Sb=Sa:=Zms ob oa ((pb.trans hrot).trans pa.symm)
 subst hSS
 have hids:id'=id:=(tb.det ta).1
 subst hids
 have x2:=b6 [] [] (mv []) k0 k0
 rw[h2]at x2
 have uu:evp (.i2i .u64) [I a.length]=some (.int .u64 (a.length:Int)):=Zod (by omega)
 have q20:evp (.bsl 2) []=some (Zad []):=rfl
 have q21:=Zp0 (l:=a) (i:=j) (by omega)
 have q22:=Zh7 (l:=[]) (m:=a.drop j) (by unfold Lim;simp;omega)
 have q23:=Zqa (l:=a) (i:=j) (by omega)
 have q24:=Zh7 (l:=a.drop j) (m:=a.take j) (by unfold Lim;simp;omega)
 rw[Xba]at q22
 have hfin:vl e 5 40 [Zad a, .int .i64 k,Zad Sb,inpV (outs Sb 0 Sb.length),I Sb.length,I Sb.length,bl id',mv (Zdf p1 []),mv (Zdf p2 []),mv []]=some (.bool true):=by
  rw[w.zq40_40];unfold y.zq40_40
  simp only[yy,if_neg (show ¬(Sb.length:Int)<(Sb.length:Int)by omega),u1,Zc7,uu,u2,u3,v.New,q20,q21,q22,q23,q24,x2,Za3 b1,Zpq a1 a1]
  simp
 have h40:=v.back40 (e:=e) a Sb oa k kM1 hblob (mv (Zdf p2 [])) (mv []) (id:=id') Sb.length 0 (Xan _)
 have h31:vl e 5 31 [Zad a, .int .i64 k,inpV (outs Sb 0 Sb.length),Zad Sb, .bool false,bl id',mv (Zdf p1 []),mv (Zdf p2 []),mv []]=some (.bool true):=by
  rw[w.zq40_31];unfold y.zq40_31
  simp only[yy,Zy8,Zij]
  exact h40.trans hfin
 rw[w.zq40_15];unfold y.zq40_15
 simp only[yy,v.New,x1,Za3 a1,hf,sa,Zy8,Zc7,Zij]
 simp only[Nat.sub_zero,decide_true,Bool.not_true]
 exact h31
end Go.Proofs.YtpmgdngjbdkdfaaGreatDoor
namespace Go.Proofs.YtpmgdngjbdkdfaaGreatDoor
open Go.Abs
structure T.File where
 Path:Bytes
 Data:Bytes
 deriving DecidableEq
def C.File (x:T.File):List V:=[(V.str x.Path)]++ [(V.str x.Data)]
def E.File (x:T.File):V:= .agg (C.File x)
theorem E.File_clean (x:T.File):(E.File x).clean=true:=(Zbh (Zfg rfl rfl) (Zfg rfl rfl))
def E.LFile (l:(List T.File)):V:= .sl false 2 (l.map E.File)
end Go.Proofs.YtpmgdngjbdkdfaaGreatDoor
namespace Go.Proofs.YtpmgdngjbdkdfaaGreatDoor
open Go.ChangeShapes Go.WideShapes Go.RowKit Go.Abs
theorem ownK :ownKnob Tryz.prog.godebug=none:=by kernel_rfl
theorem kids :Kids Tryz.prog (· <Tryz.prog.types.size):=kids_rows (by kernel_rfl) (by kernel_rfl)
theorem full :∀t e,t<Tryz.prog.types.size->Tryz.prog.underlying t=some (.slice e)->0<Tryz.prog.cellsOf e:=slices_full_of Tryz.prog (by kernel_rfl)
section
variable {P:Program}{m:Nat}{t e:TypeId}{vs:List V}
theorem Z6b {k:IntKind}(hu:P.underlying t=some (.int k))(h:HasT P (m+1) t vs):∃x:Int,nfL vs=[V.int k x]:=by
 simp only[HasT,hu]at h
 obtain⟨n,rfl,_⟩:=h;exact⟨n,rfl⟩
theorem Z5d (hu:P.underlying t=some (.int .i64))(h:HasT P (m+1) t vs):∃x:Int,nfL vs=[V.int .i64 x]/\ -9223372036854775808<=x/\x<=9223372036854775807:=by
 simp only[HasT,hu]at h
 obtain⟨n,rfl,h1,h2⟩:=h;exact⟨n,rfl,h1,h2⟩
theorem Z6i (hu:P.underlying t=some .string)(h:HasT P (m+1) t vs):∃x:Bytes,nfL vs=[V.str x]:=by
 simp only[HasT,hu]at h
 obtain⟨b,rfl⟩:=h;exact⟨b,rfl⟩
theorem Z8a {α:Type}{E:α->V}{c:Nat}(hu:P.underlying t=some (.slice e))(hc:P.cellsOf e=c)(he:∀ws,HasT P m e ws-> ∃x,(elV P e ws).nf=E x)(h:HasT P (m+1) t vs):∃l:List α,nfL vs=[V.sl false c (l.map E)]:=by
 simp only[HasT,hu,hc]at h
 rcases h with rfl|⟨xs,rfl,hx⟩
 ·exact⟨[],rfl⟩
 ·have:∃l:List α,nfL xs=l.map E:=by
   clear hc
   induction xs with
   |nil=>exact⟨[],rfl⟩
   |cons x r ih=>
    obtain⟨l,hl⟩:=ih fun y hy=>hx y (by simp[hy])
    obtain⟨ws,hw,rfl⟩:=hx x (by simp)
    obtain⟨a,ha⟩:=he ws hw
    exact⟨a::l,by rw[nfL,ha,hl];rfl⟩
  obtain⟨l,hl⟩:=this
  exact⟨l,by show [V.sl false c (nfL xs)]=_;rw[hl]⟩
theorem Z48 (ha:Zeh P t=true){l:List V}(h:nfL vs=l):(elV P t vs).nf= .agg l:=by
 unfold elV;rw[if_pos ha];show V.agg (nfL vs)=_;rw[h]
theorem Zyz (ha:Zeh P t=false){v:V}(h:nfL vs=[v]):(elV P t vs).nf=v:=by
 unfold elV;rw[if_neg (by simp[ha])]
 cases vs with
 |nil=>cases h
 |cons x r=>rw[nfL]at h;exact(List.cons.inj h).1
theorem nfL_flat :∀{wss:List (List V)},nfL wss.flatten=(wss.map nfL).flatten
 | []=>rfl
 |w::r=>by rw[Xco,Zby,nfL_flat];rfl
end
mutual
theorem Z6r :∀v:V,v.nf.wt<=v.wt
 | .agg cs=>by simp only[V.nf,V.wt];have:=Zvm cs;omega
 | .sl true sz []=>by simp[V.nf,V.wt]
 | .sl true _ (x::xs)=>by simp[V.nf,V.wt]
 | .sl false sz xs=>by simp only[V.nf,V.wt];have:=Zvm xs;omega
 | .el cs off=>by simp[V.nf,V.wt]
 | .tup cs=>by simp[V.nf,V.wt]
 | .fn f cs=>by simp[V.nf,V.wt]
 | .mfn f cs=>by simp[V.nf,V.wt]
 | .iface t v=>by simp[V.nf,V.wt]
 | .bool b=>Xag _
 | .int k n=>Xag _
 | .str s=>Xag _
 | .osl a b c d e=>Xag _
 | .gp g o=>Xag _
 | .ptr i o=>Xag _
 | .nilptr=>Xag _
 | .map i=>Xag _
 | .nilmap=>Xag _
 | .nilfn=>Xag _
 | .nilif=>Xag _
theorem Zvm :∀l:List V,wtL (nfL l)<=wtL l
 | []=>Xag _
 |v::r=>by simp only[nfL,wtL];have:=Z6r v;have:=Zvm r;omega
end
theorem Z9m {v w:V}{n:Nat}(h:v.nf=w)(hn:v.wt<=n):w.wt<=n:=by rw[<-h];exact Xbs (Z6r v) hn
theorem Z94 {α:Type}{E:α->V}{c:Nat}{l:List α}{n:Nat}(h:(V.sl false c (l.map E)).wt<=n):l.length<=n/\ ∀a∈l,(E a).wt<=n:=by
 simp only[V.wt]at h
 refine⟨by have:=Zsw (l.map E);simp at this;omega,fun a ha=> ?_⟩
 have:=Zwc (Xdf (f:=E) ha)
 omega
theorem Zz7 {s:Bytes}{n:Nat}(h:(V.str s).wt<=n):s.length<=n:=by simp only[V.wt]at h;omega
theorem Z0b {cs:List V}{v:V}{n:Nat}(h:(V.agg cs).wt<=n)(hv:v∈cs):v.wt<=n:=by
 simp only[V.wt]at h
 have:=Zwc hv;omega
end Go.Proofs.YtpmgdngjbdkdfaaGreatDoor
namespace Go.Proofs.YtpmgdngjbdkdfaaGreatDoor
open Go.Abs
variable {e:Ev}
def fiOf (x:T.File):Fi:=(x.Path,x.Data)
theorem Zx7 (l:List T.File):E.LFile l=Zad (l.map fiOf):=by
 unfold E.LFile Zad
 rw[Xdm];rfl
theorem Zyk {l:List T.File}(h:(E.LFile l).wt<=1048576):(l.map fiOf).length<=1000000000/\ ∀f∈l.map fiOf,f.1.length<=1000000000/\f.2.length<=1000000000:=by
 obtain⟨h1,h2⟩:=Z94 (E:=E.File) h
 refine⟨by rw[Xcf];omega,fun f hf=> ?_⟩
 obtain⟨x,hx,rfl⟩:=Xa9.1 hf
 have h3:=h2 x hx
 have a1:=Zz7 (Z0b h3 (v:= .str x.Path) (by simp[C.File]))
 have a2:=Zz7 (Z0b h3 (v:= .str x.Data) (by simp[C.File]))
 exact⟨by show x.Path.length<=_;omega,by show x.Data.length<=_;omega⟩
theorem Zse (he:EnvT e)(a:List T.File)(k:Int)(ha:(E.LFile a).wt<=1048576)(_: -9223372036854775808<=k)(_:k<=9223372036854775807):vl e 5 0 [E.LFile a, .int .i64 k]=some (.bool true):=by
 rw[Zx7]
 exact q.treeBack he _ (Zyk ha) k
end Go.Proofs.YtpmgdngjbdkdfaaGreatDoor
namespace Go.Proofs.YtpmgdngjbdkdfaaGreatDoor
open Go.Abs Go.RowKit
def exts :List FC:=[K.strings_Split,K.strings_Contains,K.strings_Join]
theorem Z0z (w:World)(hw:EnvOK w):∀c∈exts,c.Holds (cxD w):=by
 intro c hc
 simp only[exts,Xa0,Xdi,or_false]at hc
 rcases hc with rfl|rfl|rfl
 ·exact H.strings_Split w hw
 ·exact H.strings_Contains w hw
 ·exact H.strings_Join w hw
theorem Zyq :∀c∈exts,cfg.ow c.f=true->c.own=true:=by
 intro c hc h
 simp only[exts,Xa0,Xdi,or_false]at hc
 rcases hc with rfl|rfl|rfl
 ·rfl
 ·exact absurd h (by rw[show cfg.ow K.strings_Contains.f=false by kernel_rfl];decide)
 ·exact absurd h (by rw[show cfg.ow K.strings_Join.f=false by kernel_rfl];decide)
theorem envX :EnvT (Zsh exts) where
 split s c hs:=Zmg (cs:=exts) (c:=K.strings_Split) rfl ⟨(s,[c]),Zae c s,rfl,by simp[g.strings_Split,hs],rfl⟩
 contains s c hs:=Zmg (cs:=exts) (c:=K.strings_Contains) rfl ⟨(s,[c]),decide (c∈s),rfl,by simp[g.strings_Contains,hs],rfl⟩
 join l s hl hj:=Zmg (cs:=exts) (c:=K.strings_Join) rfl ⟨(l,s),Zhr s l,rfl,by simp only[g.strings_Join,Zm5];rw[if_pos ⟨hl,hj⟩],rfl⟩
end Go.Proofs.YtpmgdngjbdkdfaaGreatDoor
namespace Go.Proofs.YtpmgdngjbdkdfaaGreatDoor
open Go.Abs Go.RowKit Go.ChangeShapes Go.WideShapes
section
variable {P:Program}{w:World}
theorem Zq6 {n:String}{d:DataW Unit}:∀{l:List (String×DataW Unit)} {ps:List MemPlace},DataW.LaidVars P w l ps->(n,d)∈l->
  ∃g t cs fuel p,P.globalNamed n=some g/\(P.globals[g]?).map (·.type)=some t/\w.var? P n=some cs/\DataW.trod (fun _=>()) P w 0 (fun _=>true) false fuel t cs.toList=some (d,p)
 | [],_,_,h=>by cases h
 |(m,c)::r,ps,hl,h=>by
  obtain⟨g,t,cs,fuel,p,q,h1,h2,h3,h4,h5,_⟩:=hl
  rcases Xa0.1 h with e|h
  ·cases e;exact⟨g,t,cs,fuel,p,h1,h2,h3,h4⟩
  ·exact Zq6 h5 h
theorem Zs8 {n:String}{g:Nat}{cs:Array Value}(hg:P.globalNamed n=some g)(h:w.var? P n=some cs):∃t x,w.heap[g]? =some (.cells cs t x):=by
 unfold World.var? at h
 rw[hg,Xak]at h
 split at h
 ·rename_i c t x hx;cases h;exact⟨t,x,hx⟩
 ·cases h
theorem trod_int {enc:TypeId×Value->Unit}{held:Bool}{fuel:Nat}{e:TypeId}{k k':IntKind}{cs:List Value}{n:Int}{p:List MemPlace}(he:P.underlying e=some (.int k))(h:DataW.trod enc P w 0 (fun _=>true) held fuel e cs=some (.lit (.int k' n),p)):cs=[.int k n]/\k'=k:=by
 cases fuel with
 |zero=>simp[DataW.trod]at h
 |succ m=>
  unfold DataW.trod at h
  rw[he]at h
  split at h<;>simp_all
theorem Z2g {laid:List (String×DataW Unit)}{n:String}{d:DataW Unit}{g:Nat}{t e:TypeId}{k:IntKind}{m:Nat}(ns:List Int)(h:laidMet P laid w)(hm:(n,d)∈laid)(hg:P.globalNamed n=some g)(ht:(P.globals[g]?).map (·.type)=some t)
  (hu:P.underlying t=some (.array m e)) (he:P.underlying e=some (.int k)) (hc:P.cellsOf e=1) (hct:P.cellsOf t=ns.length) (hd:d= .agg (ns.map fun i=> .lit (.int k i))):Row w (G0 w) (fun _=>none) (ns.map (V.int k)) g 0/\(ns.map (V.int k)).length<=G0 w g:=by
 obtain⟨ps,hl,_,_⟩:=h
 obtain⟨g',t',cs,fuel,p,h1,h2,h3,h4⟩:=Zq6 hl hm
 rw[hg]at h1;cases h1
 rw[ht]at h2;cases h2
 obtain⟨t1,x1,hh⟩:=Zs8 hg h3
 obtain⟨xs,fu,_,hx,hlen,hxl,hel⟩:=DataW.trod_array hu h4
 have hxs:xs.map (·.1)=ns.map fun i=>(DataW.lit (.int k i):DataW Unit):=by
  have:=(Prod.mk.inj hx).1
  rw[hd]at this
  exact(DataW.agg.inj this).symm
 have hnl:xs.length=ns.length:=by have:=congrArg List.length hxs;simpa using this
 have hsz:cs.size=ns.length:=by rw[<-hct, <-hlen];simp
 have hcell:∀i,(hi:i<ns.length)->cs[i]? =some (.int k ns[i]):=by
  intro i hi
  have h5:=hel i (by omega)
  rw[hc,Xcw,Xad (by omega)]at h5
  have h6:xs[i].1=DataW.lit (.int k ns[i]):=by
   have h7:(xs.map (·.1))[i]? =(ns.map fun i=>(DataW.lit (.int k i):DataW Unit))[i]? :=by rw[hxs]
   rw[Xbt,Xbt,Xad (by omega),Xad hi]at h7
   simpa using h7
  obtain⟨h8,_⟩:=trod_int (n:=ns[i]) (p:=xs[i].2) (k':=k) he (by rw[h5];exact congrArg some (Prod.ext h6 rfl))
  have hi':i<cs.toList.length:=by simp;omega
  rw[Xap hi',Xdg,Xcn]at h8
  have h9:=(List.cons.inj h8).1
  rw[Xar (by omega)]
  simpa using h9
 refine⟨⟨fun c hc=> ?_,fun i c hc=> ?_⟩, ?_⟩
 ·obtain⟨j,_,rfl⟩:=Xa9.1 hc;rfl
 ·rw[Xbt]at hc
  obtain⟨j,hj,rfl⟩:=Xaa.1 hc
  obtain⟨hi,hj⟩:=Xae.1 hj
  refine⟨.int k j, ?_, .int k j⟩
  rw[Xan]
  simp only[World.cell?,hh]
  rw[<-hj];exact hcell i hi
 ·simp only[Xcf,G0,hh];omega
end
noncomputable def cxG (gls:Nat->Option (List V))(w:World):Cx:=⟨Tryz.prog,w,gls⟩
theorem Z3o {gls:Nat->Option (List V)}{w W:World}{G:Nat->Nat}(h:OKW (cxG gls w) W G):OKW (cxD w) W G:=⟨h.below,h.Glo,h.Gz⟩
theorem Z9d {gls:Nat->Option (List V)}{w:World}{f:FuncId}{args:List V}{r:V×Bool}(h:PC (cxD w) f args r):PC (cxG gls w) f args r:=⟨h.1,fun W G φ xs ho hr=>h.2 W G φ xs (Z3o ho) hr⟩
theorem Z2e {gls:Nat->Option (List V)}{w:World}{c:FC}(h:c.Holds (cxD w)):c.Holds (cxG gls w):=fun args y hr=>by
 obtain⟨v,o,h1,h2⟩:=h args y hr
 exact⟨v,o,Z9d h1,h2⟩
theorem Z6h {laid:List (String×DataW Unit)}{w:World}(h:laidMetH Tryz.prog laid w)(hn:(laid.filter fun x=>x.2.handleName?.isSome)=[]):laidMet Tryz.prog laid w:=by
 unfold laidMetH at h
 rw[hn]at h;exact h
end Go.Proofs.YtpmgdngjbdkdfaaGreatDoor
