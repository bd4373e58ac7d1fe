/- Laws that the proof rests on. -/
import Derived.Test.YtmlbicgpehchhaaGreatQ58f747f08c7d
set_option maxRecDepth 100000
set_option maxHeartbeats 16000000
namespace Go.Proofs.YtmlbicgpehchhaaGreat
open Go.RowKit
def kD (x m:Nat):Nat×Bool:=if (kt m m (x % m) 0 1).1=1 then ((kt m m (x % m) 0 1).2,true) else (0,false)
theorem pw (x m:Nat):uo x m=(digs 18446744073709551616 (kD x m).1,(kD x m).2):=by
 unfold uo kD;split
 · rfl
 · rw [qU]
theorem cN (A A':Option Addr) (c c' X M:Nat) (w:World) (h:RU w A c (digs 4294967296 X)) (h':RU w A' c' (digs 4294967296 M)) (hl:(digs 4294967296 X).length<30000) (hlM:(digs 4294967296 M).length≤30000) (hM2:2≤M) :
 Calls Tryz.prog 81 #[.slice A (digs 4294967296 X).length c,.slice A' (digs 4294967296 M).length c'] w fun e w'=>∃ A1 c1,e=.returned (.tuple #[.slice A1 (digs 4294967296 (kD X M).1).length c1,.bool (kD X M).2])∧RU w' A1 c1 (digs 4294967296 (kD X M).1)∧Below w.heap.size w w':=by
 have hm:=zF (kZ A A' c c' X M w h h' (by omega) (by omega))
 have Hl:=zF hlM
 go_enter Tryz.func81,Tryz.ntmps81
 go_wp2_with fail
 refine hm.out.mono ?_
 rintro e w1 ⟨A1,c1,rfl,hR1,hB1⟩
 have hof:=zF (kW 1 w1 (by omega))
 go_wp2_with fail
 refine hof.out.mono ?_
 rintro e w2 ⟨A2,c2,rfl,hO2,hB2⟩
 have hB02:=hB1.trans (hB2.mono hB1.size)
 have zA:=h'.up hB02
 have zB:=hR1.up hB2
 have zD:=hO2.ru
 have hXm:=qP X (show 0<M by omega)
 clear hR1 hO2 hB1 hB2 hof hm h
 go_wp2
 go_loopw [6,7,8,9] (fun rv sv tv uv wr=>∃ (A1 A2 A3 A4:Option Addr) (c1 c2 c3 c4 r s t u:Nat),rv=.slice A1 (digs 4294967296 r).length c1∧sv=.slice A2 (digs 4294967296 s).length c2∧tv=.slice A3 (digs 4294967296 t).length c3∧uv=.slice A4 (digs 4294967296 u).length c4 ∧
  RU wr A1 c1 (digs 4294967296 r)∧RU wr A2 c2 (digs 4294967296 s)∧RU wr A3 c3 (digs 4294967296 t)∧RU wr A4 c4 (digs 4294967296 u)∧r≤M∧s≤M∧t≤M∧u≤M∧Hid (kt M r s t u=kt M M (X % M) 0 1)∧Below w.heap.size w wr)
  (fun _ sv _ _ wr=>fa wr sv)
 case atStart=>exact ⟨A',A1,none,A2,c',c1,0,c2,M,X % M,0,1,rfl,rfl,by rw [qU];rfl,rfl,zA,zB,by rw [qU];exact (OB.nil_ w2 0).ru,zD,by omega,by omega,by omega,by omega,zF rfl,hB02⟩
 case round =>
  clear zA zB zD hB02 hXm;obtain ⟨A1,A2,A3,A4,c1,c2,c3,c4,r,s,t,u,rfl,rfl,rfl,rfl,zA,zB,zC,zD,hr,hs,ht,hu,hI,hB⟩:=hrel;have zw:=hB.size;have zM:=h'.up hB;by_cases h0:s=0
  · subst h0;have hI':=hI.out;rw [yR] at hI';rw [qU] at *;have hof:=zF (kW 1 wr (by omega));have hcm:=zF fun W (hW:Below wr.heap.size wr W) (A5:Option Addr) (c5:Nat) (h5:RU W A5 c5 (digs 4294967296 1))=>vW _ _ A1 A5 c1 c5 r 1 W (zA.up hW) h5;by_cases h1:r=1
    · have hans:kD X M=(t,true):=by rw [kD,←hI',qK h1]
      have hc1:jo r 1=0:=by rw [h1];decide
      rw [hc1] at hcm;have Hans:=zF hans;clear hans hI hI' h1 hc1;go_wp2_with fail;refine hof.out.mono ?_;rintro e w' ⟨A5,c5,rfl,hO5,hB5⟩;have Hcm:=zF (hcm.out w' hB5 A5 c5 hO5.ru);go_wp2_with fail;refine Hcm.out.mono ?_;rintro e w' ⟨rfl,nd,rfl⟩;have hf:=(zC.up hB5).ud nd;have hBf:=qR (hB.trans (hB5.mono zw)) nd;clear hcm Hcm hof;go_wp2;go_ret2;exact ⟨A3,c3,by rw [Hans.out];rfl,by rw [Hans.out];exact hf,hBf⟩
    · have hans:kD X M=(0,false):=by rw [kD,←hI',qA h1]
      have hc1:jo r 1≠0:=fun e=>h1 (dJ e);generalize jo r 1=cv at *;have t2:(cv != 0)=true:=by simpa using hc1
      have Hans:=zF hans;clear hans hI hI' h1;go_wp2_with fail;refine hof.out.mono ?_;rintro e w' ⟨A5,c5,rfl,hO5,hB5⟩;have Hcm:=zF (hcm.out w' hB5 A5 c5 hO5.ru);go_wp2_with fail;refine Hcm.out.mono ?_;rintro e w' ⟨rfl,nd,rfl⟩;have hBf:=qR (hB.trans (hB5.mono zw)) nd;clear hcm Hcm hof;go_wp2;go_ret2;exact ⟨none,0,by rw [Hans.out,qU];rfl,by rw [Hans.out,qU];exact (OB.nil_ _ 0).ru,hBf⟩
  · have kp:(0:Int)<((digs 4294967296 s).length:Int):=by
     have:0<(digs 4294967296 s).length:=by rw [jT (by omega) (by omega)];simp
     omega
    have hlM:=Hl.out;have hq1:=fE _ _ A1 A2 c1 c2 r s wr zA zB (fun b hb=>hb) (fun b hb=>hb) (by have:=xR hr hlM;omega) (by omega);have hqM:r / s≤M:=zQ (wg _ _) hr;have hlM2:r % s≤M:=zQ (Nat.mod_le _ _) hr;have Hq1:=zF hq1;have Hrd:=zF zB.readD;have hmod:=qP r (show 0<s by omega);have hstep:=zF (show kt M s (r % s) u ((t+M - r / s*u % M) % M)=kt M M (X % M) 0 1 by rw [←hI.out,un h0]);clear hq1 hI;go_wp2_with fail;refine Hq1.out.mono ?_;rintro e w4 ⟨A5,c5,A6,c6,rfl,y5,y6,hB4⟩;have s4:=hB4.size;have Hm1:=zF (fF _ _ A5 A4 c5 c4 (r / s) u w4 y5.ru (zD.up hB4) (fun b hb=>hb) (fun b hb=>hb) (by have:=xR hqM hlM;omega) (by have:=xR hu hlM;omega));go_wp2_with fail;refine Hm1.out.mono ?_;rintro e w5 ⟨A7,c7,rfl,y7,hB5⟩;have hB45:=hB4.trans (hB5.mono s4);have hr5:=kZ A7 A' c7 c' (r / s*u) M w5 y7.ru (zM.up hB45) (by have:=mC (xR hqM hlM) (xR hu hlM);omega) (by omega);have hlessM:=qP (r / s*u) (show 0<M by omega);generalize r / s*u % M=less at *;have Hr5:=zF hr5;clear hr5;go_wp2_with fail;refine Hr5.out.mono ?_;rintro e w6 ⟨A8,c8,rfl,y8,hB6⟩;have hB46:=hB45.trans (hB6.mono (by have:=hB45.size;omega));have Ha6:=zF (pX _ _ A3 A' c3 c' t M w6 (zC.up hB46) (zM.up hB46) (fun b hb=>hb) (fun b hb=>hb) (by have:=xR ht hlM;omega) (by omega));go_wp2_with fail;refine Ha6.out.mono ?_;rintro e w7 ⟨A9,c9,rfl,y9,hB7⟩;have hB47:=hB46.trans (hB7.mono hB46.size);have hs7:=fD _ _ A9 A8 c9 c8 (t+M) less w7 y9.ru (y8.up hB7) (fun b hb=>hb) (fun b hb=>hb) (by have:=mD ht (zH M) hlM;omega) (by omega);have hdif:t+M - less≤M+M:=by omega
    have hlast:=mD (zH M) (zH M) hlM;have hld:=xR hdif hlast;generalize t+M - less=dif at *;have Hs7:=zF hs7;clear hs7;go_wp2_with fail;refine Hs7.out.mono ?_;rintro e w8 ⟨A10,c10,rfl,y10,hB8⟩;have hB48:=hB47.trans (hB8.mono hB47.size);have Hr8:=zF (kZ A10 A' c10 c' dif M w8 y10.ru (zM.up hB48) (by omega) (by omega));have hdm:=qP dif (show 0<M by omega);go_wp2_with fail;refine Hr8.out.mono ?_;rintro e w9 ⟨A11,c11,rfl,y11,hB9⟩;have hB49:=hB48.trans (hB9.mono hB48.size);have hBw9:=hB.trans (hB49.mono zw);have f2:=zB.up hB49;have hB49':Below w4.heap.size w4 w9:=(((hB5.trans (hB6.mono hB5.size)).trans (hB7.mono (by have:=hB5.size;have:=hB6.size;omega))).trans (hB8.mono (by have:=hB5.size;have:=hB6.size;have:=hB7.size;omega))).trans (hB9.mono (by have:=hB5.size;have:=hB6.size;have:=hB7.size;have:=hB8.size;omega));have f6:=qm y6 hB49';have f4:=zD.up hB49;have Hrd9:=zF f6.readD;clear zA zB zC zD zM y5 y6 y7 y8 y9 y10 hB4 hB5 hB6 hB7 hB8 hB9 hB45 hB46 hB47 hB48 hB49 hB49' hB Hq1 Hm1 Hr5 Ha6 Hs7 Hr8;go_wp2;go_roundw;case rel=>exact ⟨A2,A6,A4,A11,c2,c6,c4,c11,s,r % s,u,dif % M,rfl,rfl,rfl,rfl,f2,f6,f4,y11,hs,hlM2,hu,by omega,hstep,hBw9⟩
    case measure=>rw [Hrd.out,Hrd9.out];exact hmod
end Go.Proofs.YtmlbicgpehchhaaGreat
namespace Go.Proofs.YtmlbicgpehchhaaGreat
open Go.ChangeShapes Go.WideShapes Go.ChangeAt Go.RowKit Go.Deep Go.Joins
section
variable {H:Type} {enc:TypeId×Value→H} {w:World}
theorem zB3:Tryz.prog.cellsOf 69=1:=by kernel_rfl
theorem zB5:Tryz.prog.bytesOf 69=8:=by kernel_rfl
def pL (t:TypeId) (d:DataW H):Prop:=∀ k∈DataW.weights Tryz.prog t d,k≤reachBytes
theorem uV {fuel:Nat}{v:Value}{x:DataW H×List MemPlace}(h:DataW.trod enc Tryz.prog w 0 (fun _=>true) true fuel 23 [v]=some x) (hw:pL 23 x.1) :
 ∃ A c l,v=.slice A l.length c∧RL w (fun b=>b<w.heap.size) A c l:=by
 rcases open_ints Tryz.underlying23 Tryz.underlying69 zB3 h with ⟨hcs,_⟩ | ⟨a,len,cap,zs,hcs,_,hl,hm,hz,hx,hcell,hwz⟩
 · simp at hcs;exact ⟨none,0,[],by simpa using hcs,RS.nil_ _ _ _,by simp,by simp⟩
 · simp at hcs hz;have hb:zs.length*8≤reachBytes:=by
    subst hx;have:=hw (((lits (H:=H) .u64 (zs.take len)).length+(lits (H:=H) .u64 (zs.drop len)).length)*8) (by simp [DataW.weights,Tryz.underlying23,zB5]);simp [lits] at this;omega
   unfold reachBytes at hb;have hwf:∀ i (hi:i<zs.length),0≤zs[i]∧zs[i]<18446744073709551616:=fun i hi=>by
    have:=bounds_u64 (hwz _ (kM hi));omega
   refine ⟨some a,cap,(zs.take len).map Int.toNat,?_,⟨by simp;omega,hm,by simp [nts],fun hn=>⟨a,rfl,?_,fun j u hu=>?_⟩⟩,?_,by simp;omega⟩
   · rw [hcs];simp;omega
   · have h0:=hcell 0 (by simp at hn;omega);have:=World.block_lt_of_cell? w _ h0;rwa [xC] at this
   · have hj:j<len:=by
      have:=(List.getElem?_eq_some_iff.1 hu).1;simp [nts] at this;omega
     have hjz:j<zs.length:=by omega
     rw [hcell j hjz];have:=hwf j hjz;simp [nts,hj,qO hjz] at hu;rw [←hu];simp [List.getD,qO hjz];omega
   · intro b hb;obtain ⟨z,hz,rfl⟩:=List.mem_map.1 hb;obtain ⟨i,hi,rfl⟩:=List.getElem_of_mem (qW hz);have:=hwf i hi;omega
end
end Go.Proofs.YtmlbicgpehchhaaGreat
namespace Go.Proofs.YtmlbicgpehchhaaGreat
def wO (bs:List Nat):Nat:=val 256 bs.reverse
theorem ph (bs:List Nat) (c:Nat):wO (bs++[c])=c+256*wO bs:=by
 simp [wO]
theorem fI (k:Nat):256 ^ k=2 ^ (8*k):=by rw [wE]
theorem bk (f:Nat→Nat) (n:Nat):val 256 ((List.range (n+1)).map f)=val 256 ((List.range n).map f)+256 ^ n*f n:=by
 rw [List.range_succ,List.map_append,kJ];simp
theorem sQ (x n:Nat):val 256 ((List.range n).map fun i=>x / 2 ^ (8*i) % 256)=x % 256 ^ n:=by
 induction n with
 | zero=>simp [Nat.mod_one]
 | succ n ih=>rw [bk,ih,zu,Nat.mod_mul,fI]
theorem dl (x n:Nat):(bytesOf x n).reverse=(List.range n).map fun i=>x / 2 ^ (8*i) % 256:=by
 apply List.ext_getElem
 · simp [bytesOf]
 · intro i h1 h2;simp [bytesOf] at h1 ⊢;rw [show n - 1 - (n - 1 - i)=i by omega]
theorem gy {x n:Nat}(h:x<2 ^ (8*n)):wO (bytesOf x n)=x:=by
 rw [wO,dl,sQ,fI,qG h]
theorem tP {m j q k c:Nat}{o:List Nat}{V:Nat}(ho:∀ x∈o,x<2 ^ m) (hq:q<o.length) (hk:m*q+j=8*k) (hj:j+8≤m) (hc:c<256) (hv:val (2 ^ m) o=256 ^ (k+1)*V) :
 c*2 ^ j<2 ^ m∧dg o q+c*2 ^ j<2 ^ m∧(dg o q ||| c*2 ^ j)=dg o q+c*2 ^ j∧val (2 ^ m) (o.set q (dg o q+c*2 ^ j))=256 ^ k*(c+256*V):=by
 obtain ⟨r,hr⟩:=gc o ho q 0 (by omega)
 have hlt:dg o q<2 ^ m:=jZ (qZ (by omega)) ho q
 rw [qu,kl,Nat.div_one,Nat.sub_zero,hv,fI,show 8*(k+1)=m*q+(j+8) by omega,qI,zd,Nat.mul_div_cancel_left _ (qZ (by omega))] at hr
 have hcj:c*2 ^ j<2 ^ (j+8):=by
  rw [qI,zj];exact vC hc (qZ (by omega))
 have em:2 ^ m=2 ^ (j+8)*2 ^ (m - (j+8)):=by rw [←qI,show j+8+(m - (j+8))=m by omega]
 obtain ⟨t,ht⟩:∃ t,dg o q=t*2 ^ (j+8):=by
  refine ⟨V - 2 ^ (m - (j+8))*r,?_⟩;rw [em,zd] at hr;rw [zj,Nat.mul_sub,hr];omega
 have htlt:t<2 ^ (m - (j+8)):=by
  rw [ht,em,zj] at hlt;exact Nat.lt_of_mul_lt_mul_left hlt
 have hsum:dg o q+c*2 ^ j<2 ^ m:=by
  have h1:(t+1)*2 ^ (j+8)≤2 ^ (m - (j+8))*2 ^ (j+8):=qf _ htlt;rw [zj (2 ^ (m - (j+8))),←em,qr,←ht] at h1;omega
 refine ⟨by omega,hsum,?_,?_⟩
 · rw [ht,zj t,Nat.two_pow_add_eq_or_of_lt hcj]
 · have h2:=vp (2 ^ m) hq (dg o q+c*2 ^ j);have h3:(2 ^ m) ^ q*(c*2 ^ j)=256 ^ k*c:=by
    rw [fI,←hk,qI,wE,zd,zj c]
   rw [zr,h3,hv] at h2;rw [zr,←zd,←zu];generalize 256 ^ (k+1)*V=E at *;generalize 256 ^ k*c=F at *;generalize (2 ^ m) ^ q*dg o q=G at *;generalize val (2 ^ m) (o.set q (dg o q+c*2 ^ j))=H at *;clear hr hlt hcj em ht htlt hsum hv h3;omega
end Go.Proofs.YtmlbicgpehchhaaGreat
namespace Go.Proofs.YtmlbicgpehchhaaGreat
open Go.RowKit
theorem RB.cells {w:World}{P:Nat→Prop}{ad:Addr}{c:Nat}{bs:List Nat}(h:RB w P (some ad) c bs):∀ i,i<bs.length→w.cell? (ad.add i)=some (.int .u8 (dg bs i:Int)):=by
 intro i hi;obtain ⟨ad',e,_,hc,_⟩:=h.at_ hi;cases e;rw [dg,jW hi];exact hc
theorem RB.dg {w:World}{P:Nat→Prop}{A:Option Addr}{c:Nat}{bs:List Nat}(h:RB w P A c bs){i:Nat}(hi:i<bs.length):∃ ad,A=some ad∧w.cell? (ad.add i)=some (.int .u8 (Go.Proofs.YtmlbicgpehchhaaGreat.dg bs i:Int))∧Go.Proofs.YtmlbicgpehchhaaGreat.dg bs i<256:=by
 obtain ⟨ad,rfl,_,hc,hb⟩:=h.at_ hi;refine ⟨ad,rfl,h.cells i hi,?_⟩;rw [Go.Proofs.YtmlbicgpehchhaaGreat.dg,jW hi];omega
theorem gz (P:Nat→Prop) (A:Option Addr) (c:Nat) (bs:List Nat) (w:World) (h:RB w P A c bs) (hP:∀ b,P b→b<w.heap.size) (hl:bs.length≤100000) :
 Calls Tryz.prog 65 #[.slice A bs.length c] w fun e w'=>∃ A1 c1,e=.returned (.slice A1 (digs 18446744073709551616 (wO bs)).length c1) ∧
  OB w' w.heap.size A1 c1 (digs 18446744073709551616 (wO bs))∧Below w.heap.size w w':=by
 obtain ⟨h1,h2,h3⟩:=h.cap
 obtain ⟨n,hn⟩:=eV bs.length
 rw [hn] at h1 h3 hl ⊢
 obtain ⟨N,hN,hN1,hN2⟩:∃ N:Nat,((n:Int)+7) / 8=(N:Int)∧N≤100000∧n≤8*N:=⟨(n+7) / 8,by omega,by omega,by omega⟩
 have hmk:=jH (P:=Tryz.prog) 23 69 (.int .u64 0) 8 Tryz.underlying23 j9 rfl .i64 .i64 N (by omega) (by omega)
 have Hn:=zF hn
 clear hn
 go_enter Tryz.func65,Tryz.ntmps65
 go_wp2
 go_loopw [14] (fun iv wr=>∃ (i:Nat) (o:List Nat),iv=.int .i64 (i:Int)∧i≤n∧Hid (o.length=N)∧Lim o∧val 18446744073709551616 o=256 ^ (n - i)*wO (bs.take i)∧Blk wr w.heap.size o∧Below w.heap.size w wr) (fun iv _=>n - (intOf iv).toNat)
 case atStart=>exact ⟨0,List.replicate N 0,rfl,by omega,zF (by simp),⟨by simp,by simp;omega⟩,by rw [kO];simp [wO],vA w _,(zO _ w).alloc (zH _) _⟩
 case round =>
  obtain ⟨i,o,rfl,hi,Ho,hLo,hv,hblk,hB⟩:=hrel;by_cases hlt:i<n
  · obtain ⟨ad,rfl,q1,hc⟩:=(h.below hB hP).dg (i:=i) (by rw [Hn.out];exact hlt);obtain ⟨k,q,r,hk,hr,hkq⟩:∃ k q r,k=n - 1 - i∧r<8∧k=8*q+r:=⟨n - 1 - i,(n - 1 - i) / 8,(n - 1 - i) % 8,rfl,by omega,by omega⟩
    have hqo:q<o.length:=by have:=Ho.out;omega
    obtain ⟨s1,s2,s3,s4⟩:=tP (m:=64) (j:=r*8) (q:=q) (k:=k) hLo.1 hqo (by omega) (by omega) hc (by rw [show n - i=k+1 by omega] at hv;exact hv);rw [←ph,←ue (by rw [Hn.out];exact hlt),show k=n - (i+1) by omega] at s4;obtain ⟨z,hz⟩:=eV (dg bs i*2 ^ (r*8));rw [hz] at s1 s2 s3 s4;obtain ⟨y,hy⟩:=eV (dg o q+z);rw [hy] at s2 s3 s4;have e1:(n:Int) - 1 - (i:Int)=(k:Int):=by omega
    have e2:(k:Int) / 8=(q:Int):=by omega
    have e3:(k:Int) % 8=(r:Int):=by omega
    have e4:IntKind.u64.wrap ((dg bs i:Int)*2 ^ (r*8))=(z:Int):=by
     rw [show (dg bs i:Int)*2 ^ (r*8)=(z:Int) by rw [←hz];simp];exact jD _ (by omega)
    have e5:bits .or .u64 (dg o q:Int) (z:Int)=(y:Int):=by
     rw [bits_or_u64_nat _ _ (hLo.dgLt q) s1,s3]
    have q3:=hblk.cell hqo;have q4:=hblk.free q;have hblk':=hblk.set q y;have hLo':=hLo.set q y s2;have hB':=hB.setCell (p:=⟨w.heap.size,q,none⟩) (zH _) (.int .u64 (y:Int));have Ho':Hid ((o.set q y).length=N):=zF (by rw [jt];exact Ho.out);have k1:(q:Int)<(N:Int):=by have:=Ho.out;omega
    have k2:(r:Int)<8:=by omega
    have k3:(dg bs i:Int)<256:=by omega
    have S4:=zF s4;clear s4 s3 s2 s1 hz hy hk hkq hqo hblk hLo hB hv hc;go_wp2_with fail;go_region;go_wp2;go_roundw;case rel=>exact ⟨i+1,o.set q y,by go_num,by omega,Ho',hLo',S4.out,hblk',qR hB' 1⟩
    case measure=>simp [intOf];omega
  · obtain rfl:i=n:=by omega
    rw [Nat.sub_self,kl,wH,zk (by rw [Hn.out];omega)] at hv;have hOB:OB wr w.heap.size (some ⟨w.heap.size,0,none⟩) N o:=kA hblk (zH _) hLo (by have:=Ho.out;omega) (by unfold maxLen;omega);have ht:=jV _ _ _ _ _ hOB.rn;have hOB':=hOB.trim;rw [hv,Ho.out] at ht;rw [hv] at hOB';have Ht:=zF ht;clear hblk hLo ht hv hOB;go_wp2_with fail;refine Ht.out.mono ?_;rintro e w1 ⟨rfl,rfl⟩;go_wp2;go_ret;exact ⟨_,_,rfl,hOB',hB⟩
theorem aD {x:Nat}(hx:0<x):0<dg (digs 4294967296 x) ((digs 4294967296 x).length - 1):=by
 have hne:digs 4294967296 x≠[]:=by rw [jT (by omega) hx];simp
 have h:=uY (B:=4294967296) (by omega) x hne;have hpos:=List.length_pos_iff.2 hne;rw [List.getLast_eq_getElem] at h;rw [dg,jW (by omega)];omega
theorem aw (t k:Nat):t / 2 ^ k / 2=t / 2 ^ (k+1):=by rw [jd,zu]
theorem we (P:Nat→Prop) (A:Option Addr) (c:Nat) (x:Nat) (w:World) (h:RN w P A c (digs 4294967296 x)) :
 Calls Tryz.prog 92 #[.slice A (digs 4294967296 x).length c] w fun e w'=>e=.returned (.int .i64 (zo x:Int))∧w=w':=by
 rcases za x with rfl | hx
 · rw [qU];go_enter Tryz.func92,Tryz.ntmps92;go_wp2;go_ret;exact ⟨rfl,rfl⟩
 · have htop:=fun k hk h1 h2=>aa (m:=32) (by omega) hx (k:=k) hk h1 h2;have hpos:=aD hx;have hD:=wV x;obtain ⟨h1,h2,h3⟩:=h.cap;have hne:0<(digs 4294967296 x).length:=by rw [jT (by omega) hx];simp
   rw [show (2:Nat) ^ 32=4294967296 by decide] at htop;generalize digs 4294967296 x=l at *;obtain ⟨n,hn⟩:∃ n,l.length=n+1:=⟨l.length - 1,by omega⟩
   obtain ⟨ad,rfl,_,q1⟩:=h.at_ (i:=n) (by omega);rw [hn,jU] at htop hpos;have hl:=hD.dgLt n;generalize dg l n=t at *;rw [hn] at h1 h3 ⊢;have Htop:=zF htop;have Hpos:=zF hpos;clear htop hpos hx hn hne h hD;have Hl:=zF hl;clear hl;go_enter Tryz.func92,Tryz.ntmps92;go_wp2;go_loop [4,5] (fun kv tv=>∃ k z:Nat,kv=.int .i64 (k:Int)∧tv=.int .u64 (z:Int)∧Hid (z=t / 2 ^ k)∧Hid (z<4294967296)∧k≤32∧(k=0∨2 ^ (k - 1)≤t)) (fun kv _=>(33 - intOf kv).toNat);case atStart=>exact ⟨0,t,rfl,rfl,zF (by simp),Hl,by omega,.inl rfl⟩
   case round =>
    obtain ⟨k,z,rfl,rfl,hz,hzl,hk,hor⟩:=hrel;have Hor:=zF hor;clear hor;by_cases h0:z=0
    · have hfin:zo x=32*n+k:=by
       have e:=hz.out;rw [h0] at e;have hlt:t<2 ^ k:=by
        rcases zz t (2 ^ k) with h | h
        · exact h
        · have:=Nat.div_pos h (qZ (by omega));omega
       have hk0:0<k:=by
        rcases za k with rfl | h
        · have:=Hpos.out;simp at hlt;omega
        · exact h
       rcases Hor.out with h | h
       · omega
       · exact Htop.out k hk0 h hlt
      have Hfin:=zF hfin;subst h0;clear hfin;go_wp2;go_ret;exact ⟨dr (by rw [Hfin.out];simp),rfl⟩
    · have hk':k<32:=by
       rcases zz k 32 with h | h
       · exact h
       · exfalso;apply h0;rw [hz.out];exact qn (zR Hl.out (by rw [show (4294967296:Nat)=2 ^ 32 by decide];exact qF (by omega) h))
      have hge:2 ^ k≤t:=by
       rcases zz t (2 ^ k) with h | h
       · exfalso;apply h0;rw [hz.out];exact qn h
       · exact h
      have Hge:=zF hge;obtain ⟨z',hz',e1⟩:∃ z':Nat,z / 2=z'∧(z:Int) / 2=(z':Int):=⟨z / 2,rfl,by omega⟩
      have hzz:Hid (z'=t / 2 ^ (k+1)):=zF (by rw [←hz',hz.out,aw]);have hzl':Hid (z'<4294967296):=zF (by have:=hzl.out;omega);have p1:(0:Int)<(z:Int):=by omega
      clear hge hz' h0;go_wp2;go_round;case rel=>exact ⟨k+1,z',by go_num,by first | rfl | exact congrArg (Value.int .u64) (jD _ (by have:=hzl'.out;omega)),hzz,hzl',by omega,.inr (by rw [jU];exact Hge.out)⟩
      case measure=>simp [intOf];omega
theorem tmod2 (d j:Nat):((d:Int) / 2 ^ j).tmod 2=((d / 2 ^ j % 2:Nat):Int):=by
 rw [show (d:Int) / 2 ^ j=((d / 2 ^ j:Nat):Int) by simp];generalize d / 2 ^ j=z;rw [Int.tmod_eq_emod_of_nonneg (by omega)];omega
theorem mod2 (d j:Nat):IntKind.u64.wrap ((d:Int) / 2 ^ j % 2)=((d / 2 ^ j % 2:Nat):Int):=by
 rw [show (d:Int) / 2 ^ j % 2=((d / 2 ^ j % 2:Nat):Int) by simp];generalize d / 2 ^ j=z;exact jD _ (by omega)
theorem fH (P:Nat→Prop) (A:Option Addr) (c:Nat) (x:Nat) (i:Int) (w:World) (h:RN w P A c (digs 4294967296 x)) (hi:i≤9223372036854775807) :
 Calls Tryz.prog 94 #[.slice A (digs 4294967296 x).length c,.int .i64 i] w fun e w'=>e=.returned (.int .u64 (xH x i:Int))∧w=w':=by
 obtain ⟨h1,h2,h3⟩:=h.cap
 have hv:=zc (B:=4294967296) (by omega) x
 have hD:=wV x
 generalize digs 4294967296 x=a at *
 by_cases h0:i<0
 · have hb:=zF (show xH x i=0 by simp [xH,h0]);go_enter Tryz.func94,Tryz.ntmps94;go_wp2;go_ret;rw [hb.out];exact ⟨rfl,rfl⟩
 · obtain ⟨n,rfl⟩:∃ n:Nat,i=(n:Int):=⟨i.toNat,by omega⟩
   obtain ⟨k,j,hj,hn⟩:∃ k j,j<32∧n=32*k+j:=⟨n / 32,n % 32,by omega,by omega⟩
   have hb:xH x (n:Int)=dg a k / 2 ^ j % 2:=by
    have:=rP (m:=32) a hD k j hj;rw [show (2:Nat) ^ 32=4294967296 by decide,hv] at this;rw [xH,qA h0,kU,hn];exact this
   have e1:(n:Int) / 32=(k:Int):=by omega
   have e2:(n:Int) % 32=(j:Int):=by omega
   have e4:IntKind.i64.wrap ((n:Int) / 32)=(k:Int):=by rw [e1];exact wq _ (by omega)
   by_cases hk:k<a.length
   · obtain ⟨ad,rfl,_,q1⟩:=h.at_ hk;have hd:=h.2.dgLt k;have e3:=mod2 (dg a k) j;have hj':(j:Int)<32:=by omega
     have hk':(k:Int)<(a.length:Int):=by omega
     have Hb:=zF hb;clear hb hn hd h hi hD;go_enter Tryz.func94,Tryz.ntmps94;go_wp2;go_ret;exact ⟨dr (by rw [Hb.out];exact tmod2 _ _),rfl⟩
   · have hd:dg a k=0:=vH (by omega);rw [hd,Nat.zero_div] at hb;have Hb:=zF hb;have hk':¬ (k:Int)<(a.length:Int):=by omega
     have hk2:(a.length:Int)≤(k:Int):=by omega
     have hkb:(k:Int)≤288230376151711743:=by omega
     clear hb hn hd h hi hD;go_enter Tryz.func94,Tryz.ntmps94;go_wp2;go_ret;rw [Hb.out];exact ⟨rfl,rfl⟩
def gE (x n:Nat) (o:List Nat) (k:Nat):Prop:=o.length=n∧(∀ j,j<n→n - 1 - j<k→dg o j=x / 2 ^ (8*(n - 1 - j)) % 256)∧(∀ j,k≤n - 1 - j→dg o j=0)∧∀ b∈o,b<256
theorem gE.zero (x n:Nat):gE x n (List.replicate n 0) 0:=by
 refine ⟨by simp,fun j _ hj=>by omega,fun j _=>?_,fun b hb=>by simp at hb;omega⟩;rw [dg,zh,List.getElem?_replicate];split <;> rfl
theorem gE.step {x n:Nat}{o:List Nat}{k b:Nat}(h:gE x n o k) (hk:k<n) (hb:x / 2 ^ (8*k) % 256=b):gE x n (o.set (n - 1 - k) b) (k+1):=by
 obtain ⟨h1,h2,h3,h4⟩:=h;refine ⟨by simpa using h1,fun j hjn hj=>?_,fun j hj=>by rw [getD_set_ne (by omega)];exact h3 j (by omega),wu h4 (by omega)⟩;rcases zz (n - 1 - j) k with h | h
 · rw [getD_set_ne (by omega)];exact h2 j hjn h
 · obtain rfl:j=n - 1 - k:=by omega
   rw [vV (by omega),show n - 1 - (n - 1 - k)=k by omega];exact hb.symm
theorem gE.fin {x n:Nat}{o:List Nat}{k:Nat}(h:gE x n o k) (hk:∀ j,k≤j→j<n→x / 2 ^ (8*j) % 256=0):o=bytesOf x n:=by
 obtain ⟨h1,h2,h3,_⟩:=h;apply List.ext_getElem (by rw [h1,jp]);intro i h4 h5;have e:dg o i=x / 2 ^ (8*(n - 1 - i)) % 256:=by
  rcases zz (n - 1 - i) k with h | h
  · exact h2 i (by omega) h
  · rw [h3 i h,hk _ h (by omega)]
 rw [dg,jW h4] at e;rw [e];simp [bytesOf]
theorem mT (P:Nat→Prop) (A:Option Addr) (c:Nat) (x:Nat) (n:Nat) (w:World) (h:RN w P A c (digs 4294967296 x)) (hP:∀ b,P b→b<w.heap.size) (hn:n≤65536) (hn':zo x≤8*n) :
 Calls Tryz.prog 51 #[.slice A (digs 4294967296 x).length c,.int .i64 (n:Int)] w fun e w'=>∃ A1,e=.returned (.tuple #[.slice A1 n n,.bool true]) ∧
  RB w' (In w.heap.size w'.heap.size) A1 n (bytesOf x n)∧Below w.heap.size w w':=by
 obtain ⟨h1,h2,h3⟩:=h.cap
 have hb:=zF (we P A c x w h)
 have hv:=zc (B:=4294967296) (by omega) x
 have hD:=wV x
 generalize digs 4294967296 x=a at *
 have hby:=fun k j hj=>nI (m:=32) a hD k j hj
 rw [show (2:Nat) ^ 32=4294967296 by decide,hv] at hby
 generalize zo x=k0 at *
 have hk0:(k0:Int)≤8*(n:Int):=by omega
 have Hby:=zF hby
 clear hby hv hn' hD
 have hmk:=jH (P:=Tryz.prog) 34 5 (.int .u8 0) 1 Tryz.underlying34 au rfl .i64 .i64 n (by omega) (by omega)
 go_enter Tryz.func51,Tryz.ntmps51
 go_wp2_with fail
 refine hb.out.mono ?_
 rintro e w1 ⟨rfl,rfl⟩
 clear hb
 go_wp2
 go_loopw [7] (fun iv wr=>∃ (k:Nat) (o:List Nat),iv=.int .i64 (k:Int)∧k≤n∧gE x n o k∧ga wr w.heap.size o∧Below w.heap.size w wr) (fun iv _=>n - (intOf iv).toNat)
 case atStart=>exact ⟨0,List.replicate n 0,rfl,by omega,gE.zero x n,ga.made w n,(zO _ w).alloc (zH _) _⟩
 case round =>
  obtain ⟨k,o,rfl,hk,hA,hblk,hB⟩:=hrel;obtain ⟨q,r,hr,hkq⟩:∃ q r,r<4∧k=4*q+r:=⟨k / 4,k % 4,by omega,by omega⟩
  have e2:(k:Int) / 4=(q:Int):=by omega
  have e3:(k:Int) % 4=(r:Int):=by omega
  have hfin:(k=n∨a.length≤q)→RB wr (In w.heap.size wr.heap.size) (some ⟨w.heap.size,0,none⟩) n (bytesOf x n):=fun hor=>by
   have he:o=bytesOf x n:=by
    refine hA.fin fun j hj hjn=>?_;rcases hor with rfl | hor
    · omega
    · have:=Hby.out (j / 4) (8*(j % 4)) (by omega);rw [show 32*(j / 4)+8*(j % 4)=8*j by omega,vH (by omega:a.length≤j / 4),Nat.zero_div] at this;exact this
   have hrb:=hblk.rb (P:=In w.heap.size wr.heap.size) ⟨zH _,qw hblk⟩ hA.2.2.2 (by have:=hA.1;omega);rw [hA.1,he] at hrb;exact hrb
  have Hfin:=zF hfin;clear hfin;by_cases hlt:k<n
  · by_cases hq:q<a.length
    · obtain ⟨ad,rfl,had,q1⟩:=(h.below hB hP).at_ hq;have hbv:=Hby.out q (8*r) (by omega);rw [show 32*q+8*r=8*k by omega] at hbv;obtain ⟨b,hbb⟩:=eV (dg a q / 2 ^ (8*r) % 256);rw [hbb] at hbv;have e4:=mH (dg a q) (8*r);rw [hbb] at e4;have hA':=hA.step hlt hbv;obtain ⟨m,hm,e1⟩:∃ m,n - 1 - k=m∧(n:Int) - 1 - (k:Int)=(m:Int):=⟨n - 1 - k,rfl,by omega⟩
      rw [hm] at hA';have q3:=hblk.cell (i:=m) (by rw [hA.1];omega);have q4:=hblk.free m;have hblk':=hblk.set m b;have hB':=hB.setCell (p:=⟨w.heap.size,m,none⟩) (zH _) (.int .u8 (b:Int));have k2:(q:Int)<(a.length:Int):=by omega
      have k3:(r:Int)<4:=by omega
      have k1:(m:Int)<(n:Int):=by omega
      clear hbb hbv hA hblk hB hkq hm Hfin;go_wp2;go_roundw;case rel=>exact ⟨k+1,o.set m b,by go_num,by omega,hA',hblk',hB'⟩
      case measure=>simp [intOf];omega
    · have hrb:=Hfin.out (.inr (by omega));have k2:¬ (q:Int)<(a.length:Int):=by omega
      clear hA hblk hkq Hfin;go_wp2;go_ret2;exact ⟨_,rfl,hrb,hB⟩
  · have hrb:=Hfin.out (.inl (by omega));clear hA hblk hkq Hfin;go_wp2;go_ret2;exact ⟨_,rfl,hrb,hB⟩
theorem uh (A:Option Addr) (c x:Nat) (w:World) (h:RU w A c (digs 4294967296 x)) :
 Calls Tryz.prog 168 #[.slice A (digs 4294967296 x).length c] w fun e w'=>e=.returned (.bool (decide (x % 2=1)))∧w=w':=by
 have hb:=fH _ A c x 0 w h (by omega)
 rw [yp] at hb
 have hlt:=qP x (show 0<2 by omega)
 generalize x % 2=y at *
 have Hb:=zF hb
 have he:((y:Int)==1)=decide (y=1):=by
  rw [wh];simp;omega
 clear hb
 go_enter Tryz.func168,Tryz.ntmps168
 go_wp2_with fail
 refine Hb.out.mono ?_
 rintro e w1 ⟨rfl,rfl⟩
 go_wp2
 go_ret
 exact ⟨by simp,rfl⟩
theorem zAS {X E j M v:Nat}(hv:X ^ (E / 2 ^ (j+1)) % M=v) (hb:E / 2 ^ j % 2=0):X ^ (E / 2 ^ j) % M=v*v % M:=by
 have e:E / 2 ^ j=E / 2 ^ (j+1)+E / 2 ^ (j+1):=by
  rw [zu,←jd];omega
 rw [←hv,←vZ,←qI,←e]
theorem sg {X E j M v:Nat}(hv:X ^ (E / 2 ^ (j+1)) % M=v) (hb:E / 2 ^ j % 2=1):X ^ (E / 2 ^ j) % M=v*v % M*(X % M) % M:=by
 have e:E / 2 ^ j=E / 2 ^ (j+1)+E / 2 ^ (j+1)+1:=by
  rw [zu,←jd];omega
 rw [←hv,e,zu,qI,vZ,vZ (X ^ (E / 2 ^ (j+1))) (X ^ (E / 2 ^ (j+1)))]
theorem pW (A Ae Am:Option Addr) (c ce cm X E M:Nat) (w:World) (h:RU w A c (digs 4294967296 X)) (he:RU w Ae ce (digs 4294967296 E)) (hm:RU w Am cm (digs 4294967296 M)) (hl:(digs 4294967296 X).length<40000) (hlM:(digs 4294967296 M).length<40000) (h0:0<M) (hn:zo E≤1000000) :
 Calls Tryz.prog 192 #[.slice A (digs 4294967296 X).length c,.slice Ae (digs 4294967296 E).length ce,.slice Am (digs 4294967296 M).length cm] w fun e w'=>∃ A1 c1,e=.returned (.slice A1 (digs 4294967296 (X ^ E % M)).length c1)∧RU w' A1 c1 (digs 4294967296 (X ^ E % M))∧Below w.heap.size w w':=by
 have HlM:=zF hlM
 obtain ⟨nb,hnb⟩:=eV (zo E)
 have Hst:=zF (vc nb)
 have Hv0:=zF (show X ^ (E / 2 ^ nb) % M=1 % M by rw [qn (jw (x9 hnb)),kl])
 have lm:∀ v,v<M→(digs 4294967296 v).length<40000:=fun v hv=>jB (qg (by omega) (qt hv)) hlM
 have Hlm:=zF lm
 obtain ⟨R,hR⟩:=eV (X ^ E % M)
 rw [hR]
 have HR:=zF hR
 have hof:=zF (kW 1 w (by omega))
 have h1M:=zF (qP 1 h0)
 clear hR lm
 go_enter Tryz.func192,Tryz.ntmps192
 go_wp2_with fail
 refine hof.out.mono ?_
 rintro e w1 ⟨A1,c1,rfl,hO1,hB1⟩
 have hm1:=zF (kZ A1 Am c1 cm 1 M w1 hO1.ru (hm.up hB1) (by rw [jT (by omega) (by omega)];simp [qU]) h0)
 go_wp2_with fail
 refine hm1.out.mono ?_
 rintro e w2 ⟨A2,c2,rfl,hR2,hB2⟩
 have hB02:=hB1.trans (hB2.mono hB1.size)
 have hm2:=zF (kZ A Am c cm X M w2 (h.up hB02) (hm.up hB02) (by omega) h0)
 go_wp2_with fail
 refine hm2.out.mono ?_
 rintro e w3 ⟨A3,c3,rfl,hR3,hB3⟩
 have hB03:=hB02.trans (hB3.mono hB02.size)
 replace hR2:=hR2.up hB3
 have zm:=hm.up hB03
 have ze:=he.up hB03
 have hbi:=we _ Ae ce E w3 ze
 rw [hnb] at hbi
 have Hbi:=zF hbi
 have hXM:=zF (qP X h0)
 obtain ⟨Y,hY⟩:=eV (X % M)
 rw [hY] at hR3 hXM ⊢
 have HY:=zF hY
 clear hbi hof hm1 hm2 hO1 hB1 hB2 hB3 hB02 h he hm hY
 go_wp2_with fail
 refine Hbi.out.mono ?_
 rintro e w4 ⟨rfl,rfl⟩
 have hs3:=hB03.size
 go_wp2
 go_loopw [7,8] (fun xv iv wr=>∃ (k v:Nat) (z:Int) (A1:Option Addr) (c1:Nat),iv=.int .i64 z∧vT k z∧xv=.slice A1 (digs 4294967296 v).length c1∧k≤nb∧Hid (X ^ (E / 2 ^ k) % M=v)∧v<M∧RU wr A1 c1 (digs 4294967296 v)∧Below w3.heap.size w3 wr) (fun _ iv _=>(intOf iv+1).toNat)
 case atStart=>exact ⟨nb,1 % M,_,A2,c2,rfl,Hst.out,rfl,zH _,Hv0,h1M.out,hR2,zO _ _⟩
 case round =>
  obtain ⟨k,v,z,A1,c1,rfl,hz,rfl,hk,hv,hvM,hx,hB⟩:=hrel;rcases hz with ⟨rfl,rfl⟩ | ⟨j,rfl,rfl⟩
  · have hvR:v=R:=by have:=hv.out;have:=HR.out;rw [kl,Nat.div_one] at *;omega
    subst hvR;go_wp2;go_ret;exact ⟨A1,c1,rfl,hx,hB03.trans (hB.mono hs3)⟩
  · have hlv:=Hlm.out v hvM;have hsq:=zF (uJ A1 A1 Am c1 c1 cm v v M wr hx hx (zm.up hB) hlv hlv h0);have Hs':=zF (vc j);have hvv:=zF (qP (v*v) h0);obtain ⟨u,hu⟩:=eV (v*v % M);rw [hu] at hsq hvv;have hbt:E / 2 ^ j % 2=0∨E / 2 ^ j % 2=1:=by have:=qP (E / 2 ^ j) (show 0<2 by omega);omega
    have Hu:=zF hu;clear hu hlv;go_wp2_with fail;refine hsq.out.mono ?_;rintro e w5 ⟨A5,c5,rfl,hR5,hB5⟩;have hB35:=hB.trans (hB5.mono hB.size);have hbit:=fH _ Ae ce E (j:Int) w5 (ze.up hB35) (by omega);rw [show xH E (j:Int)=E / 2 ^ j % 2 by rw [xH,qA (by omega),kU]] at hbit;rcases hbt with h0b | h1b
    · rw [h0b] at hbit;have Hbit:=zF hbit;have hp:=zF ((zAS hv.out h0b).trans Hu.out);clear hbit h0b hv;go_wp2_with fail;refine Hbit.out.mono ?_;rintro e w6 ⟨rfl,rfl⟩;go_wp2;go_roundw;case rel=>exact ⟨j,u,_,A5,c5,rfl,Hs'.out,rfl,by omega,hp,hvv.out,hR5,hB35⟩
      case measure=>simp [intOf]
    · rw [h1b] at hbit;have Hbit:=zF hbit;have hp:=sg hv.out h1b;rw [Hu.out,HY.out] at hp;have hlu:=Hlm.out u hvv.out;have hlY:=Hlm.out Y hXM.out;have hmu:=zF (uJ A5 A3 Am c5 c3 cm u Y M w5 hR5 (hR3.up hB35) (zm.up hB35) hlu hlY h0);have huY:=zF (qP (u*Y) h0);obtain ⟨t,ht⟩:=eV (u*Y % M);rw [ht] at hmu huY hp;have Hp:=zF hp;clear hbit h1b hv hp ht hlu hlY;go_wp2_with fail;refine Hbit.out.mono ?_;rintro e w6 ⟨rfl,rfl⟩;go_wp2_with fail;refine hmu.out.mono ?_;rintro e w7 ⟨A7,c7,rfl,hR7,hB7⟩;have hB37:=hB35.trans (hB7.mono hB35.size);go_wp2;go_roundw;case rel=>exact ⟨j,t,_,A7,c7,rfl,Hs'.out,rfl,by omega,Hp,huY.out,hR7,hB37⟩
      case measure=>simp [intOf]
theorem mS (A A':Option Addr) (c c' N W:Nat) (w:World) (h:RU w A c (digs 4294967296 N)) (hno:N % 2=0∨N<2) :
 Calls Tryz.prog 169 #[.slice A (digs 4294967296 N).length c,.slice A' (digs 4294967296 W).length c'] w fun e w'=>e=.returned (.bool (kP N W))∧Below w.heap.size w w':=by
 have Hs:=zF (nS W hno)
 have hle:=jb N 2
 have hcl:N % 2=1→jo N 2=-1:=fun h1=>by rcases hle with h | h | h <;> omega
 have hce:(jo N 2==0)=decide (N=2):=by
  rw [wh];simp;omega
 have hof:=zF (kW 1 w (by omega))
 generalize hcv:jo N 2=cv at *
 have Hcv:=zF hcv
 have Hcl:=zF hcl
 have Hce:=zF hce
 clear hno hle hcl hcv hce
 go_enter Tryz.func169,Tryz.ntmps169
 go_wp2_with fail
 refine hof.out.mono ?_
 rintro e w1 ⟨A1,c1,rfl,hO1,hB1⟩
 have hof2:=zF (kW 2 w1 (by omega))
 go_wp2_with fail
 refine hof2.out.mono ?_
 rintro e w2 ⟨A2,c2,rfl,hO2,hB2⟩
 have hB02:=hB1.trans (hB2.mono hB1.size)
 have zn:=h.up hB02
 have z2:=hO2.ru
 have Hod:=zF (uh A c N w2 zn)
 have hcm:=zF fun n=>vW _ _ A A2 c c2 N 2 (w2.drewN n) (zn.ud n) (z2.ud n)
 rw [Hcv.out] at hcm
 clear hof hof2 hO1 hO2 hB1 hB2 h zn z2
 go_wp2_with fail
 refine Hod.out.mono ?_
 rintro e w3 ⟨rfl,rfl⟩
 have hcm0:=zF (hcm.out 0)
 rcases hodd:decide (N % 2=1) with _ | _
 · go_wp2_with fail;refine hcm0.out.mono ?_;rintro e w3 ⟨rfl,n1,rfl⟩;go_wp2;go_ret;exact ⟨by rw [Hs.out,←Hce.out];simp,qR hB02 n1⟩
 · have hc1:=Hcl.out (of_decide_eq_true hodd);subst hc1;go_wp2_with fail;refine hcm0.out.mono ?_;rintro e w3 ⟨rfl,n1,rfl⟩;have hcm1:=zF (hcm.out n1);go_wp2_with fail;refine hcm1.out.mono ?_;rintro e w3 ⟨rfl,n2,rfl⟩;rw [gj];go_wp2;go_ret;exact ⟨by rw [Hs.out,←Hce.out];simp,qR hB02 _⟩
theorem mP {N W:Nat}(h:N % 2=1) (h1:1<N) (h2:zo N≤4096) (hw:W % N≠0) (hl:jY N W 0=1):kP N W=true:=by
 rw [xJ h h1 h2,qA hw,dL,yt _ (sR (by omega) (by omega))];simp [yQ,hl]
theorem nP {N W:Nat}(h:N % 2=1) (h1:1<N) (h2:zo N≤4096) (hw:W % N≠0) (hl:jY N W 0≠1):(List.range' 0 (uS (N - 1) - 0)).any (fun k=>decide (jY N W k=N - 1))=kP N W:=by
 rw [xJ h h1 h2,qA hw,dL];congr 1;funext k;unfold yQ;by_cases hk:k=0
 · subst hk;simp [hl]
 · simp [hk]
theorem bu (A A':Option Addr) (c c' N W:Nat) (w:World) (h:RU w A c (digs 4294967296 N)) (h':RU w A' c' (digs 4294967296 W)) (hl:(digs 4294967296 N).length<20000) (hlW:(digs 4294967296 W).length<40000) (hodd:N % 2=1) (hgt:1<N) (hmay:zo N≤4096) :
 Calls Tryz.prog 169 #[.slice A (digs 4294967296 N).length c,.slice A' (digs 4294967296 W).length c'] w fun e w'=>e=.returned (.bool (kP N W))∧Below w.heap.size w w':=by
 have hcv:jo N 2=1:=gn (by omega)
 have hmi:((zo N:Nat):Int)≤4096:=by omega
 have h2s:=rR hgt hmay
 have htop:=fS (x:=N - 1) (by omega)
 have hlow:=fun k=>@nM (N - 1) k
 have hw0:=fun h=>xJ (W:=W) hodd hgt hmay▸qK (c:=W % N=0) h
 have hw1:=@mP N W hodd hgt hmay
 have hw2:=@nP N W hodd hgt hmay
 have hlook:=dW N W
 have hlook0:(W % N) ^ ((N - 1) / 2 ^ uS (N - 1)) % N=jY N W 0:=by rw [jY,kl,jS]
 have hlookN:∀ k,jY N W k<N:=fun k=>qP _ (by omega)
 have hnbd:∀ k,zo ((N - 1) / 2 ^ k)≤1000000:=fun k=>by
  have h1:=jw (x:=N) (k:=4096) hmay;have h2:(N - 1) / 2 ^ k≤N - 1:=wg _ _;exact zQ (kh (k:=4096) (jB (zQ h2 (xF _ _)) h1)) (by omega)
 have lm:∀ v,v≤N→(digs 4294967296 v).length<20000:=fun v hv=>jB (qg (by omega) hv) hl
 obtain ⟨s,hs⟩:=eV (uS (N - 1))
 rw [hs] at h2s htop hlow hw2 hlook0
 obtain ⟨B,hB⟩:=eV (kP N W)
 have hB0:W % N=0→B=true:=fun h0=>by rw [←hB,xJ hodd hgt hmay,qK h0]
 rw [hB] at hw1 hw2 ⊢
 have Hw1:=zF hw1
 have Hw2:=zF hw2
 have HB0:=zF hB0
 have Hlook:=zF hlook
 have Hlook0:=zF hlook0
 have HlookN:=zF hlookN
 have Hnbd:=zF hnbd
 have Hlm:=zF lm
 have Htop:=zF htop
 have Hlow:=zF hlow
 have Hgt:=zF hgt
 have Hl:=zF hl
 have HlW:=zF hlW
 have Hbits:=zF fun W h=>we (fun b=>b<W.heap.size) A c N W h
 have Hodd:=zF hodd
 have hof:=zF (kW 1 w (by omega))
 generalize zo N=nb at *
 clear hw0 hw1 hw2 hB0 hlook hlook0 hlookN hnbd lm htop hlow hgt hl hlW hB hs hmay hodd
 go_enter Tryz.func169,Tryz.ntmps169
 go_wp2_with fail
 refine hof.out.mono ?_
 rintro e w1 ⟨A1,c1,rfl,hO1,hB1⟩
 have hof2:=zF (kW 2 w1 (by omega))
 go_wp2_with fail
 refine hof2.out.mono ?_
 rintro e w2 ⟨A2,c2,rfl,hO2,hB2⟩
 have hB02:=hB1.trans (hB2.mono hB1.size)
 have zn:=h.up hB02
 have zw:=h'.up hB02
 have z1:=hO1.ru.up hB2
 have z2:=hO2.ru
 have hod:=uh A c N w2 zn
 rw [qX Hodd.out] at hod
 have Hod:=zF hod
 have hcm:=vW _ _ A A2 c c2 N 2 w2 zn z2
 rw [hcv] at hcm
 have Hcm:=zF hcm
 clear hof hof2 hO1 hO2 hB1 hB2 h h' hod hcm hcv
 go_wp2_with fail
 refine Hod.out.mono ?_
 rintro e w3 ⟨rfl,rfl⟩
 go_wp2_with fail
 refine Hcm.out.mono ?_
 rintro e w3 ⟨rfl,n1,rfl⟩
 have hB03:=qR hB02 n1
 replace zn:=zn.ud n1
 replace zw:=zw.ud n1
 replace z1:=z1.ud n1
 replace z2:=z2.ud n1
 clear Hod Hcm hB02
 generalize w2.drewN n1=w3 at *
 have Hbi:=zF (Hbits.out w3 zn)
 go_wp2_with fail
 refine Hbi.out.mono ?_
 rintro e w4 ⟨rfl,rfl⟩
 have Hsu:=zF (fD _ _ A A1 c c1 N 1 w3 zn z1 jq jq (by have:=Hl.out;omega) (by have:=Hgt.out;omega))
 go_wp2_with fail
 refine Hsu.out.mono ?_
 rintro e w5 ⟨A5,c5,rfl,hO5,hB5⟩
 have hB05:=hB03.trans (hB5.mono hB03.size)
 replace zn:=zn.up hB5
 replace zw:=zw.up hB5
 replace z1:=z1.up hB5
 replace z2:=z2.up hB5
 have zl:=hO5.ru
 clear Hbi Hsu hO5 hB5 hB03 Hbits
 have hs5:=hB05.size
 obtain ⟨L,hL⟩:=eV (N - 1)
 have hLN:L≤N:=by omega
 rw [hL] at zl Htop Hlow Hw2 Hlook0 Hnbd ⊢
 clear hL
 go_wp2
 go_loopw [8,9] (fun dv sv wr=>∃ (k:Nat) (A1:Option Addr) (c1:Nat),sv=.int .i64 (k:Int)∧dv=.slice A1 (digs 4294967296 (L / 2 ^ k)).length c1∧k≤s∧RU wr A1 c1 (digs 4294967296 (L / 2 ^ k))∧Below w5.heap.size w5 wr) (fun _ sv _=>s - (intOf sv).toNat)
 case atStart=>exact ⟨0,A5,c5,rfl,by rw [kl,Nat.div_one],by omega,by rw [kl,Nat.div_one];exact zl,zO _ _⟩
 case round =>
  obtain ⟨k,A6,c6,rfl,rfl,hk,hd,hB⟩:=hrel;have hod:=uh A6 c6 (L / 2 ^ k) wr hd;by_cases hks:k<s
  · rw [qb (by rw [Hlow.out k hks];omega:¬ L / 2 ^ k % 2=1)] at hod;have Hod:=zF hod;have Hq:=zF (fE _ _ A6 A2 c6 c2 (L / 2 ^ k) 2 wr hd (z2.up hB) jq jq (by have:=Hlm.out (L / 2 ^ k) (zQ (wg _ _) hLN);omega) (by omega));have e2:L / 2 ^ k / 2=L / 2 ^ (k+1):=aw L k;rw [e2] at Hq;clear hod e2;go_wp2_with fail;refine Hod.out.mono ?_;rintro e w6 ⟨rfl,rfl⟩;go_wp2_with fail;refine Hq.out.mono ?_;rintro e w7 ⟨A7,c7,A8,c8,rfl,hO7,_,hB7⟩;have hB57:=hB.trans (hB7.mono hB.size);have hR7:=hO7.ru;clear hO7 hB7 Hod Hq;go_wp2;go_roundw;case rel=>exact ⟨k+1,A7,c7,by go_num,rfl,by omega,hR7,hB57⟩
    case measure=>simp [intOf];omega
  · obtain rfl:k=s:=by omega
    rw [qX Htop.out] at hod;have Hod:=zF hod;clear hod Hlow Htop;have hB0r:=hB05.trans (hB.mono hs5);replace zn:=zn.up hB;replace zw:=zw.up hB;replace z1:=z1.up hB;replace zl:=zl.up hB;clear hB hB05 z2;have Hmw:=zF (kZ A' A c' c W N wr zw zn (by have:=HlW.out;omega) (by have:=Hgt.out;omega));go_wp2_with fail;refine Hod.out.mono ?_;rintro e w6 ⟨rfl,rfl⟩;go_wp2_with fail;refine Hmw.out.mono ?_;rintro e w7 ⟨A7,c7,rfl,hR7,hB7⟩;have hB07:=hB0r.trans (hB7.mono hB0r.size);replace zn:=zn.up hB7;replace z1:=z1.up hB7;replace zl:=zl.up hB7;replace hd:=hd.up hB7;clear hB7 hB0r Hod Hmw zw;by_cases hw:W % N=0
    · have hBt:=HB0.out hw;rw [hw,qU] at *;subst hBt;go_wp2;go_ret;exact ⟨by simp,hB07⟩
    · have Hw1:=zF (Hw1.out hw);have Hw2:=zF (Hw2.out hw);obtain ⟨Y,hY⟩:=eV (W % N);rw [hY] at hw hR7 Hlook0 ⊢;have hYN:Y≤N:=by rw [←hY];exact qt (qP _ (by have:=Hgt.out;omega))
      have hyne:(((digs 4294967296 Y).length:Int)==0)=false:=eqB (by rw [jT (by omega) (by omega)];simp;omega);have Hex:=pW A7 A6 A c7 c6 c Y (L / 2 ^ k) N w7 hR7 hd zn (by have:=Hlm.out Y hYN;omega) (by have:=Hl.out;omega) (by have:=Hgt.out;omega) (Hnbd.out k);rw [Hlook0.out] at Hex;replace Hex:=zF Hex;clear hY HB0;go_wp2_with fail;refine Hex.out.mono ?_;rintro e w8 ⟨A8,c8,rfl,hR8,hB8⟩;have hB08:=hB07.trans (hB8.mono hB07.size);replace zn:=zn.up hB8;replace z1:=z1.up hB8;replace zl:=zl.up hB8;have hcm:=vW _ _ A8 A1 c8 c1 (jY N W 0) 1 w8 hR8 z1;clear hB8 hB07 Hex hd hR7;by_cases h1:jY N W 0=1
      · have hBt:=Hw1.out h1;subst hBt;rw [h1,gp] at hcm;rw [h1];have Hcm:=zF hcm;clear hcm;go_wp2_with fail;refine Hcm.out.mono ?_;rintro e w9 ⟨rfl,n2,rfl⟩;go_wp2;go_ret;exact ⟨by simp,qR hB08 n2⟩
      · have hne:jo (jY N W 0) 1≠0:=fun e=>h1 (dJ e);have Hw2:=zF (Hw2.out h1);generalize jo (jY N W 0) 1=cv at *;have hcvb:(cv==0)=false:=eqB hne;have Hcm:=zF hcm;clear hcm Hw1;go_wp2_with fail;refine Hcm.out.mono ?_;rintro e w9 ⟨rfl,n2,rfl⟩;have hB09:=qR hB08 n2;replace zn:=zn.ud n2;replace zl:=zl.ud n2;replace hR8:=hR8.ud n2;clear Hcm hB08 z1;generalize w8.drewN n2=w9 at *;have hs9:=hB09.size;go_wp2;go_loopw [10,11] (fun xv iv wr=>∃ (i:Nat) (A1:Option Addr) (c1:Nat),iv=.int .i64 (i:Int)∧xv=.slice A1 (digs 4294967296 (jY N W i)).length c1∧i≤k∧RU wr A1 c1 (digs 4294967296 (jY N W i))∧Hid ((List.range' i (k - i)).any (fun j=>decide (jY N W j=L))=B)∧Below w9.heap.size w9 wr) (fun _ iv _=>k - (intOf iv).toNat);case atStart=>exact ⟨0,A8,c8,rfl,rfl,by omega,hR8,Hw2,zO _ _⟩
        case round =>
         clear hR8 Hw2;obtain ⟨i,A9,c9,rfl,rfl,hi,hx,hany,hB⟩:=hrel;by_cases hik:i<k
         · have hcm:=vW _ _ A9 A5 c9 c5 (jY N W i) L wr hx (zl.up hB);have hst:=yt (fun j=>decide (jY N W j=L)) hik;rw [hany.out] at hst;by_cases hY:jY N W i=L
           · rw [hY,gp] at hcm;rw [hY];simp only [hY,decide_true,Bool.true_or] at hst;subst hst;have Hcm:=zF hcm;clear hcm hany hx;go_wp2_with fail;refine Hcm.out.mono ?_;rintro e w10 ⟨rfl,n3,rfl⟩;go_wp2;go_ret;exact ⟨by simp,qR (hB09.trans (hB.mono hs9)) n3⟩
           · have hne2:jo (jY N W i) L≠0:=fun e=>hY (dJ e);simp only [hY,decide_false,Bool.false_or] at hst;have Hst:=zF hst.symm;have hlv:(digs 4294967296 (jY N W i)).length<40000:=by have:=Hlm.out _ (qt (HlookN.out i));omega
             generalize jo (jY N W i) L=cw at *;have hcwb:(cw==0)=false:=eqB hne2;have Hcm:=zF hcm;have Hmu:=zF fun n=>uJ A9 A9 A c9 c9 c (jY N W i) (jY N W i) N (wr.drewN n) (hx.ud n) (hx.ud n) ((zn.up hB).ud n) hlv hlv (by have:=Hgt.out;omega);rw [←Hlook.out] at Hmu;clear hcm hany hst hY hne2 hlv;go_wp2_with fail;refine Hcm.out.mono ?_;rintro e w10 ⟨rfl,n3,rfl⟩;have Hmu3:=zF (Hmu.out n3);clear Hmu;go_wp2_with fail;refine Hmu3.out.mono ?_;rintro e w11 ⟨A11,c11,rfl,hR11,hB11⟩;have hB911:=(qR hB n3).trans (hB11.mono hB.size);clear Hmu3 Hcm hB11;go_wp2;go_roundw;case rel=>exact ⟨i+1,A11,c11,by go_num,rfl,by omega,hR11,Hst,hB911⟩
             case measure=>simp [intOf];omega
         · obtain rfl:i=k:=by omega
           have hBf:=hany.out;rw [fC] at hBf;subst hBf;clear hany;go_wp2;go_ret;exact ⟨by simp,hB09.trans (hB.mono hs9)⟩
def yI (N:Nat):Bool:=if N % 2=1∧1<N then wz N 12 else decide (N=2)
def uK (N k:Nat):Bool:=(List.range k).any fun i=>decide (N % xn.getD i 0=0) && decide (N≠xn.getD i 0)
theorem dS (N k:Nat):uK N (k+1)=(uK N k || (decide (N % xn.getD k 0=0) && decide (N≠xn.getD k 0))):=by
 rw [uK,List.range_succ,List.any_append,List.any_cons,List.any_nil,Bool.or_false];rfl
theorem dR {N k:Nat}(h:uK N k=true):∀ {m},k≤m→uK N m=true
 | 0, hm => by obtain rfl : k = 0 := by omega
               exact h
 | m + 1, hm => by
   rcases zz m k with h1 | h1
   · obtain rfl:k=m+1:=by omega
     exact h
   · rw [dS,dR h h1,Bool.true_or]
theorem tR {k:Nat}(h:k<12):xn.getD k 0∈[2,3,5,7,11,13,17,19,23,29,31,37]:=by
 have:k=0∨k=1∨k=2∨k=3∨k=4∨k=5∨k=6∨k=7∨k=8∨k=9∨k=10∨k=11:=by omega
 rcases this with rfl | rfl | rfl | rfl | rfl | rfl | rfl | rfl | rfl | rfl | rfl | rfl <;> decide
theorem nQ {N p:Nat}(h:N % 2=1) (h1:1<N) (h2:zo N≤4096) (hp:1<p) (hd:N % p=0) (hne:N≠p):kP N p=false:=by
 rw [xJ h h1 h2];have hle:p≤N:=Nat.le_of_dvd (by omega) (Nat.dvd_of_mod_eq_zero hd);rw [qG (by omega),qA (by omega),List.any_eq_false];intro k hk;have hlk:jY N p k % p=0:=by
  unfold jY;rw [qG (by omega:p<N)];have he:0<(N - 1) / 2 ^ uS (N - 1)*2 ^ k:=Nat.mul_pos (Nat.div_pos (nL (by omega)) (qZ (by omega))) (qZ (by omega));have hdv:p ∣ p ^ ((N - 1) / 2 ^ uS (N - 1)*2 ^ k):=by have:=Nat.pow_dvd_pow p he;rwa [Nat.pow_one] at this
  exact Nat.mod_eq_zero_of_dvd ((Nat.dvd_mod_iff (Nat.dvd_of_mod_eq_zero hd)).2 hdv)
 have hn1:(N - 1) % p≠0:=fun e=>by
  have h3:p ∣ N - (N - 1):=Nat.dvd_sub (Nat.dvd_of_mod_eq_zero hd) (Nat.dvd_of_mod_eq_zero e);have h4:=Nat.le_of_dvd (by omega) h3;omega
 have ha:jY N p k≠N - 1:=fun e=>hn1 (e▸hlk);have hb:jY N p k≠1:=fun e=>by rw [e,qG hp] at hlk;omega
 simp [yQ,ha,hb]
theorem zAT {N:Nat}(h:N % 2=1) (h1:1<N) (h2:zo N≤4096) (hp:uK N 12=true):wz N 12=false:=by
 unfold uK at hp;rw [List.any_eq_true] at hp;obtain ⟨k,hk,hx⟩:=hp;rw [List.mem_range] at hk;simp only [wN,vg] at hx;have hg:1<xn.getD k 0:=by
  have:=tR hk;simp only [ya,xT,or_false] at this;omega
 have hs:=nQ h h1 h2 hg hx.1 hx.2;unfold wz;rw [List.all_eq_false];exact ⟨k,List.mem_range.2 hk,by rw [hs];decide⟩
def xe (N:Nat):Bool:=if uK N 12=true then false else if N=2 then true else if N % 2=1∧2<N then wz N 12 else false
theorem cM {N:Nat}(h2:zo N≤4096):xe N=yI N:=by
 unfold xe yI;by_cases hp:uK N 12=true
 · rw [qK hp];by_cases ho:N % 2=1∧1<N
   · rw [qK ho,zAT ho.1 ho.2 h2 hp]
   · rw [qA ho];symm;rw [xS];rintro rfl;exact absurd hp (by decide)
 · rw [qA hp];by_cases he:N=2
   · subst he;rfl
   rw [qA he];by_cases ho:N % 2=1∧1<N
   · rw [qK ho,qK ⟨ho.1,by omega⟩]
   · rw [qA ho,qA (by omega)];symm;rw [xS];exact he
def vOf (n e d p q:Nat):Bool :=
 decide (256≤zo n) && decide (zo n≤4096) && decide (p≠q) && decide (d<n) && decide (e<n) && decide (e % 2=1) && decide (2≤zo e) && decide (p*q=n) && yI p && yI q && decide (e*d % (p - 1)=1) && decide (e*d % (q - 1)=1)
theorem uU {N:Nat}(h:yI N=true):2≤N:=by
 unfold yI at h;split at h
 · omega
 · have:=of_decide_eq_true h;omega
theorem yP {p q n:Nat}(h:p*q=n) (hn:0<n):zo p+zo q≤zo n+1∧zo p≤zo n∧zo q≤zo n:=by
 have hp:p≠0:=fun e=>by subst e;omega
 have hq:q≠0:=fun e=>by subst e;omega
 have b1:=kC hp;have b2:=kC hq;have b3:=kC (x:=n) (by omega);refine ⟨?_,kh (jB (by rw [←h];exact Nat.le_mul_of_pos_right p (by omega)) b3.2.1),kh (jB (by rw [←h];exact Nat.le_mul_of_pos_left q (by omega)) b3.2.1)⟩;have h3:2 ^ ((zo p - 1)+(zo q - 1))≤n:=by rw [qI,←h];exact Nat.mul_le_mul b1.1 b2.1
 have h5:(zo p - 1)+(zo q - 1)<zo n:=(Nat.pow_lt_pow_iff_right (by omega:1<2)).1 (jB h3 b3.2.1);omega
def Ext (w w':World):Prop:=Below w.heap.size w w'
theorem Ext.refl (w:World):Ext w w:=zO _ w
theorem Ext.trans {a b c:World}(h:Ext a b) (k:Ext b c):Ext a c:=yL h (Below.mono k h.size)
theorem Ext.drew (w:World):Ext w w.drew:=(zO _ w).drew
theorem Ext.alloc (w:World) (o:Obj):Ext w (w.alloc o):=(zO _ w).alloc (zH _) o
theorem Ext.bsize {w w':World}(h:Ext w w'):w.heap.size≤w'.heap.size:=Below.size h
theorem Ext.at_ {w w':World}(h:Ext w w'){k:Nat}{o:Obj}(hk:w.heap[k]?=some o):w'.heap[k]?=some o:=by
 have hlt:k<w.heap.size:=by
  rcases zz k w.heap.size with h | h
  · exact h
  · rw [yH h] at hk;cases hk
 exact (Below.block h k hlt).trans hk
theorem Ext.cell {w w':World}(h:Ext w w'){a:Addr}{v:Value}(hk:w.cell? a=some v):w'.cell? a=some v :=
 (zT (Below.block h _ (World.block_lt_of_cell? w a hk))).trans hk
namespace Par
def dst (ops:Array Oper) (j:Nat):Option Nat:=(ops[j]?).bind (·.dst)
def binds (e:Edge):Bool:=Region.binds .any e
def put (ops:Array Oper) (sel:Nat→Bool) (f:Nat→Value):List Nat→Act→Act
 | [],a=>a
 | j :: l,a=>put ops sel f l (if sel j then a.put (dst ops j) (f j) else a)
def upd (f:Nat→Value) (i:Nat) (v:Value):Nat→Value:=fun j=>if j=i then v else f j
def kS (M:Nat→Nat) (j:Nat) (f:Nat→Value):Nat→Value:=fun k=>if (k==j || (M j).testBit k)=true then f k else undef
def nd (M:Nat→Nat) (i:Nat):Nat→Bool:=fun j=>j != i && !(M j).testBit i
theorem aR {ops:Array Oper}{sel sel':Nat→Bool}{f f':Nat→Value}{l:List Nat}(h:∀ j∈l,sel j=sel' j∧f j=f' j) (a:Act):put ops sel f l a=put ops sel' f' l a:=by
 induction l generalizing a with
 | nil=>rfl
 | cons j l ih =>
   obtain ⟨h1,h2⟩:=h j (by simp);simp only [put,h1,h2];exact ih (fun k hk=>h k (by simp [hk])) _
def sH (ops:Array Oper) (i j:Nat):Prop:=∃ d,dst ops i=some d∧dst ops j=some d
theorem zBY {ops:Array Oper}{sel:Nat→Bool}{f:Nat→Value}{l:List Nat}{i:Nat}{v:Value}(h:∀ j∈l,¬ sH ops i j) (a:Act):(put ops sel f l a).put (dst ops i) v=put ops sel f l (a.put (dst ops i) v):=by
 induction l generalizing a with
 | nil=>rfl
 | cons j l ih =>
   simp only [put];rw [ih (fun k hk=>h k (by simp [hk]))];cases sel j
   · rfl
   · simp only [if_true];rw [Act.put_comm a _ _ (fun d h1 h2=>h j (by simp) ⟨d,h2,h1⟩)]
theorem nj {ops:Array Oper}{sel:Nat→Bool}{f:Nat→Value}{i:Nat}{v:Value} : ∀ {l:List Nat}(_:i∈l) (_:l.Nodup) (_:∀ j∈l,j≠i→¬ sH ops i j) (_:sel i=false) (a:Act),(put ops sel f l a).put (dst ops i) v=put ops (fun j=>sel j || j==i) (upd f i v) l a
 | [],hi,_,_,_,_=>by cases hi
 | j :: l, hi, hn, hc, hs, a => by
   rw [List.nodup_cons] at hn;by_cases hji:j=i
   · subst hji;simp only [put,hs,Bool.false_eq_true,if_false,beq_self_eq_true,Bool.or_true,if_true,upd];rw [zBY (fun k hk=>hc k (by simp [hk]) (fun e=>hn.1 (e▸hk)))];refine aR (fun k hk=>?_) _;have hne:k≠j:=fun e=>hn.1 (e▸hk);simp [hne,upd]
   · have hmem:i∈l:=by
       rcases List.mem_cons.1 hi with h | h
       · exact absurd h.symm hji
       · exact h
     simp only [put];rw [nj hmem hn.2 (fun k hk=>hc k (by simp [hk])) hs];have e1:(sel j || j==i)=sel j:=by simp [hji]
     have e2:upd f i v j=f j:=by simp [upd,hji]
     simp only [e1,e2]
theorem zBZ (a:Act) (d:Option Nat) (v:Value) (h:∀ t,d=some t→v=a.tmps.getD t undef):a.put d v=a:=by
 cases d with
 | none=>rfl
 | some t =>
   have hv:=h t rfl;subst hv;show ({ a with tmps:=a.tmps.setIfInBounds t (a.tmps.getD t undef) } : Act)=a;congr 1;apply Array.ext_getElem?;intro k;rw [Array.getElem?_setIfInBounds];split
   · rename_i htk;subst htk;split
     · rename_i hlt;simp [hlt]
     · rename_i hlt;simp [yH (Nat.le_of_not_lt hlt)]
   · rfl
theorem zAO {a:Act}{d:Option Nat}{v:Value}{t:Nat}(h:d≠some t):(a.put d v).tmps.getD t undef=a.tmps.getD t undef:=by
 cases d with
 | none=>rfl
 | some s =>
   have hne:s≠t:=fun e=>h (by rw [e]);show (a.tmps.setIfInBounds s v).getD t undef=_;simp [Array.getD_eq_getD_getElem?,Array.getElem?_setIfInBounds_ne hne]
theorem cQ {ops:Array Oper}{D sel:Nat→Bool}{f g:Nat→Value}(b:Act):∀ {l:List Nat}(_:l.Nodup) (_:∀ i∈l,∀ j∈l,i≠j→¬ sH ops i j) (_:∀ j∈l,D j=true→sel j=true∧g j=f j) (a:Act) (_:∀ j∈l,D j=false→∀ t,dst ops j=some t→g j=a.tmps.getD t undef),put ops D f l a=put ops sel g l a
 | [],_,_,_,_,_=>rfl
 | j :: l, hn, hc, hD, a, hg => by
   rw [List.nodup_cons] at hn;simp only [put];have key:∀ a':Act,(∀ k∈l,∀ t,dst ops k=some t→a'.tmps.getD t undef=a.tmps.getD t undef)→put ops D f l a'=put ops sel g l a':=fun a' h' =>
     cQ b hn.2 (fun i hi k hk=>hc i (by simp [hi]) k (by simp [hk])) (fun k hk=>hD k (by simp [hk])) a' (fun k hk h1 t ht=>by rw [h' k hk t ht];exact hg k (by simp [hk]) h1 t ht)
   have far:∀ v,∀ k∈l,∀ t,dst ops k=some t→(a.put (dst ops j) v).tmps.getD t undef=a.tmps.getD t undef:=fun v k hk t ht=>zAO (fun e=>hc j (by simp) k (by simp [hk]) (fun e=>hn.1 (e▸hk)) ⟨t,e,ht⟩);cases hj:D j
   · have e:(if sel j=true then a.put (dst ops j) (g j) else a)=a:=by
       split
       · exact zBZ _ _ _ (fun t ht=>hg j (by simp) hj t ht)
       · rfl
     rw [e];exact key a (fun _ _ _ _=>rfl)
   · obtain ⟨h1,h2⟩:=hD j (by simp) hj;rw [h1,h2];exact key _ (far _)
def cnt (D:Nat→Bool):Nat→Nat
 | 0=>0
 | k+1=>cnt D k+(if D k then 1 else 0)
theorem rH (D:Nat→Bool):∀ m,cnt D m≤m
 | 0=>zH _
 | k+1=>by have:=rH D k;simp only [cnt];split <;> omega
theorem mG {D D':Nat→Bool} : ∀ {m:Nat},(∀ j,j<m→D j=D' j)→cnt D m=cnt D' m
 | 0,_=>rfl
 | k+1,h=>by simp only [cnt];rw [mG (fun j hj=>h j (by omega)),h k (by omega)]
theorem ow {D D':Nat→Bool}{i:Nat}(hD:D i=false) (hD':D' i=true) (h:∀ j,j≠i→D' j=D j):∀ {m:Nat},i<m→cnt D' m=cnt D m+1
 | 0,hi=>by omega
 | k + 1, hi => by
   simp only [cnt];by_cases hk:k=i
   · subst hk;rw [hD,hD',mG (fun j hj=>h j (by omega))];simp
   · rw [ow hD hD' h (m:=k) (by omega),h k hk];omega
theorem pA {D:Nat→Bool} : ∀ {m:Nat},(∀ j,j<m→D j=true)→cnt D m=m
 | 0,_=>rfl
 | k+1,h=>by simp only [cnt];rw [pA (fun j hj=>h j (by omega)),h k (by omega)];simp
theorem zA7 {D:Nat→Bool}{i:Nat}(hD:D i=false):∀ {m:Nat},i<m→cnt D m<m
 | 0,hi=>by omega
 | k + 1, hi => by
   simp only [cnt];by_cases hk:k=i
   · subst hk;have:=rH D k;rw [hD];simp;omega
   · have:=zA7 hD (m:=k) (by omega);split <;> omega
def ok (ops:Array Oper) (M:Nat→Nat) (m:Nat):Bool :=
  decide (m≤ops.size) &&
  ((List.range ops.size).all fun i => match ops[i]? with
    | none=>false
    | some o => (o.after.all fun e => !binds e || decide (e.on < i)) &&
      ((List.range ops.size).all fun k=>!(M i).testBit k || o.after.any fun e=>binds e && (e.on==k || (M e.on).testBit k)) &&
      (decide (i<m) || (List.range i).all fun k=>(M i).testBit k) && decide (M i<2 ^ i)) &&
  ((List.range m).all fun i=>(List.range m).all fun j=>i==j || (match dst ops i,dst ops j with | some d,some e=>d != e | _,_=>true))
structure pK (ops:Array Oper) (M:Nat→Nat) (m:Nat):Prop where
 le:m≤ops.size
 up:∀ i o,ops[i]?=some o→∀ e∈o.after,binds e=true→e.on<i
 by_:∀ i o k,ops[i]?=some o→k<ops.size→(M i).testBit k=true→∃ e∈o.after,binds e=true∧(e.on=k∨(M e.on).testBit k=true)
 low:∀ i,i<ops.size→M i<2 ^ i
 late:∀ i,m≤i→i<ops.size→∀ k,k<i→(M i).testBit k=true
 own:∀ i j,i<m→j<m→i≠j→¬ sH ops i j
theorem ok.form {ops:Array Oper}{M:Nat→Nat}{m:Nat}(h:ok ops M m=true):pK ops M m:=by
 unfold ok at h;rw [wN,wN,vg,List.all_eq_true,List.all_eq_true] at h;obtain ⟨⟨hle,h1⟩,h2⟩:=h;have key:∀ i o,ops[i]?=some o→(∀ e∈o.after,binds e=true→e.on<i)∧(∀ k,k<ops.size→(M i).testBit k=true→∃ e∈o.after,binds e=true∧(e.on=k∨(M e.on).testBit k=true))∧(m≤i→∀ k,k<i→(M i).testBit k=true)∧M i<2 ^ i:=by
  intro i o ho;have hi:i<ops.size:=(Array.getElem?_eq_some_iff.1 ho).1;have:=h1 i (List.mem_range.2 hi);rw [ho] at this;simp only [wN,Array.all_eq_true_iff_forall_mem,vj,Bool.not_eq_true',vg,List.all_eq_true,List.mem_range,Array.any_eq_true',wT] at this;obtain ⟨⟨⟨a1,a2⟩,a3⟩,a4⟩:=this;refine ⟨fun e he hb=>(a1 e he).resolve_left (by simp [hb]),fun k hk hb=>?_,fun hm k hk=>(a3.resolve_left (by omega)) k hk,a4⟩;obtain ⟨e,he,h3,h4⟩:=(a2 k hk).resolve_left (by simp [hb]);exact ⟨e,he,h3,h4⟩
 refine ⟨hle,fun i o ho=>(key i o ho).1,fun i o k ho=>(key i o ho).2.1 k,fun i hi=>(key i _ (qi hi)).2.2.2,fun i hm hi k hk=>?_,fun i j hi hj hne=>?_⟩
 · exact (key i _ (qi hi)).2.2.1 hm k hk
 · have h3:=h2 i (List.mem_range.2 hi);rw [List.all_eq_true] at h3;have h4:=h3 j (List.mem_range.2 hj);rintro ⟨d,e1,e2⟩;rw [e1,e2] at h4;simp [hne] at h4
theorem pK.bit {ops:Array Oper}{M:Nat→Nat}{m:Nat}(h:pK ops M m) (i:Nat) (hi:i<ops.size) (k:Nat) (hk:(M i).testBit k=true):k<i:=by
 rcases zz k i with hlt | hge
 · exact hlt
 · have h1:=h.low i hi;rw [Nat.testBit_lt_two_pow (zR h1 (qF (by omega) hge))] at hk;cases hk
theorem anc {ops:Array Oper}{M:Nat→Nat}{m:Nat}(hF:pK ops M m){listed:Array Bool}(hcl:∀ j o,ops[j]?=some o→listed.getD j false=true→∀ e∈o.after,binds e=true→listed.getD e.on false=true) :
   ∀ n i o,i≤n→ops[i]?=some o→(∀ e∈o.after,binds e=true→listed.getD e.on false=true)→∀ k,k<ops.size→(M i).testBit k=true→listed.getD k false=true:=by
 intro n;induction n with
 | zero =>
   intro i o hin ho hd k hk hb;obtain ⟨e,he,hb',_⟩:=hF.by_ i o k ho hk hb;have:=hF.up i o ho e he hb';omega
 | succ n ihn =>
   intro i o hin ho hd k hk hb;obtain ⟨e,he,hb',h1⟩:=hF.by_ i o k ho hk hb;rcases h1 with rfl | h1
   · exact hd e he hb'
   · have hlt':=hF.up i o ho e he hb';have hes:e.on<ops.size:=by have:=(Array.getElem?_eq_some_iff.1 ho).1;omega
     exact ihn e.on _ (by omega) (qi hes) (hcl e.on _ (qi hes) (hd e he hb')) k hk h1
section
variable {P:Program} {ops:Array Oper} {Q:Exit→Act→World→Prop}
def zBH (P:Program) (ops:Array Oper) (Q:Exit→Act→World→Prop) (E:World→World→Prop) (m:Nat) (M:Nat→Nat) (AL:Nat→Bool) (R:Nat→(Nat→Value)→World→Prop) (a:Act) (w:World) (i:Nat):Prop :=
  ∀ f X, E w X → (∀ j, (M i).testBit j = true → R j f X) → ∀ K : Act → World → Prop,
    (∀ a' v X',a'=(put ops (nd M i) f (List.range m) a).put (dst ops i) v→E X X'→(if AL i=true then v=.pointer (some ⟨X.heap.size,0,none⟩)∧X.heap.size<X'.heap.size else True)→(∀ Y,E X' Y→R i (upd f i v) Y)→K a' X') →
    wpOp P ops Q i K (put ops (nd M i) f (List.range m) a) X
theorem zBH.intro {E:World→World→Prop}{m:Nat}{M:Nat→Nat}{AL:Nat→Bool}{R:Nat→(Nat→Value)→World→Prop}{a:Act}{w:World}{i:Nat}{o:Oper}(ho:ops[i]?=some o)
 (h : ∀ f X, E w X → (∀ j, (M i).testBit j = true → R j f X) → ∀ K : Act → World → Prop,
  (∀ a' v X',a'=(put ops (nd M i) f (List.range m) a).put o.dst v→E X X'→(if AL i=true then v=.pointer (some ⟨X.heap.size,0,none⟩)∧X.heap.size<X'.heap.size else True)→(∀ Y,E X' Y→R i (upd f i v) Y)→K a' X') →
  if Region.wanted o (yielded ops (put ops (nd M i) f (List.range m) a).tmps)=true then Oper.wp P o (put ops (nd M i) f (List.range m) a) X K Q else K ((put ops (nd M i) f (List.range m) a).put o.dst undef) X) :
 zBH P ops Q E m M AL R a w i:=fun f X hX hR K hK=>wpOp_step ho fun K' hK'=>h f X hX hR K' fun a' v X' ha hE hA hR'=>hK' _ _ (hK a' v X' (by rw [ha,dst,ho];rfl) hE hA hR')
structure Inv (ops:Array Oper) (E:World→World→Prop) (m:Nat) (M:Nat→Nat) (AL:Nat→Bool) (R:Nat→(Nat→Value)→World→Prop) (a:Act) (w:World) (D:Nat→Bool) (f:Nat→Value) (a':Act) (X:World):Prop where
 act:a'=put ops D f (List.range m) a
 ext:E w X
 said:∀ j,j<m→D j=true→R j (kS M j f) X
 at_:∀ j,j<m→D j=true→AL j=true→∃ b,f j=.pointer (some ⟨b,0,none⟩)∧b<X.heap.size
 apart:∀ j k,j<m→k<m→D j=true→D k=true→AL j=true→AL k=true→j≠k→f j≠f k
theorem fin {E:World→World→Prop}{m:Nat}{M:Nat→Nat}{AL:Nat→Bool}{R:Nat→(Nat→Value)→World→Prop}{a:Act}{w:World}(hF:pK ops M m)
 (hfin : ∀ f X, E w X → (∀ j, j < m → R j (kS M j f) X) → (∀ j, j < m → AL j = true → ∃ b, f j = .pointer (some ⟨b, 0, none⟩) ∧ b < X.heap.size) → (∀ j k, j < m → k < m → AL j = true → AL k = true → j ≠ k → f j ≠ f k) →
  wpAny P .any ops Q (ops.size - m) (((List.range ops.size).map fun j=>decide (j<m)).toArray) (put ops (fun _=>true) f (List.range m) a) X)
 {fuel:Nat} {listed:Array Bool} {f:Nat→Value} {a':Act} {X:World} (hsz:listed.size=ops.size) (hall:∀ j,j<m→listed.getD j false=true) (hlt:∀ j,listed.getD j false=true→j<m)
 (hI:Inv ops E m M AL R a w (fun j=>listed.getD j false) f a' X) (hfuel:fuel+m=ops.size):wpAny P .any ops Q fuel listed a' X:=by
 have e1:listed=((List.range ops.size).map fun j=>decide (j<m)).toArray:=by
  apply Array.ext
  · simp [hsz]
  · intro k h1 h2;simp only [List.getElem_toArray,List.getElem_map,List.getElem_range];by_cases hk:k<m
    · have:=hall k hk;simpa [h1,hk] using this
    · cases hd:listed[k]
      · simp [hk]
      · exact absurd (hlt k (by simp [h1,hd])) hk
 have e2:a'=put ops (fun _=>true) f (List.range m) a:=by
  rw [hI.act];exact aR (fun j hj=>⟨hall j (List.mem_range.1 hj),rfl⟩) _
 have e3:fuel=ops.size - m:=by omega
 rw [e1,e2,e3]
 exact hfin f X hI.ext (fun j hj=>hI.said j hj (hall j hj)) (fun j hj h=>hI.at_ j hj (hall j hj) h) (fun j k hj hk h1 h2=>hI.apart j k hj hk (hall j hj) (hall k hk) h1 h2)
theorem par {E:World→World→Prop}(hE0:∀ w,E w w) (hE1:∀ a b c,E a b→E b c→E a c) (hE2:∀ a b,E a b→a.heap.size≤b.heap.size)
   {m:Nat} {M:Nat→Nat} {AL:Nat→Bool} {R:Nat→(Nat→Value)→World→Prop} {a:Act} {w:World} (hF:pK ops M m)
   (hR:∀ j,j<m→∀ f X,R j (kS M j f) X→∀ Y,E X Y→R j (kS M j f) Y)
   (hstep:∀ i,i<m→zBH P ops Q E m M AL (fun j f X=>R j (kS M j f) X) a w i)
   (hfin:∀ f X,E w X→(∀ j,j<m→R j (kS M j f) X)→(∀ j,j<m→AL j=true→∃ b,f j=.pointer (some ⟨b,0,none⟩)∧b<X.heap.size)→(∀ j k,j<m→k<m→AL j=true→AL k=true→j≠k→f j≠f k) →
     wpAny P .any ops Q (ops.size - m) (((List.range ops.size).map fun j=>decide (j<m)).toArray) (put ops (fun _=>true) f (List.range m) a) X) :
   ∀ (fuel : Nat) (listed : Array Bool) (f : Nat → Value) (a' : Act) (X : World), listed.size = ops.size →
     (∀ j o,ops[j]?=some o→listed.getD j false=true→∀ e∈o.after,binds e=true→listed.getD e.on false=true) →
     (∀ j,listed.getD j false=true→j<m)→fuel+cnt (fun j=>listed.getD j false) m=ops.size →
     Inv ops E m M AL R a w (fun j=>listed.getD j false) f a' X→wpAny P .any ops Q fuel listed a' X:=by
 intro fuel;induction fuel with
 | zero =>
   intro listed f a' X hsz hcl hlt hc hI;have hcm:cnt (fun j=>listed.getD j false) m≤m:=rH _ _;have hmm:m=ops.size:=by have:=hF.le;omega
   have hall:∀ j,j<m→listed.getD j false=true:=fun j hj=>by
     cases h:listed.getD j false
     · have:=zA7 (D:=fun j=>listed.getD j false) (i:=j) h hj;omega
     · rfl
   exact fin hF hfin hsz hall hlt hI (by omega)
 | succ fuel ih =>
   intro listed f a' X hsz hcl hlt hc hI;by_cases hall:∀ j,j<m→listed.getD j false=true
   · have hcm:=pA (D:=fun j=>listed.getD j false) hall;exact fin hF hfin hsz hall hlt hI (by omega)
   · refine ⟨fun h=>?_,fun i hi=>?_⟩
     · exfalso
       -- the first that is not done may come up
       have:∀ n,n≤m→(∀ j,j<n→listed.getD j false=true):=by
         intro n;induction n with
         | zero=>intro _ j hj;omega
         | succ n ihn =>
           intro hn j hj;by_cases hjn:j<n
           · exact ihn (by omega) j hjn
           · obtain rfl:j=n:=by omega
             cases hd:listed.getD j false
             · exfalso;have hjs:j<ops.size:=by have:=hF.le;omega
               have hmem:j∈Region.ready .any ops listed:=by
                 rw [mem_ready];have hjl:j<listed.size:=by omega
                 refine ⟨by simpa [hjl] using hd,_,qi hjs,fun e he hb=>ihn (by omega) _ (hF.up j _ (qi hjs) e he hb)⟩
               rw [h] at hmem;cases hmem
             · rfl
       exact hall (this m (zH _))
     · obtain ⟨hi0,o,ho,hdep⟩:=mem_ready.1 hi;have his:i<ops.size:=(Array.getElem?_eq_some_iff.1 ho).1;have hil:i<listed.size:=by omega
       have hid:listed.getD i false=false:=by simpa [hil] using hi0
       have anc:=fun i o hio hd k hk hb=>anc hF hcl i i o (zH _) hio hd k (zR hk hF.le) hb;have him:i<m:=by
         rcases zz i m with h | h
         · exact h
         · exact absurd (fun k hk=>anc i o ho hdep k hk (hF.late i h his k (by omega))) hall
       -- what waits for it is not
       have hnd:∀ j,j<m→listed.getD j false=true→nd M i j=true:=fun j hj hd=>by
         have h1:j≠i:=fun e=>by rw [e,hid] at hd;cases hd
         have hjs:j<ops.size:=by have:=hF.le;omega
         have h2:(M j).testBit i=false:=by
           cases hb:(M j).testBit i
           · rfl
           · have:=anc j _ (qi hjs) (hcl j _ (qi hjs) hd) i him hb;rw [hid] at this;cases this
         simp [nd,h1,h2]
       -- the slots as the step sees them
       obtain ⟨g,hg⟩:∃ g:Nat→Value,g=fun j=>if listed.getD j false=true then f j else ((dst ops j).map fun t=>a.tmps.getD t undef).getD undef:=⟨_,rfl⟩
       have hgf:∀ j,listed.getD j false=true→g j=f j:=fun j hj=>by rw [hg];simp only [hj,if_true]
       have hact:a'=put ops (nd M i) g (List.range m) a:=by
         rw [hI.act];refine cQ a List.nodup_range (fun p hp q hq=>hF.own p q (List.mem_range.1 hp) (List.mem_range.1 hq)) (fun j hj hd=>⟨hnd j (List.mem_range.1 hj) hd,hgf j hd⟩) a (fun j _ hd t ht=>?_);rw [hg];simp only [hd,Bool.false_eq_true,if_false,ht,Option.map_some,vU]
       have hmask:∀ j,j<m→listed.getD j false=true→kS M j g=kS M j f:=fun j hj hd=>by
         funext k;unfold kS;split
         · rename_i hk;rw [vj,wT] at hk;rcases hk with rfl | hk
           · exact hgf _ hd
           · have hjs:j<ops.size:=by have:=hF.le;omega
             have hkj:=hF.bit j hjs k hk;exact hgf k (anc j _ (qi hjs) (hcl j _ (qi hjs) hd) k (by omega) hk)
         · rfl
       rw [hact];refine hstep i him g X hI.ext (fun j hb=>?_) _ (fun a'' v X' ha hE hA hR'=>?_)
       · have hj:j<m:=by have:=hF.bit i his j hb;omega
         have hd:=anc i o ho hdep j hj hb;show R j (kS M j g) X;rw [hmask j hj hd];exact hI.said j hj hd
       · have hnew:∀ j,(listed.setIfInBounds i true).getD j false=(listed.getD j false || j==i):=fun j=>by
           by_cases hji:j=i
           · subst hji;simp [hil]
           · rw [Go.getD_set_ne false (fun e=>hji e.symm)];simp [hji]
         have hnin:∀ j,j<m→listed.getD j false=true→j≠i:=fun j _ hd e=>by rw [e,hid] at hd;cases hd
         have hupd:∀ j,listed.getD j false=true→upd g i v j=f j:=fun j hd=>by
           have hne:j≠i:=fun e=>by rw [e,hid] at hd;cases hd
           simp only [upd,hne,if_false];exact hgf j hd
         have hupi:upd g i v i=v:=by simp [upd]
         have hmk:∀ j,j<m→listed.getD j false=true→kS M j (upd g i v)=kS M j f:=fun j hj hd=>by
           rw [←hmask j hj hd];funext k;unfold kS;split
           · rename_i hk;rw [vj,wT] at hk;have hne:k≠i:=by
               rintro rfl;rcases hk with rfl | hk
               · exact hnin _ hj hd rfl
               · have:=hnd j hj hd;simp [nd,hk] at this
             simp [upd,hne]
           · rfl
         refine ih _ (upd g i v) a'' X' (by simpa using hsz) (fun j oj hoj hd e he hb=>?_) (fun j hd=>?_) ?_ ⟨?_,hE1 _ _ _ hI.ext hE,fun j hj hd=>?_,fun j hj hd hal=>?_,fun j k hj hk hd hd' hal hal' hne=>?_⟩
         · rw [hnew] at hd ⊢;rw [vj,wT] at hd ⊢;rcases hd with hd | rfl
           · exact .inl (hcl j oj hoj hd e he hb)
           · rw [ho] at hoj;cases hoj;exact .inl (hdep e he hb)
         · rw [hnew,vj,wT] at hd;rcases hd with hd | rfl
           · exact hlt j hd
           · exact him
         · rw [ow (D:=fun j=>listed.getD j false) (D':=fun j=>(listed.setIfInBounds i true).getD j false) hid (by rw [hnew];simp) (fun j hj=>by show (listed.setIfInBounds i true).getD j false=listed.getD j false;rw [hnew];simp [hj]) him];omega
         · rw [ha,nj (List.mem_range.2 him) List.nodup_range (fun j hj hne=>hF.own i j him (List.mem_range.1 hj) (ub hne)) (by simp [nd])];refine (cQ a List.nodup_range (fun p hp q hq=>hF.own p q (List.mem_range.1 hp) (List.mem_range.1 hq)) (fun j hj hd=>⟨?_,rfl⟩) a (fun j hj hd t ht=>?_)).symm
           · rw [hnew,vj,wT] at hd;rw [vj,wT];exact hd.imp (hnd j (List.mem_range.1 hj)) id
           · rw [hnew,Bool.or_eq_false_iff] at hd;have hne:j≠i:=by simpa using hd.2
             simp only [upd,hne,if_false];rw [hg];simp only [hd.1,Bool.false_eq_true,if_false,ht,Option.map_some,vU]
         · rw [hnew,vj,wT] at hd;by_cases hold:listed.getD j false=true
           · rw [hmk j hj hold];have:=hI.said j hj hold;exact hR j hj f X this X' hE
           · obtain rfl:j=i:=hd.resolve_left hold;exact hR' X' (hE0 _)
         · rw [hnew,vj,wT] at hd;by_cases hold:listed.getD j false=true
           · obtain ⟨b,h1,h2⟩:=hI.at_ j hj hold hal;exact ⟨b,(hupd j hold).trans h1,zR h2 (hE2 _ _ hE)⟩
           · obtain rfl:j=i:=hd.resolve_left hold;rw [qK hal] at hA;exact ⟨X.heap.size,hupi.trans hA.1,hA.2⟩
         · rw [hnew,vj,wT] at hd hd';have key:∀ j k,j<m→listed.getD j false=true→AL j=true→AL k=true→k=i→upd g i v j≠upd g i v k:=fun j k hj hold hal hal' hki heq=>by
             subst hki;rw [qK hal'] at hA;obtain ⟨b,h1,h2⟩:=hI.at_ j hj hold hal;rw [hupd j hold,hupi,h1,hA.1] at heq;injection heq with heq
             injection heq with heq
             injection heq with heq
             omega
           by_cases hold:listed.getD j false=true
           · by_cases hold':listed.getD k false=true
             · rw [hupd j hold,hupd k hold'];exact hI.apart j k hj hk hold hold' hal hal' hne
             · exact key j k hj hold hal hal' (hd'.resolve_left hold')
           · have hji:=hd.resolve_left hold;by_cases hold':listed.getD k false=true
             · exact fun e=>key k j hk hold' hal' hal hji e.symm
             · exact absurd (hji.trans (hd'.resolve_left hold').symm) hne
structure Way (p:Prop):Prop where
 out:p
def qE (P:Program) (ol:List Oper) (Q:Exit→Act→World→Prop):List Oper→Act→World→Prop
 | [],a,w=>Q .normal a w
 | o :: l,a,w=>∀ K:Act→World→Prop,(∀ a w,qE P ol Q l a w→K a w)→if Region.wanted o (yielded ol.toArray a.tmps)=true then Oper.wp P o a w K Q else K (a.put o.dst undef) w
def xd (n m:Nat):Array Bool:=((List.range n).map fun j=>decide (j<m)).toArray
theorem uR {n m j:Nat}(h:j<n):(xd n m).getD j false=decide (j<m):=by
 simp [xd,h]
theorem nJ {n m:Nat}(h:m<n):(xd n m).setIfInBounds m true=xd n (m+1):=by
 apply Array.ext
 · simp [xd]
 · intro k h1 h2;have hk:k<n:=by simpa [xd] using h2
   by_cases hkm:k=m
   · subst hkm;simp [xd,hk]
   · rw [Array.getElem_setIfInBounds_ne (by simpa [xd] using hk) (fun e=>hkm e.symm)];simp only [xd,List.getElem_toArray,List.getElem_map,List.getElem_range,decide_eq_decide];omega
theorem qE.sound {ol:List Oper}{M:Nat→Nat}{m:Nat}(hF:pK ol.toArray M m):∀ (n m':Nat) (a:Act) (X:World),m≤m'→m'+n=ol.toArray.size→qE P ol Q (ol.drop m') a X→wpAny P .any ol.toArray Q n (xd ol.toArray.size m') a X:=by
 intro n;induction n with
 | zero =>
   intro m' a X hm hn h;have hnil:ol.drop m'=[]:=List.drop_eq_nil_of_le (by simp at hn;omega);rw [hnil] at h;refine ⟨?_,h⟩;cases hr:Region.ready .any ol.toArray (xd ol.toArray.size m') with
   | nil=>rfl
   | cons i l =>
     have hi:i∈Region.ready .any ol.toArray (xd ol.toArray.size m'):=by rw [hr];simp
     obtain ⟨h0,o,ho,_⟩:=mem_ready.1 hi;have his:=(Array.getElem?_eq_some_iff.1 ho).1;have h1:(xd ol.toArray.size m').getD i true=decide (i<m'):=by
       have:i<ol.length:=by simpa using his
       simp [xd,this]
     rw [h1,xS] at h0;omega
 | succ n ih =>
   intro m' a X hm hn h;have hms:m'<ol.length:=by simp at hn;omega
   have hms':m'<ol.toArray.size:=by simpa using hms
   have hcl:∀ j o,ol.toArray[j]?=some o→(xd ol.toArray.size m').getD j false=true→∀ e∈o.after,binds e=true→(xd ol.toArray.size m').getD e.on false=true:=fun j o ho hj e he hb=>by
     have hjs:=(Array.getElem?_eq_some_iff.1 ho).1;have hlt:=hF.up j o ho e he hb;rw [uR hjs] at hj;rw [uR (by omega)];simp at hj ⊢;omega
   have hmem:m'∈Region.ready .any ol.toArray (xd ol.toArray.size m'):=by
     rw [mem_ready];refine ⟨?_,_,qi hms',fun e he hb=>?_⟩
     · simp [xd,hms]
     · have hlt:=hF.up m' _ (qi hms') e he hb;rw [uR (by omega)];simpa using hlt
   refine ⟨fun h0=>(by rw [h0] at hmem;cases hmem),fun i hi=>?_⟩;obtain ⟨h0,o,ho,hdep⟩:=mem_ready.1 hi;have his:=(Array.getElem?_eq_some_iff.1 ho).1;have him:i=m':=by
     have h1:(xd ol.toArray.size m').getD i true=decide (i<m'):=by
       have:i<ol.length:=by simpa using his
       simp [xd,this]
     rw [h1,xS] at h0;rcases zz m' i with hlt | hge
     · have:=anc hF hcl i i o (zH _) ho hdep m' hms' (hF.late i (by omega) his m' hlt);rw [uR hms'] at this;simp at this
     · omega
   subst him;rw [qa hms] at h;have hoe:o=ol[i]:=by
     have:ol[i]?=some o:=by simpa using ho
     rw [qO hms] at this;injection this with this
     exact this.symm
   rw [nJ hms'];refine wpOp_step ho fun K' hK'=>?_;rw [hoe];exact h K' fun a w hc=>hK' a w (ih (i+1) a w (by omega) (by omega) hc)
theorem qE.next {ol:List Oper}{o:Oper}{l:List Oper}{a:Act}{w:World}(h:∀ K:Act→World→Prop,Way (∀ a w,Way (qE P ol Q l a w)→K a w)→Way (if Region.wanted o (yielded ol.toArray a.tmps)=true then Oper.wp P o a w K Q else K (a.put o.dst undef) w)):Way (qE P ol Q (o :: l) a w) :=
 ⟨fun K hK=>(h K ⟨fun a w hc=>hK a w hc.out⟩).out⟩
theorem qE.done {ol:List Oper}{a:Act}{w:World}(h:Q .normal a w):Way (qE P ol Q [] a w):=⟨h⟩
def sel (ops:Array Oper) (s:Nat→Bool) (l:List Nat):List (Nat×Nat):=l.filterMap fun j=>if s j then (dst ops j).map fun d=>(d,j) else none
def yN (f:Nat→Value):List (Nat×Nat)→Act→Act
 | [],a=>a
 | p :: l,a=>yN f l (a.put (some p.1) (f p.2))
theorem rW (s:Nat→Bool) (f:Nat→Value) (l:List Nat) (a:Act):put ops s f l a=yN f (sel ops s l) a:=by
 induction l generalizing a with
 | nil=>rfl
 | cons j l ih =>
   simp only [put,sel,List.filterMap_cons];rw [ih];cases s j
   · rfl
   · simp only [if_true];cases h:dst ops j with
     | none=>rfl
     | some d=>rfl
def xc (S:Nat→Prop):Nat→Nat→Prop
 | _,0=>True
 | k,n+1=>S k∧xc S (k+1) n
theorem xc.nil {S:Nat→Prop}{k:Nat} : xc S k 0:=trivial
theorem xc.cons {S:Nat→Prop}{k n:Nat}(k' n':Nat) (hk:k+1=k') (hn:n'+1=n) (h:S k) (hs:xc S k' n'):xc S k n:=by
 subst hk hn;exact ⟨h,hs⟩
theorem xc.out {S:Nat→Prop} : ∀ {n k:Nat},xc S k n→∀ i,k≤i→i<k+n→S i
 | 0,k,_,i,h1,h2=>by omega
 | n + 1, k, h, i, h1, h2 => by
   by_cases hi:i=k
   · subst hi;exact h.1
   · exact h.2.out i (by omega) (by omega)
def bh (P:Program) (ops:Array Oper) (Q:Exit→Act→World→Prop) (E:World→World→Prop) (m:Nat) (L:List Nat) (AL:List Nat) (R:Nat→(Nat→Value)→World→Prop) (a:Act) (w:World) (i:Nat):Prop :=
 zBH P ops Q E m (fun i=>L.getD i 0) (fun i=>AL.contains i) (fun j f X=>R j (kS (fun i=>L.getD i 0) j f) X) a w i
theorem bh.intro {E:World→World→Prop}{m:Nat}{L AL:List Nat}{R:Nat→(Nat→Value)→World→Prop}{a:Act}{w:World}{i:Nat}{o:Oper}(pl:List (Nat×Nat)) (ho:ops[i]?=some o) (hpl:sel ops (nd (fun i=>L.getD i 0) i) (List.range m)=pl)
 (h : ∀ f X, E w X → Way (∀ j, (L.getD i 0).testBit j = true → R j (kS (fun i => L.getD i 0) j f) X) → ∀ K : Act → World → Prop,
  Way (∀ a' v X',a'=(yN f pl a).put o.dst v→E X X'→(if AL.contains i=true then v=.pointer (some ⟨X.heap.size,0,none⟩)∧X.heap.size<X'.heap.size else True)→(∀ Y,E X' Y→R i (kS (fun i=>L.getD i 0) i (upd f i v)) Y)→K a' X') →
  Way (if Region.wanted o (yielded ops (yN f pl a).tmps)=true then Oper.wp P o (yN f pl a) X K Q else K ((yN f pl a).put o.dst undef) X)) :
 bh P ops Q E m L AL R a w i:=zBH.intro ho fun f X hX hR K hK=>by
 have h1:=h f X hX ⟨hR⟩ K
 rw [←hpl,←rW] at h1
 exact (h1 ⟨hK⟩).out
structure js (P:Program) (ol:List Oper) (Q:Exit→Act→World→Prop) (E:World→World→Prop) (m:Nat) (L:List Nat) (AL:List Nat) (R:Nat→(Nat→Value)→World→Prop) (a:Act) (w:World) (i:Nat) (o:Oper):Prop where
 out:ol[i]?=some o→bh P ol.toArray Q E m L AL R a w i
theorem js.intro {ol:List Oper}{E:World→World→Prop}{m:Nat}{L AL:List Nat}{R:Nat→(Nat→Value)→World→Prop}{a:Act}{w:World}{i:Nat}{o:Oper}(pl:List (Nat×Nat)) (hpl:sel ol.toArray (nd (fun i=>L.getD i 0) i) (List.range m)=pl)
 (h : ∀ f X, E w X → Way (∀ j, (L.getD i 0).testBit j = true → R j (kS (fun i => L.getD i 0) j f) X) → ∀ K : Act → World → Prop,
  Way (∀ a' v X',a'=(yN f pl a).put o.dst v→E X X'→(if AL.contains i=true then v=.pointer (some ⟨X.heap.size,0,none⟩)∧X.heap.size<X'.heap.size else True)→(∀ Y,E X' Y→R i (kS (fun i=>L.getD i 0) i (upd f i v)) Y)→K a' X') →
  Way (if Region.wanted o (yielded ol.toArray (yN f pl a).tmps)=true then Oper.wp P o (yN f pl a) X K Q else K ((yN f pl a).put o.dst undef) X)) :
 js P ol Q E m L AL R a w i o:=⟨fun ho=>bh.intro pl (by simpa using ho) hpl h⟩
inductive qz (S:Nat→Oper→Prop) (F:List Oper→Prop):Nat→Nat→List Oper→Prop
 | fin {k:Nat} {l:List Oper} (h:F l):qz S F k 0 l
 | step {k n:Nat} {o:Oper} {l:List Oper} (h:S k o) (hs:qz S F (k+1) n l):qz S F k (n+1) (o :: l)
theorem qz.cons {S:Nat→Oper→Prop}{F:List Oper→Prop}{k n:Nat}{o:Oper}{l:List Oper}(k' n':Nat) (hk:k+1=k') (hn:n'+1=n) (h:S k o) (hs:qz S F k' n' l):qz S F k n (o :: l):=by
 subst hk hn;exact .step h hs
theorem qz.out {S:Nat→Oper→Prop}{F:List Oper→Prop}{n k:Nat}{l:List Oper}(h:qz S F k n l):∀ i,i<n→∃ o,l[i]?=some o∧S (k+i) o:=by
 induction h with
 | fin _=>intro i hi;omega
 | step h hs ih =>
   rename_i k n o l;intro i hi;match i with
   | 0=>exact ⟨o,rfl,h⟩
   | i + 1 =>
     obtain ⟨o',h1,h2⟩:=ih i (by omega);exact ⟨o',by simpa using h1,by rw [show k+(i+1)=k+1+i by omega];exact h2⟩
theorem qz.end_ {S:Nat→Oper→Prop}{F:List Oper→Prop}{n k:Nat}{l:List Oper}(h:qz S F k n l):F (l.drop n):=by
 induction h with
 | fin h=>exact h
 | step _ _ ih=>exact ih
theorem qk {b:Bool}{p q:Prop}(h:b=true) (hp:p):if b=true then p else q:=by rw [qK h];exact hp
theorem bA {n j:Nat} : (Array.replicate n false).getD j false=false:=by
 rw [Array.getD_eq_getD_getElem?,Array.getElem?_replicate];split <;> rfl
theorem zCv {E:World→World→Prop}(hE0:∀ w,E w w) (hE1:∀ a b c,E a b→E b c→E a c) (hE2:∀ a b,E a b→a.heap.size≤b.heap.size)
 {a:Act} {w X0:World} (hX0:E w X0) (m:Nat) (L AL:List Nat) (R:Nat→(Nat→Value)→World→Prop) (hok:ok ops (fun i=>L.getD i 0) m=true)
 (hstep:xc (bh P ops Q E m L AL R a w) 0 m) (pl:List (Nat×Nat)) (hpl:sel ops (fun _=>true) (List.range m)=pl)
 (hfin : ∀ f X, E w X → (∀ j, j < m → R j (kS (fun i => L.getD i 0) j f) X) → (∀ j, j < m → AL.contains j = true → ∃ b, f j = .pointer (some ⟨b, 0, none⟩) ∧ b < X.heap.size) → (∀ j k, j < m → k < m → AL.contains j = true → AL.contains k = true → j ≠ k → f j ≠ f k) →
  wpAny P .any ops Q (ops.size - m) (((List.range ops.size).map fun j=>decide (j<m)).toArray) (yN f pl a) X):wpAny P .any ops Q ops.size (Array.replicate ops.size false) a X0:=by
 have hF:=ok.form hok
 refine par hE0 hE1 hE2 (R:=fun j f X=>∀ Y,E X Y→R j f Y) (M:=fun i=>L.getD i 0) (AL:=fun i=>AL.contains i) (m:=m) (a:=a) (w:=w) hF (fun j _ f X h Y hY Z hZ=>h Z (hE1 _ _ _ hY hZ))
  (fun i hi f X hX hR K hK=>?_) (fun f X hX hR h1 h2=>?_) ops.size _ (fun _=>undef) a X0 (by simp) (fun j o _ h=>(by rw [bA] at h;cases h)) (fun j h=>(by rw [bA] at h;cases h)) ?_ ⟨?_,hX0,fun j _ h=>(by rw [bA] at h;cases h),fun j _ h=>(by rw [bA] at h;cases h),fun j k _ _ h=>(by rw [bA] at h;cases h)⟩
 · refine hstep.out i (j6 _) (by omega) f X hX (fun j hj=>hR j hj X (hE0 _)) K (fun a' v X' ha hE hA hR'=>hK a' v X' ha hE hA (fun Y hY Z hZ=>hR' Z (hE1 _ _ _ hY hZ)))
 · have:=hfin f X hX (fun j hj=>hR j hj X (hE0 _)) h1 h2;rw [←hpl,←rW] at this;exact this
 · have:∀ n,cnt (fun j=>(Array.replicate ops.size false).getD j false) n=0:=fun n=>by
    induction n with
    | zero=>rfl
    | succ n ih=>rw [cnt,ih,bA];rfl
   rw [this];rfl
 · have:∀ (l:List Nat) (a:Act),put ops (fun j=>(Array.replicate ops.size false).getD j false) (fun _=>undef) l a=a:=fun l=>by
    induction l with
    | nil=>intro a;rfl
    | cons j l ih=>intro a;rw [put,bA];exact ih _
   exact (this _ _).symm
structure Fin (P:Program) (ol:List Oper) (Q:Exit→Act→World→Prop) (E:World→World→Prop) (m:Nat) (L AL:List Nat) (R:Nat→(Nat→Value)→World→Prop) (pl:List (Nat×Nat)) (a:Act) (w:World) (l:List Oper):Prop where
 out:∀ f X,E w X→(∀ j,j<m→R j (kS (fun i=>L.getD i 0) j f) X)→(∀ j,j<m→AL.contains j=true→∃ b,f j=.pointer (some ⟨b,0,none⟩)∧b<X.heap.size)→(∀ j k,j<m→k<m→AL.contains j=true→AL.contains k=true→j≠k→f j≠f k)→Way (qE P ol Q l (yN f pl a) X)
theorem cC {E:World→World→Prop}(hE0:∀ w,E w w) (hE1:∀ a b c,E a b→E b c→E a c) (hE2:∀ a b,E a b→a.heap.size≤b.heap.size)
 {ol:List Oper} {a:Act} {w X0:World} (hX0:E w X0) (m:Nat) (L AL:List Nat) (R:Nat→(Nat→Value)→World→Prop) (hok:ok ol.toArray (fun i=>L.getD i 0) m=true) (pl:List (Nat×Nat)) (hpl:sel ol.toArray (fun _=>true) (List.range m)=pl)
 (hstep:qz (js P ol Q E m L AL R a w) (Fin P ol Q E m L AL R pl a w) 0 m ol):wpAny P .any ol.toArray Q ol.toArray.size (Array.replicate ol.toArray.size false) a X0:=by
 refine zCv hE0 hE1 hE2 hX0 m L AL R hok ?_ pl hpl (fun f X hX hR h1 h2=>?_)
 · have key:∀ i,i<m→bh P ol.toArray Q E m L AL R a w i:=fun i hi=>by
    obtain ⟨o,h1,h2⟩:=hstep.out i hi;rw [jc] at h2;exact h2.out h1
   have:∀ n k,k+n=m→xc (bh P ol.toArray Q E m L AL R a w) k n:=fun n=>by
    induction n with
    | zero=>intro k _;trivial
    | succ n ih=>intro k hk;exact ⟨key k (by omega),ih (k+1) (by omega)⟩
   exact this m 0 (by omega)
 · have hF:=ok.form hok;have h3:=(hstep.end_.out f X hX hR h1 h2).out;exact qE.sound hF (ol.toArray.size - m) m _ X (zH _) (by have:=hF.le;omega) h3
theorem pF {ol:List Oper}{M:Nat→Nat}{m:Nat}(hF:pK ol.toArray M m):∀ (n m':Nat) (a:Act) (X:World),m'+n=ol.toArray.size→wpAny P .any ol.toArray Q n (xd ol.toArray.size m') a X→wpOps P ol.toArray Q (List.range' m' n) a X:=by
 intro n;induction n with
 | zero=>intro m' a X _ h;exact h.2
 | succ n ih =>
   intro m' a X hn h;have hms':m'<ol.toArray.size:=by omega
   have hmem:m'∈Region.ready .any ol.toArray (xd ol.toArray.size m'):=by
     rw [mem_ready];refine ⟨?_,_,qi hms',fun e he hb=>?_⟩
     · have:m'<ol.length:=by simpa using hms'
       simp [xd,this]
     · have hlt:=hF.up m' _ (qi hms') e he hb;rw [uR (by omega)];simpa using hlt
   rw [List.range'_succ,wpOps_cons];refine wpOp_mono (fun a w hw=>?_) (h.2 m' hmem);rw [nJ hms'] at hw;exact ih (m'+1) a w (by omega) hw
theorem aH (n:Nat):Array.replicate n false=xd n 0:=by
 apply Array.ext
 · simp [xd]
 · intro k h1 h2;simp [xd]
theorem qN {ol:List Oper}{id:Nat}{a:Act}{w:World}(hm:P.follows .mixedOrders=true) (m:Nat) (L AL:List Nat) (R:Nat→(Nat→Value)→World→Prop) (hok:ok ol.toArray (fun i=>L.getD i 0) m=true) (pl:List (Nat×Nat)) (hpl:sel ol.toArray (fun _=>true) (List.range m)=pl)
 (hstep:qz (js P ol Q Ext m L AL R a w) (Fin P ol Q Ext m L AL R pl a w) 0 m ol):(Code.region id ol.toArray true).wp P Q a w :=
 wp_region_any hm (cC Ext.refl (fun _ _ _=>Ext.trans) (fun _ _=>Ext.bsize) (Ext.drew w) m L AL R hok pl hpl hstep)
theorem qd {ol:List Oper}{id:Nat}{a:Act}{w:World}(m:Nat) (L AL:List Nat) (R:Nat→(Nat→Value)→World→Prop) (hok:ok ol.toArray (fun i=>L.getD i 0) m=true) (pl:List (Nat×Nat)) (hpl:sel ol.toArray (fun _=>true) (List.range m)=pl)
 (hstep:qz (js P ol Q Ext m L AL R a w) (Fin P ol Q Ext m L AL R pl a w) 0 m ol):(Code.region id ol.toArray false).wp P Q a w:=by
 refine wp_region ?_
 have h:=cC Ext.refl (fun _ _ _=>Ext.trans) (fun _ _=>Ext.bsize) (Ext.refl w) m L AL R hok pl hpl hstep
 rw [aH] at h
 rw [List.range_eq_range']
 exact pF (ok.form hok) _ 0 a w (by omega) h
end
theorem S {P:Program}{Q:Exit→Act→World→Prop}{ol:List Oper}{E:World→World→Prop}{m:Nat}{L AL:List Nat}{R:Nat→(Nat→Value)→World→Prop}{a:Act}{w:World}{F:List Oper→Prop}{k n:Nat}{o:Oper}{l:List Oper}(k' n':Nat) (pl:List (Nat×Nat))
 (h : ∀ f X, E w X → Way (∀ j, (L.getD k 0).testBit j = true → R j (kS (fun i => L.getD i 0) j f) X) → ∀ K : Act → World → Prop,
  Way (∀ a' v X',a'=(yN f pl a).put o.dst v→E X X'→(if AL.contains k=true then v=.pointer (some ⟨X.heap.size,0,none⟩)∧X.heap.size<X'.heap.size else True)→(∀ Y,E X' Y→R k (kS (fun i=>L.getD i 0) k (upd f k v)) Y)→K a' X') →
  Way (if Region.wanted o (yielded ol.toArray (yN f pl a).tmps)=true then Oper.wp P o (yN f pl a) X K Q else K ((yN f pl a).put o.dst undef) X))
 (hs:qz (js P ol Q E m L AL R a w) F k' n' l) (hk:k+1=k':=by rfl) (hn:n'+1=n:=by rfl) (hpl:sel ol.toArray (nd (fun i=>L.getD i 0) k) (List.range m)=pl:=by kernel_rfl) :
 qz (js P ol Q E m L AL R a w) F k n (o :: l):=qz.cons k' n' hk hn (js.intro pl hpl h) hs
theorem yc {f:Nat→Value}{j:Nat}{u:Value}(h:f j=u):f=upd f j u:=by
 funext i;unfold upd;split
 · rename_i e;rw [e];exact h
 · rfl
theorem vx {P:Program}{Q:Exit→Act→World→Prop}{ol:List Oper}{m:Nat}{L AL:List Nat}{R:Nat→(Nat→Value)→World→Prop}{a:Act}{w:World}{F:List Oper→Prop}{k n:Nat}{o:Oper}{l:List Oper}{k' n':Nat}{v:Value}(g:(Nat→Value)→Nat→Value)
 (hs:qz (js P ol Q Ext m L AL R a w) F k' n' l) (hg:∀ f X,(∀ j,(L.getD k 0).testBit j=true→R j (kS (fun i=>L.getD i 0) j f) X)→f=g f)
 (hR:∀ f X,f k=v→R k (kS (fun i=>L.getD i 0) k f) X) (hk:k+1=k') (hn:n'+1=n) (ha:AL.contains k=false)
 (hw:∀ f,Region.wanted o (yielded ol.toArray (put ol.toArray (nd (fun i=>L.getD i 0) k) (g f) (List.range m) a).tmps)=true)
 (hrun:∀ f X,Ext w X→(execOp (put ol.toArray (nd (fun i=>L.getD i 0) k) (g f) (List.range m) a).eval o).run P X=.ok (.value v) X):qz (js P ol Q Ext m L AL R a w) F k n (o :: l):=by
 refine qz.cons k' n' hk hn ⟨fun ho=>?_⟩ hs
 intro f X hX hR' K hK
 have hf:=hg f X hR'
 have ho':ol.toArray[k]?=some o:=by simpa using ho
 refine wpOp_step ho' fun K' hK'=>?_
 have hA:put ol.toArray (nd (fun i=>L.getD i 0) k) f (List.range m) a=put ol.toArray (nd (fun i=>L.getD i 0) k) (g f) (List.range m) a:=congrArg (fun f=>put ol.toArray (nd (fun i=>L.getD i 0) k) f (List.range m) a) hf
 rw [qK (by rw [hA];exact hw f)]
 unfold Oper.wp
 rw [show execOp (put ol.toArray (nd (fun i=>L.getD i 0) k) f (List.range m) a).eval o=execOp (put ol.toArray (nd (fun i=>L.getD i 0) k) (g f) (List.range m) a).eval o by rw [hA],hrun f X hX]
 show K' ((put ol.toArray (nd (fun i=>L.getD i 0) k) f (List.range m) a).put o.dst v) X
 refine hK' _ _ (hK _ v X ?_ (Ext.refl _) (by show (if AL.contains k=true then _ else True);rw [qA (by rw [ha];decide)];trivial) (fun Y _=>hR _ _ (by simp [upd])))
 have:o.dst=dst ol.toArray k:=by rw [dst,ho'];rfl
 rw [this]
section
variable {P:Program} {Q:Exit→Act→World→Prop} {ol:List Oper} {m:Nat} {L AL:List Nat} {R:Nat→(Nat→Value)→World→Prop} {a:Act} {w:World} {F:List Oper→Prop} {k n:Nat} {o:Oper} {l:List Oper} {v u u':Value}
theorem v0 (k' n':Nat) (hs:qz (js P ol Q Ext m L AL R a w) F k' n' l) (hR:∀ f X,f k=v→R k (kS (fun i=>L.getD i 0) k f) X:=by exact fun _ _ h=>h) (hk:k+1=k':=by rfl) (hn:n'+1=n:=by rfl) (ha:AL.contains k=false:=by kernel_rfl)
 (hw:∀ f,Region.wanted o (yielded ol.toArray (put ol.toArray (nd (fun i=>L.getD i 0) k) f (List.range m) a).tmps)=true:=by intro _;kernel_rfl)
 (hrun:∀ f X,(execOp (put ol.toArray (nd (fun i=>L.getD i 0) k) f (List.range m) a).eval o).run P X=.ok (.value v) X:=by intro _ _;kernel_rfl):qz (js P ol Q Ext m L AL R a w) F k n (o :: l) :=
 vx (fun f=>f) hs (fun _ _ _=>rfl) hR hk hn ha hw (fun f X _=>hrun f X)
theorem v1 (k' n' j:Nat) (hs:qz (js P ol Q Ext m L AL R a w) F k' n' l) (hr:∀ f X,R j (kS (fun i=>L.getD i 0) j f) X→f j=u:=by exact fun _ _ h=>h) (hR:∀ f X,f k=v→R k (kS (fun i=>L.getD i 0) k f) X:=by exact fun _ _ h=>h) (hk:k+1=k':=by rfl) (hn:n'+1=n:=by rfl) (ha:AL.contains k=false:=by kernel_rfl)
 (hj:(L.getD k 0).testBit j=true:=by kernel_rfl)
 (hw:∀ f,Region.wanted o (yielded ol.toArray (put ol.toArray (nd (fun i=>L.getD i 0) k) (upd f j u) (List.range m) a).tmps)=true:=by intro _;kernel_rfl)
 (hrun:∀ f X,(execOp (put ol.toArray (nd (fun i=>L.getD i 0) k) (upd f j u) (List.range m) a).eval o).run P X=.ok (.value v) X:=by intro _ _;kernel_rfl):qz (js P ol Q Ext m L AL R a w) F k n (o :: l) :=
 vx (fun f=>upd f j u) hs (fun f X h=>yc (hr f X (h j hj))) hR hk hn ha hw (fun f X _=>hrun f X)
theorem v2 (k' n' j i:Nat) (hs:qz (js P ol Q Ext m L AL R a w) F k' n' l) (hr:∀ f X,R j (kS (fun i=>L.getD i 0) j f) X→f j=u:=by exact fun _ _ h=>h) (hr':∀ f X,R i (kS (fun i=>L.getD i 0) i f) X→f i=u':=by exact fun _ _ h=>h) (hR:∀ f X,f k=v→R k (kS (fun i=>L.getD i 0) k f) X:=by exact fun _ _ h=>h) (hk:k+1=k':=by rfl) (hn:n'+1=n:=by rfl) (ha:AL.contains k=false:=by kernel_rfl)
 (hj:(L.getD k 0).testBit j=true:=by kernel_rfl) (hi:(L.getD k 0).testBit i=true:=by kernel_rfl)
 (hw:∀ f,Region.wanted o (yielded ol.toArray (put ol.toArray (nd (fun i=>L.getD i 0) k) (upd (upd f j u) i u') (List.range m) a).tmps)=true:=by intro _;kernel_rfl)
 (hrun:∀ f X,(execOp (put ol.toArray (nd (fun i=>L.getD i 0) k) (upd (upd f j u) i u') (List.range m) a).eval o).run P X=.ok (.value v) X:=by intro _ _;kernel_rfl):qz (js P ol Q Ext m L AL R a w) F k n (o :: l) :=
 vx (fun f=>upd (upd f j u) i u') hs (fun f X h=>by
  have h1:=yc (hr f X (h j hj))
  have h2:=yc (hr' f X (h i hi))
  rw [←h1,←h2]) hR hk hn ha hw (fun f X _=>hrun f X)
theorem sk (k' n' j:Nat) (hs:qz (js P ol Q Ext m L AL R a w) F k' n' l) (hr:∀ f X,R j (kS (fun i=>L.getD i 0) j f) X→f j=u:=by exact fun _ _ h=>h) (hR:∀ f X,f k=undef→R k (kS (fun i=>L.getD i 0) k f) X:=by exact fun _ _ h=>h) (hk:k+1=k':=by rfl) (hn:n'+1=n:=by rfl) (ha:AL.contains k=false:=by kernel_rfl)
 (hj:(L.getD k 0).testBit j=true:=by kernel_rfl)
 (hw:∀ f,Region.wanted o (yielded ol.toArray (put ol.toArray (nd (fun i=>L.getD i 0) k) (upd f j u) (List.range m) a).tmps)=false:=by intro _;kernel_rfl):qz (js P ol Q Ext m L AL R a w) F k n (o :: l):=by
 refine qz.cons k' n' hk hn ⟨fun ho=>?_⟩ hs
 intro f X hX hR' K hK
 have hf:=yc (hr f X (hR' j hj))
 have ho':ol.toArray[k]?=some o:=by simpa using ho
 refine wpOp_step ho' fun K' hK'=>?_
 have hA:put ol.toArray (nd (fun i=>L.getD i 0) k) f (List.range m) a=put ol.toArray (nd (fun i=>L.getD i 0) k) (upd f j u) (List.range m) a:=congrArg (fun f=>put ol.toArray (nd (fun i=>L.getD i 0) k) f (List.range m) a) hf
 rw [qA (by rw [hA,hw f];decide)]
 refine hK' _ _ (hK _ undef X ?_ (Ext.refl _) (by show (if AL.contains k=true then _ else True);rw [qA (by rw [ha];decide)];trivial) (fun Y _=>hR _ _ (by simp [upd])))
 have:o.dst=dst ol.toArray k:=by rw [dst,ho'];rfl
 rw [this]
theorem al (k' n':Nat){ob:Obj}(hs:qz (js P ol Q Ext m L AL R a w) F k' n' l) (hR:∀ f X,(∃ b,f k=.pointer (some ⟨b,0,none⟩)∧w.heap.size≤b∧X.heap[b]?=some ob)→R k (kS (fun i=>L.getD i 0) k f) X:=by exact fun _ _ h=>h) (hk:k+1=k':=by rfl) (hn:n'+1=n:=by rfl)
 (hw:∀ f,Region.wanted o (yielded ol.toArray (put ol.toArray (nd (fun i=>L.getD i 0) k) f (List.range m) a).tmps)=true:=by intro _;kernel_rfl)
 (hrun:∀ f X,(execOp (put ol.toArray (nd (fun i=>L.getD i 0) k) f (List.range m) a).eval o).run P X=.ok (.value (.pointer (some ⟨X.heap.size,0,none⟩))) (X.alloc ob):=by intro _ _;kernel_rfl):qz (js P ol Q Ext m L AL R a w) F k n (o :: l):=by
 refine qz.cons k' n' hk hn ⟨fun ho=>?_⟩ hs
 intro f X hX hR' K hK
 have ho':ol.toArray[k]?=some o:=by simpa using ho
 refine wpOp_step ho' fun K' hK'=>?_
 rw [qK (hw f)]
 unfold Oper.wp
 rw [hrun f X]
 show K' ((put ol.toArray (nd (fun i=>L.getD i 0) k) f (List.range m) a).put o.dst _) (X.alloc ob)
 refine hK' _ _ (hK _ (.pointer (some ⟨X.heap.size,0,none⟩)) (X.alloc ob) ?_ (Ext.alloc _ _) (by show (if AL.contains k=true then _ else True);split;exact ⟨rfl,by simp⟩;trivial) (fun Y hY=>hR _ _ ⟨X.heap.size,by simp [upd],hX.bsize,hY.at_ (zP _ _)⟩))
 have:o.dst=dst ol.toArray k:=by rw [dst,ho'];rfl
 rw [this]
theorem vy {k' n':Nat}(hs:qz (js P ol Q Ext m L AL R a w) F k' n' l) (hk:k+1=k') (hn:n'+1=n) (ha:AL.contains k=false)
 (hw:∀ f,Region.wanted o (yielded ol.toArray (put ol.toArray (nd (fun i=>L.getD i 0) k) f (List.range m) a).tmps)=true)
 (hrun:∀ f X,Ext w X→∃ v,(execOp (put ol.toArray (nd (fun i=>L.getD i 0) k) f (List.range m) a).eval o).run P X=.ok (.value v) X∧∀ Y,Ext X Y→R k (kS (fun i=>L.getD i 0) k (upd f k v)) Y):qz (js P ol Q Ext m L AL R a w) F k n (o :: l):=by
 refine qz.cons k' n' hk hn ⟨fun ho=>?_⟩ hs
 intro f X hX hR' K hK
 have ho':ol.toArray[k]?=some o:=by simpa using ho
 refine wpOp_step ho' fun K' hK'=>?_
 rw [qK (hw f)]
 unfold Oper.wp
 obtain ⟨v,h1,h2⟩:=hrun f X hX
 rw [h1]
 show K' ((put ol.toArray (nd (fun i=>L.getD i 0) k) f (List.range m) a).put o.dst v) X
 refine hK' _ _ (hK _ v X ?_ (Ext.refl _) (by show (if AL.contains k=true then _ else True);rw [qA (by rw [ha];decide)];trivial) h2)
 have:o.dst=dst ol.toArray k:=by rw [dst,ho'];rfl
 rw [this]
theorem cx {F':FuncId}{args:(Nat→Value)→Array Value}{k' n':Nat}(hs:qz (js P ol Q Ext m L AL R a w) F k' n' l) (hk:k+1=k') (hn:n'+1=n) (ha:AL.contains k=false)
 (hw:∀ f X,(∀ j,(L.getD k 0).testBit j=true→R j (kS (fun i=>L.getD i 0) j f) X)→Region.wanted o (yielded ol.toArray (put ol.toArray (nd (fun i=>L.getD i 0) k) f (List.range m) a).tmps)=true)
 (hrun:∀ f X,(execOp (put ol.toArray (nd (fun i=>L.getD i 0) k) f (List.range m) a).eval o).run P X=.ok (.enter F' (args f)) X)
 (hc:∀ f X,Ext w X→Way (∀ j,(L.getD k 0).testBit j=true→R j (kS (fun i=>L.getD i 0) j f) X)→Calls P F' (args f) X fun e w'=>∃ v,e=.returned v∧Ext X w'∧∀ Y,Ext w' Y→R k (kS (fun i=>L.getD i 0) k (upd f k v)) Y):qz (js P ol Q Ext m L AL R a w) F k n (o :: l):=by
 refine qz.cons k' n' hk hn ⟨fun ho=>?_⟩ hs
 intro f X hX hR' K hK
 have ho':ol.toArray[k]?=some o:=by simpa using ho
 refine wpOp_step ho' fun K' hK'=>?_
 rw [qK (hw f X hR')]
 unfold Oper.wp
 rw [hrun f X,Oper.upon_enter]
 refine (hc f X hX ⟨hR'⟩).mono ?_
 rintro e w' ⟨v,rfl,hE,hY⟩
 refine hK' _ _ (hK _ v w' ?_ hE (by show (if AL.contains k=true then _ else True);rw [qA (by rw [ha];decide)];trivial) hY)
 have:o.dst=dst ol.toArray k:=by rw [dst,ho'];rfl
 rw [this]
theorem c0 (k' n':Nat) (args:(Nat→Value)→Array Value){F':FuncId}(hc:∀ f X,Ext w X→Way (∀ j,(L.getD k 0).testBit j=true→R j (kS (fun i=>L.getD i 0) j f) X)→Calls P F' (args f) X fun e w'=>∃ v,e=.returned v∧Ext X w'∧∀ Y,Ext w' Y→R k (kS (fun i=>L.getD i 0) k (upd f k v)) Y) (hs:qz (js P ol Q Ext m L AL R a w) F k' n' l)
 (hk:k+1=k':=by rfl) (hn:n'+1=n:=by rfl) (ha:AL.contains k=false:=by kernel_rfl)
 (hw:∀ f,Region.wanted o (yielded ol.toArray (put ol.toArray (nd (fun i=>L.getD i 0) k) f (List.range m) a).tmps)=true:=by intro _;kernel_rfl)
 (hrun:∀ f X,(execOp (put ol.toArray (nd (fun i=>L.getD i 0) k) f (List.range m) a).eval o).run P X=.ok (.enter F' (args f)) X:=by intro _ _;kernel_rfl):qz (js P ol Q Ext m L AL R a w) F k n (o :: l) :=
 cx hs hk hn ha (fun f _ _=>hw f) hrun hc
theorem c1 (k' n' j:Nat) (args:(Nat→Value)→Array Value){F':FuncId}(hc:∀ f X,Ext w X→Way (∀ j,(L.getD k 0).testBit j=true→R j (kS (fun i=>L.getD i 0) j f) X)→Calls P F' (args f) X fun e w'=>∃ v,e=.returned v∧Ext X w'∧∀ Y,Ext w' Y→R k (kS (fun i=>L.getD i 0) k (upd f k v)) Y) (hs:qz (js P ol Q Ext m L AL R a w) F k' n' l)
 (hr:∀ f X,R j (kS (fun i=>L.getD i 0) j f) X→f j=u:=by exact fun _ _ h=>h) (hk:k+1=k':=by rfl) (hn:n'+1=n:=by rfl) (ha:AL.contains k=false:=by kernel_rfl) (hj:(L.getD k 0).testBit j=true:=by kernel_rfl)
 (hw:∀ f,Region.wanted o (yielded ol.toArray (put ol.toArray (nd (fun i=>L.getD i 0) k) (upd f j u) (List.range m) a).tmps)=true:=by intro _;kernel_rfl)
 (hrun:∀ f X,(execOp (put ol.toArray (nd (fun i=>L.getD i 0) k) f (List.range m) a).eval o).run P X=.ok (.enter F' (args f)) X:=by intro _ _;kernel_rfl):qz (js P ol Q Ext m L AL R a w) F k n (o :: l) :=
 cx hs hk hn ha (fun f X h=>by rw [yc (hr f X (h j hj))];exact hw f) hrun hc
theorem dO {t:TypeId}{p:Addr}{X:World}(hc:X.cell? p=some v) (ht:(isAgg t).run P X=.ok false X):(Instr.loadAt t (.pointer (some p))).run P X=.ok v X:=by
 unfold Instr.loadAt loadVar;simp only [vh];rw [show (Instr.sureAddr (.pointer (some p))).run P X=.ok p X from rfl,qy,ht,qy,qA (by decide)];unfold load;simp only [Sem.run,hc]
theorem ld0 (k' n':Nat){p:Addr}{t:TypeId}{x:Operand}(hc:w.cell? p=some v) (hs:qz (js P ol Q Ext m L AL R a w) F k' n' l) (hR:∀ f X,f k=v→R k (kS (fun i=>L.getD i 0) k f) X:=by exact fun _ _ h=>h) (hk:k+1=k':=by rfl) (hn:n'+1=n:=by rfl) (ha:AL.contains k=false:=by kernel_rfl)
 (hw:∀ f,Region.wanted o (yielded ol.toArray (put ol.toArray (nd (fun i=>L.getD i 0) k) f (List.range m) a).tmps)=true:=by intro _;kernel_rfl)
 (ho:o.op=.load t x:=by rfl) (hx:∀ f,(put ol.toArray (nd (fun i=>L.getD i 0) k) f (List.range m) a).eval x=.pointer (some p):=by intro _;kernel_rfl) (ht:∀ X,(isAgg t).run P X=.ok false X:=by intro _;kernel_rfl):qz (js P ol Q Ext m L AL R a w) F k n (o :: l) :=
 vx (fun f=>f) hs (fun _ _ _=>rfl) hR hk hn ha hw (fun f X hX=>by
  unfold execOp
  simp only [ho,vh,hx,dO (hX.cell hc) (ht X),qy]
  rfl)
theorem ld1 (k' n' j:Nat){p:Addr}{t:TypeId}{x:Operand}(hc:w.cell? p=some v) (hs:qz (js P ol Q Ext m L AL R a w) F k' n' l) (hr:∀ f X,R j (kS (fun i=>L.getD i 0) j f) X→f j=u:=by exact fun _ _ h=>h) (hR:∀ f X,f k=v→R k (kS (fun i=>L.getD i 0) k f) X:=by exact fun _ _ h=>h) (hk:k+1=k':=by rfl) (hn:n'+1=n:=by rfl) (ha:AL.contains k=false:=by kernel_rfl)
 (hj:(L.getD k 0).testBit j=true:=by kernel_rfl)
 (hw:∀ f,Region.wanted o (yielded ol.toArray (put ol.toArray (nd (fun i=>L.getD i 0) k) (upd f j u) (List.range m) a).tmps)=true:=by intro _;kernel_rfl)
 (ho:o.op=.load t x:=by rfl) (hx:∀ f,(put ol.toArray (nd (fun i=>L.getD i 0) k) (upd f j u) (List.range m) a).eval x=.pointer (some p):=by intro _;kernel_rfl) (ht:∀ X,(isAgg t).run P X=.ok false X:=by intro _;kernel_rfl):qz (js P ol Q Ext m L AL R a w) F k n (o :: l) :=
 vx (fun f=>upd f j u) hs (fun f X h=>yc (hr f X (h j hj))) hR hk hn ha hw (fun f X hX=>by
  unfold execOp
  simp only [ho,vh,hx,dO (hX.cell hc) (ht X),qy]
  rfl)
end
theorem k {A:Value→Act}{b:Act}{X:World}{H:Value→World→Prop}{G:Value→World→Prop}{K:Act→World→Prop}{v:Value}
 (hK:Way (∀ a' v X',a'=A v→Ext X X'→H v X'→(∀ Y,Ext X' Y→G v Y)→K a' X'))
 (hr:∀ Y,Ext X Y→G v Y:=by exact fun _ _=>rfl) (s:b=A v) (ha:H v X:=by exact trivial):K b X :=
 hK.out b v X s (Ext.refl X) ha hr
end Par
/- What lays the slots' values out. -/
theorem yA (f:Nat→Value) (i j:Nat) (l:List (Nat×Nat)) (L:List Value) (d:List Deferred):Par.yN f ((i,j) :: l) ⟨L.toArray,d⟩=Par.yN f l ⟨(L.set i (f j)).toArray,d⟩:=by
 simp only [Par.yN,Act.put,uP]
theorem yB (f:Nat→Value) (a:Act):Par.yN f [] a=a:=rfl
theorem yC (L:List Value) (d:List Deferred) (i:Nat) (v:Value):Act.put ⟨L.toArray,d⟩ (some i) v=⟨(L.set i v).toArray,d⟩:=by
 simp only [Act.put,uP]
theorem yD (x:Value) (l:List Value) (n:Nat) (v:Value):(x :: l).set (n+1) v=x :: l.set n v:=rfl
theorem yE (x:Value) (l:List Value) (v:Value):(x :: l).set 0 v=v :: l:=rfl
theorem yF:type_of% @Par.qz.fin:=@Par.qz.fin
theorem yZ:(∀ (f:Nat→Value) (i j:Nat) (l:List (Nat×Nat)) (L:List Value) (d:List Deferred),Par.yN f ((i,j)::l) ⟨L.toArray,d⟩=Par.yN f l ⟨(L.set i (f j)).toArray,d⟩)∧(∀ (f:Nat→Value) (a:Act),Par.yN f [] a=a)∧(∀ (L:List Value) (d:List Deferred) (i:Nat) (v:Value),Act.put ⟨L.toArray,d⟩ (some i) v=⟨(L.set i v).toArray,d⟩)∧(∀ (x:Value) (l:List Value) (n:Nat) (v:Value),(x::l).set (n+1) v=x::l.set n v)∧∀ (x:Value) (l:List Value) (v:Value),(x::l).set 0 v=v::l:=⟨yA,yB,yC,yD,yE⟩
end Go.Proofs.YtmlbicgpehchhaaGreat
namespace Go.Proofs.YtmlbicgpehchhaaGreat
theorem zI:type_of% @Ext.trans:=@Ext.trans
theorem zU:type_of% @Par.qE.done:=@Par.qE.done
theorem zZ:type_of% @Par.qk:=@Par.qk
theorem zb:type_of% @Ext.alloc:=@Ext.alloc
theorem zf:type_of% @Par.v0:=@Par.v0
theorem zg:type_of% @Par.qE.next:=@Par.qE.next
theorem zy:type_of% @Ext.refl:=@Ext.refl
theorem z8:type_of% @Par.qN:=@Par.qN
theorem qH:type_of% @Par.S:=@Par.S
theorem qJ:type_of% @Par.c0:=@Par.c0
theorem qM:type_of% @Par.v1:=@Par.v1
theorem qQ:type_of% @Par.qd:=@Par.qd
theorem qT:type_of% @Par.sk:=@Par.sk
theorem q9:type_of% @Par.ld1:=@Par.ld1
theorem jA:type_of% @Par.k:=@Par.k
theorem jQ:type_of% @Ext.at_:=@Ext.at_
theorem jj:type_of% @Par.v2:=@Par.v2
theorem vB:type_of% @Par.al:=@Par.al
theorem wj:type_of% @Par.c1:=@Par.c1
end Go.Proofs.YtmlbicgpehchhaaGreat
namespace Go.Proofs.YtmlbicgpehchhaaGreat
open Go.RowKit
attribute [local go_sem] Oper.semAt_some
theorem bB {w:World}{P:Nat→Prop}{A:Option Addr}{c:Nat}{l:List Nat}(h:RN w P A c l):zo (val 18446744073709551616 l)≤64*l.length:=by
 refine kh ?_;have h1:=jf h.2.1;rw [wE];exact h1
theorem mn {x y j k:Nat}(hx:(digs 18446744073709551616 x).length≤j) (hy:(digs 18446744073709551616 y).length≤k):(digs 18446744073709551616 (x*y)).length≤j+k:=by
 refine qp (by omega) ?_;have b:∀ {z n:Nat},(digs 18446744073709551616 z).length≤n→z<18446744073709551616 ^ n:=fun {z n} h=>by
  have h1:=jf (kQ (B:=18446744073709551616) (by omega) z);rw [zc (by omega)] at h1;exact zR h1 (qF (by omega) h)
 rw [qI];exact Nat.mul_lt_mul'' (b hx) (b hy)
theorem nK {A A':Option Addr}{c c':Nat}{a b:List Nat}{X Y:Nat}{w:World}(h:RU w A c a) (h':RU w A' c' b) (hX:val 18446744073709551616 a=X) (hY:val 18446744073709551616 b=Y) :
 Calls Tryz.prog 114 #[.slice A a.length c,.slice A' b.length c'] w fun e w'=>e=.returned (.int .i64 (jo X Y))∧Ext w w':=by
 subst hX hY
 refine (wL _ _ A A' c c' a b w h h').mono ?_
 rintro e w' ⟨rfl,n,rfl⟩
 exact ⟨rfl,qR (zO _ w) n⟩
theorem dE {A:Option Addr}{c:Nat}{a:List Nat}{X:Nat}{w:World}(h:RU w A c a) (hX:val 18446744073709551616 a=X) :
 Calls Tryz.prog 84 #[.slice A a.length c] w fun e w'=>e=.returned (.int .i64 (zo X:Int))∧Ext w w':=by
 subst hX
 refine (vJ _ A c a w h).mono ?_
 rintro e w' ⟨rfl,rfl⟩
 exact ⟨rfl,zy w⟩
theorem zCO {A:Option Addr}{c:Nat}{a:List Nat}{X:Nat}{w:World}(h:RU w A c a) (hX:val 18446744073709551616 a=X) :
 Calls Tryz.prog 115 #[.slice A a.length c,.int .i64 0] w fun e w'=>e=.returned (.int .u64 ((X % 2:Nat):Int))∧Ext w w':=by
 subst hX
 refine (fu _ A c a 0 w h (by omega)).mono ?_
 rintro e w' ⟨rfl,rfl⟩
 exact ⟨by rw [yp],zy w⟩
theorem zCD {A A':Option Addr}{c c':Nat}{a b:List Nat}{X Y:Nat}{w:World}(h:RU w A c a) (h':RU w A' c' b) (hX:val 18446744073709551616 a=X) (hY:val 18446744073709551616 b=Y) (hl:a.length<100000) (hl':b.length<100000) :
 Calls Tryz.prog 116 #[.slice A a.length c,.slice A' b.length c'] w fun e w'=>∃ A1 c1,e=.returned (.slice A1 (digs 18446744073709551616 (X*Y)).length c1)∧RU w' A1 c1 (digs 18446744073709551616 (X*Y))∧Ext w w':=by
 subst hX hY
 refine (dw _ _ A A' c c' a b w h h' jq jq hl hl').mono ?_
 rintro e w' ⟨A1,c1,rfl,hO,hB⟩
 exact ⟨A1,c1,rfl,hO.ru,hB⟩
theorem aN {A:Option Addr}{c:Nat}{a:List Nat}{X:Nat}{w:World}(h:RU w A c a) (hX:val 18446744073709551616 a=X) (hl:a.length<100000) (h1:1≤X) :
 Calls Tryz.prog 120 #[.slice A a.length c] w fun e w'=>∃ A1 c1,e=.returned (.slice A1 (digs 18446744073709551616 (X - 1)).length c1)∧RU w' A1 c1 (digs 18446744073709551616 (X - 1))∧Ext w w':=by
 have Hh:=zF h
 have HX:=zF hX
 have H1:=zF h1
 have Hl:=zF hl
 clear h hX h1 hl
 go_enter Tryz.func120,Tryz.ntmps120
 go_wp2_with fail
 refine (xN 1 w (by omega)).mono ?_
 rintro e w1 ⟨A1,c1,rfl,hO,hB⟩
 have HB:=zF (show Ext w w1 from hB)
 have HO:=zF hO
 clear hB hO
 go_wp2_with fail
 have hs:=fU _ _ A A1 c c1 a (digs 18446744073709551616 1) w1 (Hh.out.up HB.out) HO.out.ru jq jq Hl.out (by rw [HX.out,zc (by omega)];exact H1.out)
 rw [HX.out,zc (by omega)] at hs
 refine hs.mono ?_
 rintro e w2 ⟨A2,c2,rfl,hO2,hB2⟩
 have HB2:=zF (zI HB.out hB2)
 have HO2:=zF hO2
 clear hO2 hB2 hs
 go_wp2
 go_ret
 exact ⟨A2,c2,rfl,HO2.out.ru,HB2.out⟩
theorem gX {X:Nat} : (jo X 1==0)=decide (X=1):=by
 rcases jb X 1 with h | h | h
 · rw [h.2];simp;omega
 · rw [h.2];simp;exact h.1
 · rw [h.2];simp;omega
theorem nY {A A':Option Addr}{c c':Nat}{a b:List Nat}{X M:Nat}{w:World}(h:RU w A c a) (h':RU w A' c' b) (hX:val 18446744073709551616 a=X) (hM:val 18446744073709551616 b=M) (hl:a.length<90000) (hl':b.length<90000) (h0:0<M) :
 Calls Tryz.prog 119 #[.slice A a.length c,.slice A' b.length c'] w fun e w'=>e=.returned (.bool (decide (X % M=1)))∧Ext w w':=by
 have hq:=uB _ _ A A' c c' a b w h h' jq jq hl hl' (by rw [hM];exact h0)
 rw [hX,hM] at hq
 have Hq:=zF hq
 obtain ⟨r,hr⟩:=eV (X % M)
 rw [hr] at Hq ⊢
 have hz:=gX (X:=r)
 obtain ⟨z,hzz⟩:=eV (jo r 1)
 rw [hzz] at hz
 have Hz:=zF hz
 have Hzz:=zF hzz
 clear h h' hX hM hl hl' h0 hq hr hz hzz
 go_enter Tryz.func119,Tryz.ntmps119
 go_wp2_with fail
 refine Hq.out.mono ?_
 rintro e w1 ⟨A1,c1,A2,c2,rfl,hO1,hO2,hB⟩
 have HB:=zF (show Ext w w1 from hB)
 have HO2:=zF hO2
 clear hO1 hB hO2 Hq
 go_wp2_with fail
 refine (xN 1 w1 (by omega)).mono ?_
 rintro e w2 ⟨A3,c3,rfl,hO,hB2⟩
 have HB2:=zF (show Ext w1 w2 from hB2)
 have hc:=nK (HO2.out.ru.up HB2.out) hO.ru (zc (by omega) r) (zc (by omega) 1)
 rw [Hzz.out] at hc
 have Hc:=zF hc
 clear hO hB2 hc
 go_wp2_with fail
 refine Hc.out.mono ?_
 rintro e w3 ⟨rfl,hB3⟩
 have HB3:=zF (zI HB.out (zI HB2.out hB3))
 clear hB3
 go_wp2
 go_ret
 refine ⟨?_,HB3.out⟩
 rw [←Hz.out]
 first | rfl | simp
theorem zBc (P:Nat→Prop) (A:Option Addr) (c:Nat) (a:List Nat) (N:Nat) (w:World) (h:RN w P A c a) (hP:∀ b,P b→b<w.heap.size) (hN:val 18446744073709551616 a=N) (hno:N % 2=0∨N<2) :
 Calls Tryz.prog 117 #[.slice A a.length c,.func (.func 158) #[] #[]] w fun e w'=>e=.returned (.bool (decide (N=2)))∧Below w.heap.size w w':=by
 obtain ⟨s,hs⟩:=eV w.heap.size
 have m0:=zP w (.cells #[.slice A a.length c] 23)
 have hB0:Below w.heap.size w (w.alloc (.cells #[.slice A a.length c] 23)):=(zO _ w).alloc (zH _) _
 have hz0:(w.alloc (.cells #[.slice A a.length c] 23)).heap.size=s+1:=by simp [hs]
 rw [hs] at m0 hB0 hP ⊢
 refine (callsIn_wide (n:=6)).1 ?_
 refine callsIn_of_wp_marks Tryz.func117 rfl trivial ?_ rfl
 simp only [Tryz.ntmps117,jF,qh,jI,Nat.reduceAdd,Nat.reduceSub,wt,ws,yx,xI,kI,kN]
 have d0:=zJ m0 0
 simp only [zK,zL] at d0
 have hc:=fun (V:World) (hV:RN V P A c a) (hs:∀ b,P b→b<V.heap.size)=>mt P A c a N V hV hs hN hno
 have Hc:=zF hc
 have ha0:=h.below hB0 hP
 have hP0:∀ b,P b→b<(w.alloc (.cells #[.slice A a.length c] 23)).heap.size:=fun b hb=>by have:=hP b hb;omega
 clear hc
 gi_wp2
 refine wpIn_wide.2 ?_
 go_step3
 generalize w.alloc (.cells #[.slice A a.length c] 23)=W0 at *
 go_wp2_with fail
 refine (Hc.out _ ha0 hP0).mono ?_
 rintro e' W1 ⟨rfl,hB1⟩
 rw [hz0] at hB1
 have hB01:=hB0.trans (hB1.mono (by omega))
 go_wp2
 rw [jE]
 exact ⟨_,results_tmp rfl _ _ _,rfl,hB01⟩
def NV (w:World) (A:Option Addr) (c:Nat) (l:List Nat) (x:Nat):Prop:=RU w A c l∧val 18446744073709551616 l=x∧l.length≤20000
theorem NV.ext {w X:World}{A:Option Addr}{c:Nat}{l:List Nat}{x:Nat}(h:NV w A c l x) (hE:Ext w X):NV X A c l x:=⟨h.1.up hE,h.2⟩
def RK (w:World) (v:Value) (n e d p q:Nat):Prop:=∃ (A0 A1 A2 A3 A4:Option Addr) (c0 c1 c2 c3 c4:Nat) (l0 l1 l2 l3 l4:List Nat),
 v=.agg #[.slice A0 l0.length c0,.slice A1 l1.length c1,.slice A2 l2.length c2,.slice A3 l3.length c3,.slice A4 l4.length c4]∧NV w A0 c0 l0 n∧NV w A1 c1 l1 e∧NV w A2 c2 l2 d∧NV w A3 c3 l3 p∧NV w A4 c4 l4 q
theorem RK.ext {w X:World}{v:Value}{n e d p q:Nat}(h:RK w v n e d p q) (hE:Ext w X):RK X v n e d p q:=by
 obtain ⟨A0,A1,A2,A3,A4,c0,c1,c2,c3,c4,l0,l1,l2,l3,l4,rfl,h0,h1,h2,h3,h4⟩:=h;exact ⟨A0,A1,A2,A3,A4,c0,c1,c2,c3,c4,l0,l1,l2,l3,l4,rfl,h0.ext hE,h1.ext hE,h2.ext hE,h3.ext hE,h4.ext hE⟩
theorem jO {W:World}{g:Nat}{ty:TypeId}{x0 x1 x2 x3 x4:Value}(h:W.heap[g]?=some (.cells #[x0,x1,x2,x3,x4] ty (0,0))) :
 W.cell? ⟨g,0,none⟩=some x0∧W.cell? ⟨g,1,none⟩=some x1∧W.cell? ⟨g,2,none⟩=some x2∧W.cell? ⟨g,3,none⟩=some x3∧W.cell? ⟨g,4,none⟩=some x4 :=
 ⟨zJ h 0,zJ h 1,zJ h 2,zJ h 3,zJ h 4⟩
theorem ms {x y:Nat} : decide ((0:Int)≤jo x y)=decide (y≤x):=by
 rcases jb x y with h | h | h <;> rw [h.2] <;> simp <;> omega
theorem zBB {x y:Nat} : (jo x y != 0)=decide (x≠y):=by
 rcases jb x y with h | h | h <;> rw [h.2] <;> simp <;> omega
theorem zCK {x y:Nat} : (jo x y==0)=decide (x=y):=by
 rcases jb x y with h | h | h <;> rw [h.2] <;> simp <;> omega
theorem fg {A:Option Addr}{c:Nat}{a:List Nat}{N:Nat}{w:World}(h:NV w A c a N) (hb:zo N≤4096) :
 Calls Tryz.prog 117 #[.slice A a.length c,.func (.func 158) #[] #[]] w fun e w'=>e=.returned (.bool (yI N))∧Ext w w':=by
 unfold yI
 by_cases ho:N % 2=1∧1<N
 · rw [qK ho];exact zAQ _ A c a N w h.1 jq h.2.1 ho.1 ho.2 hb (by have:=h.2.2;omega)
 · rw [qA ho];exact zBc _ A c a N w h.1 jq h.2.1 (by omega)
theorem bQ (w:World):Calls Tryz.prog 118 #[] w fun e w'=>e=.returned (.func (.func 158) #[] #[])∧Ext w w':=by
 refine (zAx w).mono ?_;rintro e w' ⟨rfl,rfl⟩;exact ⟨rfl,zy w⟩
theorem sN {v:Value}{n e d p q:Nat}(w:World) (hk:RK w v n e d p q) :
 Calls Tryz.prog 71 #[v] w fun ev w'=>ev=.returned (.bool (vOf n e d p q))∧Ext w w':=by
 obtain ⟨A0,A1,A2,A3,A4,c0,c1,c2,c3,c4,l0,l1,l2,l3,l4,rfl,h0,h1,h2,h3,h4⟩:=hk
 obtain ⟨W0,hW0⟩:=eW (w.alloc (.cells #[.slice A0 l0.length c0,.slice A1 l1.length c1,.slice A2 l2.length c2,.slice A3 l3.length c3,.slice A4 l4.length c4] 48))
 obtain ⟨s,hs⟩:=eV w.heap.size
 have hq0:=zP w (.cells #[.slice A0 l0.length c0,.slice A1 l1.length c1,.slice A2 l2.length c2,.slice A3 l3.length c3,.slice A4 l4.length c4] 48)
 have hE:Ext w W0:=by rw [hW0];exact zb _ _
 rw [←hW0,hs] at hq0
 have HN:=zF (fun X (hX:Ext W0 X)=>h0.ext (zI hE hX))
 have HEe:=zF (fun X (hX:Ext W0 X)=>h1.ext (zI hE hX))
 have HD:=zF (fun X (hX:Ext W0 X)=>h2.ext (zI hE hX))
 have HPp:=zF (fun X (hX:Ext W0 X)=>h3.ext (zI hE hX))
 have HQ:=zF (fun X (hX:Ext W0 X)=>h4.ext (zI hE hX))
 have HE0:=zF hE
 have Hs:=zF hs
 have Hq0:=zF hq0
 obtain ⟨V,hV⟩:=eV (vOf n e d p q)
 rw [hV]
 obtain ⟨nb,hnb⟩:=eV (zo n)
 obtain ⟨eb,heb⟩:=eV (zo e)
 obtain ⟨r2,hr2⟩:=eV (e % 2)
 obtain ⟨z3,hz3⟩:=eV (jo p q)
 obtain ⟨z4,hz4⟩:=eV (jo d n)
 obtain ⟨z5,hz5⟩:=eV (jo e n)
 obtain ⟨b1,hb1⟩:=eV (decide (nb<256))
 obtain ⟨b2,hb2⟩:=eV (decide (4096<nb))
 obtain ⟨b3,hb3⟩:∃ b,(z3==0)=b:=⟨_,rfl⟩
 obtain ⟨b4,hb4⟩:=eV (decide ((0:Int)≤z4))
 obtain ⟨b5,hb5⟩:=eV (decide ((0:Int)≤z5))
 obtain ⟨b6,hb6⟩:∃ b,(((r2:Nat):Int)==0)=b:=⟨_,rfl⟩
 obtain ⟨b7,hb7⟩:=eV (decide (eb<2))
 have e3:b3=decide (p=q):=by rw [←hb3,←hz3,zCK]
 have e4:b4=decide (n≤d):=by rw [←hb4,←hz4,ms]
 have e5:b5=decide (n≤e):=by rw [←hb5,←hz5,ms]
 have hv:V=(!b1 && !b2 && !b3 && !b4 && !b5 && !b6 && !b7 && decide (p*q=n) && yI p && yI q && decide (e*d % (p - 1)=1) && decide (e*d % (q - 1)=1)):=by
  rw [←hV,e3,e4,e5,←hb1,←hb2,←hb6,←hb7];unfold vOf;rw [hnb,heb];congr 5;have hr:r2=0∨r2=1:=by omega
  have x1:decide (256≤nb)=!decide (nb<256):=by by_cases h:nb<256 <;> simp [h] <;> omega
  have x2:decide (nb≤4096)=!decide (4096<nb):=by by_cases h:4096<nb <;> simp [h] <;> omega
  have x4:decide (d<n)=!decide (n≤d):=by by_cases h:n≤d <;> simp [h] <;> omega
  have x5:decide (e<n)=!decide (n≤e):=by by_cases h:n≤e <;> simp [h] <;> omega
  have x6:decide (e % 2=1)=!(((r2:Nat):Int)==0):=by rcases hr with h | h <;> rw [hr2,h] <;> decide
  have x7:decide (2≤eb)=!decide (eb<2):=by by_cases h:eb<2 <;> simp [h] <;> omega
  rw [x1,x2,x4,x5,x6,x7];simp
 have HC1:=zF (fun X (hX:Ext W0 X)=>(hz3▸nK (HPp.out X hX).1 (HQ.out X hX).1 (HPp.out X hX).2.1 (HQ.out X hX).2.1:Calls Tryz.prog 114 #[.slice A3 l3.length c3,.slice A4 l4.length c4] X fun e w'=>e=.returned (.int .i64 z3)∧Ext X w'))
 have HC2:=zF (fun X (hX:Ext W0 X)=>(hz4▸nK (HD.out X hX).1 (HN.out X hX).1 (HD.out X hX).2.1 (HN.out X hX).2.1:Calls Tryz.prog 114 #[.slice A2 l2.length c2,.slice A0 l0.length c0] X fun e w'=>e=.returned (.int .i64 z4)∧Ext X w'))
 have HC3:=zF (fun X (hX:Ext W0 X)=>(hz5▸nK (HEe.out X hX).1 (HN.out X hX).1 (HEe.out X hX).2.1 (HN.out X hX).2.1:Calls Tryz.prog 114 #[.slice A1 l1.length c1,.slice A0 l0.length c0] X fun e w'=>e=.returned (.int .i64 z5)∧Ext X w'))
 have HB0:=zF (fun X (hX:Ext W0 X)=>(hnb▸dE (HN.out X hX).1 (HN.out X hX).2.1:Calls Tryz.prog 84 #[.slice A0 l0.length c0] X fun e w'=>e=.returned (.int .i64 (nb:Int))∧Ext X w'))
 have HB1:=zF (fun X (hX:Ext W0 X)=>(heb▸dE (HEe.out X hX).1 (HEe.out X hX).2.1:Calls Tryz.prog 84 #[.slice A1 l1.length c1] X fun e w'=>e=.returned (.int .i64 (eb:Int))∧Ext X w'))
 have HT0:=zF (fun X (hX:Ext W0 X)=>(hr2▸zCO (HEe.out X hX).1 (HEe.out X hX).2.1:Calls Tryz.prog 115 #[.slice A1 l1.length c1,.int .i64 0] X fun e w'=>e=.returned (.int .u64 (r2:Int))∧Ext X w'))
 have Hv:=zF hv
 have Hnb:=zF hnb
 have Hb2:=zF hb2
 have Hb1:=zF hb1
 have g1:decide ((nb:Int)<256)=b1:=by rw [←hb1];simp;omega
 have g2:decide ((4096:Int)<(nb:Int))=b2:=by rw [←hb2];simp;omega
 have g7:decide ((eb:Int)<2)=b7:=by rw [←hb7];simp;omega
 clear h0 h1 h2 h3 h4 hE hs hV hnb heb hr2 hz3 hz4 hz5 e3 e4 e5 hv hq0
 go_enter Tryz.func71,Tryz.ntmps71
 go_upto_region 1 with fail
 rw [←hW0,Hs.out]
 clear hW0
 have hE:=zy W0
 obtain ⟨y0,y1,y2,y3,y4⟩:=jO Hq0.out
 go_wp2_with fail
 refine (HB0.out _ hE).mono ?_
 rintro e w' ⟨rfl,hx⟩
 replace hE:=zI hE hx
 clear hx y0 y1 y2 y3 y4
 obtain ⟨y0,y1,y2,y3,y4⟩:=jO (jQ hE Hq0.out)
 cases b1
 rotate_left
 · have hV:false=V:=by rw [Hv.out];simp
   subst hV;go_wp2;go_ret;exact ⟨rfl,zI HE0.out hE⟩
 cases b2
 rotate_left
 · have hV:false=V:=by rw [Hv.out];simp
   subst hV;go_wp2;go_ret;exact ⟨rfl,zI HE0.out hE⟩
 go_wp2_with fail
 refine (HC1.out _ hE).mono ?_
 rintro e w' ⟨rfl,hx⟩
 replace hE:=zI hE hx
 clear hx y0 y1 y2 y3 y4
 obtain ⟨y0,y1,y2,y3,y4⟩:=jO (jQ hE Hq0.out)
 cases b3
 rotate_left
 · have hV:false=V:=by rw [Hv.out];simp
   subst hV;go_wp2;go_ret;exact ⟨rfl,zI HE0.out hE⟩
 go_wp2_with fail
 refine (HC2.out _ hE).mono ?_
 rintro e w' ⟨rfl,hx⟩
 replace hE:=zI hE hx
 clear hx y0 y1 y2 y3 y4
 obtain ⟨y0,y1,y2,y3,y4⟩:=jO (jQ hE Hq0.out)
 cases b4
 rotate_left
 · have hV:false=V:=by rw [Hv.out];simp
   subst hV;go_wp2;go_ret;exact ⟨rfl,zI HE0.out hE⟩
 go_wp2_with fail
 refine (HC3.out _ hE).mono ?_
 rintro e w' ⟨rfl,hx⟩
 replace hE:=zI hE hx
 clear hx y0 y1 y2 y3 y4
 obtain ⟨y0,y1,y2,y3,y4⟩:=jO (jQ hE Hq0.out)
 cases b5
 rotate_left
 · have hV:false=V:=by rw [Hv.out];simp
   subst hV;go_wp2;go_ret;exact ⟨rfl,zI HE0.out hE⟩
 go_wp2_with fail
 refine (HT0.out _ hE).mono ?_
 rintro e w' ⟨rfl,hx⟩
 replace hE:=zI hE hx
 clear hx y0 y1 y2 y3 y4
 obtain ⟨y0,y1,y2,y3,y4⟩:=jO (jQ hE Hq0.out)
 cases b6
 rotate_left
 · have hV:false=V:=by rw [Hv.out];simp
   subst hV;go_wp2;go_ret;exact ⟨rfl,zI HE0.out hE⟩
 go_wp2_with fail
 refine (HB1.out _ hE).mono ?_
 rintro e w' ⟨rfl,hx⟩
 replace hE:=zI hE hx
 clear hx y0 y1 y2 y3 y4
 obtain ⟨y0,y1,y2,y3,y4⟩:=jO (jQ hE Hq0.out)
 cases b7
 rotate_left
 · have hV:false=V:=by rw [Hv.out];simp
   subst hV;go_wp2;go_ret;exact ⟨rfl,zI HE0.out hE⟩
 go_upto_region 4 with fail
 rename World=>V4
 obtain ⟨kp,hkp⟩:=eV (zo p)
 obtain ⟨kq,hkq⟩:=eV (zo q)
 obtain ⟨dm,hdm⟩:=eV (digs 18446744073709551616 (p*q))
 obtain ⟨M,hM⟩:=eV dm.length
 obtain ⟨z9,hz9⟩:=eV (jo (p*q) n)
 obtain ⟨b9,hb9⟩:∃ b,(z9 != 0)=b:=⟨_,rfl⟩
 obtain ⟨b8,hb8⟩:=eV (decide (nb+1<kp+kq))
 have e9:b9=decide (p*q≠n):=by rw [←hb9,←hz9,zBB]
 have HBp:=zF (fun X (hX:Ext W0 X)=>(hkp▸dE (HPp.out X hX).1 (HPp.out X hX).2.1:Calls Tryz.prog 84 #[.slice A3 l3.length c3] X fun e w'=>e=.returned (.int .i64 (kp:Int))∧Ext X w'))
 have HBq:=zF (fun X (hX:Ext W0 X)=>(hkq▸dE (HQ.out X hX).1 (HQ.out X hX).2.1:Calls Tryz.prog 84 #[.slice A4 l4.length c4] X fun e w'=>e=.returned (.int .i64 (kq:Int))∧Ext X w'))
 have HMu:=zF (fun X (hX:Ext W0 X)=>(hM▸hdm▸zCD (HPp.out X hX).1 (HQ.out X hX).1 (HPp.out X hX).2.1 (HQ.out X hX).2.1 (by have:=(HPp.out X hX).2.2;omega) (by have:=(HQ.out X hX).2.2;omega):Calls Tryz.prog 116 #[.slice A3 l3.length c3,.slice A4 l4.length c4] X fun e w'=>∃ A1 c1,e=.returned (.slice A1 M c1)∧RU w' A1 c1 dm∧Ext X w'))
 have HCm:=zF (fun X (hX:Ext W0 X) (A1:Option Addr) (c1:Nat) (h:RU X A1 c1 dm)=>(hM▸hz9▸nK h (HN.out X hX).1 (by rw [←hdm];exact zc (by omega) _) (HN.out X hX).2.1:Calls Tryz.prog 114 #[.slice A1 M c1,.slice A0 l0.length c0] X fun e w'=>e=.returned (.int .i64 z9)∧Ext X w'))
 have lp:kp≤1280000:=by rw [←hkp];have:=HPp.out W0 (zy _);rw [←this.2.1];exact zQ (bB this.1) (by have:=this.2.2;omega)
 have lq:kq≤1280000:=by rw [←hkq];have:=HQ.out W0 (zy _);rw [←this.2.1];exact zQ (bB this.1) (by have:=this.2.2;omega)
 have ln:nb≤4096:=by have:=Hb2.out;simpa using this
 have ln0:256≤nb:=by have:=Hb1.out;simpa using this
 have hv8:b8=true→V=false:=fun h=>by
  rw [h] at hb8;have h8:nb+1<kp+kq:=of_decide_eq_true hb8;rw [Hv.out];have hne:¬ p*q=n:=fun e=>by
   have hn0:0<n:=Nat.pos_of_ne_zero fun e=>by have:=Hnb.out;rw [e,ka] at this;omega
   have:=yP e hn0;rw [hkp,hkq,Hnb.out] at this;omega
  simp [hne]
 have hv9:b9=true→V=false:=fun h=>by
  rw [h] at e9;rw [Hv.out];have:=of_decide_eq_true e9.symm;simp [this]
 have g8:decide ((nb:Int)+1<(kp:Int)+(kq:Int))=b8:=by rw [←hb8];simp;omega
 have HE:=zF hE
 have Hlp:=zF lp
 have Hlq:=zF lq
 have Hln:=zF ln
 have Hv8:=zF hv8
 have Hv9:=zF hv9
 have He9:=zF e9
 have Hkp:=zF hkp
 have Hkq:=zF hkq
 have Hz9:=zF hb9
 have Hg8:=zF g8
 clear hE hkp hkq hdm hM hz9 hb9 hb8 e9 lp lq ln ln0 hv8 hv9 g8 g1 g2 g7 HC1 HC2 HC3 HB0 HB1 HT0 hb1 hb2 hb3 hb4 hb5 hb6 hb7
 cases b8
 rotate_left
 · have hV:=Hv8.out rfl;subst hV
   refine z8 (by kernel_rfl) 21 [0,1,3,0,8,31,63,0,128,511,1023,2047,4095,2047,10239,32767,2047,67583,262143,524287,1048575] [] (fun j f X=>match j with
    | 0=>f 0=.pointer (some ⟨s,3,none⟩)
    | 1=>f 1=.slice A3 l3.length c3
    | 2=>f 2=.int .i64 (kp:Int)
    | 3=>f 3=.pointer (some ⟨s,4,none⟩)
    | 4=>f 4=.slice A4 l4.length c4
    | 5=>f 5=.int .i64 (kq:Int)
    | 6=>f 6=.int .i64 ((kp:Int)+(kq:Int))
    | 7=>f 7=.int .i64 (nb:Int)
    | 8=>f 8=.int .i64 ((nb:Int)+1)
    | 9=>f 9=.bool true
    | 10=>f 10=.bool true
    | 11=>f 11=undef
    | 12=>f 12=undef
    | 13=>f 13=undef
    | 14=>f 14=undef
    | 15=>f 15=undef
    | 16=>f 16=undef
    | 17=>f 17=undef
    | 18=>f 18=undef
    | 19=>f 19=undef
    | 20=>f 20=.bool true
    | _=>True) (by kernel_rfl) [(50,0),(51,1),(52,2),(53,3),(54,4),(55,5),(56,6),(57,7),(58,8),(59,9),(60,10),(61,11),(62,12),(63,13),(64,14),(65,15),(66,16),(67,17),(68,18),(69,19),(70,20)] (by kernel_rfl) ?_
   refine zf 1 20 ?_;refine q9 2 19 0 y3 ?_;refine qJ 3 18 (fun f=>#[f 1]) (F':=84) (fun f X hX hR=>?_) ?_
   · have e1:f 1=_:=hR.out 1 rfl;simp only [e1];refine (HBp.out X (zI HE.out hX)).mono ?_;rintro e w' ⟨rfl,hB⟩;exact ⟨(.int .i64 (kp:Int)),rfl,hB,fun _ _=>rfl⟩
   refine zf 4 17 ?_;refine q9 5 16 3 y4 ?_;refine qJ 6 15 (fun f=>#[f 4]) (F':=84) (fun f X hX hR=>?_) ?_
   · have e4:f 4=_:=hR.out 4 rfl;simp only [e4];refine (HBq.out X (zI HE.out hX)).mono ?_;rintro e w' ⟨rfl,hB⟩;exact ⟨(.int .i64 (kq:Int)),rfl,hB,fun _ _=>rfl⟩
   refine qH 7 14 [(50,0),(51,1),(52,2),(53,3),(54,4),(55,5),(57,7),(58,8)] (fun f X hX hR K hK=>?_) ?_
   · have e2:f 2=_:=hR.out 2 rfl;have e5:f 5=_:=hR.out 5 rfl;have hw:IntKind.i64.wrap ((kp:Int)+(kq:Int))=(kp:Int)+(kq:Int):=wq _ (by have:=Hlp.out;have:=Hlq.out;omega);simp only [yZ,e2,e5];refine ⟨?_⟩;go_simp;exact jA hK (s:=by simp only [yZ,e2,e5])
   refine zf 8 13 ?_;refine qH 9 12 [(50,0),(51,1),(52,2),(53,3),(54,4),(55,5),(56,6),(57,7)] (fun f X hX hR K hK=>?_) ?_
   · have e7:f 7=_:=hR.out 7 rfl;have hw:IntKind.i64.wrap ((nb:Int)+1)=(nb:Int)+1:=wq _ (by have:=Hln.out;omega);simp only [yZ,e7];refine ⟨?_⟩;go_simp;exact jA hK (s:=by simp only [yZ,e7])
   refine qH 10 11 [(50,0),(51,1),(52,2),(53,3),(54,4),(55,5),(56,6),(57,7),(58,8)] (fun f X hX hR K hK=>?_) ?_
   · have e6:f 6=_:=hR.out 6 rfl;have e8:f 8=_:=hR.out 8 rfl;have g8:=Hg8.out;simp only [yZ,e6,e8];refine ⟨?_⟩;go_simp;exact jA hK (s:=by simp only [yZ,e6,e8])
   refine qM 11 10 9 ?_;refine qT 12 9 10 ?_;refine qT 13 8 10 ?_;refine qT 14 7 10 ?_;refine qT 15 6 10 ?_;refine qT 16 5 10 ?_;refine qT 17 4 10 ?_;refine qT 18 3 10 ?_;refine qT 19 2 10 ?_;refine qT 20 1 10 ?_;refine jj 21 0 10 19 ?_;refine yF ⟨fun f X hX hR hal hap=>?_⟩;have e20:f 20=_:=hR 20 (by decide);simp only [yZ,e20];clear hR hal hap e20;refine zU ?_;go_wp2;go_ret;exact ⟨rfl,zI HE0.out (zI HE.out hX)⟩
 refine z8 (by kernel_rfl) 21 [0,1,3,0,8,31,63,0,128,511,1023,2047,4095,2047,10239,32767,2047,67583,262143,524287,1048575] [] (fun j f X=>match j with
  | 0=>f 0=.pointer (some ⟨s,3,none⟩)
  | 1=>f 1=.slice A3 l3.length c3
  | 2=>f 2=.int .i64 (kp:Int)
  | 3=>f 3=.pointer (some ⟨s,4,none⟩)
  | 4=>f 4=.slice A4 l4.length c4
  | 5=>f 5=.int .i64 (kq:Int)
  | 6=>f 6=.int .i64 ((kp:Int)+(kq:Int))
  | 7=>f 7=.int .i64 (nb:Int)
  | 8=>f 8=.int .i64 ((nb:Int)+1)
  | 9=>f 9=.bool false
  | 10=>f 10=.bool false
  | 11=>f 11=.pointer (some ⟨s,3,none⟩)
  | 12=>f 12=.slice A3 l3.length c3
  | 13=>f 13=.pointer (some ⟨s,4,none⟩)
  | 14=>f 14=.slice A4 l4.length c4
  | 15=>∃ A c,f 15=.slice A M c∧RU X A c dm
  | 16=>f 16=.pointer (some ⟨s,0,none⟩)
  | 17=>f 17=.slice A0 l0.length c0
  | 18=>f 18=.int .i64 z9
  | 19=>f 19=.bool b9
  | 20=>f 20=.bool b9
  | _=>True) (by kernel_rfl) [(50,0),(51,1),(52,2),(53,3),(54,4),(55,5),(56,6),(57,7),(58,8),(59,9),(60,10),(61,11),(62,12),(63,13),(64,14),(65,15),(66,16),(67,17),(68,18),(69,19),(70,20)] (by kernel_rfl) ?_
 refine zf 1 20 ?_
 refine q9 2 19 0 y3 ?_
 refine qJ 3 18 (fun f=>#[f 1]) (F':=84) (fun f X hX hR=>?_) ?_
 · have e1:f 1=_:=hR.out 1 rfl;simp only [e1];refine (HBp.out X (zI HE.out hX)).mono ?_;rintro e w' ⟨rfl,hB⟩;exact ⟨(.int .i64 (kp:Int)),rfl,hB,fun _ _=>rfl⟩
 refine zf 4 17 ?_
 refine q9 5 16 3 y4 ?_
 refine qJ 6 15 (fun f=>#[f 4]) (F':=84) (fun f X hX hR=>?_) ?_
 · have e4:f 4=_:=hR.out 4 rfl;simp only [e4];refine (HBq.out X (zI HE.out hX)).mono ?_;rintro e w' ⟨rfl,hB⟩;exact ⟨(.int .i64 (kq:Int)),rfl,hB,fun _ _=>rfl⟩
 refine qH 7 14 [(50,0),(51,1),(52,2),(53,3),(54,4),(55,5),(57,7),(58,8)] (fun f X hX hR K hK=>?_) ?_
 · have e2:f 2=_:=hR.out 2 rfl;have e5:f 5=_:=hR.out 5 rfl;have hw:IntKind.i64.wrap ((kp:Int)+(kq:Int))=(kp:Int)+(kq:Int):=wq _ (by have:=Hlp.out;have:=Hlq.out;omega);simp only [yZ,e2,e5];refine ⟨?_⟩;go_simp;exact jA hK (s:=by simp only [yZ,e2,e5])
 refine zf 8 13 ?_
 refine qH 9 12 [(50,0),(51,1),(52,2),(53,3),(54,4),(55,5),(56,6),(57,7)] (fun f X hX hR K hK=>?_) ?_
 · have e7:f 7=_:=hR.out 7 rfl;have hw:IntKind.i64.wrap ((nb:Int)+1)=(nb:Int)+1:=wq _ (by have:=Hln.out;omega);simp only [yZ,e7];refine ⟨?_⟩;go_simp;exact jA hK (s:=by simp only [yZ,e7])
 refine qH 10 11 [(50,0),(51,1),(52,2),(53,3),(54,4),(55,5),(56,6),(57,7),(58,8)] (fun f X hX hR K hK=>?_) ?_
 · have e6:f 6=_:=hR.out 6 rfl;have e8:f 8=_:=hR.out 8 rfl;have g8:=Hg8.out;simp only [yZ,e6,e8];refine ⟨?_⟩;go_simp;exact jA hK (s:=by simp only [yZ,e6,e8])
 refine qM 11 10 9 ?_
 refine qM 12 9 10 ?_
 refine qH 13 8 [(50,0),(51,1),(52,2),(53,3),(54,4),(55,5),(56,6),(57,7),(58,8),(59,9),(60,10),(61,11),(63,13),(64,14),(66,16),(67,17)] (fun f X hX hR K hK=>?_) ?_
 · have e10:f 10=_:=hR.out 10 rfl;have e11:f 11=_:=hR.out 11 rfl;have x0:=hX.cell y3;simp only [yZ,e10,e11];refine ⟨zZ (by kernel_rfl) ?_⟩;go_simp;exact jA hK (s:=by simp only [yZ,e10,e11])
 refine qM 14 7 10 ?_
 refine qH 15 6 [(50,0),(51,1),(52,2),(53,3),(54,4),(55,5),(56,6),(57,7),(58,8),(59,9),(60,10),(61,11),(62,12),(63,13),(66,16),(67,17)] (fun f X hX hR K hK=>?_) ?_
 · have e10:f 10=_:=hR.out 10 rfl;have e13:f 13=_:=hR.out 13 rfl;have x0:=hX.cell y4;simp only [yZ,e10,e13];refine ⟨zZ (by kernel_rfl) ?_⟩;go_simp;exact jA hK (s:=by simp only [yZ,e10,e13])
 refine wj 16 5 10 (fun f=>#[f 12,f 14]) (F':=116) (fun f X hX hR=>?_) ?_
 · have e12:f 12=_:=hR.out 12 rfl;have e14:f 14=_:=hR.out 14 rfl;simp only [e12,e14];refine (HMu.out X (zI HE.out hX)).mono ?_;rintro e w' ⟨Ax,cx,rfl,hr,hB⟩;exact ⟨(.slice Ax M cx),rfl,hB,fun Y hY=>⟨Ax,cx,rfl,qm hr hY⟩⟩
 refine qM 17 4 10 ?_
 refine qH 18 3 [(50,0),(51,1),(52,2),(53,3),(54,4),(55,5),(56,6),(57,7),(58,8),(59,9),(60,10),(61,11),(62,12),(63,13),(64,14),(65,15),(66,16)] (fun f X hX hR K hK=>?_) ?_
 · have e10:f 10=_:=hR.out 10 rfl;have e16:f 16=_:=hR.out 16 rfl;have x0:=hX.cell y0;simp only [yZ,e10,e16];refine ⟨zZ (by kernel_rfl) ?_⟩;go_simp;exact jA hK (s:=by simp only [yZ,e10,e16])
 refine wj 19 2 10 (fun f=>#[f 15,f 17]) (F':=114) (fun f X hX hR=>?_) ?_
 · obtain ⟨A15,c15,(e15:f 15=_),r15⟩:=hR.out 15 rfl;have e17:f 17=_:=hR.out 17 rfl;simp only [e15,e17];refine (HCm.out X (zI HE.out hX) _ _ r15).mono ?_;rintro e w' ⟨rfl,hB⟩;exact ⟨(.int .i64 z9),rfl,hB,fun _ _=>rfl⟩
 refine qH 20 1 [(50,0),(51,1),(52,2),(53,3),(54,4),(55,5),(56,6),(57,7),(58,8),(59,9),(60,10),(61,11),(62,12),(63,13),(64,14),(65,15),(66,16),(67,17),(68,18)] (fun f X hX hR K hK=>?_) ?_
 · have e10:f 10=_:=hR.out 10 rfl;have e18:f 18=_:=hR.out 18 rfl;have hz9:=Hz9.out;simp only [yZ,e10,e18];refine ⟨zZ (by kernel_rfl) ?_⟩;go_simp;exact jA hK (s:=by simp only [yZ,e10,e18])
 refine jj 21 0 10 19 ?_
 refine yF ⟨fun f X hX hR hal hap=>?_⟩
 obtain ⟨A15,c15,(e15:f 15=_),r15⟩:=hR 15 (by decide)
 have e20:f 20=_:=hR 20 (by decide)
 simp only [yZ,e15,e20]
 clear hR hal hap e15 e20
 refine zU ?_
 replace HE:=zF (zI HE.out hX)
 clear hX r15 y0 y1 y2 y3 y4
 rename World=>V5
 obtain ⟨y0,y1,y2,y3,y4⟩:=jO (jQ HE.out Hq0.out)
 cases b9
 rotate_left
 · have hV:=Hv9.out rfl;subst hV;go_wp2;go_ret;exact ⟨rfl,zI HE0.out HE.out⟩
 have hpq:p*q=n:=by have:=He9.out;simpa using this.symm
 have hn0:0<n:=Nat.pos_of_ne_zero fun e=>by have h1:=Hnb.out;have h2:=Hb1.out;rw [e,ka] at h1;rw [←h1] at h2;simp at h2
 have hbn:=yP hpq hn0
 rw [Hnb.out] at hbn
 have hb4:nb≤4096:=Hln.out
 obtain ⟨pp,hpp⟩:=eV (yI p)
 obtain ⟨pq,hpq'⟩:=eV (yI q)
 have HPp5:=zF (fun X (hX:Ext W0 X)=>(hpp▸fg (HPp.out X hX) (by omega):Calls Tryz.prog 117 #[.slice A3 l3.length c3,.func (.func 158) #[] #[]] X fun e w'=>e=.returned (.bool pp)∧Ext X w'))
 have HQ5:=zF (fun X (hX:Ext W0 X)=>(hpq'▸fg (HQ.out X hX) (by omega):Calls Tryz.prog 117 #[.slice A4 l4.length c4,.func (.func 158) #[] #[]] X fun e w'=>e=.returned (.bool pq)∧Ext X w'))
 have hv2:=Hv.out
 rw [hpp,hpq',qX hpq] at hv2
 have h2p:pp=true→2≤p:=fun h=>by rw [h] at hpp;exact uU hpp
 have h2q:pq=true→2≤q:=fun h=>by rw [h] at hpq';exact uU hpq'
 have Hv2:=zF hv2
 have H2p:=zF h2p
 have H2q:=zF h2q
 clear hpq hn0 hbn hb4 hpp hpq' hv2 h2p h2q Hv
 go_upto_region 6 with fail
 cases pp
 · have hV:false=V:=by rw [Hv2.out];simp
   subst hV
   refine z8 (by kernel_rfl) 12 [0,1,0,7,15,31,63,127,63,511,1023,2047] [] (fun j f X=>match j with
    | 0=>f 0=.pointer (some ⟨s,3,none⟩)
    | 1=>f 1=.slice A3 l3.length c3
    | 2=>f 2=.func (.func 158) #[] #[]
    | 3=>f 3=.bool false
    | 4=>f 4=.bool true
    | 5=>f 5=.bool true
    | 6=>f 6=undef
    | 7=>f 7=undef
    | 8=>f 8=undef
    | 9=>f 9=undef
    | 10=>f 10=undef
    | 11=>f 11=.bool true
    | _=>True) (by kernel_rfl) [(71,0),(72,1),(73,2),(74,3),(75,4),(76,5),(77,6),(78,7),(79,8),(80,9),(81,10),(82,11)] (by kernel_rfl) ?_
   refine zf 1 11 ?_;refine q9 2 10 0 y3 ?_;refine qJ 3 9 (fun _=>#[]) (F':=118) (fun f X hX hR=>?_) ?_
   · refine (bQ X).mono ?_;rintro e w' ⟨rfl,hB⟩;exact ⟨(.func (.func 158) #[] #[]),rfl,hB,fun _ _=>rfl⟩
   refine qJ 4 8 (fun f=>#[f 1,f 2]) (F':=117) (fun f X hX hR=>?_) ?_
   · have e1:f 1=_:=hR.out 1 rfl;have e2:f 2=_:=hR.out 2 rfl;simp only [e1,e2];refine (HPp5.out X (zI HE.out hX)).mono ?_;rintro e w' ⟨rfl,hB⟩;exact ⟨_,rfl,hB,fun _ _=>rfl⟩
   refine qM 5 7 3 ?_;refine qM 6 6 4 ?_;refine qT 7 5 5 ?_;refine qT 8 4 5 ?_;refine qT 9 3 5 ?_;refine qT 10 2 5 ?_;refine qT 11 1 5 ?_;refine jj 12 0 5 10 ?_;refine yF ⟨fun f X hX hR hal hap=>?_⟩;have e11:f 11=_:=hR 11 (by decide);simp only [yZ,e11];clear hR hal hap e11;refine zU ?_;go_wp2;go_ret;exact ⟨rfl,zI HE0.out (zI HE.out hX)⟩
 refine z8 (by kernel_rfl) 12 [0,1,0,7,15,31,63,127,63,511,1023,2047] [] (fun j f X=>match j with
  | 0=>f 0=.pointer (some ⟨s,3,none⟩)
  | 1=>f 1=.slice A3 l3.length c3
  | 2=>f 2=.func (.func 158) #[] #[]
  | 3=>f 3=.bool true
  | 4=>f 4=.bool false
  | 5=>f 5=.bool false
  | 6=>f 6=.pointer (some ⟨s,4,none⟩)
  | 7=>f 7=.slice A4 l4.length c4
  | 8=>f 8=.func (.func 158) #[] #[]
  | 9=>f 9=.bool pq
  | 10=>f 10=.bool (!pq)
  | 11=>f 11=.bool (!pq)
  | _=>True) (by kernel_rfl) [(71,0),(72,1),(73,2),(74,3),(75,4),(76,5),(77,6),(78,7),(79,8),(80,9),(81,10),(82,11)] (by kernel_rfl) ?_
 refine zf 1 11 ?_
 refine q9 2 10 0 y3 ?_
 refine qJ 3 9 (fun _=>#[]) (F':=118) (fun f X hX hR=>?_) ?_
 · refine (bQ X).mono ?_;rintro e w' ⟨rfl,hB⟩;exact ⟨(.func (.func 158) #[] #[]),rfl,hB,fun _ _=>rfl⟩
 refine qJ 4 8 (fun f=>#[f 1,f 2]) (F':=117) (fun f X hX hR=>?_) ?_
 · have e1:f 1=_:=hR.out 1 rfl;have e2:f 2=_:=hR.out 2 rfl;simp only [e1,e2];refine (HPp5.out X (zI HE.out hX)).mono ?_;rintro e w' ⟨rfl,hB⟩;exact ⟨_,rfl,hB,fun _ _=>rfl⟩
 refine qM 5 7 3 ?_
 refine qM 6 6 4 ?_
 refine qM 7 5 5 ?_
 refine qH 8 4 [(71,0),(72,1),(73,2),(74,3),(75,4),(76,5),(77,6),(79,8)] (fun f X hX hR K hK=>?_) ?_
 · have e5:f 5=_:=hR.out 5 rfl;have e6:f 6=_:=hR.out 6 rfl;have x0:=hX.cell y4;simp only [yZ,e5,e6];refine ⟨zZ (by kernel_rfl) ?_⟩;go_simp;exact jA hK (s:=by simp only [yZ,e5,e6])
 refine wj 9 3 5 (fun _=>#[]) (F':=118) (fun f X hX hR=>?_) ?_
 · refine (bQ X).mono ?_;rintro e w' ⟨rfl,hB⟩;exact ⟨(.func (.func 158) #[] #[]),rfl,hB,fun _ _=>rfl⟩
 refine wj 10 2 5 (fun f=>#[f 7,f 8]) (F':=117) (fun f X hX hR=>?_) ?_
 · have e7:f 7=_:=hR.out 7 rfl;have e8:f 8=_:=hR.out 8 rfl;simp only [e7,e8];refine (HQ5.out X (zI HE.out hX)).mono ?_;rintro e w' ⟨rfl,hB⟩;exact ⟨(.bool pq),rfl,hB,fun _ _=>rfl⟩
 refine jj 11 1 5 9 ?_
 refine jj 12 0 5 10 ?_
 refine yF ⟨fun f X hX hR hal hap=>?_⟩
 have e11:f 11=_:=hR 11 (by decide)
 simp only [yZ,e11]
 clear hR hal hap e11
 refine zU ?_
 replace HE:=zF (zI HE.out hX)
 clear hX y0 y1 y2 y3 y4
 rename World=>V6
 obtain ⟨y0,y1,y2,y3,y4⟩:=jO (jQ HE.out Hq0.out)
 cases pq
 · have hV:false=V:=by rw [Hv2.out];simp
   subst hV;go_wp2;go_ret;exact ⟨rfl,zI HE0.out HE.out⟩
 have p1:=H2p.out rfl
 have q1:=H2q.out rfl
 have hEd:=HEe.out V6 HE.out
 have hDd:=HD.out V6 HE.out
 have lE:(digs 18446744073709551616 e).length≤20000:=by rw [←hEd.2.1];exact zQ (ql (by omega) hEd.1.2.1) hEd.2.2
 have lD:(digs 18446744073709551616 d).length≤20000:=by rw [←hDd.2.1];exact zQ (ql (by omega) hDd.1.2.1) hDd.2.2
 have lx:=mn lE lD
 have HM8:=zF (zCD hEd.1 hDd.1 hEd.2.1 hDd.2.1 (by have:=hEd.2.2;omega) (by have:=hDd.2.2;omega))
 have Hlx:=zF lx
 have lP:(digs 18446744073709551616 (p - 1)).length≤20000:=by
  have h:=HPp.out V6 HE.out;refine zQ (qg (by omega) (xF p 1)) ?_;rw [←h.2.1];exact zQ (ql (by omega) h.1.2.1) h.2.2
 have lQ:(digs 18446744073709551616 (q - 1)).length≤20000:=by
  have h:=HQ.out V6 HE.out;refine zQ (qg (by omega) (xF q 1)) ?_;rw [←h.2.1];exact zQ (ql (by omega) h.1.2.1) h.2.2
 have HlP:=zF lP
 have HlQ:=zF lQ
 have Hp1:=zF p1
 have Hq1:=zF q1
 clear hEd hDd lE lD lx lP lQ p1 q1
 obtain ⟨zp,hzp⟩:∃ b,decide (e*d % (p - 1)=1)=b:=⟨_,rfl⟩
 obtain ⟨zq,hzq⟩:∃ b,decide (e*d % (q - 1)=1)=b:=⟨_,rfl⟩
 have hV:V=(zp && zq):=by rw [Hv2.out,hzp,hzq];simp
 have HVz:=zF hV
 have Hzp:=zF hzp
 have Hzq:=zF hzq
 clear hV hzp hzq Hv2
 go_upto_region 8 with fail
 go_wp2_with fail
 refine HM8.out.mono ?_
 rintro e9 w8 ⟨Ax,cx,rfl,hrx,hB8⟩
 replace HE:=zF (zI HE.out hB8)
 have Hrx:=zF hrx
 clear hrx hB8 y0 y1 y2 y3 y4 HM8
 obtain ⟨y0,y1,y2,y3,y4⟩:=jO (jQ HE.out Hq0.out)
 go_upto_region 9 with fail
 go_wp2_with fail
 refine (aN (HPp.out _ HE.out).1 (HPp.out _ HE.out).2.1 (by have:=(HPp.out _ HE.out).2.2;omega) (by have:=Hp1.out;omega)).mono ?_
 rintro e9 w9 ⟨A9,c9,rfl,hr9,hB9⟩
 replace HE:=zF (zI HE.out hB9)
 replace Hrx:=zF (qm Hrx.out hB9)
 have Hr9:=zF hr9
 clear hr9 hB9 y0 y1 y2 y3 y4
 obtain ⟨y0,y1,y2,y3,y4⟩:=jO (jQ HE.out Hq0.out)
 have hone:=nY Hrx.out Hr9.out (zc (by omega) _) (zc (by omega) _) (by have:=Hlx.out;omega) (by have:=HlP.out;omega) (by have:=Hp1.out;omega)
 rw [Hzp.out] at hone
 have Hone:=zF hone
 clear hone Hr9
 go_wp2_with fail
 refine Hone.out.mono ?_
 rintro e9 w9 ⟨rfl,hB9⟩
 replace HE:=zF (zI HE.out hB9)
 replace Hrx:=zF (qm Hrx.out hB9)
 clear hB9 y0 y1 y2 y3 y4 Hone
 obtain ⟨y0,y1,y2,y3,y4⟩:=jO (jQ HE.out Hq0.out)
 cases zp
 · have hV:V=false:=by rw [HVz.out];rfl
   subst hV;go_wp2;go_ret;exact ⟨rfl,zI HE0.out HE.out⟩
 go_wp2_with fail
 refine (aN (HQ.out _ HE.out).1 (HQ.out _ HE.out).2.1 (by have:=(HQ.out _ HE.out).2.2;omega) (by have:=Hq1.out;omega)).mono ?_
 rintro e9 w9 ⟨A9,c9,rfl,hr9,hB9⟩
 replace HE:=zF (zI HE.out hB9)
 replace Hrx:=zF (qm Hrx.out hB9)
 have Hr9:=zF hr9
 clear hr9 hB9 y0 y1 y2 y3 y4
 obtain ⟨y0,y1,y2,y3,y4⟩:=jO (jQ HE.out Hq0.out)
 have hone:=nY Hrx.out Hr9.out (zc (by omega) _) (zc (by omega) _) (by have:=Hlx.out;omega) (by have:=HlQ.out;omega) (by have:=Hq1.out;omega)
 rw [Hzq.out] at hone
 have Hone:=zF hone
 clear hone Hr9
 go_wp2_with fail
 refine Hone.out.mono ?_
 rintro e9 w9 ⟨rfl,hB9⟩
 replace HE:=zF (zI HE.out hB9)
 replace Hrx:=zF (qm Hrx.out hB9)
 clear hB9 y0 y1 y2 y3 y4 Hone
 obtain ⟨y0,y1,y2,y3,y4⟩:=jO (jQ HE.out Hq0.out)
 have hV:V=zq:=by rw [HVz.out];simp
 subst hV
 go_wp2
 go_ret
 exact ⟨rfl,zI HE0.out HE.out⟩
end Go.Proofs.YtmlbicgpehchhaaGreat
namespace Go.Proofs.YtmlbicgpehchhaaGreat
open Go.RowKit
theorem bw (A A':Option Addr) (c c' N W:Nat) (w:World) (h:RU w A c (digs 4294967296 N)) (h':RU w A' c' (digs 4294967296 W)) (hl:(digs 4294967296 N).length<20000) (hlW:(digs 4294967296 W).length<40000) (hmay:zo N≤4096) :
 Calls Tryz.prog 169 #[.slice A (digs 4294967296 N).length c,.slice A' (digs 4294967296 W).length c'] w fun e w'=>e=.returned (.bool (kP N W))∧Below w.heap.size w w':=by
 by_cases hno:N % 2=0∨N<2
 · exact mS A A' c c' N W w h hno
 · exact bu A A' c c' N W w h h' hl hlW (by omega) (by omega) hmay
end Go.Proofs.YtmlbicgpehchhaaGreat
namespace Go.Proofs.YtmlbicgpehchhaaGreat
open Go.RowKit
attribute [local go_sem] Oper.semAt_some
theorem us {B x:Nat}(hB:2≤B):(((digs B x).length:Nat):Int)=0↔x=0:=by
 rw [←oo hB,←List.length_eq_zero_iff];omega
theorem dP {A:Option Addr}{c N:Nat}(w:World) (h:RU w A c (digs 4294967296 N)) (hl:(digs 4294967296 N).length<20000) (hb:zo N≤4096) :
 Calls Tryz.prog 128 #[.slice A (digs 4294967296 N).length c] w fun e w'=>e=.returned (.bool (xe N))∧Ext w w':=by
 obtain ⟨dn,hdn⟩:=eV ((digs 4294967296 N).length)
 have HU:=zF (fun X (hX:Ext w X)=>h.up hX)
 have hMod:∀ X (hX:Ext w X) (A':Option Addr) (c' p:Nat),RU X A' c' (digs 4294967296 p)→0<p→Calls Tryz.prog 79 #[.slice A dn c,.slice A' (digs 4294967296 p).length c'] X fun e w'=>∃ A1 c1,e=.returned (.slice A1 (digs 4294967296 (N % p)).length c1)∧RU w' A1 c1 (digs 4294967296 (N % p))∧Below X.heap.size X w':=fun X hX A' c' p h' h0=>by
  have:=kZ A A' c c' N p X (HU.out X hX) h' (by omega) h0;rwa [hdn] at this
 have hCmp:∀ X (hX:Ext w X) (A':Option Addr) (c' p:Nat),RU X A' c' (digs 4294967296 p)→Calls Tryz.prog 104 #[.slice A dn c,.slice A' (digs 4294967296 p).length c'] X fun e w'=>e=.returned (.int .i64 (jo N p))∧Ext X w':=fun X hX A' c' p h'=>by
  have:=vW _ _ A A' c c' N p X (HU.out X hX) h';rw [hdn] at this;refine this.mono ?_;rintro e w' ⟨rfl,n,rfl⟩;exact ⟨rfl,qR (zO _ X) n⟩
 have hStr:∀ X (hX:Ext w X) (A':Option Addr) (c' p:Nat),RU X A' c' (digs 4294967296 p)→(digs 4294967296 p).length<40000→Calls Tryz.prog 169 #[.slice A dn c,.slice A' (digs 4294967296 p).length c'] X fun e w'=>e=.returned (.bool (kP N p))∧Below X.heap.size X w':=fun X hX A' c' p h' hl'=>by
  have:=bw A A' c c' N p X (HU.out X hX) h' hl hl' hb;rwa [hdn] at this
 have hOdd:∀ X (hX:Ext w X),Calls Tryz.prog 168 #[.slice A dn c] X fun e w'=>e=.returned (.bool (decide (N % 2=1)))∧X=w':=fun X hX=>by
  have:=uh A c N X (HU.out X hX);rwa [hdn] at this
 have hBits:∀ X (hX:Ext w X),Calls Tryz.prog 92 #[.slice A dn c] X fun e w'=>e=.returned (.int .i64 (zo N:Int))∧X=w':=fun X hX=>by
  have:=we _ A c N X (HU.out X hX);rwa [hdn] at this
 rw [hdn]
 have HMod:=zF hMod
 have HCmp:=zF hCmp
 have HStr:=zF hStr
 have HOdd:=zF hOdd
 have HBits:=zF hBits
 have Hb:=zF hb
 obtain ⟨V,hV⟩:=eV (xe N)
 rw [hV]
 have HV:=zF hV
 have hA0:=zb w (.cells #[.int .u64 2,.int .u64 3,.int .u64 5,.int .u64 7,.int .u64 11,.int .u64 13,.int .u64 17,.int .u64 19,.int .u64 23,.int .u64 29,.int .u64 31,.int .u64 37] 69)
 have hf:=(jM (w:=w) (P:=fun b=>b=w.heap.size) #[.int .u64 2,.int .u64 3,.int .u64 5,.int .u64 7,.int .u64 11,.int .u64 13,.int .u64 17,.int .u64 19,.int .u64 23,.int .u64 29,.int .u64 31,.int .u64 37] 69 1 12 rfl (by unfold maxLen;omega) rfl)
 have hfew:RN (w.alloc (.cells #[.int .u64 2,.int .u64 3,.int .u64 5,.int .u64 7,.int .u64 11,.int .u64 13,.int .u64 17,.int .u64 19,.int .u64 23,.int .u64 29,.int .u64 31,.int .u64 37] 69)) (fun b=>b=w.heap.size) (some ⟨w.heap.size,0,none⟩) 12 xn:=⟨hf,fun x hx=>by simp [xn] at hx;omega,by decide⟩
 have HFew:Hid (∀ X,Ext (w.alloc (.cells #[.int .u64 2,.int .u64 3,.int .u64 5,.int .u64 7,.int .u64 11,.int .u64 13,.int .u64 17,.int .u64 19,.int .u64 23,.int .u64 29,.int .u64 31,.int .u64 37] 69)) X→∀ k,k<12→X.cell? ⟨w.heap.size,k,none⟩=some (.int .u64 (xn.getD k 0:Int))):=zF fun X hX k hk=>by
  have h1:=hfew.cells (ad:=⟨w.heap.size,0,none⟩) k hk;have h2:=hX.cell h1;have e:(⟨w.heap.size,0,none⟩:Addr).add k=⟨w.heap.size,k,none⟩:=by rw [xZ]
  rw [e] at h2;simpa [dg] using h2
 have HA0:=zF hA0
 obtain ⟨s,hs⟩:=eV w.heap.size
 rw [hs] at HFew
 have Hs:=zF hs
 clear h hl hb hdn HU hMod hCmp hStr hOdd hBits hV hA0 hf hfew hs
 go_enter Tryz.func128,Tryz.ntmps128
 go_wp2_with fail
 refine Calls.mono (R:=fun e w'=>e=.returned (.slice (some ⟨s,0,none⟩) 12 12)∧w'=w.alloc (.cells #[.int .u64 2,.int .u64 3,.int .u64 5,.int .u64 7,.int .u64 11,.int .u64 13,.int .u64 17,.int .u64 19,.int .u64 23,.int .u64 29,.int .u64 31,.int .u64 37] 69)) ?_ ?_
 · rw [←Hs.out];go_enter Tryz.func167,Tryz.ntmps167;go_wp2;go_ret;exact ⟨rfl,rfl⟩
 rintro e w1 ⟨rfl,hw1⟩
 rw [←hw1] at HFew HA0
 clear hw1 Hs
 go_upto_region 3 with fail
 go_loopw [4] (fun i wr=>∃ k:Nat,k≤12∧i=.int .i64 (k:Int)∧Ext w1 wr∧Hid (uK N k=false)) (fun i _=>12 - (intOf i).toNat)
 case atStart=>exact ⟨0,by omega,rfl,zy _,zF rfl⟩
 case round =>
  obtain ⟨k,hk,rfl,hE,hp⟩:=hrel;by_cases hk2:k<12;rotate_left
  · obtain rfl:k=12:=by omega
    have Hp:=zF hp;have HE:=zF hE;have HEw:=zF (zI HA0.out hE);clear hp hE hk hk2;have ht:V=(if N=2 then true else if N % 2=1∧2<N then wz N 12 else false):=by
     rw [←HV.out];unfold xe;rw [qA (by rw [Hp.out];decide)]
    have HT:=zF ht;obtain ⟨z,hz⟩:=eV (jo N 2);obtain ⟨o,ho⟩:∃ b,decide (N % 2=1)=b:=⟨_,rfl⟩
    have Hz:=zF hz;have Ho:=zF ho;clear ht hz ho Hp HV;go_upto_region 9 with fail;go_wp2_with fail;refine (kW 2 wr (by omega)).mono ?_;rintro e w2 ⟨A2,c2,rfl,hO2,hB2⟩;have HE2:=zF (zI HE.out hB2);have HEw2:=zF (zI HEw.out hB2);have hc:=HCmp.out w2 HEw2.out A2 c2 2 hO2.ru;rw [Hz.out] at hc;have HC:=zF hc;clear hO2 hB2 hc HE HEw;go_wp2_with fail;refine HC.out.mono ?_;rintro e w3 ⟨rfl,hB3⟩;have HE3:=zF (zI HE2.out hB3);have HEw3:=zF (zI HEw2.out hB3);clear hB3 HC HE2 HEw2;rcases jb N 2 with h | h | h
    · have hz:z=-1:=by rw [←Hz.out];exact h.2
      have hV:V=false:=by rw [HT.out,qA (by omega),qA (by omega)]
      subst hz hV;clear h;go_upto_region 11 with fail;have ho:=HOdd.out w3 HEw3.out;rw [Ho.out] at ho;have HO1:=zF ho;clear ho;go_wp2_with fail;refine HO1.out.mono ?_;rintro e w4 ⟨rfl,rfl⟩;cases o
      · go_wp2;go_ret;exact ⟨rfl,HEw3.out⟩
      · go_wp2_with fail;refine (kW 2 w3 (by omega)).mono ?_;rintro e w5 ⟨A5,c5,rfl,hO5,hB5⟩;have hc:=HCmp.out w5 (zI HEw3.out hB5) A5 c5 2 hO5.ru;rw [Hz.out] at hc;have HC:=zF hc;have HEw5:=zF (zI HEw3.out hB5);clear hO5 hB5 hc;go_wp2_with fail;refine HC.out.mono ?_;rintro e w6 ⟨rfl,hB6⟩;have HEw6:=zF (zI HEw5.out hB6);clear hB6;go_wp2;go_ret;exact ⟨rfl,HEw6.out⟩
    · have hz:z=0:=by rw [←Hz.out];exact h.2
      have hV:V=true:=by rw [HT.out,qK h.1]
      subst hz hV;clear h;go_wp2;go_ret;exact ⟨rfl,HEw3.out⟩
    · have hz:z=1:=by rw [←Hz.out];exact h.2
      have hV:V=(o && wz N 12):=by
       rw [HT.out,qA (by omega)];have h2:=h.1;rw [←Ho.out];by_cases ho:N % 2=1
       · rw [qK ⟨ho,h2⟩,qX ho];rfl
       · rw [qA (fun h=>ho h.1),qb ho];rfl
      have Hn2:=zF h.1;have HV2:=zF hV;subst hz;clear h hV HT;go_upto_region 11 with fail;have ho:=HOdd.out w3 HEw3.out;rw [Ho.out] at ho;have HO1:=zF ho;clear ho;go_wp2_with fail;refine HO1.out.mono ?_;rintro e w4 ⟨rfl,rfl⟩;cases o
      · have hV:V=false:=by rw [HV2.out];rfl
        subst hV;go_wp2;go_ret;exact ⟨rfl,HEw3.out⟩
      go_wp2_with fail;refine (kW 2 w3 (by omega)).mono ?_;rintro e w5 ⟨A5,c5,rfl,hO5,hB5⟩;have hc:=HCmp.out w5 (zI HEw3.out hB5) A5 c5 2 hO5.ru;rw [Hz.out] at hc;have HC:=zF hc;have HE5:=zF (zI HE3.out hB5);have HEw5:=zF (zI HEw3.out hB5);clear hO5 hB5 hc HE3 HEw3;go_wp2_with fail;refine HC.out.mono ?_;rintro e w6 ⟨rfl,hB6⟩;have HE6:=zF (zI HE5.out hB6);have HEw6:=zF (zI HEw5.out hB6);have HBi:=zF (HBits.out w6 HEw6.out);have hnb:¬ (4096:Int)<(zo N:Int):=by have:=Hb.out;omega
      have hnb2:decide ((4096:Int)<(zo N:Int))=false:=qb hnb;obtain ⟨nb,hn⟩:=eV (zo N);rw [hn] at HBi hnb hnb2;clear hB6 HE5 HEw5 HC hn;go_wp2_with fail;refine HBi.out.mono ?_;rintro e w7 ⟨rfl,rfl⟩;have hV:V=wz N 12:=by rw [HV2.out];rfl
      have HV3:=zF hV;clear hV HV2 HBi;go_upto_region 13 with fail;clear hnb hnb2;go_upto_region 14 with fail;go_loopw [7] (fun i wr=>∃ k:Nat,k≤12∧i=.int .i64 (k:Int)∧Ext w6 wr∧Hid (wz N k=true)) (fun i _=>12 - (intOf i).toNat);case atStart=>exact ⟨0,by omega,rfl,zy _,zF rfl⟩
      case round =>
       obtain ⟨k,hk,rfl,hE,hp⟩:=hrel;by_cases hk2:k<12;rotate_left
       · obtain rfl:k=12:=by omega
         have hV:V=true:=by rw [HV3.out];exact hp.out
         have HEx:=zF (zI HEw6.out hE);subst hV;clear hp hE hk hk2;go_wp2;go_ret;exact ⟨rfl,HEx.out⟩
       · obtain ⟨pk,hpk⟩:=eV (xn.getD k 0);have hcell:=HFew.out wr (zI HE6.out hE) k hk2;rw [hpk] at hcell;have hfl:=mi hk2;rw [hpk] at hfl;have hsucc:=fM N k;rw [hp.out,hpk,Bool.true_and] at hsucc;have kk:(k:Int)<12:=by omega
         have k0:(0:Int)≤(k:Int):=by omega
         have HO:=zF (kW pk wr hfl.2.1);have hl2:(digs 4294967296 pk).length<40000:=jB (qp (n:=2) (by omega) (by have:=hfl.2.1;omega)) (by omega);have Hl2:=zF hl2;have HE:=zF (zI HEw6.out hE);have HE6r:=zF hE;have Hk:=zF hk2;obtain ⟨sb,hsb⟩:=eV (kP N pk);rw [hsb] at hsucc;have HSu:=zF hsucc;have Hsb:=zF hsb;clear hpk hfl hsucc hp hE hk2 hk hl2 hsb;go_upto_region 16 with fail;go_wp2_with fail;refine HO.out.mono ?_;rintro e v2 ⟨A2,c2,rfl,hO2,hB2⟩;have hs:=HStr.out v2 (zI HE.out hB2) A2 c2 pk hO2.ru Hl2.out;rw [Hsb.out] at hs;have HS:=zF hs;have HE2:=zF (zI HE.out hB2);have HE62:=zF (zI HE6r.out hB2);clear hO2 hB2 HO hcell hs;go_wp2_with fail;refine HS.out.mono ?_;rintro e v3 ⟨rfl,hB3⟩;have HE3:=zF (zI HE2.out hB3);have HE63:=zF (zI HE62.out hB3);clear hB3 HS;cases sb
         · have hV:V=false:=by rw [HV3.out];exact gU (k:=k+1) HSu.out (by have:=Hk.out;omega)
           subst hV;go_wp2;go_ret;exact ⟨rfl,HE3.out⟩
         · go_wp2;go_roundw;case rel=>exact ⟨k+1,by have:=Hk.out;omega,by go_num,HE63.out,zF HSu.out⟩
           case measure=>simp [intOf];have:=Hk.out;omega
  · obtain ⟨pk,hpk⟩:=eV (xn.getD k 0);have hcell:=HFew.out wr hE k hk2;rw [hpk] at hcell;have hfl:=mi hk2;rw [hpk] at hfl;have hsucc:=dS N k;rw [hp.out,hpk,Bool.false_or] at hsucc;have HSu:=zF hsucc;have kk:(k:Int)<12:=by omega
    have k0:(0:Int)≤(k:Int):=by omega
    have hO:=kW pk wr hfl.2.1;have HO:=zF hO;have Hp0:=zF hfl.1;have HE:=zF hE;have Hk:=zF hk2;have hmod0:((((digs 4294967296 (N % pk)).length:Nat):Int)==0)=decide (N % pk=0):=by
     rw [wh];simp only [wT,vg];exact us (by omega)
    obtain ⟨b1,hb1⟩:∃ b,decide (N % pk=0)=b:=⟨_,rfl⟩
    obtain ⟨b2,hb2⟩:=eV (decide (N≠pk));rw [hb1,hb2] at HSu;rw [hb1] at hmod0;obtain ⟨z,hz⟩:=eV (jo N pk);have hz2:(z != 0)=b2:=by rw [←hz,←hb2];rcases jb N pk with h | h | h <;> rw [h.2] <;> simp <;> omega
    have Hz:=zF hz;obtain ⟨L,hL⟩:=eV ((digs 4294967296 (N % pk)).length);rw [hL] at hmod0;have HL:=zF hL;clear hpk hfl hsucc hp hE hO hk2 hk hb1 hb2 hz hL;go_upto_region 5 with fail;go_wp2_with fail;refine HO.out.mono ?_;rintro e w2 ⟨A2,c2,rfl,hO2,hB2⟩;have HM:=HMod.out w2 (zI HA0.out (zI HE.out hB2)) A2 c2 pk hO2.ru Hp0.out;rw [HL.out] at HM;have HM:=zF HM;have HO2:=zF (show RU w2 A2 c2 (digs 4294967296 pk) from hO2.ru);have HE2:=zF (zI HE.out hB2);clear hO2 hB2 HO hcell;go_upto_region 6 with fail;go_wp2_with fail;refine HM.out.mono ?_;rintro e w3 ⟨A3,c3,rfl,hr3,hB3⟩;have hc:=HCmp.out w3 (zI HA0.out (zI HE2.out hB3)) A2 c2 pk (qm HO2.out hB3);rw [Hz.out] at hc;have HC:=zF hc;have HE3:=zF (zI HE2.out hB3);clear hr3 hB3 HM hc HO2;go_upto_region 7 with fail;cases b1
    · go_wp2;go_roundw;case rel=>exact ⟨k+1,by have:=Hk.out;omega,by go_num,HE3.out,zF (by rw [HSu.out];rfl)⟩
      case measure=>simp [intOf];have:=Hk.out;omega
    · go_wp2_with fail;refine HC.out.mono ?_;rintro e w4 ⟨rfl,hB4⟩;have HE4:=zF (zI HE3.out hB4);clear hB4;cases b2
      · go_wp2;go_roundw;case rel=>exact ⟨k+1,by have:=Hk.out;omega,by go_num,HE4.out,zF (by rw [HSu.out];rfl)⟩
        case measure=>simp [intOf];have:=Hk.out;omega
      · have hV:V=false:=by
         rw [←HV.out];unfold xe;rw [qK (dR (by rw [HSu.out];rfl) (by have:=Hk.out;omega))]
        subst hV;go_wp2;go_ret;exact ⟨rfl,zI HA0.out HE4.out⟩
end Go.Proofs.YtmlbicgpehchhaaGreat
